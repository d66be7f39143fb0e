/- Part of a proof about the functions of this seat. -/
import Derived.Test.YtebejiilpedlmaaGreatDoorNvAB
import Derived.LaidEql
/- The operations of the abstract layer that read: soundness. -/


set_option linter.unusedVariables false
set_option linter.unusedSimpArgs false
namespace Nv
open Go

section
variable {P : Program} {ρ : RHO} {σ : ST} {I : Nat → Prop} {w : World}

theorem bAgg_sound (op : BinOp) (t : TypeId) (x y : List AV) (xs ys : Array Value) (ox oy : Operand) (hx : V ρ σ I w (.agg x) (.agg xs)) (hy : V ρ σ I w (.agg y) (.agg ys)) :
    Pev P ρ σ I w (do eqGuard op t ox oy (.agg xs) (.agg ys); binOp op t (.agg xs) (.agg ys)) (bAgg op (structKinds P t) x y σ) := by
  have key : ∀ r, ((structKinds P t).bind fun ks => scalarEq ks x y) = some r → (Op.equalIn 10000 t (.agg xs) (.agg ys)).run P w = .ok r w ∧ P.eqGuardType P.depth t = false := by
    intro r h
    simp only [Option.bind_eq_some_iff] at h
    obtain ⟨ks, hk, he⟩ := h
    unfold structKinds at hk
    split at hk <;> try (cases hk; done)
    rename_i fs hu
    split at hk <;> try (cases hk; done)
    rename_i hc
    simp only [Bool.and_eq_true, Bool.not_eq_true'] at hc
    simp only [Option.some.injEq] at hk
    cases hx with | agg hxl hx =>
    cases hy with | agg hyl hy =>
    refine ⟨?_, hc.2⟩
    have hf : P.fieldsOf t = fs := by unfold Program.fieldsOf; rw [hu]
    rw [run_equalIn_struct w 9999 t xs ys (by rw [hf]; exact hu) hc.1.2, hf]
    exact eqFields_sound 9998 xs ys fs.toList ks x y 0 r hc.1.1 hk.symm he (fun j c hj => by simpa using hx j c hj) (fun j c hj => by simpa using hy j c hj) (by omega) (by omega)
  unfold bAgg
  split
  · rename_i r h
    obtain ⟨h1, h2⟩ := key r h
    exact .ok (v := .bool r) (by simp only [Sem.run_bind, run_eqGuard_agg w _ t ox oy xs ys h2, Result.andThen_ok, run_eql_struct, h1]) (.d (.bool _))
  · rename_i r h
    obtain ⟨h1, h2⟩ := key r h
    exact .ok (v := .bool (!r)) (by simp only [Sem.run_bind, run_eqGuard_agg w _ t ox oy xs ys h2, Result.andThen_ok, run_neq_struct, h1]) (.d (.bool _))
  · exact .bad

theorem V.agg_inv {x : List AV} {v : Value} (h : V ρ σ I w (.agg x) v) : ∃ vs, v = .agg vs := by cases h; exact ⟨_, rfl⟩

theorem run_sizeOf_pos {t : TypeId} (h : 0 < P.cellsOf t) : (Go.sizeOf t).run P w = .ok (P.cellsOf t) w := by
  unfold Program.cellsOf at *
  cases hi : P.info? t with
  | none => simp [hi] at h
  | some i => simp [Go.sizeOf, typeInfo, hi]

theorem equal_run {t : TypeId} {x y : Value} {b : Bool} (h : ∀ d : Nat, (Op.equalIn (d + 1) t x y).run P w = .ok b w) : (Op.equal t x y).run P w = .ok b w := by
  simp [Op.equal, Op.maxDepth, h 9999]

theorem bR_sound {op : BinOp} {t : TypeId} {vx vy : Value} {ox oy : Operand} {b : Bool} (hg : ∀ op, (eqGuard op t ox oy vx vy).run P w = .ok () w)
    (h1 : binOp .eql t vx vy = do pure (.bool (← Op.equal t vx vy))) (h2 : binOp .neq t vx vy = do pure (.bool (!(← Op.equal t vx vy))))
    (he : ∀ d : Nat, (Op.equalIn (d + 1) t vx vy).run P w = .ok b w) : Pev P ρ σ I w (do eqGuard op t ox oy vx vy; binOp op t vx vy) (bR op b σ) := by
  have heq := equal_run he
  cases op <;> simp only [bR] <;> try exact .bad
  · exact .ok (v := .bool b) (by simp [hg, h1, heq]) (.d (.bool _))
  · exact .ok (v := .bool (!b)) (by simp [hg, h2, heq]) (.d (.bool _))

theorem bEq_sound (op : BinOp) (t : TypeId) (c : Bool) (x y : AV) (vx vy : Value) (ox oy : Operand) (hc : c = true → isC ox = true ∨ isC oy = true) (hx : V ρ σ I w x vx) (hy : V ρ σ I w y vy) :
    Pev P ρ σ I w (do eqGuard op t ox oy vx vy; binOp op t vx vy) (bEq P op (P.underlying t) c x y σ) := by
  have gd : ∀ {p q : Option Addr} {m k n l : Nat} (op : BinOp), (eqGuard op t ox oy (.slice p m k) (.slice q n l)).run P w = .ok () w := fun op => by cases op <;> rfl
  have gp : ∀ {p q : Option Addr} (op : BinOp), (eqGuard op t ox oy (.pointer p) (.pointer q)).run P w = .ok () w := fun op => by cases op <;> rfl
  have gm : ∀ {p q : Option Nat} (op : BinOp), (eqGuard op t ox oy (.map p) (.map q)).run P w = .ok () w := fun op => by cases op <;> rfl
  unfold bEq
  split
  · rename_i e ht
    cases hx.d_inv; cases hy.d_inv
    exact bR_sound gd rfl rfl fun d => by simp [Op.equalIn, run_underlying ht]
  · rename_i e e' ht
    cases hy.d_inv
    cases hx.d_inv with
    | listNil _ p =>
     cases p with
     | some a =>
      have h := bR_sound (P := P) (ρ := ρ) (σ := σ) (I := I) (w := w) (op := op) (t := t) (ox := ox) (oy := oy) (vx := .slice (some a) 0 0) (vy := .slice none 0 0) (b := false) gd rfl rfl fun d => by simp [Op.equalIn, run_underlying ht]
      cases op <;> simp only [cond_true, cond_false] <;> try exact .bad
      · exact .right h
      · exact .left h
     | none =>
      have h := bR_sound (P := P) (ρ := ρ) (σ := σ) (I := I) (w := w) (op := op) (t := t) (ox := ox) (oy := oy) (vx := .slice none 0 0) (vy := .slice none 0 0) (b := true) gd rfl rfl fun d => by simp [Op.equalIn, run_underlying ht]
      cases op <;> simp only [cond_true, cond_false] <;> try exact .bad
      · exact .left h
      · exact .right h
    | list us q1 q2 q0 q3 q4 =>
      rename_i b off n cap
      have h := bR_sound (P := P) (ρ := ρ) (σ := σ) (I := I) (w := w) (op := op) (t := t) (ox := ox) (oy := oy) (vx := .slice (some ⟨b, off, none⟩) n cap) (vy := .slice none 0 0) (b := false) gd rfl rfl fun d => by simp [Op.equalIn, run_underlying ht]
      cases op <;> simp only [cond_true, cond_false] <;> try exact .bad
      · exact .right h
      · exact .left h
  · rename_i e e' x xs ht
    cases hy.d_inv
    cases hx.d_inv with
    | list us q1 q2 q0 q3 q4 => exact bR_sound gd rfl rfl fun d => by simp [Op.equalIn, run_underlying ht]
  · rename_i el b g off n ht
    split
    · rename_i g' e' xs' hst
      have hs := stGet_some hst (by simp)
      refine .need fun ⟨hg, hn⟩ => ?_
      subst hg
      cases hy.d_inv
      cases hx with
      | ownOld k1 k2 => rw [hs] at k1; cases k1; exact absurd (k2 _ _ _ rfl) (by omega)
      | ownNil k1 k2 => exact absurd hn (by omega)
      | own k1 k2 k3 => exact bR_sound gd rfl rfl fun d => by simp [Op.equalIn, run_underlying ht]
    · exact .bad
  · rename_i e ht
    cases hx.d_inv; cases hy.d_inv
    exact bR_sound gp rfl rfl fun d => by simp [Op.equalIn, run_underlying ht]
  · rename_i e b o ht
    cases hy.d_inv
    cases hx
    exact bR_sound gp rfl rfl fun d => by simp [Op.equalIn, run_underlying ht]
  · rename_i el b o b' o' ht
    refine .need fun ⟨h1, h2, h3⟩ => ?_
    subst h1 h2
    cases hx with | ptr k1 k2 =>
    cases hy with | ptr k3 k4 =>
    rw [k2] at k4; cases k4
    exact bR_sound gp rfl rfl fun d => by simp [Op.equalIn, run_underlying ht, run_sizeOf_pos h3, Nat.ne_of_gt h3, run_sameAddr_same]
  · rename_i ms ht
    refine .need fun h => ?_
    cases hx.d_inv; cases hy.d_inv
    have hcc := hc h
    have gi : ∀ (op : BinOp), (eqGuard op t ox oy .nilIface .nilIface).run P w = .ok () w := fun op => by
      cases ox <;> cases oy <;> first | (exfalso; simp [isC] at hcc; done) | (cases op <;> rfl)
    exact bR_sound gi rfl rfl fun d => by simp [Op.equalIn, run_underlying ht]
  · rename_i ms u z ht
    cases hy.d_inv
    cases hx.d_inv
    exact bR_sound (fun op => by cases op <;> rfl) rfl rfl fun d => by simp [Op.equalIn, run_underlying ht]
  · rename_i ms u z ht
    cases hy.d_inv
    cases hx
    exact bR_sound (fun op => by cases op <;> rfl) rfl rfl fun d => by simp [Op.equalIn, run_underlying ht]
  · rename_i p r v ht
    cases hx.d_inv; cases hy.d_inv
    exact bR_sound (fun op => by cases op <;> rfl) rfl rfl fun d => by simp [Op.equalIn, run_underlying ht]
  · rename_i p r v f ht
    cases hx.d_inv; cases hy.d_inv
    exact bR_sound (fun op => by cases op <;> rfl) rfl rfl fun d => by simp [Op.equalIn, run_underlying ht]
  · rename_i p r v f a b ht
    cases hy.d_inv
    cases hx
    exact bR_sound (fun op => by cases op <;> rfl) rfl rfl fun d => by simp [Op.equalIn, run_underlying ht]
  · rename_i k v ht
    cases hx.d_inv; cases hy.d_inv
    exact bR_sound gm rfl rfl fun d => by simp [Op.equalIn, run_underlying ht]
  · rename_i k v b ht
    cases hy.d_inv
    cases hx
    exact bR_sound gm rfl rfl fun d => by simp [Op.equalIn, run_underlying ht]
  · exact .bad

theorem rBin_sound (op : BinOp) (t : TypeId) (c : Bool) (x y : AV) (vx vy : Value) (ox oy : Operand) (hc : c = true → isC ox = true ∨ isC oy = true) (hx : V ρ σ I w x vx) (hy : V ρ σ I w y vy) :
    Pev P ρ σ I w (do eqGuard op t ox oy vx vy; binOp op t vx vy) (rBin P op t c x y σ) := by
  unfold rBin
  split
  · rw [hx.d_inv.int_inv, hy.d_inv.int_inv]
    exact bIntS_sound _ _ _ _ _ _ _ _
  · rw [hx.d_inv.str_inv, hy.d_inv.str_inv]; exact bStr_sound _ _ _ _ _ _
  · rw [hx.d_inv.bool_inv, hy.d_inv.bool_inv]
    exact .need fun h => bBool_sound _ _ _ _ _ _ h
  · obtain ⟨xs, rfl⟩ := hx.agg_inv
    obtain ⟨ys, rfl⟩ := hy.agg_inv
    exact bAgg_sound op t _ _ xs ys ox oy hx hy
  · exact bEq_sound op t c _ _ vx vy ox oy hc hx hy

/- unary -/
def rUn (op : UnOp) (x : AV) (σ : ST) : Res :=
  match op, x with
  | .not, .d (.bool b) => .ok (.d (.bool (!b))) σ
  | .neg, .d (.int k n) => .ok (.d (.int k (k.wrap (0 - n)))) σ
  | _, _ => .bad
@[go_sem] theorem rUn_not (b : Bool) (σ : ST) : rUn .not (.d (.bool b)) σ = .ok (.d (.bool (!b))) σ := nrfl rfl
@[go_sem] theorem rUn_neg (k : IntKind) (n : Int) (σ : ST) : rUn .neg (.d (.int k n)) σ = .ok (.d (.int k (k.wrap (0 - n)))) σ := nrfl rfl
theorem rUn_sound (op : UnOp) (x : AV) (v : Value) (h : V ρ σ I w x v) : Pev P ρ σ I w (Op.unary op v) (rUn op x σ) := by
  unfold rUn
  split
  · rw [h.d_inv.bool_inv]; exact .ok (v := .bool _) rfl (.d (.bool _))
  · rw [h.d_inv.int_inv]; exact .ok (v := .int _ _) rfl (.d (.int _ _))
  · exact .bad

/- conversions that make no memory -/
def rConv (P : Program) (src dst : TypeId) (x : AV) (σ : ST) : Res :=
  match P.underlying src, P.underlying dst, x with
  | some _, some (.int k), .d (.int _ n) => .ok (.d (.int k (k.wrap n))) σ
  | some (.int _), some .string, .d (.int _ n) => .ok (.d (.str (Utf8.encode n).data.toList)) σ
  | some .string, some .string, .d (.str s) => .ok (.d (.str s)) σ
  | _, _, _ => .bad
theorem rConv_eq (src dst : TypeId) (x : AV) (σ : ST) : rConv P src dst x σ = match P.underlying src, P.underlying dst, x with
  | some _, some (.int k), .d (.int _ n) => .ok (.d (.int k (k.wrap n))) σ
  | some (.int _), some .string, .d (.int _ n) => .ok (.d (.str (Utf8.encode n).data.toList)) σ
  | some .string, some .string, .d (.str s) => .ok (.d (.str s)) σ
  | _, _, _ => .bad := nrfl rfl
theorem rConv_sound (src dst : TypeId) (x : AV) (v : Value) (h : V ρ σ I w x v) : Pev P ρ σ I w (convert src dst v) (rConv P src dst x σ) := by
  unfold rConv
  split
  · rename_i h1 h2
    rw [h.d_inv.int_inv]
    exact .ok (v := .int _ _) (by simp only [convert, Sem.run_bind, run_underlying h1, run_underlying h2, Result.andThen_ok]; rfl) (.d (.int _ _))
  · rename_i h1 h2
    rw [h.d_inv.int_inv]
    exact .ok (v := .string ⟨⟨(Utf8.encode _).data.toList⟩⟩) (by simp only [convert, Sem.run_bind, run_underlying h1, run_underlying h2, Result.andThen_ok]; rfl) (.d (.str _))
  · rename_i h1 h2
    rw [h.d_inv.str_inv]
    exact .ok (v := .string _) (by simp only [convert, Sem.run_bind, run_underlying h1, run_underlying h2, Result.andThen_ok]; rfl) (.d (.str _))
  · exact .bad

/- interfaces, functions -/
def rIface (P : Program) (t : TypeId) (x : AV) (σ : ST) : Res :=
  match P.underlying t with
  | none | some (.interface _) => .bad
  | _ => match x with
    | .d x => .ok (.d (.iface t x)) σ
    | x => .ok (.iface t x) σ
theorem rIface_sound (t : TypeId) (x : AV) (v : Value) (h : V ρ σ I w x v) : Pev P ρ σ I w (Instr.makeInterface t v) (rIface P t x σ) := by
  unfold rIface
  split
  · exact .bad
  · exact .bad
  · rename_i hn hi
    have hrun : (Instr.makeInterface t v).run P w = .ok (.iface t v) w := by
      cases hu : P.underlying t with
      | none => exact absurd hu hn
      | some dd =>
        simp only [Instr.makeInterface, Sem.run_bind, run_underlying hu, Result.andThen_ok]
        cases dd <;> first | rfl | exact absurd hu (hi _)
    split
    · exact .ok hrun (.d (.iface _ h.d_inv))
    · exact .ok hrun (.iface _ h)

def rFunc (f : Fn) (first cap : List AV) (σ : ST) : Res :=
  match first, cap with
  | [], [] => .ok (.d (.func f)) σ
  | first, cap => .ok (.func f first cap) σ
@[go_sem] theorem rFunc_none (f : Fn) (σ : ST) : rFunc f [] [] σ = .ok (.d (.func f)) σ := nrfl rfl
@[go_sem] theorem rFunc_cap (f : Fn) (a : AV) (l : List AV) (σ : ST) : rFunc f [] (a :: l) σ = .ok (.func f [] (a :: l)) σ := nrfl rfl
@[go_sem] theorem rFunc_first (f : Fn) (a : AV) (l : List AV) (c : List AV) (σ : ST) : rFunc f (a :: l) c σ = .ok (.func f (a :: l) c) σ := nrfl rfl
theorem rFunc_sound (f : Fn) (first cap : List AV) (vf vc : Array Value) (hf : VL ρ σ I w first vf) (hc : VL ρ σ I w cap vc) :
    Pev P ρ σ I w (Instr.makeFunc f vf vc) (rFunc f first cap σ) := by
  unfold rFunc
  split
  · have e1 : vf = #[] := by have := hf.1; simp at this; exact Array.eq_empty_of_size_eq_zero this.symm
    have e2 : vc = #[] := by have := hc.1; simp at this; exact Array.eq_empty_of_size_eq_zero this.symm
    subst e1 e2
    exact .ok (v := .func f #[] #[]) rfl (.d (.func f))
  · exact .ok (v := .func f vf vc) rfl (.func hf.1 hf.2 hc.1 hc.2)

/- len -/
def rLen (P : Program) (t : TypeId) (x : AV) (σ : ST) : Res :=
  match P.underlying t, x with
  | some (.slice _), .d (.list _ xs) => .ok (.d (.int .i64 (xs.length : Nat))) σ
  | some (.slice _), .d .nilslice => .ok (.d (.int .i64 0)) σ
  | some (.slice _), .own b g off n =>
    match stGet σ b with
    | .arr g' _ _ => .need (g = g') (.ok (.d (.int .i64 (n : Nat))) σ)
    | _ => .bad
  | some .string, .d (.str s) => .ok (.d (.int .i64 (s.length : Nat))) σ
  | some (.array n _), _ => .ok (.d (.int .i64 (n : Nat))) σ
  | _, _ => .bad
theorem rLen_list {t e : TypeId} (h : P.underlying t = some (.slice e)) (w : Nat) (xs : List DV) (σ : ST) : rLen P t (.d (.list w xs)) σ = .ok (.d (.int .i64 (xs.length : Nat))) σ := by simp only [rLen, h]
theorem rLen_nil {t e : TypeId} (h : P.underlying t = some (.slice e)) (σ : ST) : rLen P t (.d .nilslice) σ = .ok (.d (.int .i64 0)) σ := by simp only [rLen, h]
theorem rLen_own {t e : TypeId} (h : P.underlying t = some (.slice e)) (b g off n : Nat) (σ : ST) : rLen P t (.own b g off n) σ = match stGet σ b with
    | .arr g' _ _ => .need (g = g') (.ok (.d (.int .i64 (n : Nat))) σ)
    | _ => .bad := by simp only [rLen, h]
theorem rLen_str {t : TypeId} (h : P.underlying t = some .string) (s : List UInt8) (σ : ST) : rLen P t (.d (.str s)) σ = .ok (.d (.int .i64 (s.length : Nat))) σ := by simp only [rLen, h]

theorem rLen_sound (t ty : TypeId) (ts : Array TypeId) (x : AV) (v : Value) (ht : ts[0]? = some t) (h : V ρ σ I w x v) : Pev P ρ σ I w (Builtin.len_ ts ty #[v]) (rLen P t x σ) := by
  unfold rLen
  split
  · rename_i h1
    cases h.d_inv <;> exact .ok (v := .int _ _) (by simp [Builtin.len_, ht, run_underlying h1, goInt, *]) (.d (.int _ _))
  · rename_i h1
    cases h.d_inv; exact .ok (v := .int _ _) (by simp [Builtin.len_, ht, run_underlying h1, goInt]) (.d (.int _ _))
  · rename_i b g off n h1
    split
    · rename_i g' e' xs' hst
      have hs := stGet_some hst (by simp)
      refine .need fun hg => ?_
      subst hg
      cases h with
      | ownOld k1 k2 => rw [hs] at k1; cases k1; exact absurd (k2 _ _ _ rfl) (by omega)
      | ownNil k1 k2 => exact .ok (v := .int _ _) (by simp [Builtin.len_, ht, run_underlying h1, goInt]) (.d (.int _ _))
      | own k1 k2 k3 => exact .ok (v := .int _ _) (by simp [Builtin.len_, ht, run_underlying h1, goInt]) (.d (.int _ _))
    · exact .bad
  · rename_i h1
    rw [h.d_inv.str_inv]
    exact .ok (v := .int _ _) (by simp [Builtin.len_, ht, run_underlying h1, goInt]; rfl) (.d (.int _ _))
  · rename_i h1
    exact .ok (v := .int _ _) (by simp [Builtin.len_, ht, run_underlying h1, goInt]) (.d (.int _ _))
  · exact .bad

/- min, max -/
def rMin : List AV → ST → Res
  | [.d (.int k x)], σ => .ok (.d (.int k x)) σ
  | [.d (.int k x), .d (.int k' y)], σ => .ok (.d (.int k (if y < x then y else x))) σ
  | [.d (.int k x), .d (.int _ y), .d (.int _ z)], σ => .ok (.d (.int k (if z < (if y < x then y else x) then z else (if y < x then y else x)))) σ
  | _, _ => .bad
def rMax : List AV → ST → Res
  | [.d (.int k x)], σ => .ok (.d (.int k x)) σ
  | [.d (.int k x), .d (.int k' y)], σ => .ok (.d (.int k (if x < y then y else x))) σ
  | _, _ => .bad
attribute [go_sem] rMin rMax

/- extract -/
def rExtract (x : AV) (i : Nat) (σ : ST) : Res :=
  match x with
  | .tuple vs => .need (i < vs.length) (.ok (vs.getD i .any) σ)
  | _ => .bad
@[go_sem] theorem rExtract_tuple (vs : List AV) (i : Nat) (σ : ST) : rExtract (.tuple vs) i σ = .need (i < vs.length) (.ok (vs.getD i .any) σ) := nrfl rfl
theorem rExtract_sound (x : AV) (v : Value) (i : Nat) (h : V ρ σ I w x v) : Pev P ρ σ I w (Instr.extract v i) (rExtract x i σ) := by
  unfold rExtract
  split
  · rename_i vs
    refine .need fun hi => ?_
    cases h with | tuple hl h =>
    rename_i us
    refine .ok (v := us.getD i undef) ?_ (h i _ (by simp [List.getD_eq_getElem?_getD, hi]))
    have hi' : i < us.size := by omega
    simp [Instr.extract, hi', Array.getD_eq_getD_getElem?]
  · exact .bad

/- nilCheck -/
def rNil (x : AV) (σ : ST) : Res :=
  match x with
  | .ptr b o => .ok (.ptr b o) σ
  | .iptr cs => .ok (.iptr cs) σ
  | .d (.func (.func f)) => .ok (.d (.func (.func f))) σ
  | .func (.func f) a b => .ok (.func (.func f) a b) σ
  | .d (.iface t x) => .ok (.d (.iface t x)) σ
  | .iface t x => .ok (.iface t x) σ
  | _ => .bad
attribute [go_sem] rNil
end
end Nv
/- The operations of the abstract layer that reach into memory by an address or an index: soundness. -/

set_option linter.unusedVariables false
set_option linter.unusedSimpArgs false
namespace Nv
open Go

def aggD : TypeDesc → Bool
  | .struct _ | .array _ _ => true
  | _ => false
@[go_sem] theorem aggD_struct (f : Array Field) : aggD (.struct f) = true := nrfl rfl
@[go_sem] theorem aggD_array (n e : Nat) : aggD (.array n e) = true := nrfl rfl
@[go_sem] theorem aggD_int (k : IntKind) : aggD (.int k) = false := nrfl rfl
@[go_sem] theorem aggD_bool : aggD .bool = false := nrfl rfl
@[go_sem] theorem aggD_string : aggD .string = false := nrfl rfl
@[go_sem] theorem aggD_slice (e : Nat) : aggD (.slice e) = false := nrfl rfl
@[go_sem] theorem aggD_pointer (e : Nat) : aggD (.pointer e) = false := nrfl rfl
@[go_sem] theorem aggD_map (k e : Nat) : aggD (.map k e) = false := nrfl rfl
@[go_sem] theorem aggD_func (a b : Array TypeId) (v : Bool) : aggD (.func a b v) = false := nrfl rfl
@[go_sem] theorem aggD_interface (m : Array (String × TypeId)) : aggD (.interface m) = false := nrfl rfl

/-- How a field lies in its struct. -/
def fieldOff (P : Program) (s f : Nat) : Option (Nat × TypeId) :=
  match P.underlying s with
  | some (.struct fs) => match fs[f]? with
    | some fl => if 0 < P.cellsOf fl.type then some (fl.offset, fl.type) else none
    | none => none
  | _ => none

section
variable {P : Program} {ρ : RHO} {σ : ST} {I : Nat → Prop} {w : World}

theorem run_isAgg {t : TypeId} {d : TypeDesc} (h : P.underlying t = some d) : (isAgg t).run P w = .ok (aggD d) w := by
  simp only [isAgg, Sem.run_bind, run_underlying h, Result.andThen_ok]
  cases d <;> rfl

/-- Cells that lie in a row. -/
theorem run_loadCellsFrom (B off : Nat) : ∀ (n i : Nat) (acc : Array Value) (us : Nat → Value), (∀ j, j < n → w.cell? ⟨B, off + (i + j), none⟩ = some (us j)) →
    (loadCellsFrom ⟨B, off, none⟩ i n acc).run P w = .ok (acc ++ ((List.range n).map us).toArray) w := by
  intro n
  induction n with
  | zero => intro i acc us h; simp [loadCellsFrom]
  | succ n ih =>
    intro i acc us h
    have h0 := h 0 (by omega)
    simp only [Nat.add_zero] at h0
    have ha : (⟨B, off, none⟩ : Addr).add i = ⟨B, off + i, none⟩ := Addr.add_lit B off i
    simp only [loadCellsFrom, Sem.run_bind, ha, run_load, h0, Result.andThen_ok]
    rw [ih (i + 1) (acc.push (us 0)) (fun j => us (j + 1)) (fun j hj => by have := h (j + 1) (by omega); rwa [show i + (j + 1) = i + 1 + j by omega] at this)]
    congr 1
    rw [List.range_succ_eq_map]
    simp [Function.comp_def]

theorem run_loadVar {t : TypeId} {d : TypeDesc} (ht : P.underlying t = some d) (hz : 0 < P.cellsOf t) {B off : Nat} {us : Nat → Value}
    (h : ∀ j, j < (if aggD d then P.cellsOf t else 1) → w.cell? ⟨B, off + j, none⟩ = some (us j)) :
    (loadVar t ⟨B, off, none⟩).run P w = .ok (if aggD d then .agg ((List.range (P.cellsOf t)).map us).toArray else us 0) w := by
  simp only [loadVar, Sem.run_bind, run_isAgg ht, Result.andThen_ok, Sem.run_ite]
  cases hd : aggD d
  · have h0 := h 0 (by simp [hd])
    simp only [Nat.add_zero] at h0
    simp only [Bool.false_eq_true, if_false, run_load, h0]
  · simp only [hd, if_true] at h
    simp only [if_true, Sem.run_bind, run_sizeOf_pos hz, Result.andThen_ok, loadCells]
    rw [run_loadCellsFrom B off _ 0 #[] us (fun j hj => by simpa using h j hj)]
    simp

theorem RS.box (hr : RS P ρ I w σ) {b t : Nat} {cs : List AV} {B : Nat} (hs : σ[b]? = some (.box t cs)) (hB : (ρ b).blk = some B) :
    ∃ us, w.heap[B]? = some (.cells us t (0, 0)) ∧ cs.length = us.size ∧ ∀ j c, cs[j]? = some c → V ρ σ I w c (us.getD j undef) := by
  have h := hr.blk b _ hs
  cases h with
  | box h1 h2 h3 h4 => rw [hB] at h1; cases h1; exact ⟨_, h2, h3, h4⟩

theorem RS.arr (hr : RS P ρ I w σ) {b g : Nat} {e : ET} {xs : List DV} {B : Nat} (hs : σ[b]? = some (.arr g e xs)) (hB : (ρ b).blk = some B) :
    ∃ us, w.heap[B]? = some (.cells us e.t (0, 0)) ∧ (ρ b).base + (ρ b).cap * e ≤ us.size ∧ xs.length ≤ (ρ b).cap ∧ (∀ x, x ∈ xs → Uni e x) ∧
      ∀ j c, (flat xs)[j]? = some c → VD I w c (us.getD ((ρ b).base + j) undef) := by
  have h := hr.blk b _ hs
  cases h with
  | arrNil h1 => rw [hB] at h1; cases h1
  | arr h1 h2 h3 h4 h5 h6 => rw [hB] at h1; cases h1; exact ⟨_, h2, h3, h4, h5, h6⟩

theorem cell_of_heap {B : Nat} {us : Array Value} {el : TypeId} {fz : Nat × Nat} (h : w.heap[B]? = some (.cells us el fz)) {j : Nat} (hj : j < us.size) :
    w.cell? ⟨B, j, none⟩ = some (us.getD j undef) := by
  simp [World.cell?, h, Array.getD_eq_getD_getElem?, hj]

theorem flat_len {e : Nat} {xs : List DV} (h : ∀ x, x ∈ xs → Uni e x) : (flat xs).length = xs.length * e := by
  induction xs with
  | nil => simp [flat]
  | cons x xs ih =>
    have := ih (fun y hy => h y (by simp [hy]))
    have hx := (h x (by simp)).1
    simp only [flat, List.flatMap_cons, List.length_append, List.length_cons, Nat.add_mul, Nat.one_mul] at *
    omega

theorem flat_get {e : Nat} {xs : List DV} (h : ∀ x, x ∈ xs → Uni e x) {i o : Nat} (hi : i < xs.length) (ho : o < e) :
    (flat xs)[i * e + o]? = (xs.getD i default).cells[o]? := by
  induction xs generalizing i with
  | nil => simp at hi
  | cons x xs ih =>
    have hx := (h x (by simp)).1
    simp only [flat, List.flatMap_cons]
    cases i with
    | zero =>
      simp only [Nat.zero_mul, Nat.zero_add, List.getD_cons_zero]
      rw [List.getElem?_append_left (by omega)]
    | succ i =>
      have hge : x.cells.length ≤ (i + 1) * e + o := by rw [Nat.add_mul]; omega
      rw [List.getElem?_append_right hge]
      have := ih (fun y hy => h y (by simp [hy])) (i := i) (by simpa using hi)
      simp only [flat] at this
      rw [List.getD_cons_succ, ← this]
      congr 1
      rw [Nat.add_mul]; omega

theorem flat_drop {e : Nat} {xs : List DV} (h : ∀ x, x ∈ xs → Uni e x) (k : Nat) : flat (xs.drop k) = (flat xs).drop (k * e) := by
  induction xs generalizing k with
  | nil => simp [flat]
  | cons x xs ih =>
    cases k with
    | zero => simp
    | succ k =>
      have hx := (h x (by simp)).1
      have := ih (fun y hy => h y (by simp [hy])) k
      simp only [flat, List.drop_succ_cons, List.flatMap_cons] at *
      rw [this, List.drop_append]
      have e1 : (k + 1) * e - x.cells.length = k * e := by rw [Nat.add_mul]; omega
      have e2 : x.cells.drop ((k + 1) * e) = [] := List.drop_of_length_le (by rw [Nat.add_mul]; omega)
      rw [e1, e2, List.nil_append]

theorem flat_take {e : Nat} {xs : List DV} (h : ∀ x, x ∈ xs → Uni e x) (k : Nat) : flat (xs.take k) = (flat xs).take (k * e) := by
  induction xs generalizing k with
  | nil => simp [flat]
  | cons x xs ih =>
    cases k with
    | zero => simp [flat]
    | succ k =>
      have hx := (h x (by simp)).1
      have := ih (fun y hy => h y (by simp [hy])) k
      simp only [flat, List.take_succ_cons, List.flatMap_cons] at *
      rw [this, List.take_append]
      have e1 : (k + 1) * e - x.cells.length = k * e := by rw [Nat.add_mul]; omega
      have e2 : x.cells.take ((k + 1) * e) = x.cells := List.take_of_length_le (by rw [Nat.add_mul]; omega)
      rw [e1, e2]

theorem getD_map_drop (cs : List DV) (o : Nat) (h : o < cs.length) : ((cs.drop o).map AV.d).getD 0 .any = .d (cs.getD o default) := by
  simp [List.getD_eq_getElem?_getD, h]

/- load -/
def rLoad (P : Program) (t : TypeId) (a : AV) (σ : ST) : Res :=
  match P.underlying t with
  | none => .bad
  | some d =>
    .need (0 < P.cellsOf t) (match a with
    | .ptr b o => match stGet σ b with
      | .box _ cs => bif aggD d then .need (o + P.cellsOf t ≤ cs.length) (.ok (.agg ((cs.drop o).take (P.cellsOf t))) σ) else .need (o < cs.length) (.ok (cs.getD o .any) σ)
      | _ => .bad
    | .iptr cs => bif aggD d then .need (P.cellsOf t ≤ cs.length) (.ok (.agg ((cs.take (P.cellsOf t)).map .d)) σ) else .need (0 < cs.length) (.ok (.d (cs.getD 0 default)) σ)
    | .eptr b g i o => match stGet σ b with
      | .arr g' e xs => .need (g = g' ∧ i < xs.length) (bif aggD d then .need (o + P.cellsOf t ≤ (xs.getD i default).cells.length) (.ok (.agg ((((xs.getD i default).cells.drop o).take (P.cellsOf t)).map .d)) σ)
          else .need (o < (xs.getD i default).cells.length) (.ok (.d ((xs.getD i default).cells.getD o default)) σ))
      | _ => .bad
    | _ => .bad)

theorem rLoad_eq {t : TypeId} {d : TypeDesc} (h : P.underlying t = some d) (a : AV) (σ : ST) : rLoad P t a σ = .need (0 < P.cellsOf t) (match a with
    | .ptr b o => match stGet σ b with
      | .box _ cs => bif aggD d then .need (o + P.cellsOf t ≤ cs.length) (.ok (.agg ((cs.drop o).take (P.cellsOf t))) σ) else .need (o < cs.length) (.ok (cs.getD o .any) σ)
      | _ => .bad
    | .iptr cs => bif aggD d then .need (P.cellsOf t ≤ cs.length) (.ok (.agg ((cs.take (P.cellsOf t)).map .d)) σ) else .need (0 < cs.length) (.ok (.d (cs.getD 0 default)) σ)
    | .eptr b g i o => match stGet σ b with
      | .arr g' e xs => .need (g = g' ∧ i < xs.length) (bif aggD d then .need (o + P.cellsOf t ≤ (xs.getD i default).cells.length) (.ok (.agg ((((xs.getD i default).cells.drop o).take (P.cellsOf t)).map .d)) σ)
          else .need (o < (xs.getD i default).cells.length) (.ok (.d ((xs.getD i default).cells.getD o default)) σ))
      | _ => .bad
    | _ => .bad) := by unfold rLoad; rw [h]

theorem load_cells {t : TypeId} {d : TypeDesc} (ht : P.underlying t = some d) (hz : 0 < P.cellsOf t) {B off : Nat} {cs : List AV} {us : Nat → Value}
    (h : ∀ j c, cs[j]? = some c → w.cell? ⟨B, off + j, none⟩ = some (us j) ∧ V ρ σ I w c (us j)) :
    Pev P ρ σ I w (Instr.loadAt t (.pointer (some ⟨B, off, none⟩))) (bif aggD d then .need (P.cellsOf t ≤ cs.length) (.ok (.agg (cs.take (P.cellsOf t))) σ) else .need (0 < cs.length) (.ok (cs.getD 0 .any) σ)) := by
  have hrun : ∀ v, (loadVar t ⟨B, off, none⟩).run P w = .ok v w → (Instr.loadAt t (.pointer (some ⟨B, off, none⟩))).run P w = .ok v w := by
    intro v hv; simp [Instr.loadAt, Instr.sureAddr, hv]
  cases hd : aggD d
  · simp only [cond_false]
    refine .need fun hl => ?_
    obtain ⟨h1, h2⟩ := h 0 _ (List.getElem?_eq_getElem hl)
    refine .ok (v := us 0) (hrun _ ?_) ?_
    · rw [run_loadVar ht hz (us := us) (fun j hj => by have hj0 : j = 0 := by simp only [hd, Bool.false_eq_true, if_false] at hj; omega
                                                       rw [hj0]; exact h1)]
      simp [hd]
    · simpa [List.getD_eq_getElem?_getD, List.getElem?_eq_getElem hl] using h2
  · simp only [cond_true]
    refine .need fun hl => ?_
    refine .ok (v := .agg ((List.range (P.cellsOf t)).map us).toArray) (hrun _ ?_) ?_
    · rw [run_loadVar ht hz (us := us) (fun j hj => by have hj' : j < P.cellsOf t := by simpa only [hd, if_true] using hj
                                                       exact (h j _ (List.getElem?_eq_getElem (show j < cs.length by omega))).1)]
      simp [hd]
    · refine .agg (by simp [Nat.min_eq_left hl]) (fun j c hj => ?_)
      rw [List.getElem?_take] at hj
      split at hj
      · rename_i hlt; have := (h j c hj).2; simpa [Array.getD_eq_getD_getElem?, hlt] using this
      · cases hj

theorem rLoad_sound (hr : RS P ρ I w σ) (t : TypeId) (a : AV) (v : Value) (h : V ρ σ I w a v) : Pev P ρ σ I w (Instr.loadAt t v) (rLoad P t a σ) := by
  unfold rLoad
  split
  · exact .bad
  · rename_i d ht
    refine .need fun hz => ?_
    split
    · rename_i b o
      split
      · rename_i cs hst
        have hs := stGet_some hst (by simp)
        cases h with | ptr h1 h2 =>
        rename_i B tb cs'
        obtain ⟨us, k1, k2, k3⟩ := hr.box hs h2
        have := load_cells (P := P) (ρ := ρ) (σ := σ) (I := I) (w := w) ht hz (B := B) (off := o) (cs := cs.drop o) (us := fun j => us.getD (o + j) undef) (fun j c hj => by
          rw [List.getElem?_drop] at hj
          have hlt : o + j < cs.length := by rcases Nat.lt_or_ge (o + j) cs.length with h | h; exact h; simp [List.getElem?_eq_none h] at hj
          exact ⟨cell_of_heap k1 (by omega), k3 _ _ hj⟩)
        cases hd : aggD d
        · simp only [hd, cond_false] at this ⊢
          refine fun R hR => this R ⟨?_, ?_⟩
          · simp only [List.length_drop]; have := hR.1; omega
          · have := hR.2; simpa [Res.holds, List.getD_eq_getElem?_getD] using this
        · simp only [hd, cond_true] at this ⊢
          refine fun R hR => this R ⟨?_, hR.2⟩
          simp only [List.length_drop]; have := hR.1; omega
      · exact .bad
    · rename_i cs
      cases h with | iptr us h1 =>
      rename_i B off
      have := load_cells (P := P) (ρ := ρ) (σ := σ) (I := I) (w := w) ht hz (B := B) (off := off) (cs := cs.map .d) (us := us) (fun j c hj => by
        simp only [List.getElem?_map, Option.map_eq_some_iff] at hj
        obtain ⟨x, hx, rfl⟩ := hj
        obtain ⟨k1, k2, k3⟩ := h1 j x hx
        exact ⟨k2, .d k3⟩)
      cases hd : aggD d
      · simp only [hd, cond_false, List.length_map] at this ⊢
        refine fun R hR => this R ⟨hR.1, ?_⟩
        have h0 := hR.1
        have := hR.2
        simpa [Res.holds, List.getD_eq_getElem?_getD, List.getElem?_eq_getElem h0] using this
      · simp only [hd, cond_true, List.length_map, ← List.map_take] at this ⊢
        exact this
    · rename_i b g i o
      split
      · rename_i g' e xs hst
        have hs := stGet_some hst (by simp)
        refine .need fun ⟨hg, hi⟩ => ?_
        subst hg
        cases h with
        | eptrOld k1 k2 => rw [hs] at k1; cases k1; exact absurd (k2 _ _ _ rfl) (by omega)
        | eptr k1 k2 =>
          rw [hs] at k1; cases k1
          rename_i B
          obtain ⟨us, q1, q2, q3, q4, q5⟩ := hr.arr hs k2
          have hmem : xs.getD i default ∈ xs := by rw [List.getD_eq_getElem?_getD, List.getElem?_eq_getElem hi]; simp
          have hcl := (q4 _ hmem).1
          have := load_cells (P := P) (ρ := ρ) (σ := σ) (I := I) (w := w) ht hz (B := B) (off := (ρ b).base + i * e + o) (cs := ((xs.getD i default).cells.drop o).map .d)
            (us := fun j => us.getD ((ρ b).base + i * e + o + j) undef) (fun j c hj => by
              simp only [List.getElem?_map, Option.map_eq_some_iff, List.getElem?_drop] at hj
              obtain ⟨x, hx, rfl⟩ := hj
              have hlt : o + j < e := by
                rcases Nat.lt_or_ge (o + j) e with h | h
                · exact h
                · rw [List.getElem?_eq_none (by omega)] at hx; cases hx
              have hfl := q5 (i * e + (o + j)) x (by rw [flat_get q4 hi hlt]; exact hx)
              have hsz : (ρ b).base + i * e + o + j < us.size := by
                have : (i + 1) * e ≤ (ρ b).cap * e := Nat.mul_le_mul_right e (by omega)
                rw [Nat.add_mul] at this; omega
              refine ⟨cell_of_heap q1 hsz, .d ?_⟩
              rwa [show (ρ b).base + i * e + o + j = (ρ b).base + (i * e + (o + j)) by omega])
          cases hd : aggD d
          · simp only [hd, cond_false, List.length_map, List.length_drop] at this ⊢
            refine fun R hR => this R ⟨by have := hR.1; omega, ?_⟩
            have h0 := hR.1
            have h1 := hR.2
            have e1 : (((xs.getD i default).cells.drop o).map AV.d).getD 0 .any = .d ((xs.getD i default).cells.getD o default) := by
              exact getD_map_drop _ _ h0
            simp only [Res.holds] at h1 ⊢
            rw [e1]; exact h1
          · simp only [hd, cond_true, List.length_map, List.length_drop, ← List.map_take] at this ⊢
            refine fun R hR => this R ⟨by have := hR.1; omega, hR.2⟩
      · exact .bad
    · exact .bad

/- the address of a field -/
def rField (P : Program) (s f : Nat) (a : AV) (σ : ST) : Res :=
  match fieldOff P s f with
  | none => .bad
  | some (off, _) => match a with
    | .ptr b o => .ok (.ptr b (o + off)) σ
    | .iptr cs => .ok (.iptr (cs.drop off)) σ
    | .eptr b g i o => match stGet σ b with
      | .arr g' _ _ => .need (g = g') (.ok (.eptr b g i (o + off)) σ)
      | _ => .bad
    | _ => .bad
theorem rField_eq {s f off : Nat} {t : TypeId} (h : fieldOff P s f = some (off, t)) (a : AV) (σ : ST) : rField P s f a σ = match a with
    | .ptr b o => .ok (.ptr b (o + off)) σ
    | .iptr cs => .ok (.iptr (cs.drop off)) σ
    | .eptr b g i o => match stGet σ b with
      | .arr g' _ _ => .need (g = g') (.ok (.eptr b g i (o + off)) σ)
      | _ => .bad
    | _ => .bad := by unfold rField; rw [h]

theorem fieldOff_spec {s f off t : Nat} (h : fieldOff P s f = some (off, t)) : ∃ fs fl, P.underlying s = some (.struct fs) ∧ fs[f]? = some fl ∧ fl.offset = off ∧ fl.type = t ∧ 0 < P.cellsOf fl.type := by
  unfold fieldOff at h
  split at h <;> try (cases h; done)
  rename_i fs hu
  split at h <;> try (cases h; done)
  rename_i fl hf
  split at h <;> try (cases h; done)
  rename_i hz
  simp only [Option.some.injEq, Prod.mk.injEq] at h
  exact ⟨fs, fl, hu, hf, h.1, h.2, hz⟩

theorem run_fieldAt {s f off t : Nat} (h : fieldOff P s f = some (off, t)) (B o : Nat) : (Instr.fieldAt s (.pointer (some ⟨B, o, none⟩)) f).run P w = .ok (.pointer (some ⟨B, o + off, none⟩)) w := by
  obtain ⟨fs, fl, h1, h2, h3, h4, h5⟩ := fieldOff_spec h
  have hne : P.cellsOf fl.type ≠ 0 := by omega
  simp [Instr.fieldAt, run_underlying h1, h2, Instr.sureAddr, fieldPlace, run_sizeOf_pos h5, hne, Addr.add_lit, h3]

theorem rField_sound (s f : Nat) (a : AV) (v : Value) (h : V ρ σ I w a v) : Pev P ρ σ I w (Instr.fieldAt s v f) (rField P s f a σ) := by
  unfold rField
  split
  · exact .bad
  · rename_i off t hf
    split
    · cases h with | ptr h1 h2 => exact .ok (run_fieldAt hf _ _) (.ptr h1 h2)
    · cases h with | iptr us h1 =>
      refine .ok (run_fieldAt hf _ _) (.iptr (fun j => us (off + j)) (fun j c hj => ?_))
      rw [List.getElem?_drop] at hj
      have := h1 _ _ hj
      rwa [← Nat.add_assoc] at this
    · split
      · rename_i hst
        have hs := stGet_some hst (by simp)
        refine .need fun hg => ?_
        subst hg
        cases h with
        | eptrOld k1 k2 => rw [hs] at k1; cases k1; exact absurd (k2 _ _ _ rfl) (by omega)
        | eptr k1 k2 => exact .ok (run_fieldAt hf _ _) (by rw [Nat.add_assoc]; exact .eptr k1 k2)
      · exact .bad
    · exact .bad

/- a field of a struct that is no variable -/
def rFieldV (P : Program) (s f : Nat) (a : AV) (σ : ST) : Res :=
  match fieldOff P s f, a with
  | some (off, t), .agg cs => match P.underlying t with
    | none => .bad
    | some d => bif aggD d then .need (off + P.cellsOf t ≤ cs.length) (.ok (.agg ((cs.drop off).take (P.cellsOf t))) σ) else .need (off < cs.length) (.ok (cs.getD off .any) σ)
  | _, _ => .bad
theorem rFieldV_eq {s f off : Nat} {t : TypeId} {d : TypeDesc} (h : fieldOff P s f = some (off, t)) (ht : P.underlying t = some d) (cs : List AV) (σ : ST) :
    rFieldV P s f (.agg cs) σ = bif aggD d then .need (off + P.cellsOf t ≤ cs.length) (.ok (.agg ((cs.drop off).take (P.cellsOf t))) σ) else .need (off < cs.length) (.ok (cs.getD off .any) σ) := by
  unfold rFieldV; rw [h]; simp only [ht]

theorem rFieldV_sound (s f : Nat) (a : AV) (v : Value) (h : V ρ σ I w a v) : Pev P ρ σ I w (Instr.field s v f) (rFieldV P s f a σ) := by
  unfold rFieldV
  split
  · rename_i off t cs hf
    split
    · exact .bad
    · rename_i d ht
      obtain ⟨fs, fl, h1, h2, h3, h4, h5⟩ := fieldOff_spec hf
      subst h3 h4
      cases h with | agg hl h =>
      rename_i vs
      cases hd : aggD d
      · simp only [cond_false]
        refine .need fun ho => .ok (v := vs.getD fl.offset undef) ?_ ?_
        · have ho' : fl.offset < vs.size := by omega
          simp [Instr.field, run_underlying h1, h2, asAgg, part, run_isAgg ht, hd, ho', Array.getD_eq_getD_getElem?]
        · exact h _ _ (by rw [List.getD_eq_getElem?_getD, List.getElem?_eq_getElem ho]; rfl)
      · simp only [cond_true]
        refine .need fun ho => .ok (v := .agg (vs.extract fl.offset (fl.offset + P.cellsOf fl.type))) ?_ ?_
        · simp [Instr.field, run_underlying h1, h2, asAgg, part, run_isAgg ht, hd, run_sizeOf_pos h5]
        · refine .agg (by simp; omega) (fun j c hj => ?_)
          rw [List.getElem?_take] at hj
          split at hj
          · rename_i hlt
            rw [List.getElem?_drop] at hj
            have := h _ _ hj
            rw [Array.getD_eq_getD_getElem?] at this ⊢
            rw [Array.getElem?_extract]
            simpa [hlt, show j < min (fl.offset + P.cellsOf fl.type) vs.size - fl.offset by omega] using this
          · cases hj
  · exact .bad

/- the address of an element -/
def rIndex (P : Program) (t : Nat) (x i : AV) (σ : ST) : Res :=
  match P.underlying t with
  | some (.slice el) => match x, i with
    | .d (.list e xs), .d (.int k n) => .need (e = P.cellsOf el ∧ 0 < e) (.need (0 ≤ n ∧ n < xs.length) (.ok (.iptr (xs.getD n.toNat default).cells) σ))
    | .own b g off m, .d (.int k n) => match stGet σ b with
      | .arr g' e xs => .need (g = g' ∧ e.n = P.cellsOf el ∧ 0 < e.n) (.need (0 ≤ n ∧ n < m) (.ok (.eptr b g (off + n.toNat) 0) σ))
      | _ => .bad
    | _, _ => .bad
  | some (.array len el) => match x, i with
    | .ptr b o, .d (.int k n) => .need (0 < P.cellsOf el) (.need (0 ≤ n ∧ n < len) (.ok (.ptr b (o + n.toNat * P.cellsOf el)) σ))
    | _, _ => .bad
  | _ => .bad
theorem rIndex_list {t el : Nat} (h : P.underlying t = some (.slice el)) (e : Nat) (xs : List DV) (k : IntKind) (n : Int) (σ : ST) :
    rIndex P t (.d (.list e xs)) (.d (.int k n)) σ = .need (e = P.cellsOf el ∧ 0 < e) (.need (0 ≤ n ∧ n < xs.length) (.ok (.iptr (xs.getD n.toNat default).cells) σ)) := by unfold rIndex; rw [h]
theorem rIndex_own {t el : Nat} (h : P.underlying t = some (.slice el)) (b g off m : Nat) (k : IntKind) (n : Int) (σ : ST) :
    rIndex P t (.own b g off m) (.d (.int k n)) σ = match stGet σ b with
      | .arr g' e xs => .need (g = g' ∧ e.n = P.cellsOf el ∧ 0 < e.n) (.need (0 ≤ n ∧ n < m) (.ok (.eptr b g (off + n.toNat) 0) σ))
      | _ => .bad := by unfold rIndex; rw [h]
theorem rIndex_array {t len el : Nat} (h : P.underlying t = some (.array len el)) (b o : Nat) (k : IntKind) (n : Int) (σ : ST) :
    rIndex P t (.ptr b o) (.d (.int k n)) σ = .need (0 < P.cellsOf el) (.need (0 ≤ n ∧ n < len) (.ok (.ptr b (o + n.toNat * P.cellsOf el)) σ)) := by unfold rIndex; rw [h]

theorem rIndex_sound (t : Nat) (x i : AV) (vx vi : Value) (hx : V ρ σ I w x vx) (hi : V ρ σ I w i vi) : Pev P ρ σ I w (Instr.indexAt t vx vi) (rIndex P t x i σ) := by
  unfold rIndex
  split
  · rename_i el ht
    split
    · rename_i e xs k n
      rw [hi.d_inv.int_inv]
      refine .need fun ⟨he, hz⟩ => .need fun ⟨h0, h1⟩ => ?_
      subst he
      cases hx.d_inv with
      | listNil => simp at h1; omega
      | list us q1 q2 q0 q3 q4 =>
        rename_i b off m cap
        have hlt : n.toNat < xs.length := by omega
        refine .ok (v := .pointer (some ⟨b, off + n.toNat * P.cellsOf el, none⟩)) ?_ ?_
        · have h1' : n < (m : Int) := by omega
          simp [Instr.indexAt, asIntOf, run_underlying ht, h0, h1', run_sizeOf_pos hz, Addr.add_lit]
        · refine .iptr (fun o => us (n.toNat * P.cellsOf el + o)) (fun o c ho => ?_)
          have hmem : xs.getD n.toNat default ∈ xs := by rw [List.getD_eq_getElem?_getD, List.getElem?_eq_getElem hlt]; simp
          have hol : o < P.cellsOf el := by
            rcases Nat.lt_or_ge o (P.cellsOf el) with h | h
            · exact h
            · rw [List.getElem?_eq_none (by rw [(q0 _ hmem).1]; omega)] at ho; cases ho
          have hfl := flat_get q0 hlt hol
          rw [ho] at hfl
          obtain ⟨r1, r2⟩ := q3 _ _ hfl
          exact ⟨r1, by rw [← r2, Nat.add_assoc], q4 _ _ hfl⟩
    · rename_i b g off m k n
      rw [hi.d_inv.int_inv]
      split
      · rename_i g' e xs hst
        have hs := stGet_some hst (by simp)
        refine .need fun ⟨hg, he, hz⟩ => .need fun ⟨h0, h1⟩ => ?_
        obtain ⟨en, te⟩ := e
        dsimp only at he hz
        subst hg he
        cases hx with
        | ownOld k1 k2 => rw [hs] at k1; cases k1; exact absurd (k2 _ _ _ rfl) (by omega)
        | ownNil k1 k2 => simp at h1; omega
        | own k1 k2 k3 k4 =>
          rw [hs] at k1; cases k1
          rename_i B cap
          refine .ok (v := .pointer (some ⟨B, (ρ b).base + (off + n.toNat) * P.cellsOf el + 0, none⟩)) ?_ (.eptr hs k2)
          have h1' : n < (m : Int) := by omega
          simp [Instr.indexAt, asIntOf, run_underlying ht, h0, h1', run_sizeOf_pos hz, Addr.add_lit, Nat.add_mul, Nat.add_assoc]
      · exact .bad
    · exact .bad
  · rename_i len el ht
    split
    · rename_i b o k n
      rw [hi.d_inv.int_inv]
      refine .need fun hz => .need fun ⟨h0, h1⟩ => ?_
      cases hx with | ptr k1 k2 =>
      rename_i B tb cs
      refine .ok (v := .pointer (some ⟨B, o + n.toNat * P.cellsOf el, none⟩)) ?_ (.ptr k1 k2)
      simp [Instr.indexAt, asIntOf, run_underlying ht, h0, h1, run_sizeOf_pos hz, Addr.add_lit, Instr.sureAddr]
    · exact .bad
  · exact .bad

/- a byte of a string -/
def rIndexV (P : Program) (t : Nat) (x i : AV) (σ : ST) : Res :=
  match P.underlying t, x, i with
  | some .string, .d (.str s), .d (.int _ n) => .need (0 ≤ n ∧ n < s.length) (.ok (.d (.int .u8 ((s.getD n.toNat 0).toNat : Nat))) σ)
  | some (.array len el), .agg cs, .d (.int _ n) => .need (P.cellsOf el = 1 ∧ (P.underlying el).map aggD = some false ∧ len = cs.length) (.need (0 ≤ n ∧ n < len) (.ok (cs.getD n.toNat .any) σ))
  | _, _, _ => .bad
theorem rIndexV_str {t : Nat} (h : P.underlying t = some .string) (s : List UInt8) (k : IntKind) (n : Int) (σ : ST) :
    rIndexV P t (.d (.str s)) (.d (.int k n)) σ = .need (0 ≤ n ∧ n < s.length) (.ok (.d (.int .u8 ((s.getD n.toNat 0).toNat : Nat))) σ) := by simp only [rIndexV, h]

theorem rIndexV_sound (t : Nat) (x i : AV) (vx vi : Value) (hx : V ρ σ I w x vx) (hi : V ρ σ I w i vi) : Pev P ρ σ I w (Instr.index t vx vi) (rIndexV P t x i σ) := by
  unfold rIndexV
  split
  · rename_i s k n ht
    rw [hx.d_inv.str_inv, hi.d_inv.int_inv]
    refine .need fun ⟨h0, h1⟩ => .ok (v := .int .u8 _) ?_ (.d (.int _ _))
    have hlt : n.toNat < s.length := by omega
    have hg : (⟨s.toArray⟩ : ByteArray)[n.toNat]? = some (s.getD n.toNat 0) := by
      have : n.toNat < (⟨s.toArray⟩ : ByteArray).size := by simpa [ByteArray.size] using hlt
      rw [getElem?_pos (⟨s.toArray⟩ : ByteArray) n.toNat this]
      simp [List.getD_eq_getElem?_getD, hlt]
      rfl
    simp [Instr.index, asIntOf, run_underlying ht, h0, hg]
  · rename_i len el cs k n ht
    rw [hi.d_inv.int_inv]
    refine .need fun ⟨e1, e2, e3⟩ => .need fun ⟨h0, h1⟩ => ?_
    simp only [Option.map_eq_some_iff] at e2
    obtain ⟨d, hd, hda⟩ := e2
    cases hx with | agg hl hx =>
    rename_i vs
    have hlt : n.toNat < cs.length := by omega
    refine .ok (v := vs.getD n.toNat undef) ?_ (hx _ _ (by rw [List.getD_eq_getElem?_getD, List.getElem?_eq_getElem hlt]; rfl))
    have hv : n.toNat < vs.size := by omega
    simp [Instr.index, asIntOf, run_underlying ht, h0, h1, run_sizeOf_pos (show 0 < P.cellsOf el by omega), e1, part, run_isAgg hd, hda, hv, Array.getD_eq_getD_getElem?]
  · exact .bad
end
end Nv
