/- Part of a proof about the functions of this seat. -/
import Derived.Test.YtebejiilpedlmaaGreatDoorNvNO
import Derived.Below
/- The rules by which the simplifier reckons in the abstract layer. -/

set_option linter.unusedVariables false
set_option linter.unusedSimpArgs false
namespace Nv
open Go

@[go_sem] theorem one_d_int (k : IntKind) (n : Int) : (AV.d (.int k n)).one = true := nrfl rfl
@[go_sem] theorem cellsV_d_int (k : IntKind) (n : Int) : cellsV (.d (.int k n)) = some [.d (.int k n)] := nrfl rfl
@[go_sem] theorem toD_d_int (k : IntKind) (n : Int) : toD (.d (.int k n)) = some (.int k n) := nrfl rfl
@[go_sem] theorem cells_int (k : IntKind) (n : Int) : (DV.cells (.int k n)) = [.int k n] := nrfl rfl
@[go_sem] theorem one_d_bool (b : Bool) : (AV.d (.bool b)).one = true := nrfl rfl
@[go_sem] theorem cellsV_d_bool (b : Bool) : cellsV (.d (.bool b)) = some [.d (.bool b)] := nrfl rfl
@[go_sem] theorem toD_d_bool (b : Bool) : toD (.d (.bool b)) = some (.bool b) := nrfl rfl
@[go_sem] theorem cells_bool (b : Bool) : (DV.cells (.bool b)) = [.bool b] := nrfl rfl
@[go_sem] theorem one_d_str (s : List UInt8) : (AV.d (.str s)).one = true := nrfl rfl
@[go_sem] theorem cellsV_d_str (s : List UInt8) : cellsV (.d (.str s)) = some [.d (.str s)] := nrfl rfl
@[go_sem] theorem toD_d_str (s : List UInt8) : toD (.d (.str s)) = some (.str s) := nrfl rfl
@[go_sem] theorem cells_str (s : List UInt8) : (DV.cells (.str s)) = [.str s] := nrfl rfl
@[go_sem] theorem one_d_nilptr  : (AV.d (.nilptr)).one = true := nrfl rfl
@[go_sem] theorem cellsV_d_nilptr  : cellsV (.d (.nilptr)) = some [.d (.nilptr)] := nrfl rfl
@[go_sem] theorem toD_d_nilptr  : toD (.d (.nilptr)) = some (.nilptr) := nrfl rfl
@[go_sem] theorem cells_nilptr  : (DV.cells (.nilptr)) = [.nilptr] := nrfl rfl
@[go_sem] theorem one_d_nilslice  : (AV.d (.nilslice)).one = true := nrfl rfl
@[go_sem] theorem cellsV_d_nilslice  : cellsV (.d (.nilslice)) = some [.d (.nilslice)] := nrfl rfl
@[go_sem] theorem toD_d_nilslice  : toD (.d (.nilslice)) = some (.nilslice) := nrfl rfl
@[go_sem] theorem cells_nilslice  : (DV.cells (.nilslice)) = [.nilslice] := nrfl rfl
@[go_sem] theorem one_d_nilmap  : (AV.d (.nilmap)).one = true := nrfl rfl
@[go_sem] theorem cellsV_d_nilmap  : cellsV (.d (.nilmap)) = some [.d (.nilmap)] := nrfl rfl
@[go_sem] theorem toD_d_nilmap  : toD (.d (.nilmap)) = some (.nilmap) := nrfl rfl
@[go_sem] theorem cells_nilmap  : (DV.cells (.nilmap)) = [.nilmap] := nrfl rfl
@[go_sem] theorem one_d_nilfunc  : (AV.d (.nilfunc)).one = true := nrfl rfl
@[go_sem] theorem cellsV_d_nilfunc  : cellsV (.d (.nilfunc)) = some [.d (.nilfunc)] := nrfl rfl
@[go_sem] theorem toD_d_nilfunc  : toD (.d (.nilfunc)) = some (.nilfunc) := nrfl rfl
@[go_sem] theorem cells_nilfunc  : (DV.cells (.nilfunc)) = [.nilfunc] := nrfl rfl
@[go_sem] theorem one_d_niliface  : (AV.d (.niliface)).one = true := nrfl rfl
@[go_sem] theorem cellsV_d_niliface  : cellsV (.d (.niliface)) = some [.d (.niliface)] := nrfl rfl
@[go_sem] theorem toD_d_niliface  : toD (.d (.niliface)) = some (.niliface) := nrfl rfl
@[go_sem] theorem cells_niliface  : (DV.cells (.niliface)) = [.niliface] := nrfl rfl
@[go_sem] theorem one_d_func (f : Fn) : (AV.d (.func f)).one = true := nrfl rfl
@[go_sem] theorem cellsV_d_func (f : Fn) : cellsV (.d (.func f)) = some [.d (.func f)] := nrfl rfl
@[go_sem] theorem toD_d_func (f : Fn) : toD (.d (.func f)) = some (.func f) := nrfl rfl
@[go_sem] theorem cells_func (f : Fn) : (DV.cells (.func f)) = [.func f] := nrfl rfl
@[go_sem] theorem one_d_iface (t : TypeId) (x : DV) : (AV.d (.iface t x)).one = true := nrfl rfl
@[go_sem] theorem cellsV_d_iface (t : TypeId) (x : DV) : cellsV (.d (.iface t x)) = some [.d (.iface t x)] := nrfl rfl
@[go_sem] theorem toD_d_iface (t : TypeId) (x : DV) : toD (.d (.iface t x)) = some (.iface t x) := nrfl rfl
@[go_sem] theorem cells_iface (t : TypeId) (x : DV) : (DV.cells (.iface t x)) = [.iface t x] := nrfl rfl
@[go_sem] theorem one_d_list (e : Nat) (xs : List DV) : (AV.d (.list e xs)).one = true := nrfl rfl
@[go_sem] theorem cellsV_d_list (e : Nat) (xs : List DV) : cellsV (.d (.list e xs)) = some [.d (.list e xs)] := nrfl rfl
@[go_sem] theorem toD_d_list (e : Nat) (xs : List DV) : toD (.d (.list e xs)) = some (.list e xs) := nrfl rfl
@[go_sem] theorem cells_list (e : Nat) (xs : List DV) : (DV.cells (.list e xs)) = [.list e xs] := nrfl rfl
@[go_sem] theorem one_ptr (b o : Nat) : (AV.ptr b o).one = true := nrfl rfl
@[go_sem] theorem cellsV_ptr (b o : Nat) : cellsV (.ptr b o) = some [.ptr b o] := nrfl rfl
@[go_sem] theorem one_own (b g off n : Nat) : (AV.own b g off n).one = true := nrfl rfl
@[go_sem] theorem cellsV_own (b g off n : Nat) : cellsV (.own b g off n) = some [.own b g off n] := nrfl rfl
@[go_sem] theorem one_eptr (b g i o : Nat) : (AV.eptr b g i o).one = true := nrfl rfl
@[go_sem] theorem cellsV_eptr (b g i o : Nat) : cellsV (.eptr b g i o) = some [.eptr b g i o] := nrfl rfl
@[go_sem] theorem one_iptr (cs : List DV) : (AV.iptr cs).one = true := nrfl rfl
@[go_sem] theorem cellsV_iptr (cs : List DV) : cellsV (.iptr cs) = some [.iptr cs] := nrfl rfl
@[go_sem] theorem one_func (f : Fn) (a b : List AV) : (AV.func f a b).one = true := nrfl rfl
@[go_sem] theorem cellsV_func (f : Fn) (a b : List AV) : cellsV (.func f a b) = some [.func f a b] := nrfl rfl
@[go_sem] theorem one_iface (t : TypeId) (x : AV) : (AV.iface t x).one = true := nrfl rfl
@[go_sem] theorem cellsV_iface (t : TypeId) (x : AV) : cellsV (.iface t x) = some [.iface t x] := nrfl rfl
@[go_sem] theorem one_map (b : Nat) : (AV.map b).one = true := nrfl rfl
@[go_sem] theorem cellsV_map (b : Nat) : cellsV (.map b) = some [.map b] := nrfl rfl
@[go_sem] theorem one_agg (cs : List AV) : (AV.agg cs).one = false := nrfl rfl
@[go_sem] theorem one_d_agg (cs : List DV) : (AV.d (.agg cs)).one = false := nrfl rfl
@[go_sem] theorem cellsV_agg (cs : List AV) : cellsV (.agg cs) = if cs.all AV.one then some cs else none := nrfl rfl
@[go_sem] theorem cellsV_d_agg (cs : List DV) : cellsV (.d (.agg cs)) = if (cs.map AV.d).all AV.one then some (cs.map .d) else none := nrfl rfl
@[go_sem] theorem toD_agg (cs : List AV) : toD (.agg cs) = (toDs cs).bind fun xs => if cs.all AV.one then some (.agg xs) else none := nrfl rfl
@[go_sem] theorem cells_agg (cs : List DV) : DV.cells (.agg cs) = cs := nrfl rfl
@[go_sem] theorem bne_tf : (!(true == false)) = true := nrfl rfl
@[go_sem] theorem bne_ft : (!(false == true)) = true := nrfl rfl
@[go_sem] theorem bne_tt : (!(true == true)) = false := nrfl rfl
@[go_sem] theorem bne_ff : (!(false == false)) = false := nrfl rfl
@[go_sem] theorem stGet_zero (b : Blk) (l : ST) : stGet (b :: l) 0 = b := nrfl rfl
@[go_sem] theorem stGet_succ (b : Blk) (l : ST) (n : Nat) : stGet (b :: l) (n + 1) = stGet l n := nrfl rfl
@[go_sem] theorem stSet_zero (b x : Blk) (l : ST) : stSet (b :: l) 0 x = x :: l := nrfl rfl
@[go_sem] theorem stSet_succ (b x : Blk) (l : ST) (n : Nat) : stSet (b :: l) (n + 1) x = b :: stSet l n x := nrfl rfl
theorem stGet_left (l m : ST) (b : Nat) (h : b < l.length) : stGet (l ++ m) b = stGet l b := by simp [stGet, List.getD_eq_getElem?_getD, List.getElem?_append_left h]
theorem stSet_left (l m : ST) (b : Nat) (x : Blk) (h : b < l.length) : stSet (l ++ m) b x = stSet l b x ++ m := by simp [stSet, List.set_append_left _ _ h]
@[go_sem] theorem stGet_last (l : ST) (b : Blk) : stGet (l ++ [b]) (List.length l) = b := nrfl (by simp [stGet, List.getD_eq_getElem?_getD])
@[go_sem] theorem stSet_last (l : ST) (b x : Blk) : stSet (l ++ [b]) (List.length l) x = l ++ [x] := nrfl (by simp [stSet])
@[go_sem] theorem rLen_def (P : Program) (t : TypeId) (x : AV) (σ : ST) : rLen P t x σ =
  (match P.underlying t, x with
  | some (.slice _), .d (.list _ xs) => .ok (.d (.int .i64 (xs.length : Nat))) σ
  | some (.slice _), .d .nilslice => .ok (.d (.int .i64 0)) σ
  | some (.slice _), .own b g off n =>
    match stGet σ b with
    | .arr g' _ _ => .need (g = g') (.ok (.d (.int .i64 (n : Nat))) σ)
    | _ => .bad
  | some .string, .d (.str s) => .ok (.d (.int .i64 (s.length : Nat))) σ
  | some (.array n _), _ => .ok (.d (.int .i64 (n : Nat))) σ
  | _, _ => .bad) := nrfl rfl
@[go_sem] theorem rConv_def (P : Program) (src dst : TypeId) (x : AV) (σ : ST) : rConv P src dst x σ =
  (match P.underlying src, P.underlying dst, x with
  | some _, some (.int k), .d (.int _ n) => .ok (.d (.int k (k.wrap n))) σ
  | some (.int _), some .string, .d (.int _ n) => .ok (.d (.str (Utf8.encode n).data.toList)) σ
  | some .string, some .string, .d (.str s) => .ok (.d (.str s)) σ
  | _, _, _ => .bad) := nrfl rfl
@[go_sem] theorem rRange_def (P : Program) (t : TypeId) (x : AV) (σ : ST) : rRange P t x σ =
  (match P.underlying t, x with
  | some .string, .d (.str s) => .ok (.itr σ.length) (σ ++ [.iter s 0])
  | _, _ => .bad) := nrfl rfl
@[go_sem] theorem rNext_def (x : AV) (str : Bool) (σ : ST) : rNext x str σ =
  (match x, str with
  | .itr b, true => match stGet σ b with
    | .iter s pos => bif Nat.blt pos s.length then
        .ok (.tuple [.d (.bool true), .d (.int .i64 (pos : Nat)), .d (.int .i32 ((Utf8.decode ⟨s.toArray⟩ pos).1 : Nat))]) (stSet σ b (.iter s (pos + (Utf8.decode ⟨s.toArray⟩ pos).2)))
      else .ok (.tuple [.d (.bool false)]) σ
    | _ => .bad
  | _, _ => .bad) := nrfl rfl
@[go_sem] theorem rCvA_def (P : Program) (s d : TypeId) (x : AV) (σ : ST) : rCvA P s d x σ =
  (match P.underlying s, P.underlying d, x with
  | some .string, some (.slice el), .d (.str t) => rRunes P el t σ
  | _, _, x => rCv P s d x σ) := nrfl rfl
@[go_sem] theorem rRunes_def (P : Program) (el : TypeId) (s : List UInt8) (σ : ST) : rRunes P el s σ =
  (match P.underlying el with
  | some (.int .i32) => .need (P.cellsOf el = 1 ∧ s.length ≤ 70368744177664) (newArr σ 1 el (runesD s))
  | _ => .bad) := nrfl rfl
@[go_sem] theorem rConvU_def (P : Program) (s d : TypeId) (b o : Nat) (σ : ST) : rConvU P s d b o σ =
  (match P.underlying s, P.underlying d with
  | some (.pointer t), some .unsafePointer => match stGet σ b with
    | .box e cs => .need (0 < P.cellsOf t ∧ o < cs.length) (.ok (.ptr b o) σ)
    | _ => .bad
  | some .unsafePointer, some (.pointer u) => match stGet σ b with
    | .box e cs => .need (0 < P.cellsOf u ∧ liesB P e cs.length o u = true) (.ok (.ptr b o) σ)
    | _ => .bad
  | _, _ => .bad) := nrfl rfl
@[go_sem] theorem rUSD_def (P : Program) (ty : TypeId) (x : AV) (σ : ST) : rUSD P ty x σ =
  (match P.underlying ty, x with
  | some (.pointer _), .d .nilslice => .ok .aptr σ
  | some (.pointer _), .own b g off n => match stGet σ b with
    | .arr g' e xs => .need (g = g') (bif Nat.beq n 0 then .ok .aptr σ else .ok (.eptr b g off 0) σ)
    | _ => .bad
  | _, _ => .bad) := nrfl rfl
@[go_sem] theorem rUStr_def (P : Program) (t : TypeId) (x n : AV) (σ : ST) : rUStr P t x n σ =
  (match P.underlying t, x, n with
  | some (.pointer _), .aptr, .d (.int .i64 n) => .need (n = 0) (.ok (.d (.str [])) σ)
  | some (.pointer el), .eptr b g i o, .d (.int .i64 n) => match stGet σ b with
    | .arr g' e xs => .need (g = g' ∧ o = 0 ∧ e.n = 1 ∧ e.t = el ∧ P.cellsOf el = 1 ∧ 0 < n ∧ i + n.toNat ≤ xs.length ∧ n ≤ 9223372036854775807 ∧ ((xs.drop i).take n.toNat).all isB = true)
        (.ok (.d (.str (((xs.drop i).take n.toNat).map ofB))) (stSet σ b .dead))
    | _ => .bad
  | _, _, _ => .bad) := nrfl rfl
@[go_sem] theorem rIface_def (P : Program) (t : TypeId) (x : AV) (σ : ST) : rIface P t x σ =
  (match P.underlying t with
  | none | some (.interface _) => .bad
  | _ => match x with
    | .d x => .ok (.d (.iface t x)) σ
    | x => .ok (.iface t x) σ) := nrfl rfl
@[go_sem] theorem rLoad_def (P : Program) (t : TypeId) (a : AV) (σ : ST) : rLoad P t a σ =
  (match P.underlying t with
  | none => .bad
  | some d =>
    .need (0 < P.cellsOf t) (match a with
    | .ptr b o => match stGet σ b with
      | .box _ cs => bif aggD d then .need (o + P.cellsOf t ≤ cs.length) (.ok (.agg ((cs.drop o).take (P.cellsOf t))) σ) else .need (o < cs.length) (.ok (cs.getD o .any) σ)
      | _ => .bad
    | .iptr cs => bif aggD d then .need (P.cellsOf t ≤ cs.length) (.ok (.agg ((cs.take (P.cellsOf t)).map .d)) σ) else .need (0 < cs.length) (.ok (.d (cs.getD 0 default)) σ)
    | .eptr b g i o => match stGet σ b with
      | .arr g' e xs => .need (g = g' ∧ i < xs.length) (bif aggD d then .need (o + P.cellsOf t ≤ (xs.getD i default).cells.length) (.ok (.agg ((((xs.getD i default).cells.drop o).take (P.cellsOf t)).map .d)) σ)
          else .need (o < (xs.getD i default).cells.length) (.ok (.d ((xs.getD i default).cells.getD o default)) σ))
      | _ => .bad
    | _ => .bad)) := nrfl rfl
@[go_sem] theorem rField_def (P : Program) (s f : Nat) (a : AV) (σ : ST) : rField P s f a σ =
  (match fieldOff P s f with
  | none => .bad
  | some (off, _) => match a with
    | .ptr b o => .ok (.ptr b (o + off)) σ
    | .iptr cs => .ok (.iptr (cs.drop off)) σ
    | .eptr b g i o => match stGet σ b with
      | .arr g' _ _ => .need (g = g') (.ok (.eptr b g i (o + off)) σ)
      | _ => .bad
    | _ => .bad) := nrfl rfl
@[go_sem] theorem rFieldV_def (P : Program) (s f : Nat) (a : AV) (σ : ST) : rFieldV P s f a σ =
  (match fieldOff P s f, a with
  | some (off, t), .agg cs => match P.underlying t with
    | none => .bad
    | some d => bif aggD d then .need (off + P.cellsOf t ≤ cs.length) (.ok (.agg ((cs.drop off).take (P.cellsOf t))) σ) else .need (off < cs.length) (.ok (cs.getD off .any) σ)
  | _, _ => .bad) := nrfl rfl
@[go_sem] theorem rIndex_def (P : Program) (t : Nat) (x i : AV) (σ : ST) : rIndex P t x i σ =
  (match P.underlying t with
  | some (.slice el) => match x, i with
    | .d (.list e xs), .d (.int k n) => .need (e = P.cellsOf el ∧ 0 < e) (.need (0 ≤ n ∧ n < xs.length) (.ok (.iptr (xs.getD n.toNat default).cells) σ))
    | .own b g off m, .d (.int k n) => match stGet σ b with
      | .arr g' e xs => .need (g = g' ∧ e.n = P.cellsOf el ∧ 0 < e.n) (.need (0 ≤ n ∧ n < m) (.ok (.eptr b g (off + n.toNat) 0) σ))
      | _ => .bad
    | _, _ => .bad
  | some (.array len el) => match x, i with
    | .ptr b o, .d (.int k n) => .need (0 < P.cellsOf el) (.need (0 ≤ n ∧ n < len) (.ok (.ptr b (o + n.toNat * P.cellsOf el)) σ))
    | _, _ => .bad
  | _ => .bad) := nrfl rfl
@[go_sem] theorem rIndexV_def (P : Program) (t : Nat) (x i : AV) (σ : ST) : rIndexV P t x i σ =
  (match P.underlying t, x, i with
  | some .string, .d (.str s), .d (.int _ n) => .need (0 ≤ n ∧ n < s.length) (.ok (.d (.int .u8 ((s.getD n.toNat 0).toNat : Nat))) σ)
  | some (.array len el), .agg cs, .d (.int _ n) => .need (P.cellsOf el = 1 ∧ (P.underlying el).map aggD = some false ∧ len = cs.length) (.need (0 ≤ n ∧ n < len) (.ok (cs.getD n.toNat .any) σ))
  | _, _, _ => .bad) := nrfl rfl
@[go_sem] theorem rSlice_def (P : Program) (t : Nat) (x : AV) (lo hi : Option AV) (σ : ST) : rSlice P t x lo hi σ =
  (match P.underlying t with
  | some .string => match x with
    | .d (.str s) => match bnd lo 0, bnd hi (s.length : Nat) with
      | some l, some h => .need (0 ≤ l ∧ l ≤ h ∧ h ≤ s.length) (.ok (.d (.str ((s.take h.toNat).drop l.toNat))) σ)
      | _, _ => .bad
    | _ => .bad
  | some (.slice el) => match x with
    | .d (.list e xs) => match bnd lo 0, bnd hi (xs.length : Nat) with
      | some l, some h => .need (e = P.cellsOf el ∧ 0 < e) (.need (0 ≤ l ∧ l ≤ h ∧ h ≤ xs.length) (.ok (.d (.list e ((xs.take h.toNat).drop l.toNat))) σ))
      | _, _ => .bad
    | .d .nilslice => match bnd lo 0, bnd hi 0 with
      | some l, some h => .need (0 < P.cellsOf el) (.need (l = 0 ∧ h = 0) (.ok (.d .nilslice) σ))
      | _, _ => .bad
    | .own b g off n => match stGet σ b with
      | .arr g' e xs => match bnd lo 0, bnd hi (n : Nat) with
        | some l, some h => .need (g = g' ∧ e.n = P.cellsOf el ∧ 0 < e.n) (.need (0 ≤ l ∧ l ≤ h ∧ h ≤ n) (.ok (.own b g (off + l.toNat) (h.toNat - l.toNat)) σ))
        | _, _ => .bad
      | _ => .bad
    | _ => .bad
  | _ => .bad) := nrfl rfl
@[go_sem] theorem rBox_def (t : Nat) (x : AV) (σ : ST) : rBox t x σ =
  (match cellsV x with
  | some cs => .ok (.ptr σ.length 0) (σ ++ [.box t cs])
  | none => .bad) := nrfl rfl
@[go_sem] theorem rStore_def (P : Program) (t : TypeId) (a x : AV) (σ : ST) : rStore P t a x σ =
  (match cellsV x with
  | none => .bad
  | some [] => match a with
    | .ptr b _ => match stGet σ b with
      | .box _ _ => .need ((P.info? t).map (·.size) = some 0) (.ok .any σ)
      | _ => .bad
    | _ => .bad
  | some vs => .need (vs.length = P.cellsOf t ∧ 0 < vs.length) (match a with
    | .ptr b o => match stGet σ b with
      | .box t' cs => .need (o + vs.length ≤ cs.length) (.ok .any (stSet σ b (.box t' (splice cs o vs))))
      | _ => .bad
    | .eptr b g i o => match stGet σ b, toDs vs with
      | .arr g' e xs, some ds => .need (g = g' ∧ i < xs.length ∧ o + vs.length ≤ e) (.ok .any (stSet σ b (.arr g' e (xs.set i (dvSet (xs.getD i default) o ds)))))
      | _, _ => .bad
    | _ => .bad)) := nrfl rfl
@[go_sem] theorem rBuildSlice_def (P : Program) (t : TypeId) (len : Nat) (parts : List (Nat × AV)) (σ : ST) : rBuildSlice P t len parts σ =
  (match P.underlying t with
  | some (.slice el) => .need (0 < P.cellsOf el ∧ zeroA P el ≠ .any ∧ len * P.cellsOf el ≤ 16777216) (match dsOf (P.cellsOf el) 0 parts with
    | some ds => .need (len = ds.length) (newArr σ (P.cellsOf el) el ds)
    | none => .bad)
  | _ => .bad) := nrfl rfl
@[go_sem] theorem rBuild_def (P : Program) (t : TypeId) (parts : List (Nat × AV)) (σ : ST) : rBuild P t parts σ =
  (match structPlaces P t, zeroA P t with
  | some pl, .agg zs => match fillA pl zs parts with
    | some cs => .ok (.agg cs) σ
    | none => .bad
  | _, _ => .bad) := nrfl rfl
@[go_sem] theorem rAppend_def (P : Program) (t xt : TypeId) (s x : AV) (σ : ST) : rAppend P t xt s x σ =
  (match P.underlying t, P.underlying xt with
  | some (.slice el), some d => .need (0 < P.cellsOf el ∧ (cellsV (zeroA P el)).map List.length = some (P.cellsOf el)) (match elems ⟨P.cellsOf el, el⟩ s σ, srcElems d ⟨P.cellsOf el, el⟩ x σ with
    | some xs, some ys => .need (0 < P.bytesOf el ∧ (xs.length + ys.length) * P.bytesOf el ≤ 140737488355328) (match s with
      | .d .nilslice => newArr σ (P.cellsOf el) el ys
      | .own b g off n => .ok (.own b (g + 1) 0 (xs.length + ys.length)) (stSet σ b (.arr (g + 1) ⟨P.cellsOf el, el⟩ (xs ++ ys)))
      | _ => .bad)
    | _, _ => .bad)
  | _, _ => .bad) := nrfl rfl
@[go_sem] theorem rMake_def (P : Program) (t : TypeId) (l c : AV) (σ : ST) : rMake P t l c σ =
  (match P.underlying t, l, c, toD (match P.underlying t with | some (.slice el) => zeroA P el | _ => .any) with
  | some (.slice el), .d (.int _ l), .d (.int _ c), some z =>
    .need (0 < P.cellsOf el ∧ z.cells.length = P.cellsOf el ∧ 0 < P.bytesOf el) (.need (0 ≤ l ∧ l ≤ c ∧ c * P.bytesOf el ≤ 140737488355328) (newArr σ (P.cellsOf el) el (List.replicate l.toNat z)))
  | _, _, _, _ => .bad) := nrfl rfl
@[go_sem] theorem rCopy_def (P : Program) (t : TypeId) (s x : AV) (σ : ST) : rCopy P t s x σ =
  (match P.underlying t, s with
  | some (.slice el), .own b g off n => match stGet σ b, elems ⟨P.cellsOf el, el⟩ x σ with
    | .arr g' e' zs, some ys => .need (g = g' ∧ e' = ⟨P.cellsOf el, el⟩ ∧ off + n ≤ zs.length ∧ 0 < P.cellsOf el)
        (.ok (.d (.int .i64 (min ys.length n : Nat))) (stSet σ b (.arr g' e' (splice zs off (ys.take (min ys.length n))))))
    | _, _ => .bad
  | _, _ => .bad) := nrfl rfl
variable {P : Program}
attribute [go_sem] splice dvSet
attribute [go_sem] cond_true cond_false List.all_cons List.all_nil Bool.and_true Bool.true_and Bool.and_false Bool.false_and Bool.or_true Bool.true_or Bool.or_false Bool.false_or Bool.not_true Bool.not_false
  List.nil_append List.cons_append List.append_nil List.length_cons List.length_nil List.drop_zero List.drop_succ_cons List.take_zero List.take_succ_cons List.take_nil List.drop_nil
  List.getD_cons_zero List.getD_cons_succ List.map_cons List.map_nil Option.map_some Option.map_none Option.bind_some Option.bind_none List.getElem?_cons_zero List.getElem?_cons_succ
  if_true if_false true_and and_true and_self eq_self Bool.false_eq_true Option.some.injEq not_true_eq_false not_false_eq_true false_and and_false ne_eq reduceCtorEq
  List.length_map Int.toNat_natCast Int.toNat_zero List.set_cons_zero List.set_cons_succ implies_true decide_true decide_false Nat.lt_irrefl

theorem getD_map {α : Type} [Inhabited α] (f : α → DV) (l : List α) (n : Nat) (h : n < l.length) : (l.map f).getD n default = f (l.getD n default) := by
  simp [List.getD_eq_getElem?_getD, h]
theorem drop_getD {α : Type} [Inhabited α] (l : List α) (n : Nat) (h : n < l.length) : l.drop n = l.getD n default :: l.drop (n + 1) := by
  rw [List.drop_eq_getElem_cons h]; simp [List.getD_eq_getElem?_getD, h]
theorem cast0 : ((0 : Nat) : Int) = 0 := by omega
theorem cast1 (k : Nat) : (k : Int) + 1 = ((k + 1 : Nat) : Int) := by omega
theorem cast2 (k : Nat) : (k : Int) + 2 = ((k + 2 : Nat) : Int) := by omega
theorem zero_le_cast (k : Nat) : ((0 : Int) ≤ (k : Int)) = True := by simp
theorem wrap_i32 {n : Int} (h1 : -2147483648 ≤ n) (h2 : n < 2147483648) : IntKind.i32.wrap n = n := by
  have e1 : (2 : Int) ^ 32 = 4294967296 := by decide
  have e2 : (2 : Int) ^ (32 - 1) = 2147483648 := by decide
  simp only [IntKind.wrap, IntKind.bits, IntKind.signed, Bool.true_and, e1, e2, decide_eq_true_eq, ge_iff_le]
  split <;> omega
theorem wrap_u8 {n : Int} (h1 : 0 ≤ n) (h2 : n < 256) : IntKind.u8.wrap n = n := by
  have e1 : (2 : Int) ^ 8 = 256 := by decide
  simp only [IntKind.wrap, IntKind.bits, IntKind.signed, Bool.false_and, e1, if_false, Bool.false_eq_true]
  omega
attribute [go_sem] wrap_i32 wrap_u8 getD_map cast0 cast1 cast2 zero_le_cast wrap_id Int.ofNat_lt Int.ofNat_le Int.ofNat_inj
end Nv
/- Calls of the library by its contracts. -/


set_option linter.unusedVariables false
set_option linter.unusedSimpArgs false
namespace Nv
open Go Go.RowKit

def sc : AV → Bool
  | .d (.int _ _) => true
  | .d (.bool _) => true
  | .d (.str _) => true
  | _ => false
def scv : AV → Value
  | .d (.int k n) => .int k n
  | .d (.bool b) => .bool b
  | .d (.str s) => .string ⟨s.toArray⟩
  | _ => undef

section
variable {P : Program} {ρ ρ' : RHO} {σ σ' : ST} {I I' : Nat → Prop} {w w' : World}

theorem sc_inv {a : AV} {v : Value} (h : sc a = true) (hv : V ρ σ I w a v) : v = scv a := by
  cases hv <;> try (simp [sc] at h; done)
  rename_i x hx
  cases x <;> simp [sc] at h
  · exact hx.int_inv
  · exact hx.bool_inv
  · exact hx.str_inv
theorem sc_V (ρ : RHO) (σ : ST) (I : Nat → Prop) (w : World) {a : AV} (h : sc a = true) : V ρ σ I w a (scv a) := by
  cases a <;> simp [sc] at h
  rename_i x
  cases x <;> simp [sc] at h
  · exact .d (.int _ _)
  · exact .d (.bool _)
  · exact .d (.str _)

theorem scs_inv {args : List AV} {vs : Array Value} (h : args.all sc = true) (hv : VL ρ σ I w args vs) : vs = (args.map scv).toArray := by
  apply Array.ext
  · simp [hv.1]
  · intro i h1 h2
    have hl : i < args.length := by rw [hv.1]; exact h1
    have := sc_inv (List.all_eq_true.1 h _ (List.getElem_mem hl)) (hv.2 i _ (List.getElem?_eq_getElem hl))
    simp only [Array.getD_eq_getD_getElem?, h1, Array.getElem?_eq_getElem, Option.getD_some] at this
    simp [this]

theorem Step.heap (h : w'.heap = w.heap) (ha : Around w w') : Step ρ I w σ ρ I w' σ :=
  ⟨fun _ _ _ => by rw [h], fun _ h => h, fun _ h => .inl h, fun _ h => .inl h, by rw [h]; exact Nat.le_refl _, fun b blk h => ⟨blk, h, Compat.refl _ _⟩, ha⟩
theorem RS.heap (hr : RS P ρ I w σ) (h : w'.heap = w.heap) (ha : Around w w') : RS P ρ I w' σ :=
  ⟨fun i blk hi => RB.heap h (hr.blk i blk hi) hr (Step.heap h ha), hr.inj, hr.sep, fun B hB => by rw [h]; exact hr.bound B hB, (Step.heap h ha).tabs hr⟩

/-- A contract over worlds, at arguments and a result that hold no address: the heap is avl it was. -/
theorem PCall.of_calls {f : FuncId} {args : List AV} {r : AV} (ha : args.all sc = true) (hr : sc r = true)
    (h : ∀ w : World, Calls P f (args.map scv).toArray w fun e w' => e = .returned (scv r) ∧ w'.heap = w.heap ∧ Around w w') : PCall P f args r := by
  intro σ ρ I w vs hrs hv
  rw [scs_inv ha hv]
  refine (h w).mono ?_
  rintro e w' ⟨rfl, hh, ha⟩
  exact ⟨ρ, I, σ, .ret r, Step.heap hh ha, hrs.heap hh ha, sc_V _ _ _ _ hr, rfl, rfl⟩

/-- A contract over worlds that hold the program's tables; the heap may grow. -/
theorem PCall.of_callsT {f : FuncId} {args : List AV} {r : AV} (ha : args.all sc = true) (hr : sc r = true)
    (h : ∀ (w : World) (I : Nat → Prop), Tabs P I w → Calls P f (args.map scv).toArray w fun e w' => e = .returned (scv r) ∧ Below w.heap.size w w') : PCall P f args r := by
  intro σ ρ I w vs hrs hv
  rw [scs_inv ha hv]
  refine (h w I hrs.tabs).mono ?_
  rintro e w' ⟨rfl, hb⟩
  have hx : Ext w w' := ⟨hb.size, ⟨hb.os, hb.tape, hb.output⟩⟩
  exact ⟨ρ, I, σ, .ret r, Step.more hx hb.block, hrs.more hx hb.block, sc_V _ _ _ _ hr, rfl, rfl⟩

theorem PCall.of_calls' {f : FuncId} {args : List AV} {r : AV} (ha : args.all sc = true) (hr : sc r = true)
    (h : ∀ w : World, Calls P f (args.map scv).toArray w fun e w' => e = .returned (scv r) ∧ w' = w) : PCall P f args r :=
  .of_calls ha hr fun w => (h w).mono fun e w' ⟨h1, h2⟩ => ⟨h1, by rw [h2], h2 ▸ Around.refl w⟩
end
end Nv
