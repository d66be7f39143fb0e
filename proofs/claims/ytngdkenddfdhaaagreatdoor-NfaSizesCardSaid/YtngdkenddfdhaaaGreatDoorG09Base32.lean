/- Part of a proof about the functions of this seat. -/
import Derived.Test.YtngdkenddfdhaaaGreatDoorG08NvO
import Derived.Test.YtngdkenddfdhaaaGreatDoorProg
import Derived.KernelRfl
/- The rules by which the simplifier reckons in the abstract layer. -/

set_option linter.unusedVariables false
set_option linter.unusedSimpArgs false
namespace Nv
open Go
@[go_sem] theorem one_d_int (k:IntKind) (n:Int):(AV.d (.int k n)).one=true:=nrfl rfl
@[go_sem] theorem cellsV_d_int (k:IntKind) (n:Int):cellsV (.d (.int k n))=some [.d (.int k n)]:=nrfl rfl
@[go_sem] theorem toD_d_int (k:IntKind) (n:Int):toD (.d (.int k n))=some (.int k n):=nrfl rfl
@[go_sem] theorem cells_int (k:IntKind) (n:Int):(DV.cells (.int k n))=[.int k n]:=nrfl rfl
@[go_sem] theorem cellsV_d_bool (b:Bool):cellsV (.d (.bool b))=some [.d (.bool b)]:=nrfl rfl
@[go_sem] theorem toD_d_bool (b:Bool):toD (.d (.bool b))=some (.bool b):=nrfl rfl
@[go_sem] theorem cells_bool (b:Bool):(DV.cells (.bool b))=[.bool b]:=nrfl rfl
@[go_sem] theorem one_d_nilslice :(AV.d (.nilslice)).one=true:=nrfl rfl
@[go_sem] theorem cellsV_d_nilslice :cellsV (.d (.nilslice))=some [.d (.nilslice)]:=nrfl rfl
@[go_sem] theorem toD_d_nilslice :toD (.d (.nilslice))=some (.nilslice):=nrfl rfl
@[go_sem] theorem cells_nilslice :(DV.cells (.nilslice))=[.nilslice]:=nrfl rfl
@[go_sem] theorem one_d_list (e:Nat) (xs:List DV):(AV.d (.list e xs)).one=true:=nrfl rfl
@[go_sem] theorem cellsV_d_list (e:Nat) (xs:List DV):cellsV (.d (.list e xs))=some [.d (.list e xs)]:=nrfl rfl
@[go_sem] theorem cells_list (e:Nat) (xs:List DV):(DV.cells (.list e xs))=[.list e xs]:=nrfl rfl
@[go_sem] theorem cellsV_own (b g off n:Nat):cellsV (.own b g off n)=some [.own b g off n]:=nrfl rfl
@[go_sem] theorem one_rown (b g off n:Nat):(AV.rown b g off n).one=true:=nrfl rfl
@[go_sem] theorem cellsV_rown (b g off n:Nat):cellsV (.rown b g off n)=some [.rown b g off n]:=nrfl rfl
@[go_sem] theorem cellsV_agg (cs:List AV):cellsV (.agg cs)=if cs.all AV.one then some cs else none:=nrfl rfl
@[go_sem] theorem toD_agg (cs:List AV):toD (.agg cs)=(toDs cs).bind fun xs=>if cs.all AV.one then some (.agg xs) else none:=nrfl rfl
@[go_sem] theorem cells_agg (cs:List DV):DV.cells (.agg cs)=cs:=nrfl rfl
@[go_sem] theorem stGet_zero (b:Blk) (l:ST):stGet (b::l) 0=b:=nrfl rfl
@[go_sem] theorem stGet_succ (b:Blk) (l:ST) (n:Nat):stGet (b::l) (n+1)=stGet l n:=nrfl rfl
@[go_sem] theorem stSet_zero (b x:Blk) (l:ST):stSet (b::l) 0 x=x::l:=nrfl rfl
@[go_sem] theorem stSet_succ (b x:Blk) (l:ST) (n:Nat):stSet (b::l) (n+1) x=b::stSet l n x:=nrfl rfl
theorem stGet_left (l m:ST) (b:Nat) (h:b<l.length):stGet (l++m) b=stGet l b:=by simp [stGet,List.getD_eq_getElem?_getD,List.getElem?_append_left h]
theorem stSet_left (l m:ST) (b:Nat) (x:Blk) (h:b<l.length):stSet (l++m) b x=stSet l b x++m:=by simp [stSet,List.set_append_left _ _ h]
@[go_sem] theorem stGet_last (l:ST) (b:Blk):stGet (l++[b]) (List.length l)=b:=nrfl (by simp [stGet,List.getD_eq_getElem?_getD])
@[go_sem] theorem stSet_last (l:ST) (b x:Blk):stSet (l++[b]) (List.length l) x=l++[x]:=nrfl (by simp [stSet])
@[go_sem] theorem rLen_def (P:Program) (t:TypeId) (x:AV) (σ:ST):rLen P t x σ =
 (match P.underlying t,x with
 | some (.slice _),.d (.list _ xs)=>.ok (.d (.int .i64 (xs.length:Nat))) σ
 | some (.slice _),.d .nilslice=>.ok (.d (.int .i64 0)) σ
 | some (.slice _),.own b g off n =>
  match stGet σ b with
  | .arr g' _ _=>.need (g=g') (.ok (.d (.int .i64 (n:Nat))) σ)
  | _=>.bad
 | some (.slice _),.rown b g _ n=>rLenR b g n σ
 | some .string,.d (.str s)=>.ok (.d (.int .i64 (s.length:Nat))) σ
 | some (.array n _),_=>.ok (.d (.int .i64 (n:Nat))) σ
 | _,_=>.bad):=nrfl rfl
@[go_sem] theorem rConv_def (P:Program) (src dst:TypeId) (x:AV) (σ:ST):rConv P src dst x σ =
 (match P.underlying src,P.underlying dst,x with
 | some _,some (.int k),.d (.int _ n)=>.ok (.d (.int k (k.wrap n))) σ
 | some (.int _),some .string,.d (.int _ n)=>.ok (.d (.str (Utf8.encode n).data.toList)) σ
 | some .string,some .string,.d (.str s)=>.ok (.d (.str s)) σ
 | _,_,_=>.bad):=nrfl rfl
@[go_sem] theorem rRange_def (P:Program) (t:TypeId) (x:AV) (σ:ST):rRange P t x σ =
 (match P.underlying t,x with
 | some .string,.d (.str s)=>.ok (.itr σ.length) (σ++[.iter s 0])
 | _,_=>.bad):=nrfl rfl
@[go_sem] theorem rCvA_def (P:Program) (s d:TypeId) (x:AV) (σ:ST):rCvA P s d x σ =
 (match P.underlying s,P.underlying d,x with
 | some .string,some (.slice el),.d (.str t)=>rRunes P el t σ
 | _,_,x=>rCv P s d x σ):=nrfl rfl
@[go_sem] theorem rCv_def (P:Program) (s d:TypeId) (x:AV) (σ:ST):rCv P s d x σ =
 (match P.underlying s,P.underlying d,x with
 | some (.slice el),some .string,.d (.list 1 xs)=>rBytes P el xs σ
 | some (.slice el),some .string,.own b g off n =>
  match stGet σ b with
  | .arr g' e xs=>.need (g=g'∧e.n=1∧off+n≤xs.length) (rBytes P el ((xs.drop off).take n) σ)
  | _=>.bad
 | _,_,x=>rCv0 P s d x σ):=nrfl rfl
@[go_sem] theorem rBytes_def (P:Program) (el:TypeId) (xs:List DV) (σ:ST):rBytes P el xs σ =
 (match P.underlying el,bytesOf xs with
 | some (.int .u8),some s=>.ok (.d (.str s)) σ
 | _,_=>.bad):=nrfl rfl
@[go_sem] theorem rRunes_def (P:Program) (el:TypeId) (s:List UInt8) (σ:ST):rRunes P el s σ =
 (match P.underlying el with
 | some (.int .i32)=>.need (P.cellsOf el=1∧s.length≤70368744177664) (newArr σ 1 el (runesD s))
 | _=>.bad):=nrfl rfl
@[go_sem] theorem rConvU_def (P:Program) (s d:TypeId) (b o:Nat) (σ:ST):rConvU P s d b o σ =
 (match P.underlying s,P.underlying d with
 | some (.pointer t),some .unsafePointer=>match stGet σ b with
  | .box e cs=>.need (0<P.cellsOf t∧o<cs.length) (.ok (.ptr b o) σ)
  | _=>.bad
 | some .unsafePointer,some (.pointer u)=>match stGet σ b with
  | .box e cs=>.need (0<P.cellsOf u∧liesB P e cs.length o u=true) (.ok (.ptr b o) σ)
  | _=>.bad
 | _,_=>.bad):=nrfl rfl
@[go_sem] theorem rUSD_def (P:Program) (ty:TypeId) (x:AV) (σ:ST):rUSD P ty x σ =
 (match P.underlying ty,x with
 | some (.pointer _),.d .nilslice=>.ok .aptr σ
 | some (.pointer _),.own b g off n=>match stGet σ b with
  | .arr g' e xs=>.need (g=g') (bif Nat.beq n 0 then .ok .aptr σ else .ok (.eptr b g off 0) σ)
  | _=>.bad
 | _,_=>.bad):=nrfl rfl
@[go_sem] theorem rIface_def (P:Program) (t:TypeId) (x:AV) (σ:ST):rIface P t x σ =
 (match P.underlying t with
 | none | some (.interface _)=>.bad
 | _=>match x with
  | .d x=>.ok (.d (.iface t x)) σ
  | x=>.ok (.iface t x) σ):=nrfl rfl
@[go_sem] theorem rLoad_def (P:Program) (t:TypeId) (a:AV) (σ:ST):rLoad P t a σ =
 (match P.underlying t with
 | none=>.bad
 | some d =>
  .need (0<P.cellsOf t) (match a with
  | .ptr b o=>match stGet σ b with
   | .box _ cs=>bif aggD d then .need (o+P.cellsOf t≤cs.length) (.ok (.agg ((cs.drop o).take (P.cellsOf t))) σ) else .need (o<cs.length) (.ok (cs.getD o .any) σ)
   | _=>.bad
  | .iptr cs=>bif aggD d then .need (P.cellsOf t≤cs.length) (.ok (.agg ((cs.take (P.cellsOf t)).map .d)) σ) else .need (0<cs.length) (.ok (.d (cs.getD 0 default)) σ)
  | .eptr b g i o=>match stGet σ b with
   | .arr g' e xs=>.need (g=g'∧i<xs.length) (bif aggD d then .need (o+P.cellsOf t≤(xs.getD i default).cells.length) (.ok (.agg ((((xs.getD i default).cells.drop o).take (P.cellsOf t)).map .d)) σ)
     else .need (o<(xs.getD i default).cells.length) (.ok (.d ((xs.getD i default).cells.getD o default)) σ))
   | _=>.bad
  | .rptr b g i=>rLoadR d b g i σ
  | _=>.bad)):=nrfl rfl
@[go_sem] theorem rField_def (P:Program) (s f:Nat) (a:AV) (σ:ST):rField P s f a σ =
 (match fieldOff P s f with
 | none=>.bad
 | some (off,_)=>match a with
  | .ptr b o=>.ok (.ptr b (o+off)) σ
  | .iptr cs=>.ok (.iptr (cs.drop off)) σ
  | .eptr b g i o=>match stGet σ b with
   | .arr g' _ _=>.need (g=g') (.ok (.eptr b g i (o+off)) σ)
   | _=>.bad
  | _=>.bad):=nrfl rfl
@[go_sem] theorem rFieldV_def (P:Program) (s f:Nat) (a:AV) (σ:ST):rFieldV P s f a σ =
 (match fieldOff P s f,a with
 | some (off,t),.agg cs=>match P.underlying t with
  | none=>.bad
  | some d=>bif aggD d then .need (off+P.cellsOf t≤cs.length) (.ok (.agg ((cs.drop off).take (P.cellsOf t))) σ) else .need (off<cs.length) (.ok (cs.getD off .any) σ)
 | _,_=>.bad):=nrfl rfl
@[go_sem] theorem rIndex_def (P:Program) (t:Nat) (x i:AV) (σ:ST):rIndex P t x i σ =
 (match P.underlying t with
 | some (.slice el)=>match x,i with
  | .d (.list e xs),.d (.int k n)=>.need (e=P.cellsOf el∧0<e) (.need (0≤n∧n<xs.length) (.ok (.iptr (xs.getD n.toNat default).cells) σ))
  | .own b g off m,.d (.int k n)=>match stGet σ b with
   | .arr g' e xs=>.need (g=g'∧e.n=P.cellsOf el∧0<e.n) (.need (0≤n∧n<m) (.ok (.eptr b g (off+n.toNat) 0) σ))
   | _=>.bad
  | .rown b g off m,.d (.int _ n)=>rIndexR P el b g off m n σ
  | _,_=>.bad
 | some (.array len el)=>match x,i with
  | .ptr b o,.d (.int k n)=>.need (0<P.cellsOf el) (.need (0≤n∧n<len) (.ok (.ptr b (o+n.toNat * P.cellsOf el)) σ))
  | _,_=>.bad
 | _=>.bad):=nrfl rfl
@[go_sem] theorem rIndexV_def (P:Program) (t:Nat) (x i:AV) (σ:ST):rIndexV P t x i σ =
 (match P.underlying t,x,i with
 | some .string,.d (.str s),.d (.int _ n)=>.need (0≤n∧n<s.length) (.ok (.d (.int .u8 ((s.getD n.toNat 0).toNat:Nat))) σ)
 | some (.array len el),.agg cs,.d (.int _ n)=>.need (P.cellsOf el=1∧(P.underlying el).map aggD=some false∧len=cs.length) (.need (0≤n∧n<len) (.ok (cs.getD n.toNat .any) σ))
 | _,_,_=>.bad):=nrfl rfl
@[go_sem] theorem rSlice_def (P:Program) (t:Nat) (x:AV) (lo hi:Option AV) (σ:ST):rSlice P t x lo hi σ =
 (match P.underlying t with
 | some .string=>match x with
  | .d (.str s)=>match bnd lo 0,bnd hi (s.length:Nat) with
   | some l,some h=>.need (0≤l∧l≤h∧h≤s.length) (.ok (.d (.str ((s.take h.toNat).drop l.toNat))) σ)
   | _,_=>.bad
  | _=>.bad
 | some (.slice el)=>match x with
  | .d (.list e xs)=>match bnd lo 0,bnd hi (xs.length:Nat) with
   | some l,some h=>.need (e=P.cellsOf el∧0<e) (.need (0≤l∧l≤h∧h≤xs.length) (.ok (.d (.list e ((xs.take h.toNat).drop l.toNat))) σ))
   | _,_=>.bad
  | .d .nilslice=>match bnd lo 0,bnd hi 0 with
   | some l,some h=>.need (0<P.cellsOf el) (.need (l=0∧h=0) (.ok (.d .nilslice) σ))
   | _,_=>.bad
  | .own b g off n=>match stGet σ b with
   | .arr g' e xs=>match bnd lo 0,bnd hi (n:Nat) with
    | some l,some h=>.need (g=g'∧e.n=P.cellsOf el∧0<e.n) (.need (0≤l∧l≤h∧h≤n) (.ok (.own b g (off+l.toNat) (h.toNat - l.toNat)) σ))
    | _,_=>.bad
   | _=>.bad
  | _=>.bad
 | _=>.bad):=nrfl rfl
@[go_sem] theorem rBox_def (t:Nat) (x:AV) (σ:ST):rBox t x σ =
 (match cellsV x with
 | some cs=>.ok (.ptr σ.length 0) (σ++[.box t cs])
 | none=>.bad):=nrfl rfl
@[go_sem] theorem rStore_def (P:Program) (t:TypeId) (a x:AV) (σ:ST):rStore P t a x σ =
 (match cellsV x with
 | none=>.bad
 | some []=>match a with
  | .ptr b _=>match stGet σ b with
   | .box _ _=>.need ((P.info? t).map (·.size)=some 0) (.ok .any σ)
   | _=>.bad
  | _=>.bad
 | some vs=>.need (vs.length=P.cellsOf t∧0<vs.length) (match a with
  | .ptr b o=>match stGet σ b with
   | .box t' cs=>.need (o+vs.length≤cs.length) (.ok .any (stSet σ b (.box t' (splice cs o vs))))
   | _=>.bad
  | .eptr b g i o=>match stGet σ b,toDs vs with
   | .arr g' e xs,some ds=>.need (g=g'∧i<xs.length∧o+vs.length≤e) (.ok .any (stSet σ b (.arr g' e (xs.set i (dvSet (xs.getD i default) o ds)))))
   | _,_=>.bad
  | .rptr b g i=>rStoreR b g i vs σ
  | _=>.bad)):=nrfl rfl
@[go_sem] theorem rBuildSlice_def (P:Program) (t:TypeId) (len:Nat) (parts:List (Nat × AV)) (σ:ST):rBuildSlice P t len parts σ =
 (match P.underlying t with
 | some (.slice el)=>.need (0<P.cellsOf el∧zeroA P el≠.any∧len * P.cellsOf el≤16777216) (match dsOf (P.cellsOf el) 0 parts with
  | some ds=>.need (len=ds.length) (newArr σ (P.cellsOf el) el ds)
  | none=>.bad)
 | _=>.bad):=nrfl rfl
@[go_sem] theorem rBuild_def (P:Program) (t:TypeId) (parts:List (Nat × AV)) (σ:ST):rBuild P t parts σ =
 (match structPlaces P t,zeroA P t with
 | some pl,.agg zs=>match fillA pl zs parts with
  | some cs=>.ok (.agg cs) σ
  | none=>.bad
 | _,_=>.bad):=nrfl rfl
@[go_sem] theorem rAppend_def (P:Program) (t xt:TypeId) (s x:AV) (σ:ST):rAppend P t xt s x σ =
 (match P.underlying t,P.underlying xt with
 | some (.slice el),some d=>.need (0<P.cellsOf el∧(cellsV (zeroA P el)).map List.length=some (P.cellsOf el)) (match elems ⟨P.cellsOf el,el⟩ s σ,srcElems d ⟨P.cellsOf el,el⟩ x σ with
  | some xs,some ys=>.need (0<P.bytesOf el∧(xs.length+ys.length) * P.bytesOf el≤140737488355328) (match s with
   | .d .nilslice=>newArr σ (P.cellsOf el) el ys
   | .own b g off n=>.ok (.own b (g+1) 0 (xs.length+ys.length)) (stSet σ b (.arr (g+1) ⟨P.cellsOf el,el⟩ (xs++ys)))
   | _=>.bad)
  | none,some ys=>rAppendR P el s ys σ
  | _,_=>.bad)
 | _,_=>.bad):=nrfl rfl
@[go_sem] theorem rMake_def (P:Program) (t:TypeId) (l c:AV) (σ:ST):rMake P t l c σ =
 (match P.underlying t,l,c,toD (match P.underlying t with | some (.slice el)=>zeroA P el | _=>.any) with
 | some (.slice el),.d (.int _ l),.d (.int _ c),some z =>
  .need (0<P.cellsOf el∧z.cells.length=P.cellsOf el∧0<P.bytesOf el) (.need (0≤l∧l≤c∧c * P.bytesOf el≤140737488355328) (newArr σ (P.cellsOf el) el (List.replicate l.toNat z)))
 | _,_,_,_=>.bad):=nrfl rfl
variable {P:Program}
attribute [go_sem] splice dvSet
attribute [go_sem] cond_true cond_false List.all_cons List.all_nil Bool.and_true Bool.true_and Bool.and_false Bool.false_and Bool.or_true Bool.true_or Bool.or_false Bool.false_or Bool.not_true Bool.not_false
 List.nil_append List.cons_append List.append_nil List.length_cons List.length_nil List.drop_zero List.drop_succ_cons List.take_zero List.take_succ_cons List.take_nil List.drop_nil
 List.getD_cons_zero List.getD_cons_succ List.map_cons List.map_nil Option.map_some Option.map_none Option.bind_some Option.bind_none List.getElem?_cons_zero List.getElem?_cons_succ
 if_true if_false true_and and_true and_self eq_self Bool.false_eq_true Option.some.injEq not_true_eq_false not_false_eq_true false_and and_false ne_eq reduceCtorEq
 List.length_map Int.toNat_natCast Int.toNat_zero List.set_cons_zero List.set_cons_succ implies_true decide_true decide_false Nat.lt_irrefl
theorem getD_map {α:Type} [Inhabited α] (f:α→DV) (l:List α) (n:Nat) (h:n<l.length):(l.map f).getD n default=f (l.getD n default):=by
 simp [List.getD_eq_getElem?_getD,h]
theorem drop_getD {α:Type} [Inhabited α] (l:List α) (n:Nat) (h:n<l.length):l.drop n=l.getD n default::l.drop (n+1):=by
 rw [List.drop_eq_getElem_cons h];simp [List.getD_eq_getElem?_getD,h]
theorem cast0:((0:Nat):Int)=0:=by omega
theorem cast1 (k:Nat):(k:Int)+1=((k+1:Nat):Int):=by omega
theorem cast2 (k:Nat):(k:Int)+2=((k+2:Nat):Int):=by omega
theorem zero_le_cast (k:Nat):((0:Int)≤(k:Int))=True:=by simp
theorem wrap_i32 {n:Int} (h1:-2147483648≤n) (h2:n<2147483648):IntKind.i32.wrap n=n:=by
 have e1:(2:Int) ^ 32=4294967296:=by decide
 have e2:(2:Int) ^ (32 - 1)=2147483648:=by decide
 simp only [IntKind.wrap,IntKind.bits,IntKind.signed,Bool.true_and,e1,e2,decide_eq_true_eq,ge_iff_le]
 split <;> omega
theorem wrap_u8 {n:Int} (h1:0≤n) (h2:n<256):IntKind.u8.wrap n=n:=by
 have e1:(2:Int) ^ 8=256:=by decide
 simp only [IntKind.wrap,IntKind.bits,IntKind.signed,Bool.false_and,e1,if_false,Bool.false_eq_true]
 omega
attribute [go_sem] wrap_i32 wrap_u8 getD_map cast0 cast1 cast2 zero_le_cast wrap_id Int.ofNat_lt Int.ofNat_le Int.ofNat_inj
theorem apR:(∀ a b c:ST,a++b++c=a++(b++c))∧(∀ (x:Blk) (a b:ST),x::a++b=x::(a++b))∧(∀ a:ST,[]++a=a)∧(∀ a b:ST,List.length (a++b)=a.length+b.length) ∧
  (∀ (l m:ST) (k:Nat),stGet (l++m) (List.length l+k)=stGet m k)∧(∀ l m:ST,stGet (l++m) (List.length l)=stGet m 0)∧(∀ (l m:ST) (k:Nat) (x:Blk),stSet (l++m) (List.length l+k) x=l++stSet m k x) ∧
  (∀ (l m:ST) (x:Blk),stSet (l++m) (List.length l) x=l++stSet m 0 x):=by
 refine ⟨List.append_assoc,fun x a b=>List.cons_append,List.nil_append,fun a b=>List.length_append,fun l m k=>?_,fun l m=>?_,fun l m k x=>?_,fun l m x=>?_⟩
 ·simp [stGet,List.getD_eq_getElem?_getD,List.getElem?_append_right]
 ·simp [stGet,List.getD_eq_getElem?_getD,List.getElem?_append_right]
 ·simp [stSet]
 ·simp [stSet]
attribute [go_sem] reduceIte reduceDIte reduceCtorEq Nat.reduceBEq Nat.reduceEqDiff Nat.reduceAdd Nat.reduceSub Nat.reduceMul Nat.reduceLT Nat.reduceLeDiff Nat.reduceBNe Int.reduceNeg Int.reduceAdd Int.reduceSub Int.reduceMul Int.reduceLT Int.reduceLE Int.reduceGT Int.reduceGE Int.reduceEq Int.reduceNe Int.reduceToNat Int.reduceTMod Int.reduceTDiv
end Nv
/- Facts on the types of this seat's program,and the prepared code of its functions. Written by a program of mine (gen.py) out of what the loaded dump prints. -/



set_option linter.unusedVariables false
set_option maxRecDepth 100000
namespace Go.Proofs.YtngdkenddfdhaaaGreatDoor
open Go Nv
attribute [go_sem] Tryz.underlying0 Tryz.underlying1 Tryz.underlying2 Tryz.underlying3 Tryz.underlying4 Tryz.underlying5 Tryz.underlying6 Tryz.underlying7 Tryz.underlying8 Tryz.underlying9 Tryz.underlying10 Tryz.underlying11 Tryz.underlying12 Tryz.underlying13 Tryz.underlying14 Tryz.underlying15 Tryz.underlying16 Tryz.underlying17 Tryz.underlying18 Tryz.underlying19 Tryz.underlying20 Tryz.underlying21 Tryz.underlying22 Tryz.underlying23 Tryz.underlying24 Tryz.underlying25 Tryz.underlying26 Tryz.underlying27 Tryz.underlying28 Tryz.underlying29 Tryz.underlying30 Tryz.underlying31 Tryz.underlying32 Tryz.underlying33 Tryz.underlying34 Tryz.underlying35 Tryz.underlying36 Tryz.underlying37 Tryz.underlying38 Tryz.underlying39 Tryz.underlying40 Tryz.underlying41 Tryz.underlying42 Tryz.underlying43 Tryz.underlying44 Tryz.underlying45 Tryz.underlying46 Tryz.underlying47 Tryz.underlying48 Tryz.underlying49 Tryz.underlying50 Tryz.underlying51 Tryz.underlying52 Tryz.underlying53 Tryz.underlying54 Tryz.underlying55 Tryz.underlying56 Tryz.underlying57 Tryz.underlying58 Tryz.underlying59 Tryz.underlying60 Tryz.underlying61 Tryz.underlying62 Tryz.underlying63 Tryz.underlying64 Tryz.underlying65 Tryz.underlying66 Tryz.underlying67 Tryz.underlying68 Tryz.underlying69 Tryz.underlying70 Tryz.underlying71 Tryz.underlying72 Tryz.underlying73 Tryz.underlying74 Tryz.underlying75 Tryz.underlying76 Tryz.underlying77 Tryz.underlying78 Tryz.underlying79 Tryz.underlying80 Tryz.underlying81 Tryz.underlying82 Tryz.underlying83 Tryz.underlying84 Tryz.underlying85 Tryz.underlying86 Tryz.underlying87 Tryz.underlying88 Tryz.underlying89 Tryz.underlying90 Tryz.underlying91 Tryz.underlying92 Tryz.underlying93 Tryz.underlying94 Tryz.underlying95 Tryz.underlying96 Tryz.underlying97 Tryz.underlying98 Tryz.underlying99 Tryz.underlying100 Tryz.underlying101 Tryz.underlying102 Tryz.underlying103 Tryz.underlying104 Tryz.underlying105 Tryz.underlying106 Tryz.underlying107 Tryz.underlying108 Tryz.underlying109 Tryz.underlying110 Tryz.underlying111 Tryz.underlying112 Tryz.underlying113 Tryz.underlying114 Tryz.underlying115 Tryz.underlying116 Tryz.underlying117 Tryz.underlying118 Tryz.underlying119 Tryz.underlying120 Tryz.underlying121 Tryz.underlying122 Tryz.underlying123 Tryz.underlying124 Tryz.underlying125 Tryz.underlying126 Tryz.underlying127 Tryz.underlying128 Tryz.underlying129 Tryz.underlying130 Tryz.underlying131 Tryz.underlying132 Tryz.underlying133 Tryz.underlying134 Tryz.underlying135 Tryz.underlying136 Tryz.underlying137 Tryz.underlying138 Tryz.underlying139 Tryz.underlying140 Tryz.underlying141 Tryz.underlying142 Tryz.underlying143 Tryz.underlying144 Tryz.underlying145 Tryz.underlying146 Tryz.underlying147 Tryz.underlying148 Tryz.underlying149 Tryz.underlying150 Tryz.underlying151 Tryz.underlying152 Tryz.underlying153 Tryz.underlying154 Tryz.underlying155 Tryz.underlying156 Tryz.underlying157 Tryz.underlying158 Tryz.underlying159 Tryz.underlying160 Tryz.underlying161 Tryz.underlying162 Tryz.underlying163
@[go_sem] theorem c3:Tryz.prog.cellsOf 3=1:=nrfl (by kernel_rfl)
@[go_sem] theorem by3:Tryz.prog.bytesOf 3=8:=nrfl (by kernel_rfl)
@[go_sem] theorem z3:zeroA Tryz.prog 3=(.d (.int .i64 0)):=nrfl (by kernel_rfl)
@[go_sem] theorem c4:Tryz.prog.cellsOf 4=1:=nrfl (by kernel_rfl)
@[go_sem] theorem by4:Tryz.prog.bytesOf 4=1:=nrfl (by kernel_rfl)
@[go_sem] theorem z4:zeroA Tryz.prog 4=(.d (.bool false)):=nrfl (by kernel_rfl)
@[go_sem] theorem c5:Tryz.prog.cellsOf 5=1:=nrfl (by kernel_rfl)
@[go_sem] theorem c21:Tryz.prog.cellsOf 21=1:=nrfl (by kernel_rfl)
@[go_sem] theorem by21:Tryz.prog.bytesOf 21=4:=nrfl (by kernel_rfl)
@[go_sem] theorem z21:zeroA Tryz.prog 21=(.d (.int .i32 0)):=nrfl (by kernel_rfl)
@[go_sem] theorem c22:Tryz.prog.cellsOf 22=1:=nrfl (by kernel_rfl)
@[go_sem] theorem c23:Tryz.prog.cellsOf 23=1:=nrfl (by kernel_rfl)
@[go_sem] theorem c25:Tryz.prog.cellsOf 25=5:=nrfl (by kernel_rfl)
@[go_sem] theorem by25:Tryz.prog.bytesOf 25=72:=nrfl (by kernel_rfl)
@[go_sem] theorem z25:zeroA Tryz.prog 25=(.agg [(.d (.int .i64 0)),(.d .nilslice),(.d .nilslice),(.d (.int .i64 0)),(.d (.int .i64 0))]):=nrfl (by kernel_rfl)
@[go_sem] theorem sp25:structPlaces Tryz.prog 25=some [(0,1),(1,1),(2,1),(3,1),(4,1)]:=nrfl (by kernel_rfl)
@[go_sem] theorem fo25_0:fieldOff Tryz.prog 25 0=some (0,3):=by kernel_rfl
@[go_sem] theorem fo25_1:fieldOff Tryz.prog 25 1=some (1,22):=by kernel_rfl
@[go_sem] theorem fo25_2:fieldOff Tryz.prog 25 2=some (2,23):=by kernel_rfl
@[go_sem] theorem fo25_3:fieldOff Tryz.prog 25 3=some (3,3):=by kernel_rfl
@[go_sem] theorem fo25_4:fieldOff Tryz.prog 25 4=some (4,3):=by kernel_rfl
@[go_sem] theorem c28:Tryz.prog.cellsOf 28=1:=nrfl (by kernel_rfl)
@[go_sem] theorem c29:Tryz.prog.cellsOf 29=1:=nrfl (by kernel_rfl)
@[go_sem] theorem c31:Tryz.prog.cellsOf 31=4:=nrfl (by kernel_rfl)
@[go_sem] theorem z31:zeroA Tryz.prog 31=(.agg [(.d (.int .i64 0)),(.d (.int .i64 0)),(.d .nilslice),(.d .nilslice)]):=nrfl (by kernel_rfl)
@[go_sem] theorem sp31:structPlaces Tryz.prog 31=some [(0,1),(1,1),(2,1),(3,1)]:=nrfl (by kernel_rfl)
@[go_sem] theorem fo31_0:fieldOff Tryz.prog 31 0=some (0,3):=by kernel_rfl
@[go_sem] theorem fo31_1:fieldOff Tryz.prog 31 1=some (1,3):=by kernel_rfl
@[go_sem] theorem fo31_2:fieldOff Tryz.prog 31 2=some (2,28):=by kernel_rfl
@[go_sem] theorem fo31_3:fieldOff Tryz.prog 31 3=some (3,29):=by kernel_rfl
@[go_sem] theorem c32:Tryz.prog.cellsOf 32=1:=nrfl (by kernel_rfl)
@[go_sem] theorem z32:zeroA Tryz.prog 32=(.d (.int .i64 0)):=nrfl (by kernel_rfl)
@[go_sem] theorem z48:zeroA Tryz.prog 48=(.agg [(.d .nilslice),(.d .nilslice)]):=nrfl (by kernel_rfl)
@[go_sem] theorem sp48:structPlaces Tryz.prog 48=some [(0,1),(1,1)]:=nrfl (by kernel_rfl)
@[go_sem] theorem fo48_0:fieldOff Tryz.prog 48 0=some (0,28):=by kernel_rfl
@[go_sem] theorem fo48_1:fieldOff Tryz.prog 48 1=some (1,29):=by kernel_rfl
@[go_sem] theorem c51:Tryz.prog.cellsOf 51=1:=nrfl (by kernel_rfl)
@[go_sem] theorem by51:Tryz.prog.bytesOf 51=24:=nrfl (by kernel_rfl)
@[go_sem] theorem z51:zeroA Tryz.prog 51=(.d .nilslice):=nrfl (by kernel_rfl)
@[go_sem] theorem c55:Tryz.prog.cellsOf 55=1:=nrfl (by kernel_rfl)
@[go_sem] theorem by55:Tryz.prog.bytesOf 55=24:=nrfl (by kernel_rfl)
@[go_sem] theorem z55:zeroA Tryz.prog 55=(.d .nilslice):=nrfl (by kernel_rfl)
@[go_sem] theorem c57:Tryz.prog.cellsOf 57=2:=nrfl (by kernel_rfl)
@[go_sem] theorem by57:Tryz.prog.bytesOf 57=8:=nrfl (by kernel_rfl)
@[go_sem] theorem z57:zeroA Tryz.prog 57=(.agg [(.d (.int .i32 0)),(.d (.int .i32 0))]):=nrfl (by kernel_rfl)
@[go_sem] theorem sp57:structPlaces Tryz.prog 57=some [(0,1),(1,1)]:=nrfl (by kernel_rfl)
@[go_sem] theorem fo57_0:fieldOff Tryz.prog 57 0=some (0,21):=by kernel_rfl
@[go_sem] theorem fo57_1:fieldOff Tryz.prog 57 1=some (1,21):=by kernel_rfl
@[go_sem] theorem c59:Tryz.prog.cellsOf 59=3:=nrfl (by kernel_rfl)
@[go_sem] theorem by59:Tryz.prog.bytesOf 59=16:=nrfl (by kernel_rfl)
@[go_sem] theorem z59:zeroA Tryz.prog 59=(.agg [(.d (.int .i32 0)),(.d (.int .i32 0)),(.d (.int .i64 0))]):=nrfl (by kernel_rfl)
@[go_sem] theorem sp59:structPlaces Tryz.prog 59=some [(0,2),(2,1)]:=nrfl (by kernel_rfl)
@[go_sem] theorem fo59_0:fieldOff Tryz.prog 59 0=some (0,57):=by kernel_rfl
@[go_sem] theorem fo59_1:fieldOff Tryz.prog 59 1=some (2,3):=by kernel_rfl
@[go_sem] theorem c62:Tryz.prog.cellsOf 62=1:=nrfl (by kernel_rfl)
@[go_sem] theorem c71:Tryz.prog.cellsOf 71=1:=nrfl (by kernel_rfl)
@[go_sem] theorem z71:zeroA Tryz.prog 71=(.d .nilslice):=nrfl (by kernel_rfl)
@[go_sem] theorem z74:zeroA Tryz.prog 74=(.agg []):=nrfl (by kernel_rfl)
@[go_sem] theorem sp74:structPlaces Tryz.prog 74=some []:=nrfl (by kernel_rfl)
@[go_sem] theorem z78:zeroA Tryz.prog 78=(.agg [(.d .nilslice),(.d (.int .i64 0))]):=nrfl (by kernel_rfl)
@[go_sem] theorem sp78:structPlaces Tryz.prog 78=some [(0,1),(1,1)]:=nrfl (by kernel_rfl)
@[go_sem] theorem fo78_0:fieldOff Tryz.prog 78 0=some (0,62):=by kernel_rfl
@[go_sem] theorem fo78_1:fieldOff Tryz.prog 78 1=some (1,3):=by kernel_rfl
@[go_sem] theorem c97:Tryz.prog.cellsOf 97=4:=nrfl (by kernel_rfl)
@[go_sem] theorem z97:zeroA Tryz.prog 97=(.agg [(.d (.int .i32 0)),(.d (.int .i64 0)),(.d (.int .u8 0)),(.d (.int .u8 0))]):=nrfl (by kernel_rfl)
@[go_sem] theorem sp97:structPlaces Tryz.prog 97=some [(0,1),(1,1),(2,1),(3,1)]:=nrfl (by kernel_rfl)
@[go_sem] theorem fo97_0:fieldOff Tryz.prog 97 0=some (0,21):=by kernel_rfl
@[go_sem] theorem fo97_1:fieldOff Tryz.prog 97 1=some (1,3):=by kernel_rfl
@[go_sem] theorem fo97_2:fieldOff Tryz.prog 97 2=some (2,5):=by kernel_rfl
@[go_sem] theorem fo97_3:fieldOff Tryz.prog 97 3=some (3,5):=by kernel_rfl
theorem foll:Tryz.prog.follows .mixedOrders=true:=by kernel_rfl
@[go_sem] theorem pf7:plainFn Tryz.prog 7=true:=nrfl (by kernel_rfl)
@[go_sem] theorem pf8:plainFn Tryz.prog 8=true:=nrfl (by kernel_rfl)
@[go_sem] theorem pf9:plainFn Tryz.prog 9=true:=nrfl (by kernel_rfl)
@[go_sem] theorem pf12:plainFn Tryz.prog 12=true:=nrfl (by kernel_rfl)
@[go_sem] theorem pf13:plainFn Tryz.prog 13=true:=nrfl (by kernel_rfl)
@[go_sem] theorem pf14:plainFn Tryz.prog 14=true:=nrfl (by kernel_rfl)
@[go_sem] theorem pf16:plainFn Tryz.prog 16=true:=nrfl (by kernel_rfl)
@[go_sem] theorem pf17:plainFn Tryz.prog 17=true:=nrfl (by kernel_rfl)
@[go_sem] theorem pf19:plainFn Tryz.prog 19=true:=nrfl (by kernel_rfl)
@[go_sem] theorem pf20:plainFn Tryz.prog 20=true:=nrfl (by kernel_rfl)
@[go_sem] theorem pf21:plainFn Tryz.prog 21=true:=nrfl (by kernel_rfl)
@[go_sem] theorem pf22:plainFn Tryz.prog 22=true:=nrfl (by kernel_rfl)
@[go_sem] theorem pf23:plainFn Tryz.prog 23=true:=nrfl (by kernel_rfl)
@[go_sem] theorem pf24:plainFn Tryz.prog 24=true:=nrfl (by kernel_rfl)
@[go_sem] theorem pf25:plainFn Tryz.prog 25=true:=nrfl (by kernel_rfl)
@[go_sem] theorem pf26:plainFn Tryz.prog 26=true:=nrfl (by kernel_rfl)
@[go_sem] theorem pf29:plainFn Tryz.prog 29=true:=nrfl (by kernel_rfl)
@[go_sem] theorem pf30:plainFn Tryz.prog 30=true:=nrfl (by kernel_rfl)
@[go_sem] theorem pf31:plainFn Tryz.prog 31=true:=nrfl (by kernel_rfl)
@[go_sem] theorem pf32:plainFn Tryz.prog 32=true:=nrfl (by kernel_rfl)
@[go_sem] theorem pf33:plainFn Tryz.prog 33=true:=nrfl (by kernel_rfl)
@[go_sem] theorem pf34:plainFn Tryz.prog 34=true:=nrfl (by kernel_rfl)
@[go_sem] theorem pf35:plainFn Tryz.prog 35=true:=nrfl (by kernel_rfl)
@[go_sem] theorem pf36:plainFn Tryz.prog 36=true:=nrfl (by kernel_rfl)
@[go_sem] theorem pf37:plainFn Tryz.prog 37=true:=nrfl (by kernel_rfl)
@[go_sem] theorem pf38:plainFn Tryz.prog 38=true:=nrfl (by kernel_rfl)
@[go_sem] theorem pf40:plainFn Tryz.prog 40=true:=nrfl (by kernel_rfl)
@[go_sem] theorem pf41:plainFn Tryz.prog 41=true:=nrfl (by kernel_rfl)
@[go_sem] theorem pf43:plainFn Tryz.prog 43=true:=nrfl (by kernel_rfl)
@[go_sem] theorem pf44:plainFn Tryz.prog 44=true:=nrfl (by kernel_rfl)
@[go_sem] theorem pf45:plainFn Tryz.prog 45=true:=nrfl (by kernel_rfl)
@[go_sem] theorem pf46:plainFn Tryz.prog 46=true:=nrfl (by kernel_rfl)
@[go_sem] theorem pf47:plainFn Tryz.prog 47=true:=nrfl (by kernel_rfl)
@[go_sem] theorem pf48:plainFn Tryz.prog 48=true:=nrfl (by kernel_rfl)
@[go_sem] theorem pf49:plainFn Tryz.prog 49=true:=nrfl (by kernel_rfl)
@[go_sem] theorem pf50:plainFn Tryz.prog 50=true:=nrfl (by kernel_rfl)
@[go_sem] theorem pf51:plainFn Tryz.prog 51=true:=nrfl (by kernel_rfl)
@[go_sem] theorem pf52:plainFn Tryz.prog 52=true:=nrfl (by kernel_rfl)
@[go_sem] theorem pf55:plainFn Tryz.prog 55=true:=nrfl (by kernel_rfl)
@[go_sem] theorem pf57:plainFn Tryz.prog 57=true:=nrfl (by kernel_rfl)
@[go_sem] theorem pf58:plainFn Tryz.prog 58=true:=nrfl (by kernel_rfl)
@[go_sem] theorem pf59:plainFn Tryz.prog 59=true:=nrfl (by kernel_rfl)
@[go_sem] theorem pf64:plainFn Tryz.prog 64=true:=nrfl (by kernel_rfl)
@[go_sem] theorem pf65:plainFn Tryz.prog 65=true:=nrfl (by kernel_rfl)
@[go_sem] theorem pf66:plainFn Tryz.prog 66=true:=nrfl (by kernel_rfl)
@[go_sem] theorem pf67:plainFn Tryz.prog 67=true:=nrfl (by kernel_rfl)
@[go_sem] theorem pf77:plainFn Tryz.prog 77=true:=nrfl (by kernel_rfl)
@[go_sem] theorem pf78:plainFn Tryz.prog 78=true:=nrfl (by kernel_rfl)
@[go_sem] theorem pf80:plainFn Tryz.prog 80=true:=nrfl (by kernel_rfl)
@[go_sem] theorem pf81:plainFn Tryz.prog 81=true:=nrfl (by kernel_rfl)
@[go_sem] theorem pf88:plainFn Tryz.prog 88=true:=nrfl (by kernel_rfl)
@[go_sem] theorem pf89:plainFn Tryz.prog 89=true:=nrfl (by kernel_rfl)
@[go_sem] theorem pf90:plainFn Tryz.prog 90=true:=nrfl (by kernel_rfl)
@[go_sem] theorem pf92:plainFn Tryz.prog 92=true:=nrfl (by kernel_rfl)
@[go_sem] theorem pf93:plainFn Tryz.prog 93=true:=nrfl (by kernel_rfl)
@[go_sem] theorem pf94:plainFn Tryz.prog 94=true:=nrfl (by kernel_rfl)
@[go_sem] theorem pf95:plainFn Tryz.prog 95=true:=nrfl (by kernel_rfl)
@[go_sem] theorem pf96:plainFn Tryz.prog 96=true:=nrfl (by kernel_rfl)
@[go_sem] theorem pf97:plainFn Tryz.prog 97=true:=nrfl (by kernel_rfl)
@[go_sem] theorem pf98:plainFn Tryz.prog 98=true:=nrfl (by kernel_rfl)
@[go_sem] theorem pf99:plainFn Tryz.prog 99=true:=nrfl (by kernel_rfl)
@[go_sem] theorem pf101:plainFn Tryz.prog 101=true:=nrfl (by kernel_rfl)
theorem fn19:FnIs Tryz.prog 19 1 [Go.ResultVar.tmp 2] (.seq (.region [⟨some 1,Go.Op.box 25 (Go.Operand.tmp 0),0,none⟩,
   ⟨some 2,Go.Op.assign (Go.Operand.const (Go.Value.bool false)),4,none⟩])
  (.seq (.region [⟨some 3,Go.Op.load 25 (Go.Operand.tmp 1),25,none⟩,
   ⟨some 4,Go.Op.call { callee:=Go.Callee.value (Go.Operand.func 29),args:=#[Go.Operand.tmp 3,Go.Operand.const (Go.Value.int Go.IntKind.i64 300)],argTypes:=#[25,3] },3,none⟩,
   ⟨some 5,Go.Op.binOp Go.BinOp.gtr 3 (Go.Operand.tmp 4) (Go.Operand.const (Go.Value.int Go.IntKind.i64 200)) 3,4,none⟩,
   ⟨some 6,Go.Op.move (Go.Operand.tmp 5),4,none⟩,
   ⟨some 7,Go.Op.load 25 (Go.Operand.tmp 1),25,(some (6,false))⟩,
   ⟨some 8,Go.Op.call { callee:=Go.Callee.value (Go.Operand.func 40),args:=#[Go.Operand.tmp 7],argTypes:=#[25] },4,(some (6,false))⟩,
   ⟨some 9,Go.Op.pick (Go.Operand.tmp 6) (Go.Operand.const (Go.Value.bool true)) (Go.Operand.tmp 8),4,none⟩,
   ⟨some 2,Go.Op.assign (Go.Operand.tmp 9),4,none⟩])
  .ret)) :=
 ⟨foll,Tryz.f19,Tryz.func19,by kernel_rfl,by kernel_rfl,by kernel_rfl,by rw [Tryz.ntmps19];decide⟩
theorem fn23:FnIs Tryz.prog 23 1 [Go.ResultVar.tmp 2] (.seq (.region [⟨some 1,Go.Op.box 25 (Go.Operand.tmp 0),0,none⟩,
   ⟨some 2,Go.Op.assign (Go.Operand.const (Go.Value.int Go.IntKind.i64 0)),32,none⟩])
  (.seq (.seq (.region [⟨some 3,Go.Op.load 25 (Go.Operand.tmp 1),25,none⟩,
   ⟨some 4,Go.Op.call { callee:=Go.Callee.value (Go.Operand.func 45),args:=#[Go.Operand.tmp 3,Go.Operand.const (Go.Value.int Go.IntKind.i64 120)],argTypes:=#[25,3] },3,none⟩,
   ⟨some 5,Go.Op.binOp Go.BinOp.gtr 3 (Go.Operand.tmp 4) (Go.Operand.const (Go.Value.int Go.IntKind.i64 120)) 3,4,none⟩])
  (.cond (Go.Operand.tmp 5)
   (.seq (.region [⟨some 2,Go.Op.assign (Go.Operand.const (Go.Value.int Go.IntKind.i64 5)),32,none⟩])
   .ret)
   .skip))
  (.seq (.region [⟨some 6,Go.Op.load 25 (Go.Operand.tmp 1),25,none⟩,
   ⟨some 7,Go.Op.call { callee:=Go.Callee.value (Go.Operand.func 46),args:=#[Go.Operand.tmp 6],argTypes:=#[25] },32,none⟩,
   ⟨some 2,Go.Op.assign (Go.Operand.tmp 7),32,none⟩])
  .ret))) :=
 ⟨foll,Tryz.f23,Tryz.func23,by kernel_rfl,by kernel_rfl,by kernel_rfl,by rw [Tryz.ntmps23];decide⟩
theorem fn29:FnIs Tryz.prog 29 2 [Go.ResultVar.tmp 4] (.seq (.region [⟨some 2,Go.Op.box 25 (Go.Operand.tmp 0),0,none⟩,
   ⟨some 4,Go.Op.assign (Go.Operand.const (Go.Value.int Go.IntKind.i64 0)),3,none⟩])
  (.seq (.region [⟨some 5,Go.Op.assign (Go.Operand.const (Go.Value.int Go.IntKind.i64 1)),3,none⟩])
  (.seq (.seq (.region [⟨some 6,Go.Op.assign (Go.Operand.const (Go.Value.int Go.IntKind.i64 0)),3,none⟩])
  (.block 0
   (.loop
    (.seq (.seq (.region [⟨some 7,Go.Op.move (Go.Operand.tmp 6),3,none⟩,
     ⟨some 8,Go.Op.fieldAddr 25 (Go.Operand.tmp 2) 2,0,none⟩,
     ⟨some 9,Go.Op.load 23 (Go.Operand.tmp 8),23,none⟩,
     ⟨some 10,Go.Op.call { callee:=Go.Callee.builtin Go.Builtin.len,args:=#[Go.Operand.tmp 9],argTypes:=#[23] },3,none⟩,
     ⟨some 11,Go.Op.binOp Go.BinOp.lss 3 (Go.Operand.tmp 7) (Go.Operand.tmp 10) 3,4,none⟩,
     ⟨some 12,Go.Op.move (Go.Operand.tmp 11),4,none⟩,
     ⟨some 13,Go.Op.move (Go.Operand.tmp 5),3,(some (12,true))⟩,
     ⟨some 14,Go.Op.move (Go.Operand.tmp 1),3,(some (12,true))⟩,
     ⟨some 15,Go.Op.binOp Go.BinOp.lss 3 (Go.Operand.tmp 13) (Go.Operand.tmp 14) 3,4,(some (12,true))⟩,
     ⟨some 16,Go.Op.pick (Go.Operand.tmp 12) (Go.Operand.tmp 15) (Go.Operand.const (Go.Value.bool false)),4,none⟩])
    (.cond (Go.Operand.tmp 16)
     .skip
     (.exit 0)))
    (.seq (.block 1
     (.region [⟨some 19,Go.Op.move (Go.Operand.tmp 5),3,none⟩,
      ⟨some 20,Go.Op.fieldAddr 25 (Go.Operand.tmp 2) 2,0,none⟩,
      ⟨some 21,Go.Op.load 23 (Go.Operand.tmp 20),23,none⟩,
      ⟨some 22,Go.Op.move (Go.Operand.tmp 6),3,none⟩,
      ⟨some 23,Go.Op.indexAddr 23 (Go.Operand.tmp 21) (Go.Operand.tmp 22),0,none⟩,
      ⟨some 24,Go.Op.load 25 (Go.Operand.tmp 23),25,none⟩,
      ⟨some 25,Go.Op.move (Go.Operand.tmp 1),3,none⟩,
      ⟨some 26,Go.Op.move (Go.Operand.tmp 5),3,none⟩,
      ⟨some 27,Go.Op.binOp Go.BinOp.sub 3 (Go.Operand.tmp 25) (Go.Operand.tmp 26) 3,3,none⟩,
      ⟨some 28,Go.Op.call { callee:=Go.Callee.value (Go.Operand.func 29),args:=#[Go.Operand.tmp 24,Go.Operand.tmp 27],argTypes:=#[25,3] },3,none⟩,
      ⟨some 29,Go.Op.binOp Go.BinOp.add 3 (Go.Operand.tmp 19) (Go.Operand.tmp 28) 3,3,none⟩,
      ⟨some 5,Go.Op.assign (Go.Operand.tmp 29),3,none⟩]))
    (.region [⟨some 17,Go.Op.move (Go.Operand.tmp 6),3,none⟩,
     ⟨some 18,Go.Op.binOp Go.BinOp.add 3 (Go.Operand.tmp 17) (Go.Operand.const (Go.Value.int Go.IntKind.i64 1)) 3,3,none⟩,
     ⟨some 6,Go.Op.assign (Go.Operand.tmp 18),3,none⟩]))))))
  (.seq (.region [⟨some 30,Go.Op.move (Go.Operand.tmp 5),3,none⟩,
   ⟨some 4,Go.Op.assign (Go.Operand.tmp 30),3,none⟩])
  .ret)))) :=
 ⟨foll,Tryz.f29,Tryz.func29,by kernel_rfl,by kernel_rfl,by kernel_rfl,by rw [Tryz.ntmps29];decide⟩
theorem fn40:FnIs Tryz.prog 40 1 [Go.ResultVar.tmp 2] (.seq (.region [⟨some 1,Go.Op.box 25 (Go.Operand.tmp 0),0,none⟩,
   ⟨some 2,Go.Op.assign (Go.Operand.const (Go.Value.bool false)),4,none⟩])
  (.seq (.seq (.region [⟨some 4,Go.Op.fieldAddr 25 (Go.Operand.tmp 1) 1,0,none⟩,
   ⟨some 5,Go.Op.load 22 (Go.Operand.tmp 4),22,none⟩,
   ⟨some 6,Go.Op.call { callee:=Go.Callee.builtin Go.Builtin.len,args:=#[Go.Operand.tmp 5],argTypes:=#[22] },3,none⟩,
   ⟨some 7,Go.Op.binOp Go.BinOp.gtr 3 (Go.Operand.tmp 6) (Go.Operand.const (Go.Value.int Go.IntKind.i64 60)) 3,4,none⟩])
  (.cond (Go.Operand.tmp 7)
   (.seq (.region [⟨some 2,Go.Op.assign (Go.Operand.const (Go.Value.bool true)),4,none⟩])
   .ret)
   .skip))
  (.seq (.seq (.region [⟨some 3,Go.Op.assign (Go.Operand.const (Go.Value.int Go.IntKind.i64 0)),3,none⟩])
  (.block 0
   (.loop
    (.seq (.seq (.region [⟨some 8,Go.Op.move (Go.Operand.tmp 3),3,none⟩,
     ⟨some 9,Go.Op.fieldAddr 25 (Go.Operand.tmp 1) 2,0,none⟩,
     ⟨some 10,Go.Op.load 23 (Go.Operand.tmp 9),23,none⟩,
     ⟨some 11,Go.Op.call { callee:=Go.Callee.builtin Go.Builtin.len,args:=#[Go.Operand.tmp 10],argTypes:=#[23] },3,none⟩,
     ⟨some 12,Go.Op.binOp Go.BinOp.lss 3 (Go.Operand.tmp 8) (Go.Operand.tmp 11) 3,4,none⟩])
    (.cond (Go.Operand.tmp 12)
     .skip
     (.exit 0)))
    (.seq (.block 1
     (.seq (.region [⟨some 15,Go.Op.fieldAddr 25 (Go.Operand.tmp 1) 2,0,none⟩,
      ⟨some 16,Go.Op.load 23 (Go.Operand.tmp 15),23,none⟩,
      ⟨some 17,Go.Op.move (Go.Operand.tmp 3),3,none⟩,
      ⟨some 18,Go.Op.indexAddr 23 (Go.Operand.tmp 16) (Go.Operand.tmp 17),0,none⟩,
      ⟨some 19,Go.Op.load 25 (Go.Operand.tmp 18),25,none⟩,
      ⟨some 20,Go.Op.call { callee:=Go.Callee.value (Go.Operand.func 40),args:=#[Go.Operand.tmp 19],argTypes:=#[25] },4,none⟩])
     (.cond (Go.Operand.tmp 20)
      (.seq (.region [⟨some 2,Go.Op.assign (Go.Operand.const (Go.Value.bool true)),4,none⟩])
      .ret)
      .skip)))
    (.region [⟨some 13,Go.Op.move (Go.Operand.tmp 3),3,none⟩,
     ⟨some 14,Go.Op.binOp Go.BinOp.add 3 (Go.Operand.tmp 13) (Go.Operand.const (Go.Value.int Go.IntKind.i64 1)) 3,3,none⟩,
     ⟨some 3,Go.Op.assign (Go.Operand.tmp 14),3,none⟩]))))))
  (.seq (.region [⟨some 2,Go.Op.assign (Go.Operand.const (Go.Value.bool false)),4,none⟩])
  .ret)))) :=
 ⟨foll,Tryz.f40,Tryz.func40,by kernel_rfl,by kernel_rfl,by kernel_rfl,by rw [Tryz.ntmps40];decide⟩
theorem fn45:FnIs Tryz.prog 45 2 [Go.ResultVar.tmp 4] (.seq (.region [⟨some 2,Go.Op.box 25 (Go.Operand.tmp 0),0,none⟩,
   ⟨some 4,Go.Op.assign (Go.Operand.const (Go.Value.int Go.IntKind.i64 0)),3,none⟩])
  (.seq (.region [⟨some 5,Go.Op.assign (Go.Operand.const (Go.Value.int Go.IntKind.i64 1)),3,none⟩])
  (.seq (.seq (.region [⟨some 8,Go.Op.fieldAddr 25 (Go.Operand.tmp 2) 2,0,none⟩,
   ⟨some 9,Go.Op.load 23 (Go.Operand.tmp 8),23,none⟩,
   ⟨some 10,Go.Op.call { callee:=Go.Callee.builtin Go.Builtin.len,args:=#[Go.Operand.tmp 9],argTypes:=#[23] },3,none⟩,
   ⟨some 11,Go.Op.move (Go.Operand.const (Go.Value.int Go.IntKind.i64 0)),3,none⟩])
  (.block 0
   (.loop
    (.seq (.region [⟨some 12,Go.Op.binOp Go.BinOp.lss 3 (Go.Operand.tmp 11) (Go.Operand.tmp 10) 3,0,none⟩])
    (.seq (.cond (Go.Operand.tmp 12)
     .skip
     (.exit 0))
    (.seq (.block 1
     (.seq (.region [⟨some 13,Go.Op.indexAddr 23 (Go.Operand.tmp 9) (Go.Operand.tmp 11),0,none⟩,
      ⟨some 14,Go.Op.load 25 (Go.Operand.tmp 13),25,none⟩,
      ⟨some 7,Go.Op.alloc 25,0,none⟩,
      ⟨none,Go.Op.store 25 (Go.Operand.tmp 7) (Go.Operand.tmp 14),0,none⟩])
     (.seq (.seq (.region [⟨some 15,Go.Op.move (Go.Operand.tmp 5),3,none⟩,
      ⟨some 16,Go.Op.move (Go.Operand.tmp 1),3,none⟩,
      ⟨some 17,Go.Op.binOp Go.BinOp.gtr 3 (Go.Operand.tmp 15) (Go.Operand.tmp 16) 3,4,none⟩])
     (.cond (Go.Operand.tmp 17)
      (.exit 0)
      .skip))
     (.region [⟨some 18,Go.Op.move (Go.Operand.tmp 5),3,none⟩,
      ⟨some 19,Go.Op.load 25 (Go.Operand.tmp 7),25,none⟩,
      ⟨some 20,Go.Op.move (Go.Operand.tmp 1),3,none⟩,
      ⟨some 21,Go.Op.move (Go.Operand.tmp 5),3,none⟩,
      ⟨some 22,Go.Op.binOp Go.BinOp.sub 3 (Go.Operand.tmp 20) (Go.Operand.tmp 21) 3,3,none⟩,
      ⟨some 23,Go.Op.call { callee:=Go.Callee.value (Go.Operand.func 45),args:=#[Go.Operand.tmp 19,Go.Operand.tmp 22],argTypes:=#[25,3] },3,none⟩,
      ⟨some 24,Go.Op.binOp Go.BinOp.add 3 (Go.Operand.tmp 18) (Go.Operand.tmp 23) 3,3,none⟩,
      ⟨some 5,Go.Op.assign (Go.Operand.tmp 24),3,none⟩]))))
    (.region [⟨some 25,Go.Op.binOp Go.BinOp.add 3 (Go.Operand.tmp 11) (Go.Operand.const (Go.Value.int Go.IntKind.i64 1)) 3,3,none⟩,
     ⟨some 11,Go.Op.move (Go.Operand.tmp 25),3,none⟩])))))))
  (.seq (.region [⟨some 26,Go.Op.move (Go.Operand.tmp 5),3,none⟩,
   ⟨some 4,Go.Op.assign (Go.Operand.tmp 26),3,none⟩])
  .ret)))) :=
 ⟨foll,Tryz.f45,Tryz.func45,by kernel_rfl,by kernel_rfl,by kernel_rfl,by rw [Tryz.ntmps45];decide⟩
theorem fn46:FnIs Tryz.prog 46 1 [Go.ResultVar.tmp 2] (.seq (.region [⟨some 1,Go.Op.box 25 (Go.Operand.tmp 0),0,none⟩,
   ⟨some 2,Go.Op.assign (Go.Operand.const (Go.Value.int Go.IntKind.i64 0)),32,none⟩])
  (.seq (.region [⟨some 3,Go.Op.assign (Go.Operand.const (Go.Value.bool false)),4,none⟩])
  (.seq (.seq (.region [⟨some 7,Go.Op.fieldAddr 25 (Go.Operand.tmp 1) 0,0,none⟩,
   ⟨some 8,Go.Op.load 3 (Go.Operand.tmp 7),3,none⟩])
  (.block 0
   (.seq (.region [⟨some 10,Go.Op.binOp Go.BinOp.eql 3 (Go.Operand.tmp 8) (Go.Operand.const (Go.Value.int Go.IntKind.i64 1)) 3,4,none⟩,
    ⟨some 9,Go.Op.assign (Go.Operand.tmp 10),4,none⟩])
   (.cond (Go.Operand.tmp 9)
    (.region [⟨some 11,Go.Op.fieldAddr 25 (Go.Operand.tmp 1) 2,0,none⟩,
     ⟨some 12,Go.Op.load 23 (Go.Operand.tmp 11),23,none⟩,
     ⟨some 13,Go.Op.call { callee:=Go.Callee.builtin Go.Builtin.len,args:=#[Go.Operand.tmp 12],argTypes:=#[23] },3,none⟩,
     ⟨some 14,Go.Op.binOp Go.BinOp.eql 3 (Go.Operand.tmp 13) (Go.Operand.const (Go.Value.int Go.IntKind.i64 0)) 3,4,none⟩,
     ⟨some 3,Go.Op.assign (Go.Operand.tmp 14),4,none⟩])
    (.seq (.region [⟨some 16,Go.Op.binOp Go.BinOp.eql 3 (Go.Operand.tmp 8) (Go.Operand.const (Go.Value.int Go.IntKind.i64 2)) 3,4,none⟩,
     ⟨some 15,Go.Op.assign (Go.Operand.tmp 16),4,none⟩])
    (.cond (Go.Operand.tmp 15)
     (.region [⟨some 17,Go.Op.fieldAddr 25 (Go.Operand.tmp 1) 2,0,none⟩,
      ⟨some 18,Go.Op.load 23 (Go.Operand.tmp 17),23,none⟩,
      ⟨some 19,Go.Op.call { callee:=Go.Callee.builtin Go.Builtin.len,args:=#[Go.Operand.tmp 18],argTypes:=#[23] },3,none⟩,
      ⟨some 20,Go.Op.binOp Go.BinOp.eql 3 (Go.Operand.tmp 19) (Go.Operand.const (Go.Value.int Go.IntKind.i64 0)) 3,4,none⟩,
      ⟨some 21,Go.Op.move (Go.Operand.tmp 20),4,none⟩,
      ⟨some 22,Go.Op.fieldAddr 25 (Go.Operand.tmp 1) 1,0,(some (21,true))⟩,
      ⟨some 23,Go.Op.load 22 (Go.Operand.tmp 22),22,(some (21,true))⟩,
      ⟨some 24,Go.Op.call { callee:=Go.Callee.value (Go.Operand.func 66),args:=#[Go.Operand.tmp 23],argTypes:=#[22] },4,(some (21,true))⟩,
      ⟨some 25,Go.Op.pick (Go.Operand.tmp 21) (Go.Operand.tmp 24) (Go.Operand.const (Go.Value.bool false)),4,none⟩,
      ⟨some 3,Go.Op.assign (Go.Operand.tmp 25),4,none⟩])
     (.seq (.seq (.region [⟨some 27,Go.Op.binOp Go.BinOp.eql 3 (Go.Operand.tmp 8) (Go.Operand.const (Go.Value.int Go.IntKind.i64 3)) 3,4,none⟩,
      ⟨some 26,Go.Op.assign (Go.Operand.tmp 27),4,none⟩])
     (.cond (Go.Operand.tmp 26)
      .skip
      (.region [⟨some 28,Go.Op.binOp Go.BinOp.eql 3 (Go.Operand.tmp 8) (Go.Operand.const (Go.Value.int Go.IntKind.i64 4)) 3,4,none⟩,
       ⟨some 26,Go.Op.assign (Go.Operand.tmp 28),4,none⟩])))
     (.cond (Go.Operand.tmp 26)
      (.region [⟨some 29,Go.Op.fieldAddr 25 (Go.Operand.tmp 1) 2,0,none⟩,
       ⟨some 30,Go.Op.load 23 (Go.Operand.tmp 29),23,none⟩,
       ⟨some 31,Go.Op.call { callee:=Go.Callee.builtin Go.Builtin.len,args:=#[Go.Operand.tmp 30],argTypes:=#[23] },3,none⟩,
       ⟨some 32,Go.Op.binOp Go.BinOp.geq 3 (Go.Operand.tmp 31) (Go.Operand.const (Go.Value.int Go.IntKind.i64 2)) 3,4,none⟩,
       ⟨some 3,Go.Op.assign (Go.Operand.tmp 32),4,none⟩])
      (.seq (.region [⟨some 34,Go.Op.binOp Go.BinOp.eql 3 (Go.Operand.tmp 8) (Go.Operand.const (Go.Value.int Go.IntKind.i64 5)) 3,4,none⟩,
       ⟨some 33,Go.Op.assign (Go.Operand.tmp 34),4,none⟩])
      (.cond (Go.Operand.tmp 33)
       (.region [⟨some 35,Go.Op.fieldAddr 25 (Go.Operand.tmp 1) 2,0,none⟩,
        ⟨some 36,Go.Op.load 23 (Go.Operand.tmp 35),23,none⟩,
        ⟨some 37,Go.Op.call { callee:=Go.Callee.builtin Go.Builtin.len,args:=#[Go.Operand.tmp 36],argTypes:=#[23] },3,none⟩,
        ⟨some 38,Go.Op.binOp Go.BinOp.eql 3 (Go.Operand.tmp 37) (Go.Operand.const (Go.Value.int Go.IntKind.i64 1)) 3,4,none⟩,
        ⟨some 39,Go.Op.move (Go.Operand.tmp 38),4,none⟩,
        ⟨some 40,Go.Op.fieldAddr 25 (Go.Operand.tmp 1) 3,0,(some (39,true))⟩,
        ⟨some 41,Go.Op.load 3 (Go.Operand.tmp 40),3,(some (39,true))⟩,
        ⟨some 42,Go.Op.binOp Go.BinOp.geq 3 (Go.Operand.tmp 41) (Go.Operand.const (Go.Value.int Go.IntKind.i64 0)) 3,4,(some (39,true))⟩,
        ⟨some 43,Go.Op.pick (Go.Operand.tmp 39) (Go.Operand.tmp 42) (Go.Operand.const (Go.Value.bool false)),4,none⟩,
        ⟨some 44,Go.Op.move (Go.Operand.tmp 43),4,none⟩,
        ⟨some 45,Go.Op.fieldAddr 25 (Go.Operand.tmp 1) 3,0,(some (44,true))⟩,
        ⟨some 46,Go.Op.load 3 (Go.Operand.tmp 45),3,(some (44,true))⟩,
        ⟨some 47,Go.Op.binOp Go.BinOp.leq 3 (Go.Operand.tmp 46) (Go.Operand.const (Go.Value.int Go.IntKind.i64 20)) 3,4,(some (44,true))⟩,
        ⟨some 48,Go.Op.pick (Go.Operand.tmp 44) (Go.Operand.tmp 47) (Go.Operand.const (Go.Value.bool false)),4,none⟩,
        ⟨some 49,Go.Op.move (Go.Operand.tmp 48),4,none⟩,
        ⟨some 50,Go.Op.fieldAddr 25 (Go.Operand.tmp 1) 4,0,(some (49,true))⟩,
        ⟨some 51,Go.Op.load 3 (Go.Operand.tmp 50),3,(some (49,true))⟩,
        ⟨some 52,Go.Op.binOp Go.BinOp.eql 3 (Go.Operand.tmp 51) (Go.Operand.const (Go.Value.int Go.IntKind.i64 (-1))) 3,4,(some (49,true))⟩,
        ⟨some 53,Go.Op.move (Go.Operand.tmp 52),4,(some (49,true))⟩,
        ⟨some 54,Go.Op.fieldAddr 25 (Go.Operand.tmp 1) 4,0,(some (53,false))⟩,
        ⟨some 55,Go.Op.load 3 (Go.Operand.tmp 54),3,(some (53,false))⟩,
        ⟨some 56,Go.Op.fieldAddr 25 (Go.Operand.tmp 1) 3,0,(some (53,false))⟩,
        ⟨some 57,Go.Op.load 3 (Go.Operand.tmp 56),3,(some (53,false))⟩,
        ⟨some 58,Go.Op.binOp Go.BinOp.geq 3 (Go.Operand.tmp 55) (Go.Operand.tmp 57) 3,4,(some (53,false))⟩,
        ⟨some 59,Go.Op.move (Go.Operand.tmp 58),4,(some (53,false))⟩,
        ⟨some 60,Go.Op.fieldAddr 25 (Go.Operand.tmp 1) 4,0,(some (59,true))⟩,
        ⟨some 61,Go.Op.load 3 (Go.Operand.tmp 60),3,(some (59,true))⟩,
        ⟨some 62,Go.Op.binOp Go.BinOp.leq 3 (Go.Operand.tmp 61) (Go.Operand.const (Go.Value.int Go.IntKind.i64 20)) 3,4,(some (59,true))⟩,
        ⟨some 63,Go.Op.pick (Go.Operand.tmp 59) (Go.Operand.tmp 62) (Go.Operand.const (Go.Value.bool false)),4,(some (53,false))⟩,
        ⟨some 64,Go.Op.pick (Go.Operand.tmp 53) (Go.Operand.const (Go.Value.bool true)) (Go.Operand.tmp 63),4,(some (49,true))⟩,
        ⟨some 65,Go.Op.pick (Go.Operand.tmp 49) (Go.Operand.tmp 64) (Go.Operand.const (Go.Value.bool false)),4,none⟩,
        ⟨some 3,Go.Op.assign (Go.Operand.tmp 65),4,none⟩])
       (.seq (.region [⟨some 2,Go.Op.assign (Go.Operand.const (Go.Value.int Go.IntKind.i64 9)),32,none⟩])
       .ret)))))))))))
  (.seq (.seq (.region [⟨some 66,Go.Op.move (Go.Operand.tmp 3),4,none⟩,
   ⟨some 67,Go.Op.unOp Go.UnOp.not 4 (Go.Operand.tmp 66),4,none⟩,
   ⟨some 68,Go.Op.move (Go.Operand.tmp 67),4,none⟩,
   ⟨some 69,Go.Op.fieldAddr 25 (Go.Operand.tmp 1) 0,0,(some (68,false))⟩,
   ⟨some 70,Go.Op.load 3 (Go.Operand.tmp 69),3,(some (68,false))⟩,
   ⟨some 71,Go.Op.binOp Go.BinOp.neq 3 (Go.Operand.tmp 70) (Go.Operand.const (Go.Value.int Go.IntKind.i64 2)) 3,4,(some (68,false))⟩,
   ⟨some 72,Go.Op.move (Go.Operand.tmp 71),4,(some (68,false))⟩,
   ⟨some 73,Go.Op.fieldAddr 25 (Go.Operand.tmp 1) 1,0,(some (72,true))⟩,
   ⟨some 74,Go.Op.load 22 (Go.Operand.tmp 73),22,(some (72,true))⟩,
   ⟨some 75,Go.Op.call { callee:=Go.Callee.builtin Go.Builtin.len,args:=#[Go.Operand.tmp 74],argTypes:=#[22] },3,(some (72,true))⟩,
   ⟨some 76,Go.Op.binOp Go.BinOp.gtr 3 (Go.Operand.tmp 75) (Go.Operand.const (Go.Value.int Go.IntKind.i64 0)) 3,4,(some (72,true))⟩,
   ⟨some 77,Go.Op.pick (Go.Operand.tmp 72) (Go.Operand.tmp 76) (Go.Operand.const (Go.Value.bool false)),4,(some (68,false))⟩,
   ⟨some 78,Go.Op.pick (Go.Operand.tmp 68) (Go.Operand.const (Go.Value.bool true)) (Go.Operand.tmp 77),4,none⟩,
   ⟨some 79,Go.Op.move (Go.Operand.tmp 78),4,none⟩,
   ⟨some 80,Go.Op.fieldAddr 25 (Go.Operand.tmp 1) 0,0,(some (79,false))⟩,
   ⟨some 81,Go.Op.load 3 (Go.Operand.tmp 80),3,(some (79,false))⟩,
   ⟨some 82,Go.Op.binOp Go.BinOp.neq 3 (Go.Operand.tmp 81) (Go.Operand.const (Go.Value.int Go.IntKind.i64 5)) 3,4,(some (79,false))⟩,
   ⟨some 83,Go.Op.move (Go.Operand.tmp 82),4,(some (79,false))⟩,
   ⟨some 84,Go.Op.fieldAddr 25 (Go.Operand.tmp 1) 3,0,(some (83,true))⟩,
   ⟨some 85,Go.Op.load 3 (Go.Operand.tmp 84),3,(some (83,true))⟩,
   ⟨some 86,Go.Op.binOp Go.BinOp.neq 3 (Go.Operand.tmp 85) (Go.Operand.const (Go.Value.int Go.IntKind.i64 0)) 3,4,(some (83,true))⟩,
   ⟨some 87,Go.Op.move (Go.Operand.tmp 86),4,(some (83,true))⟩,
   ⟨some 88,Go.Op.fieldAddr 25 (Go.Operand.tmp 1) 4,0,(some (87,false))⟩,
   ⟨some 89,Go.Op.load 3 (Go.Operand.tmp 88),3,(some (87,false))⟩,
   ⟨some 90,Go.Op.binOp Go.BinOp.neq 3 (Go.Operand.tmp 89) (Go.Operand.const (Go.Value.int Go.IntKind.i64 0)) 3,4,(some (87,false))⟩,
   ⟨some 91,Go.Op.pick (Go.Operand.tmp 87) (Go.Operand.const (Go.Value.bool true)) (Go.Operand.tmp 90),4,(some (83,true))⟩,
   ⟨some 92,Go.Op.pick (Go.Operand.tmp 83) (Go.Operand.tmp 91) (Go.Operand.const (Go.Value.bool false)),4,(some (79,false))⟩,
   ⟨some 93,Go.Op.pick (Go.Operand.tmp 79) (Go.Operand.const (Go.Value.bool true)) (Go.Operand.tmp 92),4,none⟩])
  (.cond (Go.Operand.tmp 93)
   (.seq (.region [⟨some 2,Go.Op.assign (Go.Operand.const (Go.Value.int Go.IntKind.i64 1)),32,none⟩])
   .ret)
   .skip))
  (.seq (.seq (.region [⟨some 94,Go.Op.fieldAddr 25 (Go.Operand.tmp 1) 2,0,none⟩,
   ⟨some 95,Go.Op.load 23 (Go.Operand.tmp 94),23,none⟩,
   ⟨some 96,Go.Op.call { callee:=Go.Callee.builtin Go.Builtin.len,args:=#[Go.Operand.tmp 95],argTypes:=#[23] },3,none⟩,
   ⟨some 97,Go.Op.move (Go.Operand.const (Go.Value.int Go.IntKind.i64 0)),3,none⟩])
  (.block 1
   (.loop
    (.seq (.region [⟨some 98,Go.Op.binOp Go.BinOp.lss 3 (Go.Operand.tmp 97) (Go.Operand.tmp 96) 3,0,none⟩])
    (.seq (.cond (Go.Operand.tmp 98)
     .skip
     (.exit 1))
    (.seq (.block 2
     (.seq (.region [⟨some 99,Go.Op.indexAddr 23 (Go.Operand.tmp 95) (Go.Operand.tmp 97),0,none⟩,
      ⟨some 100,Go.Op.load 25 (Go.Operand.tmp 99),25,none⟩,
      ⟨some 5,Go.Op.alloc 25,0,none⟩,
      ⟨none,Go.Op.store 25 (Go.Operand.tmp 5) (Go.Operand.tmp 100),0,none⟩])
     (.seq (.region [⟨some 101,Go.Op.load 25 (Go.Operand.tmp 5),25,none⟩,
      ⟨some 102,Go.Op.call { callee:=Go.Callee.value (Go.Operand.func 46),args:=#[Go.Operand.tmp 101],argTypes:=#[25] },32,none⟩,
      ⟨some 6,Go.Op.assign (Go.Operand.tmp 102),32,none⟩])
     (.seq (.region [⟨some 103,Go.Op.move (Go.Operand.tmp 6),32,none⟩,
      ⟨some 104,Go.Op.binOp Go.BinOp.neq 32 (Go.Operand.tmp 103) (Go.Operand.const (Go.Value.int Go.IntKind.i64 0)) 32,4,none⟩])
     (.cond (Go.Operand.tmp 104)
      (.seq (.region [⟨some 105,Go.Op.move (Go.Operand.tmp 6),32,none⟩,
       ⟨some 2,Go.Op.assign (Go.Operand.tmp 105),32,none⟩])
      .ret)
      .skip)))))
    (.region [⟨some 106,Go.Op.binOp Go.BinOp.add 3 (Go.Operand.tmp 97) (Go.Operand.const (Go.Value.int Go.IntKind.i64 1)) 3,3,none⟩,
     ⟨some 97,Go.Op.move (Go.Operand.tmp 106),3,none⟩])))))))
  (.seq (.region [⟨some 2,Go.Op.assign (Go.Operand.const (Go.Value.int Go.IntKind.i64 0)),32,none⟩])
  .ret)))))) :=
 ⟨foll,Tryz.f46,Tryz.func46,by kernel_rfl,by kernel_rfl,by kernel_rfl,by rw [Tryz.ntmps46];decide⟩
theorem fn66:FnIs Tryz.prog 66 1 [Go.ResultVar.tmp 2] (.seq (.region [⟨some 2,Go.Op.assign (Go.Operand.const (Go.Value.bool false)),4,none⟩])
  (.seq (.seq (.region [⟨some 5,Go.Op.move (Go.Operand.tmp 0),22,none⟩,
   ⟨some 6,Go.Op.call { callee:=Go.Callee.builtin Go.Builtin.len,args:=#[Go.Operand.tmp 5],argTypes:=#[22] },3,none⟩,
   ⟨some 7,Go.Op.move (Go.Operand.const (Go.Value.int Go.IntKind.i64 0)),3,none⟩])
  (.block 0
   (.loop
    (.seq (.region [⟨some 8,Go.Op.binOp Go.BinOp.lss 3 (Go.Operand.tmp 7) (Go.Operand.tmp 6) 3,0,none⟩])
    (.seq (.cond (Go.Operand.tmp 8)
     .skip
     (.exit 0))
    (.seq (.block 1
     (.seq (.region [⟨some 9,Go.Op.move (Go.Operand.tmp 7),3,none⟩,
      ⟨some 10,Go.Op.indexAddr 22 (Go.Operand.tmp 5) (Go.Operand.tmp 7),0,none⟩,
      ⟨some 11,Go.Op.load 57 (Go.Operand.tmp 10),57,none⟩,
      ⟨some 4,Go.Op.alloc 57,0,none⟩,
      ⟨some 3,Go.Op.assign (Go.Operand.tmp 9),3,none⟩,
      ⟨none,Go.Op.store 57 (Go.Operand.tmp 4) (Go.Operand.tmp 11),0,none⟩])
     (.seq (.seq (.region [⟨some 12,Go.Op.fieldAddr 57 (Go.Operand.tmp 4) 0,0,none⟩,
      ⟨some 13,Go.Op.load 21 (Go.Operand.tmp 12),21,none⟩,
      ⟨some 14,Go.Op.call { callee:=Go.Callee.value (Go.Operand.func 81),args:=#[Go.Operand.tmp 13],argTypes:=#[21] },4,none⟩,
      ⟨some 15,Go.Op.unOp Go.UnOp.not 4 (Go.Operand.tmp 14),4,none⟩,
      ⟨some 16,Go.Op.move (Go.Operand.tmp 15),4,none⟩,
      ⟨some 17,Go.Op.fieldAddr 57 (Go.Operand.tmp 4) 1,0,(some (16,false))⟩,
      ⟨some 18,Go.Op.load 21 (Go.Operand.tmp 17),21,(some (16,false))⟩,
      ⟨some 19,Go.Op.call { callee:=Go.Callee.value (Go.Operand.func 81),args:=#[Go.Operand.tmp 18],argTypes:=#[21] },4,(some (16,false))⟩,
      ⟨some 20,Go.Op.unOp Go.UnOp.not 4 (Go.Operand.tmp 19),4,(some (16,false))⟩,
      ⟨some 21,Go.Op.pick (Go.Operand.tmp 16) (Go.Operand.const (Go.Value.bool true)) (Go.Operand.tmp 20),4,none⟩,
      ⟨some 22,Go.Op.move (Go.Operand.tmp 21),4,none⟩,
      ⟨some 23,Go.Op.fieldAddr 57 (Go.Operand.tmp 4) 0,0,(some (22,false))⟩,
      ⟨some 24,Go.Op.load 21 (Go.Operand.tmp 23),21,(some (22,false))⟩,
      ⟨some 25,Go.Op.fieldAddr 57 (Go.Operand.tmp 4) 1,0,(some (22,false))⟩,
      ⟨some 26,Go.Op.load 21 (Go.Operand.tmp 25),21,(some (22,false))⟩,
      ⟨some 27,Go.Op.binOp Go.BinOp.gtr 21 (Go.Operand.tmp 24) (Go.Operand.tmp 26) 21,4,(some (22,false))⟩,
      ⟨some 28,Go.Op.pick (Go.Operand.tmp 22) (Go.Operand.const (Go.Value.bool true)) (Go.Operand.tmp 27),4,none⟩,
      ⟨some 29,Go.Op.move (Go.Operand.tmp 28),4,none⟩,
      ⟨some 30,Go.Op.fieldAddr 57 (Go.Operand.tmp 4) 0,0,(some (29,false))⟩,
      ⟨some 31,Go.Op.load 21 (Go.Operand.tmp 30),21,(some (29,false))⟩,
      ⟨some 32,Go.Op.binOp Go.BinOp.lss 21 (Go.Operand.tmp 31) (Go.Operand.const (Go.Value.int Go.IntKind.i32 55296)) 21,4,(some (29,false))⟩,
      ⟨some 33,Go.Op.fieldAddr 57 (Go.Operand.tmp 4) 1,0,(some (29,false))⟩,
      ⟨some 34,Go.Op.load 21 (Go.Operand.tmp 33),21,(some (29,false))⟩,
      ⟨some 35,Go.Op.binOp Go.BinOp.lss 21 (Go.Operand.tmp 34) (Go.Operand.const (Go.Value.int Go.IntKind.i32 55296)) 21,4,(some (29,false))⟩,
      ⟨some 36,Go.Op.binOp Go.BinOp.neq 4 (Go.Operand.tmp 32) (Go.Operand.tmp 35) 4,4,(some (29,false))⟩,
      ⟨some 37,Go.Op.pick (Go.Operand.tmp 29) (Go.Operand.const (Go.Value.bool true)) (Go.Operand.tmp 36),4,none⟩])
     (.cond (Go.Operand.tmp 37)
      (.seq (.region [⟨some 2,Go.Op.assign (Go.Operand.const (Go.Value.bool false)),4,none⟩])
      .ret)
      .skip))
     (.seq (.draw true [⟨⟨some 38,Go.Op.move (Go.Operand.tmp 3),3,none⟩,false,false,false⟩,
      ⟨⟨some 39,Go.Op.binOp Go.BinOp.gtr 3 (Go.Operand.tmp 38) (Go.Operand.const (Go.Value.int Go.IntKind.i64 0)) 3,4,none⟩,false,false,false⟩,
      ⟨⟨some 40,Go.Op.move (Go.Operand.tmp 39),4,none⟩,false,false,false⟩,
      ⟨⟨some 41,Go.Op.fieldAddr 57 (Go.Operand.tmp 4) 0,0,(some (40,true))⟩,false,false,false⟩,
      ⟨⟨some 42,Go.Op.load 21 (Go.Operand.tmp 41),21,(some (40,true))⟩,false,false,false⟩,
      ⟨⟨some 43,Go.Op.move (Go.Operand.tmp 0),22,(some (40,true))⟩,false,false,false⟩,
      ⟨⟨some 44,Go.Op.move (Go.Operand.tmp 3),3,(some (40,true))⟩,false,false,false⟩,
      ⟨⟨some 45,Go.Op.binOp Go.BinOp.sub 3 (Go.Operand.tmp 44) (Go.Operand.const (Go.Value.int Go.IntKind.i64 1)) 3,3,(some (40,true))⟩,false,false,false⟩,
      ⟨⟨some 46,Go.Op.indexAddr 22 (Go.Operand.tmp 43) (Go.Operand.tmp 45),0,(some (40,true))⟩,false,false,false⟩,
      ⟨⟨some 47,Go.Op.fieldAddr 57 (Go.Operand.tmp 46) 1,0,(some (40,true))⟩,false,false,false⟩,
      ⟨⟨some 48,Go.Op.load 21 (Go.Operand.tmp 47),21,(some (40,true))⟩,false,false,false⟩,
      ⟨⟨some 49,Go.Op.binOp Go.BinOp.sub 21 (Go.Operand.tmp 42) (Go.Operand.tmp 48) 21,21,(some (40,true))⟩,false,false,false⟩,
      ⟨⟨some 50,Go.Op.binOp Go.BinOp.lss 21 (Go.Operand.tmp 49) (Go.Operand.const (Go.Value.int Go.IntKind.i32 2)) 21,4,(some (40,true))⟩,false,false,false⟩,
      ⟨⟨some 51,Go.Op.pick (Go.Operand.tmp 40) (Go.Operand.tmp 50) (Go.Operand.const (Go.Value.bool false)),4,none⟩,false,false,false⟩] [[],[0],[0,1],[0,1,2],[0,1,2,3],[0,1,2],[0,1,2],[0,1,2,6],[0,1,2,5,6,7],[0,1,2,5,6,7,8],[0,1,2,5,6,7,8,9],[0,1,2,3,4,5,6,7,8,9,10],[0,1,2,3,4,5,6,7,8,9,10,11],[0,1,2,3,4,5,6,7,8,9,10,11,12]])
     (.cond (Go.Operand.tmp 51)
      (.seq (.region [⟨some 2,Go.Op.assign (Go.Operand.const (Go.Value.bool false)),4,none⟩])
      .ret)
      .skip)))))
    (.region [⟨some 52,Go.Op.binOp Go.BinOp.add 3 (Go.Operand.tmp 7) (Go.Operand.const (Go.Value.int Go.IntKind.i64 1)) 3,3,none⟩,
     ⟨some 7,Go.Op.move (Go.Operand.tmp 52),3,none⟩])))))))
  (.seq (.region [⟨some 2,Go.Op.assign (Go.Operand.const (Go.Value.bool true)),4,none⟩])
  .ret))) :=
 ⟨foll,Tryz.f66,Tryz.func66,by kernel_rfl,by kernel_rfl,by kernel_rfl,by rw [Tryz.ntmps66];decide⟩
theorem fn81:FnIs Tryz.prog 81 1 [Go.ResultVar.tmp 2] (.seq (.region [⟨some 2,Go.Op.assign (Go.Operand.const (Go.Value.bool false)),4,none⟩])
  (.seq (.region [⟨some 3,Go.Op.move (Go.Operand.tmp 0),21,none⟩,
   ⟨some 4,Go.Op.binOp Go.BinOp.geq 21 (Go.Operand.tmp 3) (Go.Operand.const (Go.Value.int Go.IntKind.i32 0)) 21,4,none⟩,
   ⟨some 5,Go.Op.move (Go.Operand.tmp 4),4,none⟩,
   ⟨some 6,Go.Op.move (Go.Operand.tmp 0),21,(some (5,true))⟩,
   ⟨some 7,Go.Op.binOp Go.BinOp.leq 21 (Go.Operand.tmp 6) (Go.Operand.const (Go.Value.int Go.IntKind.i32 55295)) 21,4,(some (5,true))⟩,
   ⟨some 8,Go.Op.pick (Go.Operand.tmp 5) (Go.Operand.tmp 7) (Go.Operand.const (Go.Value.bool false)),4,none⟩,
   ⟨some 9,Go.Op.move (Go.Operand.tmp 8),4,none⟩,
   ⟨some 10,Go.Op.move (Go.Operand.tmp 0),21,(some (9,false))⟩,
   ⟨some 11,Go.Op.binOp Go.BinOp.geq 21 (Go.Operand.tmp 10) (Go.Operand.const (Go.Value.int Go.IntKind.i32 57344)) 21,4,(some (9,false))⟩,
   ⟨some 12,Go.Op.move (Go.Operand.tmp 11),4,(some (9,false))⟩,
   ⟨some 13,Go.Op.move (Go.Operand.tmp 0),21,(some (12,true))⟩,
   ⟨some 14,Go.Op.binOp Go.BinOp.leq 21 (Go.Operand.tmp 13) (Go.Operand.const (Go.Value.int Go.IntKind.i32 1114111)) 21,4,(some (12,true))⟩,
   ⟨some 15,Go.Op.pick (Go.Operand.tmp 12) (Go.Operand.tmp 14) (Go.Operand.const (Go.Value.bool false)),4,(some (9,false))⟩,
   ⟨some 16,Go.Op.pick (Go.Operand.tmp 9) (Go.Operand.const (Go.Value.bool true)) (Go.Operand.tmp 15),4,none⟩,
   ⟨some 2,Go.Op.assign (Go.Operand.tmp 16),4,none⟩])
  .ret)) :=
 ⟨foll,Tryz.f81,Tryz.func81,by kernel_rfl,by kernel_rfl,by kernel_rfl,by rw [Tryz.ntmps81];decide⟩
end Go.Proofs.YtngdkenddfdhaaaGreatDoor
