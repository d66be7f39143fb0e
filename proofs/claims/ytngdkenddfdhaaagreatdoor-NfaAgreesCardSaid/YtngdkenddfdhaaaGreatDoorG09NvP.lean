/- The rules by which the simplifier reckons in the abstract layer. -/
import Derived.Test.YtngdkenddfdhaaaGreatDoorG08NvO
set_option linter.unusedVariables false
set_option linter.unusedSimpArgs false
namespace Nv
open Go
@[go_sem] theorem one_d_int (k:IntKind) (n:Int):(AV.d (.int k n)).one=true:=nrfl rfl
@[go_sem] theorem cellsV_d_int (k:IntKind) (n:Int):cellsV (.d (.int k n))=some [.d (.int k n)]:=nrfl rfl
@[go_sem] theorem toD_d_int (k:IntKind) (n:Int):toD (.d (.int k n))=some (.int k n):=nrfl rfl
@[go_sem] theorem cells_int (k:IntKind) (n:Int):(DV.cells (.int k n))=[.int k n]:=nrfl rfl
@[go_sem] theorem cellsV_d_bool (b:Bool):cellsV (.d (.bool b))=some [.d (.bool b)]:=nrfl rfl
@[go_sem] theorem toD_d_bool (b:Bool):toD (.d (.bool b))=some (.bool b):=nrfl rfl
@[go_sem] theorem cells_bool (b:Bool):(DV.cells (.bool b))=[.bool b]:=nrfl rfl
@[go_sem] theorem one_d_nilslice :(AV.d (.nilslice)).one=true:=nrfl rfl
@[go_sem] theorem cellsV_d_nilslice :cellsV (.d (.nilslice))=some [.d (.nilslice)]:=nrfl rfl
@[go_sem] theorem toD_d_nilslice :toD (.d (.nilslice))=some (.nilslice):=nrfl rfl
@[go_sem] theorem cells_nilslice :(DV.cells (.nilslice))=[.nilslice]:=nrfl rfl
@[go_sem] theorem one_d_list (e:Nat) (xs:List DV):(AV.d (.list e xs)).one=true:=nrfl rfl
@[go_sem] theorem cellsV_d_list (e:Nat) (xs:List DV):cellsV (.d (.list e xs))=some [.d (.list e xs)]:=nrfl rfl
@[go_sem] theorem cells_list (e:Nat) (xs:List DV):(DV.cells (.list e xs))=[.list e xs]:=nrfl rfl
@[go_sem] theorem cellsV_own (b g off n:Nat):cellsV (.own b g off n)=some [.own b g off n]:=nrfl rfl
@[go_sem] theorem one_rown (b g off n:Nat):(AV.rown b g off n).one=true:=nrfl rfl
@[go_sem] theorem cellsV_rown (b g off n:Nat):cellsV (.rown b g off n)=some [.rown b g off n]:=nrfl rfl
@[go_sem] theorem cellsV_agg (cs:List AV):cellsV (.agg cs)=if cs.all AV.one then some cs else none:=nrfl rfl
@[go_sem] theorem toD_agg (cs:List AV):toD (.agg cs)=(toDs cs).bind fun xs=>if cs.all AV.one then some (.agg xs) else none:=nrfl rfl
@[go_sem] theorem cells_agg (cs:List DV):DV.cells (.agg cs)=cs:=nrfl rfl
@[go_sem] theorem stGet_zero (b:Blk) (l:ST):stGet (b::l) 0=b:=nrfl rfl
@[go_sem] theorem stGet_succ (b:Blk) (l:ST) (n:Nat):stGet (b::l) (n+1)=stGet l n:=nrfl rfl
@[go_sem] theorem stSet_zero (b x:Blk) (l:ST):stSet (b::l) 0 x=x::l:=nrfl rfl
@[go_sem] theorem stSet_succ (b x:Blk) (l:ST) (n:Nat):stSet (b::l) (n+1) x=b::stSet l n x:=nrfl rfl
theorem stGet_left (l m:ST) (b:Nat) (h:b<l.length):stGet (l++m) b=stGet l b:=by simp [stGet,List.getD_eq_getElem?_getD,List.getElem?_append_left h]
theorem stSet_left (l m:ST) (b:Nat) (x:Blk) (h:b<l.length):stSet (l++m) b x=stSet l b x++m:=by simp [stSet,List.set_append_left _ _ h]
@[go_sem] theorem stGet_last (l:ST) (b:Blk):stGet (l++[b]) (List.length l)=b:=nrfl (by simp [stGet,List.getD_eq_getElem?_getD])
@[go_sem] theorem stSet_last (l:ST) (b x:Blk):stSet (l++[b]) (List.length l) x=l++[x]:=nrfl (by simp [stSet])
@[go_sem] theorem rLen_def (P:Program) (t:TypeId) (x:AV) (σ:ST):rLen P t x σ =
 (match P.underlying t,x with
 | some (.slice _),.d (.list _ xs)=>.ok (.d (.int .i64 (xs.length:Nat))) σ
 | some (.slice _),.d .nilslice=>.ok (.d (.int .i64 0)) σ
 | some (.slice _),.own b g off n =>
  match stGet σ b with
  | .arr g' _ _=>.need (g=g') (.ok (.d (.int .i64 (n:Nat))) σ)
  | _=>.bad
 | some (.slice _),.rown b g _ n=>rLenR b g n σ
 | some .string,.d (.str s)=>.ok (.d (.int .i64 (s.length:Nat))) σ
 | some (.array n _),_=>.ok (.d (.int .i64 (n:Nat))) σ
 | _,_=>.bad):=nrfl rfl
@[go_sem] theorem rConv_def (P:Program) (src dst:TypeId) (x:AV) (σ:ST):rConv P src dst x σ =
 (match P.underlying src,P.underlying dst,x with
 | some _,some (.int k),.d (.int _ n)=>.ok (.d (.int k (k.wrap n))) σ
 | some (.int _),some .string,.d (.int _ n)=>.ok (.d (.str (Utf8.encode n).data.toList)) σ
 | some .string,some .string,.d (.str s)=>.ok (.d (.str s)) σ
 | _,_,_=>.bad):=nrfl rfl
@[go_sem] theorem rRange_def (P:Program) (t:TypeId) (x:AV) (σ:ST):rRange P t x σ =
 (match P.underlying t,x with
 | some .string,.d (.str s)=>.ok (.itr σ.length) (σ++[.iter s 0])
 | _,_=>.bad):=nrfl rfl
@[go_sem] theorem rCvA_def (P:Program) (s d:TypeId) (x:AV) (σ:ST):rCvA P s d x σ =
 (match P.underlying s,P.underlying d,x with
 | some .string,some (.slice el),.d (.str t)=>rRunes P el t σ
 | _,_,x=>rCv P s d x σ):=nrfl rfl
@[go_sem] theorem rCv_def (P:Program) (s d:TypeId) (x:AV) (σ:ST):rCv P s d x σ =
 (match P.underlying s,P.underlying d,x with
 | some (.slice el),some .string,.d (.list 1 xs)=>rBytes P el xs σ
 | some (.slice el),some .string,.own b g off n =>
  match stGet σ b with
  | .arr g' e xs=>.need (g=g'∧e.n=1∧off+n≤xs.length) (rBytes P el ((xs.drop off).take n) σ)
  | _=>.bad
 | _,_,x=>rCv0 P s d x σ):=nrfl rfl
@[go_sem] theorem rBytes_def (P:Program) (el:TypeId) (xs:List DV) (σ:ST):rBytes P el xs σ =
 (match P.underlying el,bytesOf xs with
 | some (.int .u8),some s=>.ok (.d (.str s)) σ
 | _,_=>.bad):=nrfl rfl
@[go_sem] theorem rRunes_def (P:Program) (el:TypeId) (s:List UInt8) (σ:ST):rRunes P el s σ =
 (match P.underlying el with
 | some (.int .i32)=>.need (P.cellsOf el=1∧s.length≤70368744177664) (newArr σ 1 el (runesD s))
 | _=>.bad):=nrfl rfl
@[go_sem] theorem rConvU_def (P:Program) (s d:TypeId) (b o:Nat) (σ:ST):rConvU P s d b o σ =
 (match P.underlying s,P.underlying d with
 | some (.pointer t),some .unsafePointer=>match stGet σ b with
  | .box e cs=>.need (0<P.cellsOf t∧o<cs.length) (.ok (.ptr b o) σ)
  | _=>.bad
 | some .unsafePointer,some (.pointer u)=>match stGet σ b with
  | .box e cs=>.need (0<P.cellsOf u∧liesB P e cs.length o u=true) (.ok (.ptr b o) σ)
  | _=>.bad
 | _,_=>.bad):=nrfl rfl
@[go_sem] theorem rUSD_def (P:Program) (ty:TypeId) (x:AV) (σ:ST):rUSD P ty x σ =
 (match P.underlying ty,x with
 | some (.pointer _),.d .nilslice=>.ok .aptr σ
 | some (.pointer _),.own b g off n=>match stGet σ b with
  | .arr g' e xs=>.need (g=g') (bif Nat.beq n 0 then .ok .aptr σ else .ok (.eptr b g off 0) σ)
  | _=>.bad
 | _,_=>.bad):=nrfl rfl
@[go_sem] theorem rIface_def (P:Program) (t:TypeId) (x:AV) (σ:ST):rIface P t x σ =
 (match P.underlying t with
 | none | some (.interface _)=>.bad
 | _=>match x with
  | .d x=>.ok (.d (.iface t x)) σ
  | x=>.ok (.iface t x) σ):=nrfl rfl
@[go_sem] theorem rLoad_def (P:Program) (t:TypeId) (a:AV) (σ:ST):rLoad P t a σ =
 (match P.underlying t with
 | none=>.bad
 | some d =>
  .need (0<P.cellsOf t) (match a with
  | .ptr b o=>match stGet σ b with
   | .box _ cs=>bif aggD d then .need (o+P.cellsOf t≤cs.length) (.ok (.agg ((cs.drop o).take (P.cellsOf t))) σ) else .need (o<cs.length) (.ok (cs.getD o .any) σ)
   | _=>.bad
  | .iptr cs=>bif aggD d then .need (P.cellsOf t≤cs.length) (.ok (.agg ((cs.take (P.cellsOf t)).map .d)) σ) else .need (0<cs.length) (.ok (.d (cs.getD 0 default)) σ)
  | .eptr b g i o=>match stGet σ b with
   | .arr g' e xs=>.need (g=g'∧i<xs.length) (bif aggD d then .need (o+P.cellsOf t≤(xs.getD i default).cells.length) (.ok (.agg ((((xs.getD i default).cells.drop o).take (P.cellsOf t)).map .d)) σ)
     else .need (o<(xs.getD i default).cells.length) (.ok (.d ((xs.getD i default).cells.getD o default)) σ))
   | _=>.bad
  | .rptr b g i=>rLoadR d b g i σ
  | _=>.bad)):=nrfl rfl
@[go_sem] theorem rField_def (P:Program) (s f:Nat) (a:AV) (σ:ST):rField P s f a σ =
 (match fieldOff P s f with
 | none=>.bad
 | some (off,_)=>match a with
  | .ptr b o=>.ok (.ptr b (o+off)) σ
  | .iptr cs=>.ok (.iptr (cs.drop off)) σ
  | .eptr b g i o=>match stGet σ b with
   | .arr g' _ _=>.need (g=g') (.ok (.eptr b g i (o+off)) σ)
   | _=>.bad
  | _=>.bad):=nrfl rfl
@[go_sem] theorem rFieldV_def (P:Program) (s f:Nat) (a:AV) (σ:ST):rFieldV P s f a σ =
 (match fieldOff P s f,a with
 | some (off,t),.agg cs=>match P.underlying t with
  | none=>.bad
  | some d=>bif aggD d then .need (off+P.cellsOf t≤cs.length) (.ok (.agg ((cs.drop off).take (P.cellsOf t))) σ) else .need (off<cs.length) (.ok (cs.getD off .any) σ)
 | _,_=>.bad):=nrfl rfl
@[go_sem] theorem rIndex_def (P:Program) (t:Nat) (x i:AV) (σ:ST):rIndex P t x i σ =
 (match P.underlying t with
 | some (.slice el)=>match x,i with
  | .d (.list e xs),.d (.int k n)=>.need (e=P.cellsOf el∧0<e) (.need (0≤n∧n<xs.length) (.ok (.iptr (xs.getD n.toNat default).cells) σ))
  | .own b g off m,.d (.int k n)=>match stGet σ b with
   | .arr g' e xs=>.need (g=g'∧e.n=P.cellsOf el∧0<e.n) (.need (0≤n∧n<m) (.ok (.eptr b g (off+n.toNat) 0) σ))
   | _=>.bad
  | .rown b g off m,.d (.int _ n)=>rIndexR P el b g off m n σ
  | _,_=>.bad
 | some (.array len el)=>match x,i with
  | .ptr b o,.d (.int k n)=>.need (0<P.cellsOf el) (.need (0≤n∧n<len) (.ok (.ptr b (o+n.toNat * P.cellsOf el)) σ))
  | _,_=>.bad
 | _=>.bad):=nrfl rfl
@[go_sem] theorem rIndexV_def (P:Program) (t:Nat) (x i:AV) (σ:ST):rIndexV P t x i σ =
 (match P.underlying t,x,i with
 | some .string,.d (.str s),.d (.int _ n)=>.need (0≤n∧n<s.length) (.ok (.d (.int .u8 ((s.getD n.toNat 0).toNat:Nat))) σ)
 | some (.array len el),.agg cs,.d (.int _ n)=>.need (P.cellsOf el=1∧(P.underlying el).map aggD=some false∧len=cs.length) (.need (0≤n∧n<len) (.ok (cs.getD n.toNat .any) σ))
 | _,_,_=>.bad):=nrfl rfl
@[go_sem] theorem rSlice_def (P:Program) (t:Nat) (x:AV) (lo hi:Option AV) (σ:ST):rSlice P t x lo hi σ =
 (match P.underlying t with
 | some .string=>match x with
  | .d (.str s)=>match bnd lo 0,bnd hi (s.length:Nat) with
   | some l,some h=>.need (0≤l∧l≤h∧h≤s.length) (.ok (.d (.str ((s.take h.toNat).drop l.toNat))) σ)
   | _,_=>.bad
  | _=>.bad
 | some (.slice el)=>match x with
  | .d (.list e xs)=>match bnd lo 0,bnd hi (xs.length:Nat) with
   | some l,some h=>.need (e=P.cellsOf el∧0<e) (.need (0≤l∧l≤h∧h≤xs.length) (.ok (.d (.list e ((xs.take h.toNat).drop l.toNat))) σ))
   | _,_=>.bad
  | .d .nilslice=>match bnd lo 0,bnd hi 0 with
   | some l,some h=>.need (0<P.cellsOf el) (.need (l=0∧h=0) (.ok (.d .nilslice) σ))
   | _,_=>.bad
  | .own b g off n=>match stGet σ b with
   | .arr g' e xs=>match bnd lo 0,bnd hi (n:Nat) with
    | some l,some h=>.need (g=g'∧e.n=P.cellsOf el∧0<e.n) (.need (0≤l∧l≤h∧h≤n) (.ok (.own b g (off+l.toNat) (h.toNat - l.toNat)) σ))
    | _,_=>.bad
   | _=>.bad
  | _=>.bad
 | _=>.bad):=nrfl rfl
@[go_sem] theorem rBox_def (t:Nat) (x:AV) (σ:ST):rBox t x σ =
 (match cellsV x with
 | some cs=>.ok (.ptr σ.length 0) (σ++[.box t cs])
 | none=>.bad):=nrfl rfl
@[go_sem] theorem rStore_def (P:Program) (t:TypeId) (a x:AV) (σ:ST):rStore P t a x σ =
 (match cellsV x with
 | none=>.bad
 | some []=>match a with
  | .ptr b _=>match stGet σ b with
   | .box _ _=>.need ((P.info? t).map (·.size)=some 0) (.ok .any σ)
   | _=>.bad
  | _=>.bad
 | some vs=>.need (vs.length=P.cellsOf t∧0<vs.length) (match a with
  | .ptr b o=>match stGet σ b with
   | .box t' cs=>.need (o+vs.length≤cs.length) (.ok .any (stSet σ b (.box t' (splice cs o vs))))
   | _=>.bad
  | .eptr b g i o=>match stGet σ b,toDs vs with
   | .arr g' e xs,some ds=>.need (g=g'∧i<xs.length∧o+vs.length≤e) (.ok .any (stSet σ b (.arr g' e (xs.set i (dvSet (xs.getD i default) o ds)))))
   | _,_=>.bad
  | .rptr b g i=>rStoreR b g i vs σ
  | _=>.bad)):=nrfl rfl
@[go_sem] theorem rBuildSlice_def (P:Program) (t:TypeId) (len:Nat) (parts:List (Nat × AV)) (σ:ST):rBuildSlice P t len parts σ =
 (match P.underlying t with
 | some (.slice el)=>.need (0<P.cellsOf el∧zeroA P el≠.any∧len * P.cellsOf el≤16777216) (match dsOf (P.cellsOf el) 0 parts with
  | some ds=>.need (len=ds.length) (newArr σ (P.cellsOf el) el ds)
  | none=>.bad)
 | _=>.bad):=nrfl rfl
@[go_sem] theorem rBuild_def (P:Program) (t:TypeId) (parts:List (Nat × AV)) (σ:ST):rBuild P t parts σ =
 (match structPlaces P t,zeroA P t with
 | some pl,.agg zs=>match fillA pl zs parts with
  | some cs=>.ok (.agg cs) σ
  | none=>.bad
 | _,_=>.bad):=nrfl rfl
@[go_sem] theorem rAppend_def (P:Program) (t xt:TypeId) (s x:AV) (σ:ST):rAppend P t xt s x σ =
 (match P.underlying t,P.underlying xt with
 | some (.slice el),some d=>.need (0<P.cellsOf el∧(cellsV (zeroA P el)).map List.length=some (P.cellsOf el)) (match elems ⟨P.cellsOf el,el⟩ s σ,srcElems d ⟨P.cellsOf el,el⟩ x σ with
  | some xs,some ys=>.need (0<P.bytesOf el∧(xs.length+ys.length) * P.bytesOf el≤140737488355328) (match s with
   | .d .nilslice=>newArr σ (P.cellsOf el) el ys
   | .own b g off n=>.ok (.own b (g+1) 0 (xs.length+ys.length)) (stSet σ b (.arr (g+1) ⟨P.cellsOf el,el⟩ (xs++ys)))
   | _=>.bad)
  | none,some ys=>rAppendR P el s ys σ
  | _,_=>.bad)
 | _,_=>.bad):=nrfl rfl
@[go_sem] theorem rMake_def (P:Program) (t:TypeId) (l c:AV) (σ:ST):rMake P t l c σ =
 (match P.underlying t,l,c,toD (match P.underlying t with | some (.slice el)=>zeroA P el | _=>.any) with
 | some (.slice el),.d (.int _ l),.d (.int _ c),some z =>
  .need (0<P.cellsOf el∧z.cells.length=P.cellsOf el∧0<P.bytesOf el) (.need (0≤l∧l≤c∧c * P.bytesOf el≤140737488355328) (newArr σ (P.cellsOf el) el (List.replicate l.toNat z)))
 | _,_,_,_=>.bad):=nrfl rfl
@[go_sem] theorem rCopy_def (P:Program) (t:TypeId) (s x:AV) (σ:ST):rCopy P t s x σ =
 (match P.underlying t,s with
 | some (.slice el),.own b g off n=>match stGet σ b,elems ⟨P.cellsOf el,el⟩ x σ with
  | .arr g' e' zs,some ys=>.need (g=g'∧e'=⟨P.cellsOf el,el⟩∧off+n≤zs.length∧0<P.cellsOf el)
    (.ok (.d (.int .i64 (min ys.length n:Nat))) (stSet σ b (.arr g' e' (splice zs off (ys.take (min ys.length n))))))
  | _,_=>.bad
 | _,_=>.bad):=nrfl rfl
variable {P:Program}
attribute [go_sem] splice dvSet
attribute [go_sem] cond_true cond_false List.all_cons List.all_nil Bool.and_true Bool.true_and Bool.and_false Bool.false_and Bool.or_true Bool.true_or Bool.or_false Bool.false_or Bool.not_true Bool.not_false
 List.nil_append List.cons_append List.append_nil List.length_cons List.length_nil List.drop_zero List.drop_succ_cons List.take_zero List.take_succ_cons List.take_nil List.drop_nil
 List.getD_cons_zero List.getD_cons_succ List.map_cons List.map_nil Option.map_some Option.map_none Option.bind_some Option.bind_none List.getElem?_cons_zero List.getElem?_cons_succ
 if_true if_false true_and and_true and_self eq_self Bool.false_eq_true Option.some.injEq not_true_eq_false not_false_eq_true false_and and_false ne_eq reduceCtorEq
 List.length_map Int.toNat_natCast Int.toNat_zero List.set_cons_zero List.set_cons_succ implies_true decide_true decide_false Nat.lt_irrefl
theorem getD_map {α:Type} [Inhabited α] (f:α→DV) (l:List α) (n:Nat) (h:n<l.length):(l.map f).getD n default=f (l.getD n default):=by
 simp [List.getD_eq_getElem?_getD,h]
theorem drop_getD {α:Type} [Inhabited α] (l:List α) (n:Nat) (h:n<l.length):l.drop n=l.getD n default::l.drop (n+1):=by
 rw [List.drop_eq_getElem_cons h];simp [List.getD_eq_getElem?_getD,h]
theorem cast0:((0:Nat):Int)=0:=by omega
theorem cast1 (k:Nat):(k:Int)+1=((k+1:Nat):Int):=by omega
theorem cast2 (k:Nat):(k:Int)+2=((k+2:Nat):Int):=by omega
theorem zero_le_cast (k:Nat):((0:Int)≤(k:Int))=True:=by simp
theorem wrap_i32 {n:Int} (h1:-2147483648≤n) (h2:n<2147483648):IntKind.i32.wrap n=n:=by
 have e1:(2:Int) ^ 32=4294967296:=by decide
 have e2:(2:Int) ^ (32 - 1)=2147483648:=by decide
 simp only [IntKind.wrap,IntKind.bits,IntKind.signed,Bool.true_and,e1,e2,decide_eq_true_eq,ge_iff_le]
 split <;> omega
theorem wrap_u8 {n:Int} (h1:0≤n) (h2:n<256):IntKind.u8.wrap n=n:=by
 have e1:(2:Int) ^ 8=256:=by decide
 simp only [IntKind.wrap,IntKind.bits,IntKind.signed,Bool.false_and,e1,if_false,Bool.false_eq_true]
 omega
attribute [go_sem] wrap_i32 wrap_u8 getD_map cast0 cast1 cast2 zero_le_cast wrap_id Int.ofNat_lt Int.ofNat_le Int.ofNat_inj
theorem apR:(∀ a b c:ST,a++b++c=a++(b++c))∧(∀ (x:Blk) (a b:ST),x::a++b=x::(a++b))∧(∀ a:ST,[]++a=a)∧(∀ a b:ST,List.length (a++b)=a.length+b.length) ∧
  (∀ (l m:ST) (k:Nat),stGet (l++m) (List.length l+k)=stGet m k)∧(∀ l m:ST,stGet (l++m) (List.length l)=stGet m 0)∧(∀ (l m:ST) (k:Nat) (x:Blk),stSet (l++m) (List.length l+k) x=l++stSet m k x) ∧
  (∀ (l m:ST) (x:Blk),stSet (l++m) (List.length l) x=l++stSet m 0 x):=by
 refine ⟨List.append_assoc,fun x a b=>List.cons_append,List.nil_append,fun a b=>List.length_append,fun l m k=>?_,fun l m=>?_,fun l m k x=>?_,fun l m x=>?_⟩
 ·simp [stGet,List.getD_eq_getElem?_getD,List.getElem?_append_right]
 ·simp [stGet,List.getD_eq_getElem?_getD,List.getElem?_append_right]
 ·simp [stSet]
 ·simp [stSet]
attribute [go_sem] reduceIte reduceDIte reduceCtorEq Nat.reduceBEq Nat.reduceEqDiff Nat.reduceAdd Nat.reduceSub Nat.reduceMul Nat.reduceLT Nat.reduceLeDiff Nat.reduceBNe Int.reduceNeg Int.reduceAdd Int.reduceSub Int.reduceMul Int.reduceLT Int.reduceLE Int.reduceGT Int.reduceGE Int.reduceEq Int.reduceNe Int.reduceToNat Int.reduceTMod Int.reduceTDiv
end Nv
