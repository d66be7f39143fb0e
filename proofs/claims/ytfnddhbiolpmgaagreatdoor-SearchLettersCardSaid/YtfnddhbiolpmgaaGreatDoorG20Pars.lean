/- Part of a proof about the functions of this seat. -/
import Derived.Shelf.LaysM
import Derived.Lib.LaidU8T
import Derived.MakeChecks
import Derived.KernelRfl
import Derived.Test.YtfnddhbiolpmgaaGreatDoorProg
import Derived.Test.YtfnddhbiolpmgaaGreatDoorRows
import Derived.Test.YtfnddhbiolpmgaaGreatDoorG19NvR
import Derived.Shelf.Unicode.ValidAny
import Derived.Test.YtfnddhbiolpmgaaGreatDoorG10Base56
import Derived.Test.YtfnddhbiolpmgaaGreatDoorG18Fv56
import Derived.Test.YtfnddhbiolpmgaaGreatDoorG12Q56
set_option linter.unusedVariables false
set_option linter.unusedSimpArgs false
set_option maxRecDepth 100000
namespace Go.Proofs.YtfnddhbiolpmgaaGreatDoor
open Go.Shelf
def Tryz.lays196_ren:Go.Shelf.Ren:=⟨fun | 196=>40 | 259=>60 | n=>n,fun | 9=>9 | 4=>4 | 3=>3 | 5=>5 | 12=>12 | 119=>123 | 0=>0 | 46=>56 | 139=>126 | 138=>125 | 53=>139 | n=>n,fun | 3=>1 | 4=>2 | n=>n⟩
theorem Tryz.lays196:Go.Proofs.Lays.n196 Tryz.prog Tryz.lays196_ren where
 mixed:=by kernel_rfl
 f196:=Tryz.func40.trans (congrArg some (by kernel_rfl))
 f259:=Tryz.func60.trans (congrArg some (by kernel_rfl))
 t0:=Tryz.underlying0
 a0:=Tryz.isAgg0
 z0:=Tryz.sizeOf0
 v0:=Tryz.zeroValue0
 t3:=Tryz.underlying3
 a3:=Tryz.isAgg3
 z3:=Tryz.sizeOf3
 v3:=Tryz.zeroValue3
 t4:=Tryz.underlying4
 a4:=Tryz.isAgg4
 z4:=Tryz.sizeOf4
 v4:=Tryz.zeroValue4
 t5:=Tryz.underlying5
 a5:=Tryz.isAgg5
 z5:=Tryz.sizeOf5
 v5:=Tryz.zeroValue5
 t9:=Tryz.underlying9
 a9:=Tryz.isAgg9
 z9:=Tryz.sizeOf9
 v9:=Tryz.zeroValue9
 t12:=Tryz.underlying12
 a12:=Tryz.isAgg12
 z12:=Tryz.sizeOf12
 v12:=Tryz.zeroValue12
 t46:=Tryz.underlying56
 a46:=Tryz.isAgg56
 z46:=Tryz.sizeOf56
 v46:=Tryz.zeroValue56
 t53:=Tryz.underlying139
 a53:=Tryz.isAgg139
 z53:=Tryz.sizeOf139
 v53:=Tryz.zeroValue139
 t119:=Tryz.underlying123
 a119:=Tryz.isAgg123
 z119:=Tryz.sizeOf123
 t138:=Tryz.underlying125
 a138:=Tryz.isAgg125
 z138:=Tryz.sizeOf125
 v138:=Tryz.zeroValue125
 t139:=Tryz.underlying126
 a139:=Tryz.isAgg126
 z139:=Tryz.sizeOf126
 v139:=Tryz.zeroValue126
 g3:=by kernel_rfl
 g4:=by kernel_rfl
open Go.RowKit Go.Lib Nv
theorem extraU8:U8Extra Tryz.prog Tryz.lays196_ren where
 n3:=by kernel_rfl
 n4:=by kernel_rfl
 y3:=by kernel_rfl
 y4:=by kernel_rfl
 c5:=by kernel_rfl
 c119:=by kernel_rfl
 c138:=by kernel_rfl
theorem globals_le {w:Go.World} (h:w.ShapedOpen Tryz.prog):Tryz.prog.globals.size≤w.heap.size:=by
 have hk:(((Go.begin Tryz.prog (fun _ _=>0) default).world.heap[Tryz.prog.globals.size - 1]?).bind Go.Obj.row?).isSome=true:=by kernel_rfl
 obtain ⟨⟨zero,t⟩,hz⟩:=Option.isSome_iff_exists.1 hk
 have hp:0<Tryz.prog.globals.size:=of_decide_eq_true (by kernel_rfl)
 obtain ⟨cs,hc,_⟩:=h.1 (Tryz.prog.globals.size - 1) zero t (Nat.sub_lt hp Nat.one_pos) hz
 rcases Nat.lt_or_ge (Tryz.prog.globals.size - 1) w.heap.size with h' | h'
 ·omega
 ·rw [Array.getElem?_eq_none h'] at hc;cases hc
theorem tabs_of {w:Go.World} (hs:w.ShapedOpen Tryz.prog) (h:∀ r:Go.Shelf.Ren,U8Types Tryz.prog r→U8Extra Tryz.prog r→Utf8Tabs (r.g 3) (r.g 4) w) (hp:(Tryz.prog.globalNamed powN).isSome=true→TabIs Tryz.prog w powN .u64 Lib.pow10Tab):Tabs Tryz.prog (fun b=>b<w.heap.size) w :=
 Tabs.of hs h hp (globals_le hs)
theorem first_eq:Rows.laid_unicode_utf8_first=firstData:=by kernel_rfl
theorem accept_eq:(Rows.laid_unicode_utf8_acceptRanges:Go.DataW Unit)=acceptData:=by kernel_rfl
end Go.Proofs.YtfnddhbiolpmgaaGreatDoor
set_option linter.unusedVariables false
set_option linter.unusedSimpArgs false
set_option maxRecDepth 100000
namespace Go.Proofs.YtfnddhbiolpmgaaGreatDoor
open Go.RowKit Go.Lib Nv
theorem valid18 (s:List UInt8) (hs:s.length≤9223372036854775807):PCall Tryz.prog 40 [.d (.str s)] (.d (.bool (Lib.validD s))) :=
 .of_callsT rfl rfl fun w I hT=>Any.utf8_ValidString Tryz.lays196 ⟨s.toArray⟩ w (by simpa [ByteArray.size] using hs) (hT.utf8 (U8Types.of196 Tryz.lays196) extraU8)
end Go.Proofs.YtfnddhbiolpmgaaGreatDoor
/- The prepared code of further functions. Written by a program of mine (gen.py) out of what the loaded dump prints. -/

set_option linter.unusedVariables false
set_option maxRecDepth 100000
namespace Go.Proofs.YtfnddhbiolpmgaaGreatDoor
open Go Nv
theorem fn25:FnIs Tryz.prog 25 1 [Go.ResultVar.tmp 2] (.seq (.region [⟨some 2,Go.Op.assign (Go.Operand.const (Go.Value.bool false)),4,none⟩])
  (.seq (.region [⟨some 3,Go.Op.move (Go.Operand.tmp 0),9,none⟩,
   ⟨some 4,Go.Op.call { callee:=Go.Callee.value (Go.Operand.func 40),args:=#[Go.Operand.tmp 3],argTypes:=#[9] },4,none⟩,
   ⟨some 2,Go.Op.assign (Go.Operand.tmp 4),4,none⟩])
  .ret)) :=
 ⟨foll,Tryz.f25,Tryz.func25,by kernel_rfl,by kernel_rfl,by kernel_rfl,by rw [Tryz.ntmps25];decide⟩
end Go.Proofs.YtfnddhbiolpmgaaGreatDoor
set_option linter.unusedVariables false
set_option linter.unusedSimpArgs false
set_option maxRecDepth 100000
namespace Go.Proofs.YtfnddhbiolpmgaaGreatDoor
open Go Nv Pat
theorem validU (s:List UInt8) (hs:s.length≤100000):PCall Tryz.prog 25 [.d (.str s)] (.d (.bool (Lib.validD s))):=by
 refine fn25.pure noHint (Nat.le_refl _) (by simp only [go_sem]) (by simp only [go_sem]) ?_
 simp (disch:=omega) only [go_sem]
 refine (valid18 s (by omega)).at ?_
 simp (disch:=omega) only [go_sem]
end Go.Proofs.YtfnddhbiolpmgaaGreatDoor
/- Patterns as texts of characters: how they are read,and how they are written. Plain: no program. -/

set_option linter.unusedVariables false
set_option linter.unusedSimpArgs false
namespace Pat
def allS:List (Int × Int):=[(0,55295),(57344,1114111)]
def clip1 (a b:Int) (q:Int × Int):List (Int × Int):=if max a q.1≤min b q.2 then [(max a q.1,min b q.2)] else []
def clipS (a b:Int):List (Int × Int):=clip1 a b (0,55295)++clip1 a b (57344,1114111)
def joinR (out:List (Int × Int)) (r:Int × Int):List (Int × Int) :=
 if 0<out.length∧r.1≤(out.getD (out.length - 1) default).2+1 then out.set (out.length - 1) ((out.getD (out.length - 1) default).1,max (out.getD (out.length - 1) default).2 r.2)
 else out++[r]
def compL:Int→List (Int × Int)→List (Int × Int)
 | low,[]=>clipS low 1114111
 | low,r::l=>clipS low (r.1 - 1)++compL (r.2+1) l
def compS (l:List (Int × Int)):List (Int × Int):=compL 0 l
def spec:List Int:=[92,40,41,91,93,123,125,124,42,43,63,46]
def digit (c:Int):Bool:=decide (48≤c) && decide (c≤57)
def numL:List Int→Int→Int × List Int
 | [],n=>(n,[])
 | c::t,n=>if digit c then numL t (min (10 * n+(c - 48)) 1000) else (n,c::t)
def numP (l:List Int):Option (Int × List Int) :=
 if (numL l 0).2.length=l.length∨(l.headD 0=48∧(numL l 0).2.length+1<l.length)∨20<(numL l 0).1 then none else some (numL l 0)
def oneP:List Int→Option (Int × List Int)
 | []=>none
 | c::t=>some (c,t)
def letP:List Int→Option (Int × List Int)
 | []=>none
 | c::t=>if c=92 then oneP t else if c=93∨c=94∨c=45 then none else some (c,t)
def itemP (l:List Int):Option ((Int × Int) × List Int) :=
 match letP l with
 | none=>none
 | some x=>if x.2.headD (-1)=45 then (letP x.2.tail).map fun y=>((x.1,y.1),y.2) else some ((x.1,x.1),x.2)
def clsP:Nat→List (Int × Int)→List Int→Option (List (Int × Int) × List Int)
 | 0,_,_=>none
 | f+1,acc,l =>
  if acc≠[]∧l.headD (-1)=93 then some (acc,l.tail)
  else match itemP l with
   | none=>none
   | some (q,r)=>if q.2<q.1 then none else clsP f (acc++clipS q.1 q.2) r
section
variable (sort:List (Int × Int)→List (Int × Int))
def normS (l:List (Int × Int)):List (Int × Int):=(sort l).foldl joinR []
def classP (l:List Int):Option (List (Int × Int) × List Int) :=
 if l.headD (-1)=94 then (clsP (l.length+1) [] l.tail).map fun x=>(compS (normS sort x.1),x.2)
 else (clsP (l.length+1) [] l).map fun x=>(normS sort x.1,x.2)
def setT (s:List (Int × Int)):Tree:=.mk 2 s [] 0 0
def rep5 (x:Tree) (a b:Int):Tree:=.mk 5 [] [x] a b
def mkJoin:List Tree→Tree
 | []=>.mk 1 [] [] 0 0
 | [x]=>x
 | l=>.mk 3 [] l 0 0
def mkChoice:List Tree→Tree
 | [x]=>x
 | l=>.mk 4 [] l 0 0
variable (ch:List Int→Option (Tree × List Int))
def atomP:List Int→Option (Tree × List Int)
 | []=>none
 | c::t =>
  if c=40 then (match ch t with
   | none=>none
   | some (n,r)=>if r.headD (-1)=41 then some (n,r.tail) else none)
  else if c=46 then some (setT allS,t)
  else if c=91 then (classP sort t).map fun x=>(setT x.1,x.2)
  else if c=92 then (match t with | []=>none | d::t=>some (setT [(d,d)],t))
  else if c∈spec then none
  else some (setT [(c,c)],t)
def bndP (l:List Int):Option ((Int × Int) × List Int) :=
 match numP l with
 | none=>none
 | some (a,r) =>
  match (if r.headD (-1)=44 then (if r.tail.headD (-1)=125 then some (-1,r.tail) else numP r.tail) else some (a,r)) with
  | none=>none
  | some (b,r)=>if r.headD (-1)=125∧¬ (0≤b∧b<a) then some ((a,b),r.tail) else none
def repP (l:List Int):Option (Tree × List Int) :=
 match atomP sort ch l with
 | none=>none
 | some (x,r) =>
  if r.headD (-1)=42 then some (rep5 x 0 (-1),r.tail)
  else if r.headD (-1)=43 then some (rep5 x 1 (-1),r.tail)
  else if r.headD (-1)=63 then some (rep5 x 0 1,r.tail)
  else if r.headD (-1)=123 then (bndP r.tail).map fun y=>(rep5 x y.1.1 y.1.2,y.2)
  else some (x,r)
def joinL:Nat→List Int→Option (List Tree × List Int)
 | 0,_=>none
 | f+1,l =>
  if l.headD (-1)<0∨l.headD (-1)=124∨l.headD (-1)=41 then some ([],l)
  else match repP sort ch l with
   | none=>none
   | some (x,r)=>(joinL f r).map fun y=>(x::y.1,y.2)
def joinP (l:List Int):Option (Tree × List Int):=(joinL sort ch (l.length+1) l).map fun y=>(mkJoin y.1,y.2)
def choiceL:Nat→List Int→Option (List Tree × List Int)
 | 0,_=>none
 | f+1,l =>
  match joinP sort ch l with
  | none=>none
  | some (x,r)=>if r.headD (-1)=124 then (choiceL f r.tail).map fun y=>(x::y.1,y.2) else some ([x],r)
def choiceP (l:List Int):Option (Tree × List Int):=(choiceL sort ch (l.length+1) l).map fun y=>(mkChoice y.1,y.2)
end
def chP (sort:List (Int × Int)→List (Int × Int)):Nat→List Int→Option (Tree × List Int)
 | 0=>fun _=>none
 | f+1=>choiceP sort (chP sort f)
def parseC (sort:List (Int × Int)→List (Int × Int)) (l:List Int):Option Tree :=
 match chP sort (l.length+1) l with
 | some (n,[])=>some n
 | _=>none
/- writing -/
end Pat
