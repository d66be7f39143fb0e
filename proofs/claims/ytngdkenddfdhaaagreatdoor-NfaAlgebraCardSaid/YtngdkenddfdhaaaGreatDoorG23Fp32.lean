/- Part of a proof about the functions of this seat. -/
import Derived.Test.YtngdkenddfdhaaaGreatDoorG09Base32
import Derived.Test.YtngdkenddfdhaaaGreatDoorG12Nfr
import Derived.Test.YtngdkenddfdhaaaGreatDoorG17Fm32
import Derived.Test.YtngdkenddfdhaaaGreatDoorG18Pars
/- The prepared code of further functions. Written by a program of mine (gen.py) out of what the loaded dump prints. -/

set_option linter.unusedVariables false
set_option maxRecDepth 100000
namespace Go.Proofs.YtngdkenddfdhaaaGreatDoor
open Go Nv
theorem fn20:FnIs Tryz.prog 20 1 [Go.ResultVar.tmp 2] (.seq (.region [⟨some 1,Go.Op.box 25 (Go.Operand.tmp 0),0,none⟩,
   ⟨some 2,Go.Op.assign (Go.Operand.const (Go.Value.int Go.IntKind.i64 0)),3,none⟩])
  (.seq (.region [⟨some 3,Go.Op.assign (Go.Operand.const (Go.Value.int Go.IntKind.i64 2)),3,none⟩])
  (.seq (.seq (.region [⟨some 4,Go.Op.assign (Go.Operand.const (Go.Value.int Go.IntKind.i64 0)),3,none⟩])
  (.block 0
   (.loop
    (.seq (.seq (.region [⟨some 6,Go.Op.move (Go.Operand.tmp 4),3,none⟩,
     ⟨some 7,Go.Op.fieldAddr 25 (Go.Operand.tmp 1) 2,0,none⟩,
     ⟨some 8,Go.Op.load 23 (Go.Operand.tmp 7),23,none⟩,
     ⟨some 9,Go.Op.call { callee:=Go.Callee.builtin Go.Builtin.len,args:=#[Go.Operand.tmp 8],argTypes:=#[23] },3,none⟩,
     ⟨some 10,Go.Op.binOp Go.BinOp.lss 3 (Go.Operand.tmp 6) (Go.Operand.tmp 9) 3,4,none⟩])
    (.cond (Go.Operand.tmp 10)
     .skip
     (.exit 0)))
    (.seq (.block 1
     (.seq (.region [⟨some 5,Go.Op.assign (Go.Operand.const (Go.Value.int Go.IntKind.i64 1)),3,none⟩])
     (.seq (.seq (.region [⟨some 13,Go.Op.fieldAddr 25 (Go.Operand.tmp 1) 0,0,none⟩,
      ⟨some 14,Go.Op.load 3 (Go.Operand.tmp 13),3,none⟩,
      ⟨some 15,Go.Op.binOp Go.BinOp.eql 3 (Go.Operand.tmp 14) (Go.Operand.const (Go.Value.int Go.IntKind.i64 5)) 3,4,none⟩])
     (.cond (Go.Operand.tmp 15)
      (.region [⟨some 16,Go.Op.load 25 (Go.Operand.tmp 1),25,none⟩,
       ⟨some 17,Go.Op.call { callee:=Go.Callee.value (Go.Operand.func 41),args:=#[Go.Operand.tmp 16],argTypes:=#[25] },3,none⟩,
       ⟨some 5,Go.Op.assign (Go.Operand.tmp 17),3,none⟩])
      .skip))
     (.region [⟨some 18,Go.Op.move (Go.Operand.tmp 3),3,none⟩,
      ⟨some 19,Go.Op.move (Go.Operand.tmp 5),3,none⟩,
      ⟨some 20,Go.Op.fieldAddr 25 (Go.Operand.tmp 1) 2,0,none⟩,
      ⟨some 21,Go.Op.load 23 (Go.Operand.tmp 20),23,none⟩,
      ⟨some 22,Go.Op.move (Go.Operand.tmp 4),3,none⟩,
      ⟨some 23,Go.Op.indexAddr 23 (Go.Operand.tmp 21) (Go.Operand.tmp 22),0,none⟩,
      ⟨some 24,Go.Op.load 25 (Go.Operand.tmp 23),25,none⟩,
      ⟨some 25,Go.Op.call { callee:=Go.Callee.value (Go.Operand.func 20),args:=#[Go.Operand.tmp 24],argTypes:=#[25] },3,none⟩,
      ⟨some 26,Go.Op.binOp Go.BinOp.mul 3 (Go.Operand.tmp 19) (Go.Operand.tmp 25) 3,3,none⟩,
      ⟨some 27,Go.Op.binOp Go.BinOp.add 3 (Go.Operand.tmp 18) (Go.Operand.tmp 26) 3,3,none⟩,
      ⟨some 28,Go.Op.call { callee:=Go.Callee.builtin Go.Builtin.min,args:=#[Go.Operand.tmp 27,Go.Operand.const (Go.Value.int Go.IntKind.i64 10000)],argTypes:=#[3,3] },3,none⟩,
      ⟨some 3,Go.Op.assign (Go.Operand.tmp 28),3,none⟩]))))
    (.region [⟨some 11,Go.Op.move (Go.Operand.tmp 4),3,none⟩,
     ⟨some 12,Go.Op.binOp Go.BinOp.add 3 (Go.Operand.tmp 11) (Go.Operand.const (Go.Value.int Go.IntKind.i64 1)) 3,3,none⟩,
     ⟨some 4,Go.Op.assign (Go.Operand.tmp 12),3,none⟩]))))))
  (.seq (.region [⟨some 29,Go.Op.move (Go.Operand.tmp 3),3,none⟩,
   ⟨some 2,Go.Op.assign (Go.Operand.tmp 29),3,none⟩])
  .ret)))) :=
 ⟨foll,Tryz.f20,Tryz.func20,by kernel_rfl,by kernel_rfl,by kernel_rfl,by rw [Tryz.ntmps20];decide⟩
theorem fn41:FnIs Tryz.prog 41 1 [Go.ResultVar.tmp 2] (.seq (.region [⟨some 1,Go.Op.box 25 (Go.Operand.tmp 0),0,none⟩,
   ⟨some 2,Go.Op.assign (Go.Operand.const (Go.Value.int Go.IntKind.i64 0)),3,none⟩])
  (.seq (.seq (.region [⟨some 3,Go.Op.fieldAddr 25 (Go.Operand.tmp 1) 4,0,none⟩,
   ⟨some 4,Go.Op.load 3 (Go.Operand.tmp 3),3,none⟩,
   ⟨some 5,Go.Op.binOp Go.BinOp.lss 3 (Go.Operand.tmp 4) (Go.Operand.const (Go.Value.int Go.IntKind.i64 0)) 3,4,none⟩])
  (.cond (Go.Operand.tmp 5)
   (.seq (.region [⟨some 6,Go.Op.fieldAddr 25 (Go.Operand.tmp 1) 3,0,none⟩,
    ⟨some 7,Go.Op.load 3 (Go.Operand.tmp 6),3,none⟩,
    ⟨some 8,Go.Op.binOp Go.BinOp.add 3 (Go.Operand.tmp 7) (Go.Operand.const (Go.Value.int Go.IntKind.i64 1)) 3,3,none⟩,
    ⟨some 2,Go.Op.assign (Go.Operand.tmp 8),3,none⟩])
   .ret)
   .skip))
  (.seq (.region [⟨some 9,Go.Op.fieldAddr 25 (Go.Operand.tmp 1) 4,0,none⟩,
   ⟨some 10,Go.Op.load 3 (Go.Operand.tmp 9),3,none⟩,
   ⟨some 2,Go.Op.assign (Go.Operand.tmp 10),3,none⟩])
  .ret))) :=
 ⟨foll,Tryz.f41,Tryz.func41,by kernel_rfl,by kernel_rfl,by kernel_rfl,by rw [Tryz.ntmps41];decide⟩
end Go.Proofs.YtngdkenddfdhaaaGreatDoor
set_option linter.unusedVariables false
set_option linter.unusedSimpArgs false
set_option maxRecDepth 100000
namespace Go.Proofs.YtngdkenddfdhaaaGreatDoor
open Go Nv Pat
theorem copies41 (n:Tree) (ha:0≤n.min∧n.min≤1000000) (hb:n.max≤1000000):PCall Tryz.prog 41 [nodeA n] (.d (.int .i64 (copies n.min n.max))):=by
 refine fn41.pure noHint (Nat.le_refl _) (by simp only [go_sem,nodeA,nodeF,setD]) (by simp only [go_sem]) ?_
 simp (disch:=omega) only [go_sem,nodeA,nodeF,setD]
 by_cases h:n.max<0
 ·have e:((copies n.min n.max:Nat):Int)=n.min+1:=by unfold copies;rw [if_pos h];omega
  simp (disch:=omega) only [go_sem,h]
  rw [e]
 ·have e:((copies n.min n.max:Nat):Int)=n.max:=by unfold copies;rw [if_neg h];omega
  simp (disch:=omega) only [go_sem,h]
  rw [e]
end Go.Proofs.YtngdkenddfdhaaaGreatDoor
set_option linter.unusedVariables false
set_option linter.unusedSimpArgs false
set_option maxRecDepth 100000
namespace Go.Proofs.YtngdkenddfdhaaaGreatDoor
open Go Nv Pat
def fac1 (a:Int):Int:=(if 100<(if a<0 then 0 else a) then 100 else if a<0 then 0 else a)+15
def fac2 (b:Int):Int:=if 100<(if b<1 then 1 else b) then 100 else if b<1 then 1 else b
theorem fac1_ok (a:Int):15≤fac1 a∧fac1 a≤115:=by unfold fac1;split <;> split at * <;> omega
theorem fac2_ok (b:Int):1≤fac2 b∧fac2 b≤100:=by unfold fac2;split <;> split at * <;> omega
def scale (k a b w:Int):Int:=if k=5 then (if b<0 then w * fac1 a else w * fac2 b) else w
def cap6 (z:Int):Int:=if 1000000<z then 1000000 else z
mutual
def wt:Tree→Int
 | .mk k _ l a b=>cap6 (scale k a b (1+wtL l))
def wtL:List Tree→Int
 | []=>0
 | x::l=>wt x+wtL l
end
theorem scale_pos {k a b w:Int} (h:1≤w):1≤scale k a b w:=by
 have h1:=fac1_ok a
 have h2:=fac2_ok b
 unfold scale
 split
 ·split
  ·calc (1:Int)=1 * 1:=rfl
    _≤w * fac1 a:=Int.mul_le_mul h (by omega) (by omega) (by omega)
  ·calc (1:Int)=1 * 1:=rfl
    _≤w * fac2 b:=Int.mul_le_mul h (by omega) (by omega) (by omega)
 ·exact h
mutual
theorem wt_bound:∀ n:Tree,1≤wt n∧wt n≤1000000
 | .mk k s l a b=>by
  rw [wt]
  have h:=wtL_bound l
  have:=scale_pos (k:=k) (a:=a) (b:=b) (w:=1+wtL l) (by omega)
  unfold cap6;split <;> omega
theorem wtL_bound:∀ l:List Tree,0≤wtL l∧wtL l≤1000000 * l.length
 | []=>by simp [wtL]
 | x::l=>by
  have h1:=wt_bound x
  have h2:=wtL_bound l
  rw [wtL,List.length_cons];omega
end
theorem wtL_append:∀ l m:List Tree,wtL (l++m)=wtL l+wtL m
 | [],m=>by simp [wtL]
 | x::l,m=>by rw [List.cons_append,wtL,wtL,wtL_append l m];omega
theorem weight30:∀ (n:Tree),n.nodes≤1000000→PCall Tryz.prog 15 [nodeA n] (.d (.int .i64 (wt n))):=by
 intro n
 induction n using Tree.ind with
 | h k s sub a b ih =>
  intro hnd
  have hn:(Tree.mk k s sub a b).nodes=1+Tree.nodesL sub:=nodes_eq _
  have hsub:sub.length≤1000000:=by have h1:=length_nodesL sub;omega
  refine fn15.pure noHint (Nat.le_refl _) (by simp only [go_sem,nodeA,nodeF,setD]) (by simp only [go_sem]) ?_
  simp (disch:=omega) only [go_sem,nodeA,nodeF,Tree.kind,Tree.set,Tree.sub,Tree.min,Tree.max]
  refine wL_ind (fun (j:Nat) fr σ=>j≤sub.length∧fr 1=.ptr 0 0∧fr 3=.d (.int .i64 (1+wtL (sub.take j)))∧fr 4=.d (.int .i64 j)∧σ=[.box 25 (boxF k s sub a b)]) (fun j=>sub.length - j) ?_ 0 ?_
  ·rintro j fr σ ⟨hj,f1,f3,f4,rfl⟩ ih2
   have hb:=wtL_bound (sub.take j)
   rw [List.length_take] at hb
   by_cases hlt:j<sub.length
   ·obtain ⟨x,hx⟩:∃ x,x=sub.getD j default:=⟨_,rfl⟩
    have hxm:x∈sub:=by rw [hx];exact getD_mem sub j hlt
    have hxn:=nodes_mem sub x hxm
    have hwx:=wt_bound x
    simp (disch:=omega) only [go_sem,f1,f3,f4,hlt,boxF,nodeD_eq,nodeC,← hx]
    refine (ih x hxm (by omega)).at ?_
    have e:1+wtL (sub.take (j+1))=1+wtL (sub.take j)+wt x:=by
     rw [take_succ' sub j hlt,wtL_append,← hx];simp only [wtL];omega
    have hw:IntKind.i64.wrap (1+wtL (sub.take j)+wt x)=1+wtL (sub.take j)+wt x:=wrap_id (by omega) (by omega)
    simp (disch:=omega) only [go_sem,f4,hw]
    refine ih2 (j+1) _ _ (by omega) ⟨by omega,?_,?_,?_,?_⟩
    ·simp (disch:=omega) only [go_sem,f1]
    ·rw [e];simp (disch:=omega) only [go_sem]
    ·simp (disch:=omega) only [go_sem]
    ·simp (disch:=omega) only [go_sem,boxF,nodeD_eq,nodeC]
   ·have ek:sub.take j=sub:=List.take_of_length_le (by omega)
    rw [ek] at f3 hb
    obtain ⟨w,hw⟩:∃ w,w=1+wtL sub:=⟨_,rfl⟩
    rw [← hw] at f3
    have hwb:1≤w∧w≤1000000000001:=by omega
    have hf1:=fac1_ok a
    have hf2:=fac2_ok b
    by_cases k5:k=5
    ·by_cases hb0:b<0
     ·have e:wt (.mk k s sub a b)=cap6 (w * fac1 a):=by rw [wt,← hw,scale,if_pos k5,if_pos hb0]
      have h1:0≤w * fac1 a:=Int.mul_nonneg (by omega) (by omega)
      have h2:w * fac1 a≤1000000000001 * 115:=Int.mul_le_mul hwb.2 (by omega) (by omega) (by omega)
      have hwr:IntKind.i64.wrap (w * fac1 a)=w * fac1 a:=wrap_id (by omega) (by omega)
      rw [← hwr] at e
      rw [e]
      clear e hwr h1 h2
      simp (disch:=omega) only [go_sem,f1,f3,f4,hlt,boxF,k5,hb0,cap6,fac1]
     ·have e:wt (.mk k s sub a b)=cap6 (w * fac2 b):=by rw [wt,← hw,scale,if_pos k5,if_neg hb0]
      have h1:0≤w * fac2 b:=Int.mul_nonneg (by omega) (by omega)
      have h2:w * fac2 b≤1000000000001 * 100:=Int.mul_le_mul hwb.2 (by omega) (by omega) (by omega)
      have hwr:IntKind.i64.wrap (w * fac2 b)=w * fac2 b:=wrap_id (by omega) (by omega)
      rw [← hwr] at e
      rw [e]
      clear e hwr h1 h2
      simp (disch:=omega) only [go_sem,f1,f3,f4,hlt,boxF,k5,hb0,cap6,fac2]
    ·have e:wt (.mk k s sub a b)=cap6 w:=by rw [wt,← hw,scale,if_neg k5]
     simp (disch:=omega) only [go_sem,f1,f3,f4,hlt,boxF,k5,e,cap6]
  ·refine ⟨by omega,?_,?_,?_,rfl⟩
   ·simp (disch:=omega) only [go_sem]
   ·simp (disch:=omega) only [go_sem,wtL];try rfl
   ·simp (disch:=omega) only [go_sem]
end Go.Proofs.YtngdkenddfdhaaaGreatDoor
/- The prepared code of further functions. Written by a program of mine (gen.py) out of what the loaded dump prints. -/

set_option linter.unusedVariables false
set_option maxRecDepth 100000
namespace Go.Proofs.YtngdkenddfdhaaaGreatDoor
open Go Nv
theorem fn12:FnIs Tryz.prog 12 1 [Go.ResultVar.tmp 2] (.seq (.region [⟨some 1,Go.Op.box 25 (Go.Operand.tmp 0),0,none⟩,
   ⟨some 2,Go.Op.assign (Go.Operand.const (Go.Value.int Go.IntKind.i64 0)),3,none⟩])
  (.seq (.seq (.region [⟨some 3,Go.Op.load 25 (Go.Operand.tmp 1),25,none⟩,
   ⟨some 4,Go.Op.call { callee:=Go.Callee.value (Go.Operand.func 29),args:=#[Go.Operand.tmp 3,Go.Operand.const (Go.Value.int Go.IntKind.i64 121)],argTypes:=#[25,3] },3,none⟩,
   ⟨some 5,Go.Op.binOp Go.BinOp.gtr 3 (Go.Operand.tmp 4) (Go.Operand.const (Go.Value.int Go.IntKind.i64 120)) 3,4,none⟩])
  (.cond (Go.Operand.tmp 5)
   (.seq (.region [⟨some 2,Go.Op.assign (Go.Operand.const (Go.Value.int Go.IntKind.i64 5)),3,none⟩])
   .ret)
   .skip))
  (.seq (.region [⟨some 6,Go.Op.load 25 (Go.Operand.tmp 1),25,none⟩,
   ⟨some 7,Go.Op.call { callee:=Go.Callee.value (Go.Operand.func 30),args:=#[Go.Operand.tmp 6],argTypes:=#[25] },3,none⟩,
   ⟨some 2,Go.Op.assign (Go.Operand.tmp 7),3,none⟩])
  .ret))) :=
 ⟨foll,Tryz.f12,Tryz.func12,by kernel_rfl,by kernel_rfl,by kernel_rfl,by rw [Tryz.ntmps12];decide⟩
theorem fn30:FnIs Tryz.prog 30 1 [Go.ResultVar.tmp 2] (.seq (.region [⟨some 1,Go.Op.box 25 (Go.Operand.tmp 0),0,none⟩,
   ⟨some 2,Go.Op.assign (Go.Operand.const (Go.Value.int Go.IntKind.i64 0)),3,none⟩])
  (.seq (.seq (.region [⟨some 6,Go.Op.fieldAddr 25 (Go.Operand.tmp 1) 0,0,none⟩,
   ⟨some 7,Go.Op.load 3 (Go.Operand.tmp 6),3,none⟩,
   ⟨some 8,Go.Op.binOp Go.BinOp.lss 3 (Go.Operand.tmp 7) (Go.Operand.const (Go.Value.int Go.IntKind.i64 1)) 3,4,none⟩,
   ⟨some 9,Go.Op.move (Go.Operand.tmp 8),4,none⟩,
   ⟨some 10,Go.Op.fieldAddr 25 (Go.Operand.tmp 1) 0,0,(some (9,false))⟩,
   ⟨some 11,Go.Op.load 3 (Go.Operand.tmp 10),3,(some (9,false))⟩,
   ⟨some 12,Go.Op.binOp Go.BinOp.gtr 3 (Go.Operand.tmp 11) (Go.Operand.const (Go.Value.int Go.IntKind.i64 5)) 3,4,(some (9,false))⟩,
   ⟨some 13,Go.Op.pick (Go.Operand.tmp 9) (Go.Operand.const (Go.Value.bool true)) (Go.Operand.tmp 12),4,none⟩])
  (.cond (Go.Operand.tmp 13)
   (.seq (.region [⟨some 2,Go.Op.assign (Go.Operand.const (Go.Value.int Go.IntKind.i64 9)),3,none⟩])
   .ret)
   .skip))
  (.seq (.region [⟨some 14,Go.Op.fieldAddr 25 (Go.Operand.tmp 1) 0,0,none⟩,
   ⟨some 15,Go.Op.load 3 (Go.Operand.tmp 14),3,none⟩,
   ⟨some 16,Go.Op.binOp Go.BinOp.eql 3 (Go.Operand.tmp 15) (Go.Operand.const (Go.Value.int Go.IntKind.i64 2)) 3,4,none⟩,
   ⟨some 17,Go.Op.move (Go.Operand.tmp 16),4,none⟩,
   ⟨some 18,Go.Op.fieldAddr 25 (Go.Operand.tmp 1) 1,0,(some (17,false))⟩,
   ⟨some 19,Go.Op.load 22 (Go.Operand.tmp 18),22,(some (17,false))⟩,
   ⟨some 20,Go.Op.call { callee:=Go.Callee.builtin Go.Builtin.len,args:=#[Go.Operand.tmp 19],argTypes:=#[22] },3,(some (17,false))⟩,
   ⟨some 21,Go.Op.binOp Go.BinOp.eql 3 (Go.Operand.tmp 20) (Go.Operand.const (Go.Value.int Go.IntKind.i64 0)) 3,4,(some (17,false))⟩,
   ⟨some 22,Go.Op.pick (Go.Operand.tmp 17) (Go.Operand.const (Go.Value.bool true)) (Go.Operand.tmp 21),4,none⟩,
   ⟨some 3,Go.Op.assign (Go.Operand.tmp 22),4,none⟩])
  (.seq (.region [⟨some 23,Go.Op.move (Go.Operand.tmp 3),4,none⟩,
   ⟨some 24,Go.Op.move (Go.Operand.tmp 23),4,none⟩,
   ⟨some 25,Go.Op.fieldAddr 25 (Go.Operand.tmp 1) 0,0,(some (24,true))⟩,
   ⟨some 26,Go.Op.load 3 (Go.Operand.tmp 25),3,(some (24,true))⟩,
   ⟨some 27,Go.Op.binOp Go.BinOp.eql 3 (Go.Operand.tmp 26) (Go.Operand.const (Go.Value.int Go.IntKind.i64 5)) 3,4,(some (24,true))⟩,
   ⟨some 28,Go.Op.move (Go.Operand.tmp 27),4,(some (24,true))⟩,
   ⟨some 29,Go.Op.fieldAddr 25 (Go.Operand.tmp 1) 3,0,(some (28,false))⟩,
   ⟨some 30,Go.Op.load 3 (Go.Operand.tmp 29),3,(some (28,false))⟩,
   ⟨some 31,Go.Op.binOp Go.BinOp.eql 3 (Go.Operand.tmp 30) (Go.Operand.const (Go.Value.int Go.IntKind.i64 0)) 3,4,(some (28,false))⟩,
   ⟨some 32,Go.Op.move (Go.Operand.tmp 31),4,(some (28,false))⟩,
   ⟨some 33,Go.Op.fieldAddr 25 (Go.Operand.tmp 1) 4,0,(some (32,true))⟩,
   ⟨some 34,Go.Op.load 3 (Go.Operand.tmp 33),3,(some (32,true))⟩,
   ⟨some 35,Go.Op.binOp Go.BinOp.eql 3 (Go.Operand.tmp 34) (Go.Operand.const (Go.Value.int Go.IntKind.i64 0)) 3,4,(some (32,true))⟩,
   ⟨some 36,Go.Op.pick (Go.Operand.tmp 32) (Go.Operand.tmp 35) (Go.Operand.const (Go.Value.bool false)),4,(some (28,false))⟩,
   ⟨some 37,Go.Op.pick (Go.Operand.tmp 28) (Go.Operand.const (Go.Value.bool true)) (Go.Operand.tmp 36),4,(some (24,true))⟩,
   ⟨some 38,Go.Op.pick (Go.Operand.tmp 24) (Go.Operand.tmp 37) (Go.Operand.const (Go.Value.bool false)),4,none⟩,
   ⟨some 3,Go.Op.assign (Go.Operand.tmp 38),4,none⟩])
  (.seq (.seq (.region [⟨some 39,Go.Op.fieldAddr 25 (Go.Operand.tmp 1) 0,0,none⟩,
   ⟨some 40,Go.Op.load 3 (Go.Operand.tmp 39),3,none⟩])
  (.block 0
   (.seq (.seq (.region [⟨some 42,Go.Op.binOp Go.BinOp.eql 3 (Go.Operand.tmp 40) (Go.Operand.const (Go.Value.int Go.IntKind.i64 1)) 3,4,none⟩,
    ⟨some 41,Go.Op.assign (Go.Operand.tmp 42),4,none⟩])
   (.cond (Go.Operand.tmp 41)
    .skip
    (.region [⟨some 43,Go.Op.binOp Go.BinOp.eql 3 (Go.Operand.tmp 40) (Go.Operand.const (Go.Value.int Go.IntKind.i64 2)) 3,4,none⟩,
     ⟨some 41,Go.Op.assign (Go.Operand.tmp 43),4,none⟩])))
   (.cond (Go.Operand.tmp 41)
    (.region [⟨some 44,Go.Op.move (Go.Operand.tmp 3),4,none⟩,
     ⟨some 45,Go.Op.move (Go.Operand.tmp 44),4,none⟩,
     ⟨some 46,Go.Op.fieldAddr 25 (Go.Operand.tmp 1) 2,0,(some (45,true))⟩,
     ⟨some 47,Go.Op.load 23 (Go.Operand.tmp 46),23,(some (45,true))⟩,
     ⟨some 48,Go.Op.call { callee:=Go.Callee.builtin Go.Builtin.len,args:=#[Go.Operand.tmp 47],argTypes:=#[23] },3,(some (45,true))⟩,
     ⟨some 49,Go.Op.binOp Go.BinOp.eql 3 (Go.Operand.tmp 48) (Go.Operand.const (Go.Value.int Go.IntKind.i64 0)) 3,4,(some (45,true))⟩,
     ⟨some 50,Go.Op.pick (Go.Operand.tmp 45) (Go.Operand.tmp 49) (Go.Operand.const (Go.Value.bool false)),4,none⟩,
     ⟨some 51,Go.Op.move (Go.Operand.tmp 50),4,none⟩,
     ⟨some 52,Go.Op.fieldAddr 25 (Go.Operand.tmp 1) 1,0,(some (51,true))⟩,
     ⟨some 53,Go.Op.load 22 (Go.Operand.tmp 52),22,(some (51,true))⟩,
     ⟨some 54,Go.Op.call { callee:=Go.Callee.value (Go.Operand.func 55),args:=#[Go.Operand.tmp 53],argTypes:=#[22] },4,(some (51,true))⟩,
     ⟨some 55,Go.Op.pick (Go.Operand.tmp 51) (Go.Operand.tmp 54) (Go.Operand.const (Go.Value.bool false)),4,none⟩,
     ⟨some 3,Go.Op.assign (Go.Operand.tmp 55),4,none⟩])
    (.seq (.seq (.region [⟨some 57,Go.Op.binOp Go.BinOp.eql 3 (Go.Operand.tmp 40) (Go.Operand.const (Go.Value.int Go.IntKind.i64 3)) 3,4,none⟩,
     ⟨some 56,Go.Op.assign (Go.Operand.tmp 57),4,none⟩])
    (.cond (Go.Operand.tmp 56)
     .skip
     (.region [⟨some 58,Go.Op.binOp Go.BinOp.eql 3 (Go.Operand.tmp 40) (Go.Operand.const (Go.Value.int Go.IntKind.i64 4)) 3,4,none⟩,
      ⟨some 56,Go.Op.assign (Go.Operand.tmp 58),4,none⟩])))
    (.cond (Go.Operand.tmp 56)
     (.region [⟨some 59,Go.Op.move (Go.Operand.tmp 3),4,none⟩,
      ⟨some 60,Go.Op.move (Go.Operand.tmp 59),4,none⟩,
      ⟨some 61,Go.Op.fieldAddr 25 (Go.Operand.tmp 1) 2,0,(some (60,true))⟩,
      ⟨some 62,Go.Op.load 23 (Go.Operand.tmp 61),23,(some (60,true))⟩,
      ⟨some 63,Go.Op.call { callee:=Go.Callee.builtin Go.Builtin.len,args:=#[Go.Operand.tmp 62],argTypes:=#[23] },3,(some (60,true))⟩,
      ⟨some 64,Go.Op.binOp Go.BinOp.gtr 3 (Go.Operand.tmp 63) (Go.Operand.const (Go.Value.int Go.IntKind.i64 1)) 3,4,(some (60,true))⟩,
      ⟨some 65,Go.Op.pick (Go.Operand.tmp 60) (Go.Operand.tmp 64) (Go.Operand.const (Go.Value.bool false)),4,none⟩,
      ⟨some 3,Go.Op.assign (Go.Operand.tmp 65),4,none⟩])
     (.seq (.region [⟨some 67,Go.Op.binOp Go.BinOp.eql 3 (Go.Operand.tmp 40) (Go.Operand.const (Go.Value.int Go.IntKind.i64 5)) 3,4,none⟩,
      ⟨some 66,Go.Op.assign (Go.Operand.tmp 67),4,none⟩])
     (.cond (Go.Operand.tmp 66)
      (.region [⟨some 68,Go.Op.move (Go.Operand.tmp 3),4,none⟩,
       ⟨some 69,Go.Op.move (Go.Operand.tmp 68),4,none⟩,
       ⟨some 70,Go.Op.fieldAddr 25 (Go.Operand.tmp 1) 2,0,(some (69,true))⟩,
       ⟨some 71,Go.Op.load 23 (Go.Operand.tmp 70),23,(some (69,true))⟩,
       ⟨some 72,Go.Op.call { callee:=Go.Callee.builtin Go.Builtin.len,args:=#[Go.Operand.tmp 71],argTypes:=#[23] },3,(some (69,true))⟩,
       ⟨some 73,Go.Op.binOp Go.BinOp.eql 3 (Go.Operand.tmp 72) (Go.Operand.const (Go.Value.int Go.IntKind.i64 1)) 3,4,(some (69,true))⟩,
       ⟨some 74,Go.Op.pick (Go.Operand.tmp 69) (Go.Operand.tmp 73) (Go.Operand.const (Go.Value.bool false)),4,none⟩,
       ⟨some 75,Go.Op.move (Go.Operand.tmp 74),4,none⟩,
       ⟨some 76,Go.Op.fieldAddr 25 (Go.Operand.tmp 1) 3,0,(some (75,true))⟩,
       ⟨some 77,Go.Op.load 3 (Go.Operand.tmp 76),3,(some (75,true))⟩,
       ⟨some 78,Go.Op.binOp Go.BinOp.geq 3 (Go.Operand.tmp 77) (Go.Operand.const (Go.Value.int Go.IntKind.i64 0)) 3,4,(some (75,true))⟩,
       ⟨some 79,Go.Op.pick (Go.Operand.tmp 75) (Go.Operand.tmp 78) (Go.Operand.const (Go.Value.bool false)),4,none⟩,
       ⟨some 80,Go.Op.move (Go.Operand.tmp 79),4,none⟩,
       ⟨some 81,Go.Op.fieldAddr 25 (Go.Operand.tmp 1) 3,0,(some (80,true))⟩,
       ⟨some 82,Go.Op.load 3 (Go.Operand.tmp 81),3,(some (80,true))⟩,
       ⟨some 83,Go.Op.binOp Go.BinOp.leq 3 (Go.Operand.tmp 82) (Go.Operand.const (Go.Value.int Go.IntKind.i64 20)) 3,4,(some (80,true))⟩,
       ⟨some 84,Go.Op.pick (Go.Operand.tmp 80) (Go.Operand.tmp 83) (Go.Operand.const (Go.Value.bool false)),4,none⟩,
       ⟨some 85,Go.Op.move (Go.Operand.tmp 84),4,none⟩,
       ⟨some 86,Go.Op.fieldAddr 25 (Go.Operand.tmp 1) 4,0,(some (85,true))⟩,
       ⟨some 87,Go.Op.load 3 (Go.Operand.tmp 86),3,(some (85,true))⟩,
       ⟨some 88,Go.Op.binOp Go.BinOp.eql 3 (Go.Operand.tmp 87) (Go.Operand.const (Go.Value.int Go.IntKind.i64 (-1))) 3,4,(some (85,true))⟩,
       ⟨some 89,Go.Op.move (Go.Operand.tmp 88),4,(some (85,true))⟩,
       ⟨some 90,Go.Op.fieldAddr 25 (Go.Operand.tmp 1) 4,0,(some (89,false))⟩,
       ⟨some 91,Go.Op.load 3 (Go.Operand.tmp 90),3,(some (89,false))⟩,
       ⟨some 92,Go.Op.fieldAddr 25 (Go.Operand.tmp 1) 3,0,(some (89,false))⟩,
       ⟨some 93,Go.Op.load 3 (Go.Operand.tmp 92),3,(some (89,false))⟩,
       ⟨some 94,Go.Op.binOp Go.BinOp.geq 3 (Go.Operand.tmp 91) (Go.Operand.tmp 93) 3,4,(some (89,false))⟩,
       ⟨some 95,Go.Op.move (Go.Operand.tmp 94),4,(some (89,false))⟩,
       ⟨some 96,Go.Op.fieldAddr 25 (Go.Operand.tmp 1) 4,0,(some (95,true))⟩,
       ⟨some 97,Go.Op.load 3 (Go.Operand.tmp 96),3,(some (95,true))⟩,
       ⟨some 98,Go.Op.binOp Go.BinOp.leq 3 (Go.Operand.tmp 97) (Go.Operand.const (Go.Value.int Go.IntKind.i64 20)) 3,4,(some (95,true))⟩,
       ⟨some 99,Go.Op.pick (Go.Operand.tmp 95) (Go.Operand.tmp 98) (Go.Operand.const (Go.Value.bool false)),4,(some (89,false))⟩,
       ⟨some 100,Go.Op.pick (Go.Operand.tmp 89) (Go.Operand.const (Go.Value.bool true)) (Go.Operand.tmp 99),4,(some (85,true))⟩,
       ⟨some 101,Go.Op.pick (Go.Operand.tmp 85) (Go.Operand.tmp 100) (Go.Operand.const (Go.Value.bool false)),4,none⟩,
       ⟨some 3,Go.Op.assign (Go.Operand.tmp 101),4,none⟩])
      .skip))))))))
  (.seq (.seq (.region [⟨some 102,Go.Op.move (Go.Operand.tmp 3),4,none⟩,
   ⟨some 103,Go.Op.unOp Go.UnOp.not 4 (Go.Operand.tmp 102),4,none⟩])
  (.cond (Go.Operand.tmp 103)
   (.seq (.region [⟨some 2,Go.Op.assign (Go.Operand.const (Go.Value.int Go.IntKind.i64 1)),3,none⟩])
   .ret)
   .skip))
  (.seq (.seq (.region [⟨some 4,Go.Op.assign (Go.Operand.const (Go.Value.int Go.IntKind.i64 0)),3,none⟩])
  (.block 1
   (.loop
    (.seq (.seq (.region [⟨some 104,Go.Op.move (Go.Operand.tmp 4),3,none⟩,
     ⟨some 105,Go.Op.fieldAddr 25 (Go.Operand.tmp 1) 2,0,none⟩,
     ⟨some 106,Go.Op.load 23 (Go.Operand.tmp 105),23,none⟩,
     ⟨some 107,Go.Op.call { callee:=Go.Callee.builtin Go.Builtin.len,args:=#[Go.Operand.tmp 106],argTypes:=#[23] },3,none⟩,
     ⟨some 108,Go.Op.binOp Go.BinOp.lss 3 (Go.Operand.tmp 104) (Go.Operand.tmp 107) 3,4,none⟩])
    (.cond (Go.Operand.tmp 108)
     .skip
     (.exit 1)))
    (.seq (.block 2
     (.seq (.region [⟨some 111,Go.Op.fieldAddr 25 (Go.Operand.tmp 1) 2,0,none⟩,
      ⟨some 112,Go.Op.load 23 (Go.Operand.tmp 111),23,none⟩,
      ⟨some 113,Go.Op.move (Go.Operand.tmp 4),3,none⟩,
      ⟨some 114,Go.Op.indexAddr 23 (Go.Operand.tmp 112) (Go.Operand.tmp 113),0,none⟩,
      ⟨some 115,Go.Op.load 25 (Go.Operand.tmp 114),25,none⟩,
      ⟨some 116,Go.Op.call { callee:=Go.Callee.value (Go.Operand.func 30),args:=#[Go.Operand.tmp 115],argTypes:=#[25] },3,none⟩,
      ⟨some 5,Go.Op.assign (Go.Operand.tmp 116),3,none⟩])
     (.seq (.region [⟨some 117,Go.Op.move (Go.Operand.tmp 5),3,none⟩,
      ⟨some 118,Go.Op.binOp Go.BinOp.neq 3 (Go.Operand.tmp 117) (Go.Operand.const (Go.Value.int Go.IntKind.i64 0)) 3,4,none⟩])
     (.cond (Go.Operand.tmp 118)
      (.seq (.region [⟨some 119,Go.Op.move (Go.Operand.tmp 5),3,none⟩,
       ⟨some 2,Go.Op.assign (Go.Operand.tmp 119),3,none⟩])
      .ret)
      .skip))))
    (.region [⟨some 109,Go.Op.move (Go.Operand.tmp 4),3,none⟩,
     ⟨some 110,Go.Op.binOp Go.BinOp.add 3 (Go.Operand.tmp 109) (Go.Operand.const (Go.Value.int Go.IntKind.i64 1)) 3,3,none⟩,
     ⟨some 4,Go.Op.assign (Go.Operand.tmp 110),3,none⟩]))))))
  (.seq (.region [⟨some 2,Go.Op.assign (Go.Operand.const (Go.Value.int Go.IntKind.i64 0)),3,none⟩])
  .ret)))))))) :=
 ⟨foll,Tryz.f30,Tryz.func30,by kernel_rfl,by kernel_rfl,by kernel_rfl,by rw [Tryz.ntmps30];decide⟩
theorem fn55:FnIs Tryz.prog 55 1 [Go.ResultVar.tmp 2] (.seq (.region [⟨some 2,Go.Op.assign (Go.Operand.const (Go.Value.bool false)),4,none⟩])
  (.seq (.seq (.region [⟨some 3,Go.Op.assign (Go.Operand.const (Go.Value.int Go.IntKind.i64 0)),3,none⟩])
  (.block 0
   (.loop
    (.seq (.seq (.region [⟨some 5,Go.Op.move (Go.Operand.tmp 3),3,none⟩,
     ⟨some 6,Go.Op.move (Go.Operand.tmp 0),22,none⟩,
     ⟨some 7,Go.Op.call { callee:=Go.Callee.builtin Go.Builtin.len,args:=#[Go.Operand.tmp 6],argTypes:=#[22] },3,none⟩,
     ⟨some 8,Go.Op.binOp Go.BinOp.lss 3 (Go.Operand.tmp 5) (Go.Operand.tmp 7) 3,4,none⟩])
    (.cond (Go.Operand.tmp 8)
     .skip
     (.exit 0)))
    (.seq (.block 1
     (.seq (.region [⟨some 11,Go.Op.move (Go.Operand.tmp 0),22,none⟩,
      ⟨some 12,Go.Op.move (Go.Operand.tmp 3),3,none⟩,
      ⟨some 13,Go.Op.indexAddr 22 (Go.Operand.tmp 11) (Go.Operand.tmp 12),0,none⟩,
      ⟨some 14,Go.Op.load 57 (Go.Operand.tmp 13),57,none⟩,
      ⟨some 4,Go.Op.alloc 57,0,none⟩,
      ⟨none,Go.Op.store 57 (Go.Operand.tmp 4) (Go.Operand.tmp 14),0,none⟩])
     (.seq (.draw true [⟨⟨some 15,Go.Op.fieldAddr 57 (Go.Operand.tmp 4) 0,0,none⟩,false,false,false⟩,
      ⟨⟨some 16,Go.Op.load 21 (Go.Operand.tmp 15),21,none⟩,false,false,false⟩,
      ⟨⟨some 17,Go.Op.call { callee:=Go.Callee.value (Go.Operand.func 78),args:=#[Go.Operand.tmp 16],argTypes:=#[21] },4,none⟩,false,false,false⟩,
      ⟨⟨some 18,Go.Op.unOp Go.UnOp.not 4 (Go.Operand.tmp 17),4,none⟩,false,false,false⟩,
      ⟨⟨some 19,Go.Op.move (Go.Operand.tmp 18),4,none⟩,false,false,false⟩,
      ⟨⟨some 20,Go.Op.fieldAddr 57 (Go.Operand.tmp 4) 1,0,(some (19,false))⟩,false,false,false⟩,
      ⟨⟨some 21,Go.Op.load 21 (Go.Operand.tmp 20),21,(some (19,false))⟩,false,false,false⟩,
      ⟨⟨some 22,Go.Op.call { callee:=Go.Callee.value (Go.Operand.func 78),args:=#[Go.Operand.tmp 21],argTypes:=#[21] },4,(some (19,false))⟩,false,false,false⟩,
      ⟨⟨some 23,Go.Op.unOp Go.UnOp.not 4 (Go.Operand.tmp 22),4,(some (19,false))⟩,false,false,false⟩,
      ⟨⟨some 24,Go.Op.pick (Go.Operand.tmp 19) (Go.Operand.const (Go.Value.bool true)) (Go.Operand.tmp 23),4,none⟩,false,false,false⟩,
      ⟨⟨some 25,Go.Op.move (Go.Operand.tmp 24),4,none⟩,false,false,false⟩,
      ⟨⟨some 26,Go.Op.fieldAddr 57 (Go.Operand.tmp 4) 0,0,(some (25,false))⟩,false,false,false⟩,
      ⟨⟨some 27,Go.Op.load 21 (Go.Operand.tmp 26),21,(some (25,false))⟩,false,false,false⟩,
      ⟨⟨some 28,Go.Op.fieldAddr 57 (Go.Operand.tmp 4) 1,0,(some (25,false))⟩,false,false,false⟩,
      ⟨⟨some 29,Go.Op.load 21 (Go.Operand.tmp 28),21,(some (25,false))⟩,false,false,false⟩,
      ⟨⟨some 30,Go.Op.binOp Go.BinOp.gtr 21 (Go.Operand.tmp 27) (Go.Operand.tmp 29) 21,4,(some (25,false))⟩,false,false,false⟩,
      ⟨⟨some 31,Go.Op.pick (Go.Operand.tmp 25) (Go.Operand.const (Go.Value.bool true)) (Go.Operand.tmp 30),4,none⟩,false,false,false⟩,
      ⟨⟨some 32,Go.Op.move (Go.Operand.tmp 31),4,none⟩,false,false,false⟩,
      ⟨⟨some 33,Go.Op.fieldAddr 57 (Go.Operand.tmp 4) 0,0,(some (32,false))⟩,false,false,false⟩,
      ⟨⟨some 34,Go.Op.load 21 (Go.Operand.tmp 33),21,(some (32,false))⟩,false,false,false⟩,
      ⟨⟨some 35,Go.Op.binOp Go.BinOp.lss 21 (Go.Operand.tmp 34) (Go.Operand.const (Go.Value.int Go.IntKind.i32 55296)) 21,4,(some (32,false))⟩,false,false,false⟩,
      ⟨⟨some 36,Go.Op.move (Go.Operand.tmp 35),4,(some (32,false))⟩,false,false,false⟩,
      ⟨⟨some 37,Go.Op.fieldAddr 57 (Go.Operand.tmp 4) 1,0,(some (36,true))⟩,false,false,false⟩,
      ⟨⟨some 38,Go.Op.load 21 (Go.Operand.tmp 37),21,(some (36,true))⟩,false,false,false⟩,
      ⟨⟨some 39,Go.Op.binOp Go.BinOp.gtr 21 (Go.Operand.tmp 38) (Go.Operand.const (Go.Value.int Go.IntKind.i32 57343)) 21,4,(some (36,true))⟩,false,false,false⟩,
      ⟨⟨some 40,Go.Op.pick (Go.Operand.tmp 36) (Go.Operand.tmp 39) (Go.Operand.const (Go.Value.bool false)),4,(some (32,false))⟩,false,false,false⟩,
      ⟨⟨some 41,Go.Op.pick (Go.Operand.tmp 32) (Go.Operand.const (Go.Value.bool true)) (Go.Operand.tmp 40),4,none⟩,false,false,false⟩,
      ⟨⟨some 42,Go.Op.move (Go.Operand.tmp 41),4,none⟩,false,false,false⟩,
      ⟨⟨some 43,Go.Op.move (Go.Operand.tmp 3),3,(some (42,false))⟩,false,false,false⟩,
      ⟨⟨some 44,Go.Op.binOp Go.BinOp.gtr 3 (Go.Operand.tmp 43) (Go.Operand.const (Go.Value.int Go.IntKind.i64 0)) 3,4,(some (42,false))⟩,false,false,false⟩,
      ⟨⟨some 45,Go.Op.move (Go.Operand.tmp 44),4,(some (42,false))⟩,false,false,false⟩,
      ⟨⟨some 46,Go.Op.fieldAddr 57 (Go.Operand.tmp 4) 0,0,(some (45,true))⟩,false,false,false⟩,
      ⟨⟨some 47,Go.Op.load 21 (Go.Operand.tmp 46),21,(some (45,true))⟩,false,false,false⟩,
      ⟨⟨some 48,Go.Op.move (Go.Operand.tmp 0),22,(some (45,true))⟩,false,false,false⟩,
      ⟨⟨some 49,Go.Op.move (Go.Operand.tmp 3),3,(some (45,true))⟩,false,false,false⟩,
      ⟨⟨some 50,Go.Op.binOp Go.BinOp.sub 3 (Go.Operand.tmp 49) (Go.Operand.const (Go.Value.int Go.IntKind.i64 1)) 3,3,(some (45,true))⟩,false,false,false⟩,
      ⟨⟨some 51,Go.Op.indexAddr 22 (Go.Operand.tmp 48) (Go.Operand.tmp 50),0,(some (45,true))⟩,false,false,false⟩,
      ⟨⟨some 52,Go.Op.fieldAddr 57 (Go.Operand.tmp 51) 1,0,(some (45,true))⟩,false,false,false⟩,
      ⟨⟨some 53,Go.Op.load 21 (Go.Operand.tmp 52),21,(some (45,true))⟩,false,false,false⟩,
      ⟨⟨some 54,Go.Op.binOp Go.BinOp.add 21 (Go.Operand.tmp 53) (Go.Operand.const (Go.Value.int Go.IntKind.i32 2)) 21,21,(some (45,true))⟩,false,false,false⟩,
      ⟨⟨some 55,Go.Op.binOp Go.BinOp.lss 21 (Go.Operand.tmp 47) (Go.Operand.tmp 54) 21,4,(some (45,true))⟩,false,false,false⟩,
      ⟨⟨some 56,Go.Op.pick (Go.Operand.tmp 45) (Go.Operand.tmp 55) (Go.Operand.const (Go.Value.bool false)),4,(some (42,false))⟩,false,false,false⟩,
      ⟨⟨some 57,Go.Op.pick (Go.Operand.tmp 42) (Go.Operand.const (Go.Value.bool true)) (Go.Operand.tmp 56),4,none⟩,false,false,false⟩] [[],[0],[0,1],[0,1,2],[0,1,2,3],[0,1,2,3,4],[0,1,2,3,4,5],[0,1,2,3,4,5,6],[0,1,2,3,4,5,6,7],[0,1,2,3,4,5,6,7,8],[0,1,2,3,4,5,6,7,8,9],[0,1,2,3,4,5,6,7,8,9,10],[0,1,2,3,4,5,6,7,8,9,10,11],[0,1,2,3,4,5,6,7,8,9,10],[0,1,2,3,4,5,6,7,8,9,10,13],[0,1,2,3,4,5,6,7,8,9,10,11,12,13,14],[0,1,2,3,4,5,6,7,8,9,10,11,12,13,14,15],[0,1,2,3,4,5,6,7,8,9,10,11,12,13,14,15,16],[0,1,2,3,4,5,6,7,8,9,10,11,12,13,14,15,16,17],[0,1,2,3,4,5,6,7,8,9,10,11,12,13,14,15,16,17,18],[0,1,2,3,4,5,6,7,8,9,10,11,12,13,14,15,16,17,18,19],[0,1,2,3,4,5,6,7,8,9,10,11,12,13,14,15,16,17,18,19,20],[0,1,2,3,4,5,6,7,8,9,10,11,12,13,14,15,16,17,18,19,20,21],[0,1,2,3,4,5,6,7,8,9,10,11,12,13,14,15,16,17,18,19,20,21,22],[0,1,2,3,4,5,6,7,8,9,10,11,12,13,14,15,16,17,18,19,20,21,22,23],[0,1,2,3,4,5,6,7,8,9,10,11,12,13,14,15,16,17,18,19,20,21,22,23,24],[0,1,2,3,4,5,6,7,8,9,10,11,12,13,14,15,16,17,18,19,20,21,22,23,24,25],[0,1,2,3,4,5,6,7,8,9,10,11,12,13,14,15,16,17,18,19,20,21,22,23,24,25,26],[0,1,2,3,4,5,6,7,8,9,10,11,12,13,14,15,16,17,18,19,20,21,22,23,24,25,26,27],[0,1,2,3,4,5,6,7,8,9,10,11,12,13,14,15,16,17,18,19,20,21,22,23,24,25,26,27,28],[0,1,2,3,4,5,6,7,8,9,10,11,12,13,14,15,16,17,18,19,20,21,22,23,24,25,26,27,28,29],[0,1,2,3,4,5,6,7,8,9,10,11,12,13,14,15,16,17,18,19,20,21,22,23,24,25,26,27,28,29,30],[0,1,2,3,4,5,6,7,8,9,10,11,12,13,14,15,16,17,18,19,20,21,22,23,24,25,26,27,28,29,30,31],[0,1,2,3,4,5,6,7,8,9,10,11,12,13,14,15,16,17,18,19,20,21,22,23,24,25,26,27,28,29,30],[0,1,2,3,4,5,6,7,8,9,10,11,12,13,14,15,16,17,18,19,20,21,22,23,24,25,26,27,28,29,30],[0,1,2,3,4,5,6,7,8,9,10,11,12,13,14,15,16,17,18,19,20,21,22,23,24,25,26,27,28,29,30,34],[0,1,2,3,4,5,6,7,8,9,10,11,12,13,14,15,16,17,18,19,20,21,22,23,24,25,26,27,28,29,30,33,34,35],[0,1,2,3,4,5,6,7,8,9,10,11,12,13,14,15,16,17,18,19,20,21,22,23,24,25,26,27,28,29,30,33,34,35,36],[0,1,2,3,4,5,6,7,8,9,10,11,12,13,14,15,16,17,18,19,20,21,22,23,24,25,26,27,28,29,30,33,34,35,36,37],[0,1,2,3,4,5,6,7,8,9,10,11,12,13,14,15,16,17,18,19,20,21,22,23,24,25,26,27,28,29,30,33,34,35,36,37,38],[0,1,2,3,4,5,6,7,8,9,10,11,12,13,14,15,16,17,18,19,20,21,22,23,24,25,26,27,28,29,30,31,32,33,34,35,36,37,38,39],[0,1,2,3,4,5,6,7,8,9,10,11,12,13,14,15,16,17,18,19,20,21,22,23,24,25,26,27,28,29,30,31,32,33,34,35,36,37,38,39,40],[0,1,2,3,4,5,6,7,8,9,10,11,12,13,14,15,16,17,18,19,20,21,22,23,24,25,26,27,28,29,30,31,32,33,34,35,36,37,38,39,40,41]])
     (.cond (Go.Operand.tmp 57)
      (.seq (.region [⟨some 2,Go.Op.assign (Go.Operand.const (Go.Value.bool false)),4,none⟩])
      .ret)
      .skip))))
    (.region [⟨some 9,Go.Op.move (Go.Operand.tmp 3),3,none⟩,
     ⟨some 10,Go.Op.binOp Go.BinOp.add 3 (Go.Operand.tmp 9) (Go.Operand.const (Go.Value.int Go.IntKind.i64 1)) 3,3,none⟩,
     ⟨some 3,Go.Op.assign (Go.Operand.tmp 10),3,none⟩]))))))
  (.seq (.region [⟨some 2,Go.Op.assign (Go.Operand.const (Go.Value.bool true)),4,none⟩])
  .ret))) :=
 ⟨foll,Tryz.f55,Tryz.func55,by kernel_rfl,by kernel_rfl,by kernel_rfl,by rw [Tryz.ntmps55];decide⟩
theorem fn78:FnIs Tryz.prog 78 1 [Go.ResultVar.tmp 2] (.seq (.region [⟨some 2,Go.Op.assign (Go.Operand.const (Go.Value.bool false)),4,none⟩])
  (.seq (.region [⟨some 3,Go.Op.move (Go.Operand.tmp 0),21,none⟩,
   ⟨some 4,Go.Op.binOp Go.BinOp.geq 21 (Go.Operand.tmp 3) (Go.Operand.const (Go.Value.int Go.IntKind.i32 0)) 21,4,none⟩,
   ⟨some 5,Go.Op.move (Go.Operand.tmp 4),4,none⟩,
   ⟨some 6,Go.Op.move (Go.Operand.tmp 0),21,(some (5,true))⟩,
   ⟨some 7,Go.Op.binOp Go.BinOp.leq 21 (Go.Operand.tmp 6) (Go.Operand.const (Go.Value.int Go.IntKind.i32 1114111)) 21,4,(some (5,true))⟩,
   ⟨some 8,Go.Op.pick (Go.Operand.tmp 5) (Go.Operand.tmp 7) (Go.Operand.const (Go.Value.bool false)),4,none⟩,
   ⟨some 9,Go.Op.move (Go.Operand.tmp 8),4,none⟩,
   ⟨some 10,Go.Op.move (Go.Operand.tmp 0),21,(some (9,true))⟩,
   ⟨some 11,Go.Op.binOp Go.BinOp.lss 21 (Go.Operand.tmp 10) (Go.Operand.const (Go.Value.int Go.IntKind.i32 55296)) 21,4,(some (9,true))⟩,
   ⟨some 12,Go.Op.move (Go.Operand.tmp 11),4,(some (9,true))⟩,
   ⟨some 13,Go.Op.move (Go.Operand.tmp 0),21,(some (12,false))⟩,
   ⟨some 14,Go.Op.binOp Go.BinOp.gtr 21 (Go.Operand.tmp 13) (Go.Operand.const (Go.Value.int Go.IntKind.i32 57343)) 21,4,(some (12,false))⟩,
   ⟨some 15,Go.Op.pick (Go.Operand.tmp 12) (Go.Operand.const (Go.Value.bool true)) (Go.Operand.tmp 14),4,(some (9,true))⟩,
   ⟨some 16,Go.Op.pick (Go.Operand.tmp 9) (Go.Operand.tmp 15) (Go.Operand.const (Go.Value.bool false)),4,none⟩,
   ⟨some 2,Go.Op.assign (Go.Operand.tmp 16),4,none⟩])
  .ret)) :=
 ⟨foll,Tryz.f78,Tryz.func78,by kernel_rfl,by kernel_rfl,by kernel_rfl,by rw [Tryz.ntmps78];decide⟩
end Go.Proofs.YtngdkenddfdhaaaGreatDoor
set_option linter.unusedVariables false
set_option linter.unusedSimpArgs false
set_option maxRecDepth 100000
namespace Go.Proofs.YtngdkenddfdhaaaGreatDoor
open Go Nv Pat
/- The reference: whether a tree is proper. -/
theorem char79 (r:Int):PCall Tryz.prog 78 [.d (.int .i32 r)] (.d (.bool (charB r))):=by
 refine fn78.pure noHint (Nat.le_refl _) (by simp only [go_sem]) (by simp only [go_sem]) ?_
 by_cases h1:0≤r
 ·by_cases h2:r≤1114111
  ·by_cases h3:r<55296
   ·have e:charB r=true:=by rw [charB_iff];omega
    simp (disch:=omega) only [go_sem,h1,h2,h3,e]
   ·by_cases h4:57343<r
    ·have e:charB r=true:=by rw [charB_iff];omega
     simp (disch:=omega) only [go_sem,h1,h2,h3,h4,e]
    ·have e:charB r=false:=by rw [← Bool.not_eq_true,charB_iff];omega
     simp (disch:=omega) only [go_sem,h1,h2,h3,h4,e]
  ·have e:charB r=false:=by rw [← Bool.not_eq_true,charB_iff];omega
   simp (disch:=omega) only [go_sem,h1,h2,e]
 ·have e:charB r=false:=by rw [← Bool.not_eq_true,charB_iff];omega
  simp (disch:=omega) only [go_sem,h1,e]
theorem ranges69 (s:List (Int × Int)) (hs:s.length≤1000000):PCall Tryz.prog 55 [.d (setD s)] (.d (.bool (properB s))):=by
 refine fn55.pure noHint (Nat.le_refl _) (by simp only [go_sem,setD]) (by simp only [go_sem]) ?_
 simp (disch:=omega) only [go_sem,setD]
 refine wL_ind (fun (k:Nat) fr σ=>k≤s.length∧fr 0=.d (.list 2 (s.map rgD))∧fr 3=.d (.int .i64 k) ∧
  properFrom (prevOf s k) (s.drop k)=properB s∧(0<k→0≤(s.getD (k - 1) default).2∧(s.getD (k - 1) default).2≤1114111)) (fun k=>s.length - k) ?_ 0 ?_
 ·rintro k fr σ ⟨hk,f0,f3,hp,hq⟩ ih
  by_cases hlt:k<s.length
  ·obtain ⟨r,hr⟩:∃ r,r=s.getD k default:=⟨_,rfl⟩
   have gd:(s.map rgD).getD k default=rgD r:=by rw [hr];simp [List.getD_eq_getElem?_getD,hlt]
   have hd:s.drop k=r::s.drop (k+1):=by rw [hr];exact drop_getD s k hlt
   rw [hd] at hp
   have bad:rgB r=false→properB s=false:=fun h=>by
    rw [← hp];cases prevOf s k <;> simp only [properFrom,h,Bool.false_and]
   simp (disch:=omega) only [go_sem,f0,f3,List.length_map,hlt,gd,rgD,apR]
   refine (char79 r.1).dat ?_
   by_cases c1:charB r.1=true
   ·simp (disch:=omega) only [go_sem,c1,apR]
    refine (char79 r.2).dat ?_
    by_cases c2:charB r.2=true
    ·have hr1:=(charB_iff r.1).1 c1
     have hr2:=(charB_iff r.2).1 c2
     by_cases c3:r.2<r.1
     ·have e:=bad (by simp only [rgB,Bool.and_eq_false_iff,decide_eq_false_iff_not];exact .inl (.inr (by omega)))
      simp (disch:=omega) only [go_sem,c1,c2,c3,e,apR]
     ·by_cases c4:r.1<55296
      ·by_cases c5:57343<r.2
       ·have e:=bad (by simp only [rgB,c1,c2,Bool.true_and,Bool.and_eq_false_iff];refine .inr ?_;rw [decide_eq_true c4,decide_eq_false (by omega)];rfl)
        simp (disch:=omega) only [go_sem,c1,c2,c3,c4,c5,e,apR]
       ·have hg:rgB r=true:=by simp only [rgB,c1,c2,Bool.true_and,Bool.and_eq_true,decide_eq_true_eq,beq_iff_eq,decide_eq_decide];omega
        have prev:prevOf s (k+1)=some r.2:=by simp [prevOf,hr]
        have prev':(s.getD (k+1 - 1) default).2=r.2:=by rw [hr];rfl
        by_cases hk0:k=0
        ·subst hk0
         have hp':properFrom (some r.2) (s.drop (0+1))=properB s:=by rw [← hp];simp [prevOf,properFrom,hg]
         simp (disch:=omega) only [go_sem,c1,c2,c3,c4,c5,f0,f3,apR]
         refine ih (0+1) _ _ (by omega) ⟨by omega,?_,?_,?_,fun _=>?_⟩
         ·simp (disch:=omega) only [go_sem,f0]
         ·simp (disch:=omega) only [go_sem,f3];try rfl
         ·rw [prev];exact hp'
         ·rw [prev'];omega
        ·have hk1:(0:Int)<k:=by omega
         have hq':=hq (by omega)
         obtain ⟨q,hqe⟩:∃ q,q=(s.getD (k - 1) default).2:=⟨_,rfl⟩
         rw [← hqe] at hq'
         have ek:(k:Int) - 1=((k - 1:Nat):Int):=by omega
         have hk2:k - 1<s.length:=by omega
         have hpq:prevOf s k=some q:=by simp [prevOf,hk0,hqe]
         rw [hpq] at hp
         by_cases c6:r.1<q+2
         ·have e:properB s=false:=by rw [← hp];simp [properFrom,hg];omega
          simp (disch:=omega) only [go_sem,c1,c2,c3,c4,c5,hk1,f0,f3,ek,hk2,rgD,← hqe,c6,e,List.length_map,apR]
         ·have hp':properFrom (some r.2) (s.drop (k+1))=properB s:=by rw [← hp];simp [properFrom,hg];omega
          simp (disch:=omega) only [go_sem,c1,c2,c3,c4,c5,hk1,f0,f3,ek,hk2,rgD,← hqe,c6,List.length_map,apR]
          refine ih (k+1) _ _ (by omega) ⟨by omega,?_,?_,?_,fun _=>?_⟩
          ·simp (disch:=omega) only [go_sem,f0]
          ·simp (disch:=omega) only [go_sem,f3]
          ·rw [prev];exact hp'
          ·rw [prev'];omega
      ·have hg:rgB r=true:=by simp only [rgB,c1,c2,Bool.true_and,Bool.and_eq_true,decide_eq_true_eq,beq_iff_eq,decide_eq_decide];omega
       have prev:prevOf s (k+1)=some r.2:=by simp [prevOf,hr]
       have prev':(s.getD (k+1 - 1) default).2=r.2:=by rw [hr];rfl
       by_cases hk0:k=0
       ·subst hk0
        have hp':properFrom (some r.2) (s.drop (0+1))=properB s:=by rw [← hp];simp [prevOf,properFrom,hg]
        simp (disch:=omega) only [go_sem,c1,c2,c3,c4,f0,f3,apR]
        refine ih (0+1) _ _ (by omega) ⟨by omega,?_,?_,?_,fun _=>?_⟩
        ·simp (disch:=omega) only [go_sem,f0]
        ·simp (disch:=omega) only [go_sem,f3];try rfl
        ·rw [prev];exact hp'
        ·rw [prev'];omega
       ·have hk1:(0:Int)<k:=by omega
        have hq':=hq (by omega)
        obtain ⟨q,hqe⟩:∃ q,q=(s.getD (k - 1) default).2:=⟨_,rfl⟩
        rw [← hqe] at hq'
        have ek:(k:Int) - 1=((k - 1:Nat):Int):=by omega
        have hk2:k - 1<s.length:=by omega
        have hpq:prevOf s k=some q:=by simp [prevOf,hk0,hqe]
        rw [hpq] at hp
        by_cases c6:r.1<q+2
        ·have e:properB s=false:=by rw [← hp];simp [properFrom,hg];omega
         simp (disch:=omega) only [go_sem,c1,c2,c3,c4,hk1,f0,f3,ek,hk2,rgD,← hqe,c6,e,List.length_map,apR]
        ·have hp':properFrom (some r.2) (s.drop (k+1))=properB s:=by rw [← hp];simp [properFrom,hg];omega
         simp (disch:=omega) only [go_sem,c1,c2,c3,c4,hk1,f0,f3,ek,hk2,rgD,← hqe,c6,List.length_map,apR]
         refine ih (k+1) _ _ (by omega) ⟨by omega,?_,?_,?_,fun _=>?_⟩
         ·simp (disch:=omega) only [go_sem,f0]
         ·simp (disch:=omega) only [go_sem,f3]
         ·rw [prev];exact hp'
         ·rw [prev'];omega
    ·have e:=bad (by simp only [rgB,c1,c2,Bool.true_and,Bool.false_and])
     simp (disch:=omega) only [go_sem,c1,c2,e,apR]
   ·have e:=bad (by simp only [rgB,c1,Bool.false_and])
    simp (disch:=omega) only [go_sem,c1,e,apR]
  ·have e:properB s=true:=by rw [← hp,List.drop_of_length_le (by omega)];cases prevOf s k <;> rfl
   simp (disch:=omega) only [go_sem,f0,f3,List.length_map,hlt,e]
 ·refine ⟨by omega,?_,?_,rfl,fun h=>absurd h (by omega)⟩
  ·simp (disch:=omega) only [go_sem]
  ·simp (disch:=omega) only [go_sem]
end Go.Proofs.YtngdkenddfdhaaaGreatDoor
set_option linter.unusedVariables false
set_option linter.unusedSimpArgs false
set_option maxRecDepth 100000
namespace Go.Proofs.YtngdkenddfdhaaaGreatDoor
open Go Nv Pat
def refP (k:Int) (s:List (Int × Int)):Bool:=decide (k=2) || decide ((s.length:Int)=0)
def refQ (k a b:Int):Bool:=decide (k=5) || (decide (a=0) && decide (b=0))
def refR (k:Int) (s:List (Int × Int)) (n a b:Int):Bool :=
 if k=1∨k=2 then decide (n=0) && properB s
 else if k=3∨k=4 then decide (1<n)
 else decide (n=1) && decide (0≤a) && decide (a≤20) && (decide (b=-1) || (decide (a≤b) && decide (b≤20)))
theorem refBad {k:Int} (s:List (Int × Int)) (n a b:Int) (hk:kindB k=true):(refP k s && refQ k a b && refR k s n a b) = !badB k s n a b:=by
 simp only [kindB,Bool.or_eq_true,decide_eq_true_eq] at hk
 have h2:decide (2≤n)=decide (1<n):=by rw [decide_eq_decide];omega
 have p0:properB []=true:=rfl
 rcases hk with (((hk | hk) | hk) | hk) | hk <;> subst hk
 ·by_cases hs:s=[]
  ·subst hs;by_cases ha:a=0 <;> by_cases hb:b=0 <;> simp [refP,refQ,refR,badB,partsB,ha,hb,p0]
  ·have hl:0<s.length:=List.length_pos_iff.2 hs
   simp [refP,badB,hs,hl]
 ·by_cases ha:a=0 <;> by_cases hb:b=0 <;> simp [refP,refQ,refR,badB,partsB,ha,hb]
 ·by_cases hs:s=[]
  ·subst hs;by_cases ha:a=0 <;> by_cases hb:b=0 <;> simp [refP,refQ,refR,badB,partsB,ha,hb,h2]
  ·have hl:0<s.length:=List.length_pos_iff.2 hs
   simp [refP,badB,hs,hl]
 ·by_cases hs:s=[]
  ·subst hs;by_cases ha:a=0 <;> by_cases hb:b=0 <;> simp [refP,refQ,refR,badB,partsB,ha,hb,h2]
  ·have hl:0<s.length:=List.length_pos_iff.2 hs
   simp [refP,badB,hs,hl]
 ·by_cases hs:s=[]
  ·subst hs;simp [refP,refQ,refR,badB,partsB]
  ·have hl:0<s.length:=List.length_pos_iff.2 hs
   simp [refP,badB,hs,hl]
theorem node52:∀ n:Tree,n.nodes≤1000000→Thin n→PCall Tryz.prog 30 [nodeA n] (.d (.int .i64 (chk n))):=by
 intro n
 induction n using Tree.ind with
 | h k s sub a b ih =>
  intro hn ht
  have hsub:sub.length≤1000000:=by
   have h1:=length_nodesL sub
   have h2:(Tree.mk k s sub a b).nodes=1+Tree.nodesL sub:=nodes_eq _
   omega
  have hs:s.length≤1000000:=ht.1
  refine fn30.pure noHint (Nat.le_refl _) (by simp only [go_sem,nodeA,nodeF,setD]) (by simp only [go_sem]) ?_
  have c0:chk (.mk k s sub a b)=if kindB k then (if badB k s sub.length a b then 1 else chkL sub) else 9:=by rw [chk]
  obtain ⟨σ0,hσ⟩:∃ σ0:Nv.ST,σ0=[.box 25 (boxF k s sub a b)]:=⟨_,rfl⟩
  refine wW_cut (fun fr σ=>fr 1=.ptr 0 0∧σ=[.box 25 (boxF k s sub a b)]) ?_ ?_
  ·simp (disch:=omega) only [go_sem,nodeA,nodeF,Tree.kind,Tree.set,Tree.sub,Tree.min,Tree.max,boxF]
  rintro fr σ ⟨f1,rfl⟩
  refine wW_cut (fun fr σ=>fr 1=.ptr 0 0∧kindB k=true∧σ=[.box 25 (boxF k s sub a b)]) ?_ ?_
  ·by_cases k1:k<1
   ·have e2:kindB k=false:=by rw [← Bool.not_eq_true];simp [kindB];omega
    have e:chk (.mk k s sub a b)=9:=by rw [c0,e2];rfl
    simp (disch:=omega) only [go_sem,f1,boxF,k1,e]
   ·by_cases k2:5<k
    ·have e2:kindB k=false:=by rw [← Bool.not_eq_true];simp [kindB];omega
     have e:chk (.mk k s sub a b)=9:=by rw [c0,e2];rfl
     simp (disch:=omega) only [go_sem,f1,boxF,k1,k2,e]
    ·simp (disch:=omega) only [go_sem,f1,boxF,k1,k2]
     simp only [kindB,Bool.or_eq_true,decide_eq_true_eq];omega
  rintro fr σ ⟨f1,hkB,rfl⟩
  rw [if_pos hkB] at c0
  have hbad:=refBad s sub.length a b hkB
  refine wW_cut (fun fr σ=>fr 1=.ptr 0 0∧fr 3=.d (.bool (refP k s))∧σ=[.box 25 (boxF k s sub a b)]) ?_ ?_
  ·by_cases k2:k=2
   ·have e:refP k s=true:=by simp [refP,k2]
    rw [e]
    simp (disch:=omega) only [go_sem,f1,boxF,k2]
   ·have e:refP k s=decide ((s.length:Int)=0):=by simp [refP,k2]
    simp (disch:=omega) only [go_sem,f1,boxF,k2,e,setD,List.length_map]
    done
  rintro fr σ ⟨f1,f3,rfl⟩
  refine wW_cut (fun fr σ=>fr 1=.ptr 0 0∧fr 3=.d (.bool (refP k s && refQ k a b))∧σ=[.box 25 (boxF k s sub a b)]) ?_ ?_
  ·cases hp:refP k s
   ·rw [hp] at f3
    simp (disch:=omega) only [go_sem,f1,f3,Bool.false_and]
   ·rw [hp] at f3
    by_cases k5:k=5
    ·have e:refQ k a b=true:=by simp [refQ,k5]
     rw [e]
     simp (disch:=omega) only [go_sem,f1,f3,boxF,k5,Bool.true_and]
    ·by_cases ha:a=0
     ·have e:refQ k a b=decide (b=0):=by simp [refQ,k5,ha]
      rw [e]
      simp (disch:=omega) only [go_sem,f1,f3,boxF,k5,ha,Bool.true_and]
     ·have e:refQ k a b=false:=by simp [refQ,k5,ha]
      simp (disch:=omega) only [go_sem,f1,f3,boxF,k5,ha,e,Bool.true_and]
  rintro fr σ ⟨f1,f3,rfl⟩
  generalize (refP k s && refQ k a b)=p at f3 hbad
  refine wW_cut (fun fr σ=>fr 1=.ptr 0 0∧fr 3=.d (.bool (p && refR k s sub.length a b))∧σ=[.box 25 (boxF k s sub a b)]) ?_ ?_
  ·have hk:k=1∨k=2∨k=3∨k=4∨k=5:=by
    simp only [kindB,Bool.or_eq_true,decide_eq_true_eq] at hkB;omega
   cases p
   ·rcases hk with hk | hk | hk | hk | hk <;> simp (disch:=omega) only [go_sem,f1,f3,boxF,hk,Bool.false_and]
   ·rcases hk with hk | hk | hk | hk | hk
    ·have e:refR k s sub.length a b=(decide ((sub.length:Int)=0) && properB s):=by simp [refR,hk]
     rw [e]
     by_cases h0:(sub.length:Int)=0
     ·simp (disch:=omega) only [go_sem,f1,f3,boxF,hk,List.length_map,h0]
      refine (ranges69 s hs).at ?_
      rw [decide_eq_true h0,Bool.true_and]
      simp (disch:=omega) only [go_sem,f1,f3,hk,Bool.true_and]
     ·simp (disch:=omega) only [go_sem,f1,f3,boxF,hk,List.length_map,h0,Bool.true_and,Bool.false_and]
    ·have e:refR k s sub.length a b=(decide ((sub.length:Int)=0) && properB s):=by simp [refR,hk]
     rw [e]
     by_cases h0:(sub.length:Int)=0
     ·simp (disch:=omega) only [go_sem,f1,f3,boxF,hk,List.length_map,h0]
      refine (ranges69 s hs).at ?_
      rw [decide_eq_true h0,Bool.true_and]
      simp (disch:=omega) only [go_sem,f1,f3,hk,Bool.true_and]
     ·simp (disch:=omega) only [go_sem,f1,f3,boxF,hk,List.length_map,h0,Bool.true_and,Bool.false_and]
    ·have e:refR k s sub.length a b=decide (1<(sub.length:Int)):=by simp [refR,hk]
     rw [e]
     simp (disch:=omega) only [go_sem,f1,f3,boxF,hk,List.length_map,Bool.true_and]
    ·have e:refR k s sub.length a b=decide (1<(sub.length:Int)):=by simp [refR,hk]
     rw [e]
     simp (disch:=omega) only [go_sem,f1,f3,boxF,hk,List.length_map,Bool.true_and]
    ·have e:refR k s sub.length a b=(decide ((sub.length:Int)=1) && decide (0≤a) && decide (a≤20) && (decide (b=-1) || (decide (a≤b) && decide (b≤20)))):=by rw [hk];rfl
     rw [e]
     by_cases h1:(sub.length:Int)=1
     ·by_cases h2:0≤a
      ·by_cases h3:a≤20
       ·by_cases h4:b=-1
        ·simp (disch:=omega) only [go_sem,f1,f3,boxF,hk,List.length_map,h1,h2,h3,h4,Bool.true_and,decide_true,Bool.true_or]
        ·by_cases h5:a≤b
         ·simp (disch:=omega) only [go_sem,f1,f3,boxF,hk,List.length_map,h1,h2,h3,h4,h5,Bool.true_and,decide_true,Bool.false_or]
         ·simp (disch:=omega) only [go_sem,f1,f3,boxF,hk,List.length_map,h1,h2,h3,h4,h5,Bool.true_and,decide_true,Bool.false_or,Bool.false_and]
       ·simp (disch:=omega) only [go_sem,f1,f3,boxF,hk,List.length_map,h1,h2,h3,Bool.true_and,Bool.false_and,Bool.and_false]
      ·simp (disch:=omega) only [go_sem,f1,f3,boxF,hk,List.length_map,h1,h2,Bool.true_and,Bool.false_and,Bool.and_false]
     ·simp (disch:=omega) only [go_sem,f1,f3,boxF,hk,List.length_map,h1,Bool.true_and,Bool.false_and,Bool.and_false]
  rintro fr σ ⟨f1,f3,rfl⟩
  rw [hbad] at f3
  generalize badB k s sub.length a b=z at f3 c0 hbad
  refine wW_cut (fun fr σ=>fr 1=.ptr 0 0∧z=false∧σ=[.box 25 (boxF k s sub a b)]) ?_ ?_
  ·cases z
   ·simp (disch:=omega) only [go_sem,f1,f3,Bool.not_false,Bool.not_true]
   ·have e:chk (.mk k s sub a b)=1:=by rw [c0,if_pos rfl]
    simp (disch:=omega) only [go_sem,f1,f3,Bool.not_false,Bool.not_true,e]
  rintro fr σ ⟨f1,rfl,rfl⟩
  have c1:chk (.mk k s sub a b)=chkL sub:=c0
  have hnl:∀ x,x∈sub→x.nodes≤1000000:=fun x hx=>by
   have h1:=nodes_mem sub x hx
   have h2:(Tree.mk k s sub a b).nodes=1+Tree.nodesL sub:=nodes_eq _
   omega
  simp (disch:=omega) only [go_sem,f1]
  refine wL_ind (fun (j:Nat) fr σ=>j≤sub.length∧fr 1=.ptr 0 0∧fr 4=.d (.int .i64 j)∧σ=[.box 25 (boxF k s sub a b)]∧chkL (sub.drop j)=chk (.mk k s sub a b)) (fun j=>sub.length - j) ?_ 0 ?_
  ·rintro j fr σ ⟨hj,f1,f4,rfl,hc⟩ ih2
   by_cases hlt:j<sub.length
   ·obtain ⟨x,hx⟩:∃ x,x=sub.getD j default:=⟨_,rfl⟩
    have hxm:x∈sub:=by rw [hx];exact getD_mem sub j hlt
    have hd:sub.drop j=x::sub.drop (j+1):=by rw [hx];exact drop_getD sub j hlt
    rw [hd] at hc
    simp (disch:=omega) only [go_sem,f1,f4,boxF,hlt,List.length_map,nodeD_eq,nodeC,← hx]
    refine (ih x hxm (hnl x hxm) (thinL_mem ht.2 hxm)).at ?_
    by_cases h0:chk x=0
    ·have hc':chkL (sub.drop (j+1))=chk (.mk k s sub a b):=by rw [← hc,chkL,if_pos h0]
     simp (disch:=omega) only [go_sem,h0,f4]
     refine ih2 (j+1) _ _ (by omega) ⟨by omega,?_,?_,?_,hc'⟩
     ·simp (disch:=omega) only [go_sem,f1]
     ·simp (disch:=omega) only [go_sem,f4]
     ·simp only [boxF,nodeD_eq,nodeC]
    ·have e:chk (.mk k s sub a b)=chk x:=by rw [← hc,chkL,if_neg h0]
     simp (disch:=omega) only [go_sem,h0,e]
   ·rw [List.drop_of_length_le (by omega)] at hc
    simp (disch:=omega) only [go_sem,f1,f4,boxF,hlt,List.length_map]
    rw [← hc,chkL]
  ·refine ⟨by omega,?_,?_,?_,?_⟩
   ·simp (disch:=omega) only [go_sem,f1]
   ·simp (disch:=omega) only [go_sem]
   ·rfl
   ·rw [c1];rfl
theorem check35 (n:Tree) (h:Thin n):PCall Tryz.prog 12 [nodeA n] (.d (.int .i64 (chkE n))):=by
 refine fn12.pure noHint (Nat.le_refl _) (by simp only [go_sem,nodeA,nodeF,setD]) (by simp only [go_sem]) ?_
 have hc:=count22 n 121 (by omega) (by omega)
 simp only [nodeA,nodeF] at hc
 simp (disch:=omega) only [go_sem,nodeA,nodeF]
 refine hc.at ?_
 by_cases h1:120<n.nodes
 ·have e:(120:Int)<(min n.nodes 121:Nat):=by omega
  have e2:chkE n=5:=by rw [chkE,if_pos h1]
  simp (disch:=omega) only [go_sem,e,e2]
 ·have e:¬ (120:Int)<(min n.nodes 121:Nat):=by omega
  have e2:chkE n=chk n:=by rw [chkE,if_neg h1]
  have hn:=node52 n (by omega) h
  simp only [nodeA,nodeF] at hn
  simp (disch:=omega) only [go_sem,e,e2]
  refine hn.at ?_
  simp (disch:=omega) only [go_sem,e2]
end Go.Proofs.YtngdkenddfdhaaaGreatDoor
set_option linter.unusedVariables false
set_option linter.unusedSimpArgs false
set_option maxRecDepth 100000
namespace Go.Proofs.YtngdkenddfdhaaaGreatDoor
open Go Nv Pat
def times (k a b:Int):Nat:=if k=5 then copies a b else 1
theorem sz_times {k:Int} {s:List (Int × Int)} {sub:List Tree} {a b:Int} (hc:chk (.mk k s sub a b)=0):sz (.mk k s sub a b)=2+times k a b * (sub.map sz).sum:=by
 obtain ⟨h1,h2,h3,h4⟩:=chk_kinds hc
 unfold times
 rw [sz]
 by_cases h5:k=5
 ·obtain ⟨x,rfl,_⟩:=h3 h5
  rw [if_pos h5,if_pos h5];simp [szs]
 ·rw [if_neg h5,if_neg h5,szs_map,Nat.one_mul]
theorem times_le {k:Int} {s:List (Int × Int)} {sub:List Tree} {a b:Int} (hc:chk (.mk k s sub a b)=0):times k a b≤21:=by
 obtain ⟨h1,h2,h3,h4⟩:=chk_kinds hc
 unfold times
 split
 ·rename_i h5
  obtain ⟨x,rfl,h6,h7,h8,h9⟩:=h3 h5
  unfold copies;split <;> omega
 ·omega
theorem cap_step {c S z L:Nat}:min (min (2+c * S) L+c * min z L) L=min (2+c * (S+z)) L:=by
 rw [Nat.mul_add]
 rcases Nat.eq_zero_or_pos c with h | h
 ·subst h;simp
 ·rcases Nat.lt_or_ge L z with hz | hz
  ·rw [Nat.min_eq_right (by omega:L≤z)]
   have h1:L≤c * L:=Nat.le_mul_of_pos_left _ h
   have h2:c * L≤c * z:=Nat.mul_le_mul_left _ (by omega)
   omega
  ·rw [Nat.min_eq_left hz];omega
theorem sum_take (sub:List Tree) (j:Nat) (h:j<sub.length):((sub.take (j+1)).map sz).sum=((sub.take j).map sz).sum+sz (sub.getD j default):=by
 rw [take_succ' sub j h,List.map_append,List.sum_append];simp
theorem size20:∀ n:Tree,chk n=0→n.nodes≤1000000→PCall Tryz.prog 20 [nodeA n] (.d (.int .i64 (min (sz n) 10000:Nat))):=by
 intro n
 induction n using Tree.ind with
 | h k s sub a b ih =>
  intro hc hn
  obtain ⟨h1,h2,h3,h4⟩:=chk_kinds hc
  have hnn:(Tree.mk k s sub a b).nodes=1+Tree.nodesL sub:=nodes_eq _
  have hsl:=length_nodesL sub
  have htm:=times_le hc
  have hst:=sz_times hc
  refine fn20.pure noHint (Nat.le_refl _) (by simp only [go_sem,nodeA,nodeF,setD]) (by simp only [go_sem]) ?_
  simp (disch:=omega) only [go_sem,nodeA,nodeF,Tree.kind,Tree.set,Tree.sub,Tree.min,Tree.max,setD]
  refine wL_ind (fun (j:Nat) fr σ=>j≤sub.length∧fr 1=.ptr 0 0∧(∃ m:Nat,m=min (2+times k a b * ((sub.take j).map sz).sum) 10000∧fr 3=.d (.int .i64 m))∧fr 4=.d (.int .i64 j) ∧
   ∃ τ,σ=.box 25 [.d (.int .i64 k),.d (.list 2 (s.map rgD)),.d (.list 5 (sub.map nodeD)),.d (.int .i64 a),.d (.int .i64 b)]::τ) (fun j=>sub.length - j) ?_ 0 ?_
  ·rintro j fr σ ⟨hj,f1,⟨m,hm,f3⟩,f4,τ,rfl⟩ ih2
   by_cases hlt:j<sub.length
   ·obtain ⟨x,hx⟩:∃ x,x=sub.getD j default:=⟨_,rfl⟩
    have hxm:x∈sub:=by rw [hx];exact getD_mem sub j hlt
    have hxn:=nodes_mem sub x hxm
    have hst2:=sum_take sub j hlt
    rw [← hx] at hst2
    have hcap:=cap_step (c:=times k a b) (S:=((sub.take j).map sz).sum) (z:=sz x) (L:=10000)
    rw [← hst2,← hm] at hcap
    have hq:times k a b * min (sz x) 10000≤21 * 10000:=Nat.mul_le_mul htm (Nat.min_le_right _ _)
    have e4:((times k a b:Nat):Int) * ((min (sz x) 10000:Nat):Int)=((times k a b * min (sz x) 10000:Nat):Int):=by rw [Int.natCast_mul]
    generalize times k a b * min (sz x) 10000=q at *
    have hm2:m≤10000:=by rw [hm];exact Nat.min_le_right _ _
    have e5:(if (10000:Int)<(m:Int)+(q:Int) then (10000:Int) else (m:Int)+(q:Int))=((min (m+q) 10000:Nat):Int):=by split <;> omega
    have hih:=ih x hxm (h4 x hxm) (by omega)
    have hj9:j+1≤1000000:=by omega
    by_cases h5:k=5
    ·subst h5
     obtain ⟨y,hys,ha,ha2,hb,hab⟩:=h3 rfl
     have hcp:=copies41 (.mk 5 s sub a b) ⟨by simp only [Tree.min];omega,by simp only [Tree.min];omega⟩ (by simp only [Tree.max];omega)
     simp only [Tree.min,Tree.max] at hcp
     have e6:times 5 a b=copies a b:=if_pos rfl
     rw [e6] at e4
     simp (disch:=omega) only [go_sem,f1,f3,f4,hlt,apR]
     refine hcp.at ?_
     simp (disch:=omega) only [go_sem,f1,f3,f4,hlt,node_get,← hx,nodeD_eq,nodeC,apR]
     refine hih.at ?_
     simp (disch:=omega) only [go_sem,f1,f3,f4,e4]
     refine ih2 (j+1) _ _ (by omega) ⟨by omega,?_,⟨min (m+q) 10000,hcap,?_⟩,?_,_,rfl⟩
     ·simp (disch:=omega) only [go_sem,f1]
     ·simp (disch:=omega) only [go_sem,e5]
     ·simp (disch:=omega) only [go_sem]
    ·have e6:times k a b=1:=if_neg h5
     rw [e6] at e4
     have e7:(1:Int) * ((min (sz x) 10000:Nat):Int)=(q:Int):=by simpa using e4
     simp (disch:=omega) only [go_sem,f1,f3,f4,hlt,h5,node_get,← hx,nodeD_eq,nodeC,apR]
     refine hih.at ?_
     simp (disch:=omega) only [go_sem,f1,f3,f4,e7]
     refine ih2 (j+1) _ _ (by omega) ⟨by omega,?_,⟨min (m+q) 10000,hcap,?_⟩,?_,_,rfl⟩
     ·simp (disch:=omega) only [go_sem,f1]
     ·simp (disch:=omega) only [go_sem,e5]
     ·simp (disch:=omega) only [go_sem]
   ·have hje:j=sub.length:=by omega
    subst hje
    rw [List.take_length,← hst] at hm
    simp (disch:=omega) only [go_sem,f1,f3,f4,hlt,hm]
  ·refine ⟨by omega,?_,⟨2,by simp,?_⟩,?_,[],rfl⟩
   ·simp (disch:=omega) only [go_sem]
   ·simp (disch:=omega) only [go_sem];rfl
   ·simp (disch:=omega) only [go_sem]
end Go.Proofs.YtngdkenddfdhaaaGreatDoor
set_option linter.unusedVariables false
set_option linter.unusedSimpArgs false
set_option maxRecDepth 100000
namespace Go.Proofs.YtngdkenddfdhaaaGreatDoor
open Go Nv Pat
def grB (n:Tree):Bool:=decide (200<n.nodes) || wideB n
def largeB (n:Tree):Bool:=grB n || (decide (chkE n=0) && decide (500<sz n) && decide (sz n≤3000))
theorem large7 (n:Tree):PCall Tryz.prog 7 [nodeA n] (.d (.bool (largeB n))):=by
 refine fn7.pure noHint (Nat.le_refl _) (by simp only [go_sem,nodeA,nodeF,setD]) (by simp only [go_sem]) ?_
 simp (disch:=omega) only [go_sem,nodeA,nodeF]
 refine (great10 n).at ?_
 cases hg:decide (200<n.nodes) || wideB n with
 | true =>
  have e:largeB n=true:=by simp [largeB,grB,hg]
  simp (disch:=omega) only [go_sem,e]
 | false =>
 have hn:n.nodes≤200:=by
  simp only [Bool.or_eq_false_iff,decide_eq_false_iff_not] at hg;omega
 have ht:Thin n:=by
  simp only [Bool.or_eq_false_iff,decide_eq_false_iff_not] at hg;exact thin_of n hg.2
 simp (disch:=omega) only [go_sem,nodeA,nodeF]
 refine (check35 n ht).at ?_
 by_cases hc:chkE n=0
 ·have hc0:=(chkE_ok hc).2
  simp (disch:=omega) only [go_sem,hc]
  refine (size20 n hc0 (by omega)).at ?_
  by_cases h5:500<sz n
  ·have h5':(500:Int)<((min (sz n) 10000:Nat):Int):=by omega
   simp (disch:=omega) only [go_sem,h5']
   refine (size20 n hc0 (by omega)).at ?_
   by_cases h3:sz n≤3000
   ·have h3':((min (sz n) 10000:Nat):Int)≤3000:=by omega
    have e:largeB n=true:=by simp [largeB,grB,hg,hc,h5,h3]
    simp (disch:=omega) only [go_sem,h3',e]
   ·have h3':¬ ((min (sz n) 10000:Nat):Int)≤3000:=by omega
    have e:largeB n=false:=by unfold largeB grB;rw [hg];simp [h3]
    simp (disch:=omega) only [go_sem,h3',e]
  ·have h5':¬ (500:Int)<((min (sz n) 10000:Nat):Int):=by omega
   have e:largeB n=false:=by unfold largeB grB;rw [hg];simp [h5]
   simp (disch:=omega) only [go_sem,h5',e]
 ·have e:largeB n=false:=by unfold largeB grB;rw [hg];simp [hc]
  simp (disch:=omega) only [go_sem,hc,e]
/- Short rows: the automaton fits. -/
end Go.Proofs.YtngdkenddfdhaaaGreatDoor
