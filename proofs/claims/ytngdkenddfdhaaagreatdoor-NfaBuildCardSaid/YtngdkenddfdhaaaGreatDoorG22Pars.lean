/- Part of a proof about the functions of this seat. -/
import Derived.Test.YtngdkenddfdhaaaGreatDoorG12Nfr
import Derived.Test.YtngdkenddfdhaaaGreatDoorG21Bs32
import Derived.Test.YtngdkenddfdhaaaGreatDoorG14Br32
import Derived.Test.YtngdkenddfdhaaaGreatDoorG09Base32
import Derived.Test.YtngdkenddfdhaaaGreatDoorG15Fe32
import Derived.Test.YtngdkenddfdhaaaGreatDoorG17Gd32
import Derived.Test.YtngdkenddfdhaaaGreatDoorG11O32
set_option linter.unusedVariables false
set_option linter.unusedSimpArgs false
set_option maxRecDepth 100000
namespace Go.Proofs.YtngdkenddfdhaaaGreatDoor
open Go Nv Pat
/- The reference: whether a tree is proper. -/
theorem char79 (r:Int):PCall Tryz.prog 78 [.d (.int .i32 r)] (.d (.bool (charB r))):=by
 refine fn78.pure noHint (Nat.le_refl _) (by simp only [go_sem]) (by simp only [go_sem]) ?_
 by_cases h1:0≤r
 ·by_cases h2:r≤1114111
  ·by_cases h3:r<55296
   ·have e:charB r=true:=by rw [charB_iff];omega
    simp (disch:=omega) only [go_sem,h1,h2,h3,e]
   ·by_cases h4:57343<r
    ·have e:charB r=true:=by rw [charB_iff];omega
     simp (disch:=omega) only [go_sem,h1,h2,h3,h4,e]
    ·have e:charB r=false:=by rw [← Bool.not_eq_true,charB_iff];omega
     simp (disch:=omega) only [go_sem,h1,h2,h3,h4,e]
  ·have e:charB r=false:=by rw [← Bool.not_eq_true,charB_iff];omega
   simp (disch:=omega) only [go_sem,h1,h2,e]
 ·have e:charB r=false:=by rw [← Bool.not_eq_true,charB_iff];omega
  simp (disch:=omega) only [go_sem,h1,e]
theorem ranges69 (s:List (Int × Int)) (hs:s.length≤1000000):PCall Tryz.prog 55 [.d (setD s)] (.d (.bool (properB s))):=by
 refine fn55.pure noHint (Nat.le_refl _) (by simp only [go_sem,setD]) (by simp only [go_sem]) ?_
 simp (disch:=omega) only [go_sem,setD]
 refine wL_ind (fun (k:Nat) fr σ=>k≤s.length∧fr 0=.d (.list 2 (s.map rgD))∧fr 3=.d (.int .i64 k) ∧
  properFrom (prevOf s k) (s.drop k)=properB s∧(0<k→0≤(s.getD (k - 1) default).2∧(s.getD (k - 1) default).2≤1114111)) (fun k=>s.length - k) ?_ 0 ?_
 ·rintro k fr σ ⟨hk,f0,f3,hp,hq⟩ ih
  by_cases hlt:k<s.length
  ·obtain ⟨r,hr⟩:∃ r,r=s.getD k default:=⟨_,rfl⟩
   have gd:(s.map rgD).getD k default=rgD r:=by rw [hr];simp [List.getD_eq_getElem?_getD,hlt]
   have hd:s.drop k=r::s.drop (k+1):=by rw [hr];exact drop_getD s k hlt
   rw [hd] at hp
   have bad:rgB r=false→properB s=false:=fun h=>by
    rw [← hp];cases prevOf s k <;> simp only [properFrom,h,Bool.false_and]
   simp (disch:=omega) only [go_sem,f0,f3,List.length_map,hlt,gd,rgD,apR]
   refine (char79 r.1).dat ?_
   by_cases c1:charB r.1=true
   ·simp (disch:=omega) only [go_sem,c1,apR]
    refine (char79 r.2).dat ?_
    by_cases c2:charB r.2=true
    ·have hr1:=(charB_iff r.1).1 c1
     have hr2:=(charB_iff r.2).1 c2
     by_cases c3:r.2<r.1
     ·have e:=bad (by simp only [rgB,Bool.and_eq_false_iff,decide_eq_false_iff_not];exact .inl (.inr (by omega)))
      simp (disch:=omega) only [go_sem,c1,c2,c3,e,apR]
     ·by_cases c4:r.1<55296
      ·by_cases c5:57343<r.2
       ·have e:=bad (by simp only [rgB,c1,c2,Bool.true_and,Bool.and_eq_false_iff];refine .inr ?_;rw [decide_eq_true c4,decide_eq_false (by omega)];rfl)
        simp (disch:=omega) only [go_sem,c1,c2,c3,c4,c5,e,apR]
       ·have hg:rgB r=true:=by simp only [rgB,c1,c2,Bool.true_and,Bool.and_eq_true,decide_eq_true_eq,beq_iff_eq,decide_eq_decide];omega
        have prev:prevOf s (k+1)=some r.2:=by simp [prevOf,hr]
        have prev':(s.getD (k+1 - 1) default).2=r.2:=by rw [hr];rfl
        by_cases hk0:k=0
        ·subst hk0
         have hp':properFrom (some r.2) (s.drop (0+1))=properB s:=by rw [← hp];simp [prevOf,properFrom,hg]
         simp (disch:=omega) only [go_sem,c1,c2,c3,c4,c5,f0,f3,apR]
         refine ih (0+1) _ _ (by omega) ⟨by omega,?_,?_,?_,fun _=>?_⟩
         ·simp (disch:=omega) only [go_sem,f0]
         ·simp (disch:=omega) only [go_sem,f3];try rfl
         ·rw [prev];exact hp'
         ·rw [prev'];omega
        ·have hk1:(0:Int)<k:=by omega
         have hq':=hq (by omega)
         obtain ⟨q,hqe⟩:∃ q,q=(s.getD (k - 1) default).2:=⟨_,rfl⟩
         rw [← hqe] at hq'
         have ek:(k:Int) - 1=((k - 1:Nat):Int):=by omega
         have hk2:k - 1<s.length:=by omega
         have hpq:prevOf s k=some q:=by simp [prevOf,hk0,hqe]
         rw [hpq] at hp
         by_cases c6:r.1<q+2
         ·have e:properB s=false:=by rw [← hp];simp [properFrom,hg];omega
          simp (disch:=omega) only [go_sem,c1,c2,c3,c4,c5,hk1,f0,f3,ek,hk2,rgD,← hqe,c6,e,List.length_map,apR]
         ·have hp':properFrom (some r.2) (s.drop (k+1))=properB s:=by rw [← hp];simp [properFrom,hg];omega
          simp (disch:=omega) only [go_sem,c1,c2,c3,c4,c5,hk1,f0,f3,ek,hk2,rgD,← hqe,c6,List.length_map,apR]
          refine ih (k+1) _ _ (by omega) ⟨by omega,?_,?_,?_,fun _=>?_⟩
          ·simp (disch:=omega) only [go_sem,f0]
          ·simp (disch:=omega) only [go_sem,f3]
          ·rw [prev];exact hp'
          ·rw [prev'];omega
      ·have hg:rgB r=true:=by simp only [rgB,c1,c2,Bool.true_and,Bool.and_eq_true,decide_eq_true_eq,beq_iff_eq,decide_eq_decide];omega
       have prev:prevOf s (k+1)=some r.2:=by simp [prevOf,hr]
       have prev':(s.getD (k+1 - 1) default).2=r.2:=by rw [hr];rfl
       by_cases hk0:k=0
       ·subst hk0
        have hp':properFrom (some r.2) (s.drop (0+1))=properB s:=by rw [← hp];simp [prevOf,properFrom,hg]
        simp (disch:=omega) only [go_sem,c1,c2,c3,c4,f0,f3,apR]
        refine ih (0+1) _ _ (by omega) ⟨by omega,?_,?_,?_,fun _=>?_⟩
        ·simp (disch:=omega) only [go_sem,f0]
        ·simp (disch:=omega) only [go_sem,f3];try rfl
        ·rw [prev];exact hp'
        ·rw [prev'];omega
       ·have hk1:(0:Int)<k:=by omega
        have hq':=hq (by omega)
        obtain ⟨q,hqe⟩:∃ q,q=(s.getD (k - 1) default).2:=⟨_,rfl⟩
        rw [← hqe] at hq'
        have ek:(k:Int) - 1=((k - 1:Nat):Int):=by omega
        have hk2:k - 1<s.length:=by omega
        have hpq:prevOf s k=some q:=by simp [prevOf,hk0,hqe]
        rw [hpq] at hp
        by_cases c6:r.1<q+2
        ·have e:properB s=false:=by rw [← hp];simp [properFrom,hg];omega
         simp (disch:=omega) only [go_sem,c1,c2,c3,c4,hk1,f0,f3,ek,hk2,rgD,← hqe,c6,e,List.length_map,apR]
        ·have hp':properFrom (some r.2) (s.drop (k+1))=properB s:=by rw [← hp];simp [properFrom,hg];omega
         simp (disch:=omega) only [go_sem,c1,c2,c3,c4,hk1,f0,f3,ek,hk2,rgD,← hqe,c6,List.length_map,apR]
         refine ih (k+1) _ _ (by omega) ⟨by omega,?_,?_,?_,fun _=>?_⟩
         ·simp (disch:=omega) only [go_sem,f0]
         ·simp (disch:=omega) only [go_sem,f3]
         ·rw [prev];exact hp'
         ·rw [prev'];omega
    ·have e:=bad (by simp only [rgB,c1,c2,Bool.true_and,Bool.false_and])
     simp (disch:=omega) only [go_sem,c1,c2,e,apR]
   ·have e:=bad (by simp only [rgB,c1,Bool.false_and])
    simp (disch:=omega) only [go_sem,c1,e,apR]
  ·have e:properB s=true:=by rw [← hp,List.drop_of_length_le (by omega)];cases prevOf s k <;> rfl
   simp (disch:=omega) only [go_sem,f0,f3,List.length_map,hlt,e]
 ·refine ⟨by omega,?_,?_,rfl,fun h=>absurd h (by omega)⟩
  ·simp (disch:=omega) only [go_sem]
  ·simp (disch:=omega) only [go_sem]
end Go.Proofs.YtngdkenddfdhaaaGreatDoor
set_option linter.unusedVariables false
set_option linter.unusedSimpArgs false
set_option maxRecDepth 100000
namespace Go.Proofs.YtngdkenddfdhaaaGreatDoor
open Go Nv Pat
def refP (k:Int) (s:List (Int × Int)):Bool:=decide (k=2) || decide ((s.length:Int)=0)
def refQ (k a b:Int):Bool:=decide (k=5) || (decide (a=0) && decide (b=0))
def refR (k:Int) (s:List (Int × Int)) (n a b:Int):Bool :=
 if k=1∨k=2 then decide (n=0) && properB s
 else if k=3∨k=4 then decide (1<n)
 else decide (n=1) && decide (0≤a) && decide (a≤20) && (decide (b=-1) || (decide (a≤b) && decide (b≤20)))
theorem refBad {k:Int} (s:List (Int × Int)) (n a b:Int) (hk:kindB k=true):(refP k s && refQ k a b && refR k s n a b) = !badB k s n a b:=by
 simp only [kindB,Bool.or_eq_true,decide_eq_true_eq] at hk
 have h2:decide (2≤n)=decide (1<n):=by rw [decide_eq_decide];omega
 have p0:properB []=true:=rfl
 rcases hk with (((hk | hk) | hk) | hk) | hk <;> subst hk
 ·by_cases hs:s=[]
  ·subst hs;by_cases ha:a=0 <;> by_cases hb:b=0 <;> simp [refP,refQ,refR,badB,partsB,ha,hb,p0]
  ·have hl:0<s.length:=List.length_pos_iff.2 hs
   simp [refP,badB,hs,hl]
 ·by_cases ha:a=0 <;> by_cases hb:b=0 <;> simp [refP,refQ,refR,badB,partsB,ha,hb]
 ·by_cases hs:s=[]
  ·subst hs;by_cases ha:a=0 <;> by_cases hb:b=0 <;> simp [refP,refQ,refR,badB,partsB,ha,hb,h2]
  ·have hl:0<s.length:=List.length_pos_iff.2 hs
   simp [refP,badB,hs,hl]
 ·by_cases hs:s=[]
  ·subst hs;by_cases ha:a=0 <;> by_cases hb:b=0 <;> simp [refP,refQ,refR,badB,partsB,ha,hb,h2]
  ·have hl:0<s.length:=List.length_pos_iff.2 hs
   simp [refP,badB,hs,hl]
 ·by_cases hs:s=[]
  ·subst hs;simp [refP,refQ,refR,badB,partsB]
  ·have hl:0<s.length:=List.length_pos_iff.2 hs
   simp [refP,badB,hs,hl]
theorem node52:∀ n:Tree,n.nodes≤1000000→Thin n→PCall Tryz.prog 30 [nodeA n] (.d (.int .i64 (chk n))):=by
 intro n
 induction n using Tree.ind with
 | h k s sub a b ih =>
  intro hn ht
  have hsub:sub.length≤1000000:=by
   have h1:=length_nodesL sub
   have h2:(Tree.mk k s sub a b).nodes=1+Tree.nodesL sub:=nodes_eq _
   omega
  have hs:s.length≤1000000:=ht.1
  refine fn30.pure noHint (Nat.le_refl _) (by simp only [go_sem,nodeA,nodeF,setD]) (by simp only [go_sem]) ?_
  have c0:chk (.mk k s sub a b)=if kindB k then (if badB k s sub.length a b then 1 else chkL sub) else 9:=by rw [chk]
  obtain ⟨σ0,hσ⟩:∃ σ0:Nv.ST,σ0=[.box 25 (boxF k s sub a b)]:=⟨_,rfl⟩
  refine wW_cut (fun fr σ=>fr 1=.ptr 0 0∧σ=[.box 25 (boxF k s sub a b)]) ?_ ?_
  ·simp (disch:=omega) only [go_sem,nodeA,nodeF,Tree.kind,Tree.set,Tree.sub,Tree.min,Tree.max,boxF]
  rintro fr σ ⟨f1,rfl⟩
  refine wW_cut (fun fr σ=>fr 1=.ptr 0 0∧kindB k=true∧σ=[.box 25 (boxF k s sub a b)]) ?_ ?_
  ·by_cases k1:k<1
   ·have e2:kindB k=false:=by rw [← Bool.not_eq_true];simp [kindB];omega
    have e:chk (.mk k s sub a b)=9:=by rw [c0,e2];rfl
    simp (disch:=omega) only [go_sem,f1,boxF,k1,e]
   ·by_cases k2:5<k
    ·have e2:kindB k=false:=by rw [← Bool.not_eq_true];simp [kindB];omega
     have e:chk (.mk k s sub a b)=9:=by rw [c0,e2];rfl
     simp (disch:=omega) only [go_sem,f1,boxF,k1,k2,e]
    ·simp (disch:=omega) only [go_sem,f1,boxF,k1,k2]
     simp only [kindB,Bool.or_eq_true,decide_eq_true_eq];omega
  rintro fr σ ⟨f1,hkB,rfl⟩
  rw [if_pos hkB] at c0
  have hbad:=refBad s sub.length a b hkB
  refine wW_cut (fun fr σ=>fr 1=.ptr 0 0∧fr 3=.d (.bool (refP k s))∧σ=[.box 25 (boxF k s sub a b)]) ?_ ?_
  ·by_cases k2:k=2
   ·have e:refP k s=true:=by simp [refP,k2]
    rw [e]
    simp (disch:=omega) only [go_sem,f1,boxF,k2]
   ·have e:refP k s=decide ((s.length:Int)=0):=by simp [refP,k2]
    simp (disch:=omega) only [go_sem,f1,boxF,k2,e,setD,List.length_map]
    done
  rintro fr σ ⟨f1,f3,rfl⟩
  refine wW_cut (fun fr σ=>fr 1=.ptr 0 0∧fr 3=.d (.bool (refP k s && refQ k a b))∧σ=[.box 25 (boxF k s sub a b)]) ?_ ?_
  ·cases hp:refP k s
   ·rw [hp] at f3
    simp (disch:=omega) only [go_sem,f1,f3,Bool.false_and]
   ·rw [hp] at f3
    by_cases k5:k=5
    ·have e:refQ k a b=true:=by simp [refQ,k5]
     rw [e]
     simp (disch:=omega) only [go_sem,f1,f3,boxF,k5,Bool.true_and]
    ·by_cases ha:a=0
     ·have e:refQ k a b=decide (b=0):=by simp [refQ,k5,ha]
      rw [e]
      simp (disch:=omega) only [go_sem,f1,f3,boxF,k5,ha,Bool.true_and]
     ·have e:refQ k a b=false:=by simp [refQ,k5,ha]
      simp (disch:=omega) only [go_sem,f1,f3,boxF,k5,ha,e,Bool.true_and]
  rintro fr σ ⟨f1,f3,rfl⟩
  generalize (refP k s && refQ k a b)=p at f3 hbad
  refine wW_cut (fun fr σ=>fr 1=.ptr 0 0∧fr 3=.d (.bool (p && refR k s sub.length a b))∧σ=[.box 25 (boxF k s sub a b)]) ?_ ?_
  ·have hk:k=1∨k=2∨k=3∨k=4∨k=5:=by
    simp only [kindB,Bool.or_eq_true,decide_eq_true_eq] at hkB;omega
   cases p
   ·rcases hk with hk | hk | hk | hk | hk <;> simp (disch:=omega) only [go_sem,f1,f3,boxF,hk,Bool.false_and]
   ·rcases hk with hk | hk | hk | hk | hk
    ·have e:refR k s sub.length a b=(decide ((sub.length:Int)=0) && properB s):=by simp [refR,hk]
     rw [e]
     by_cases h0:(sub.length:Int)=0
     ·simp (disch:=omega) only [go_sem,f1,f3,boxF,hk,List.length_map,h0]
      refine (ranges69 s hs).at ?_
      rw [decide_eq_true h0,Bool.true_and]
      simp (disch:=omega) only [go_sem,f1,f3,hk,Bool.true_and]
     ·simp (disch:=omega) only [go_sem,f1,f3,boxF,hk,List.length_map,h0,Bool.true_and,Bool.false_and]
    ·have e:refR k s sub.length a b=(decide ((sub.length:Int)=0) && properB s):=by simp [refR,hk]
     rw [e]
     by_cases h0:(sub.length:Int)=0
     ·simp (disch:=omega) only [go_sem,f1,f3,boxF,hk,List.length_map,h0]
      refine (ranges69 s hs).at ?_
      rw [decide_eq_true h0,Bool.true_and]
      simp (disch:=omega) only [go_sem,f1,f3,hk,Bool.true_and]
     ·simp (disch:=omega) only [go_sem,f1,f3,boxF,hk,List.length_map,h0,Bool.true_and,Bool.false_and]
    ·have e:refR k s sub.length a b=decide (1<(sub.length:Int)):=by simp [refR,hk]
     rw [e]
     simp (disch:=omega) only [go_sem,f1,f3,boxF,hk,List.length_map,Bool.true_and]
    ·have e:refR k s sub.length a b=decide (1<(sub.length:Int)):=by simp [refR,hk]
     rw [e]
     simp (disch:=omega) only [go_sem,f1,f3,boxF,hk,List.length_map,Bool.true_and]
    ·have e:refR k s sub.length a b=(decide ((sub.length:Int)=1) && decide (0≤a) && decide (a≤20) && (decide (b=-1) || (decide (a≤b) && decide (b≤20)))):=by rw [hk];rfl
     rw [e]
     by_cases h1:(sub.length:Int)=1
     ·by_cases h2:0≤a
      ·by_cases h3:a≤20
       ·by_cases h4:b=-1
        ·simp (disch:=omega) only [go_sem,f1,f3,boxF,hk,List.length_map,h1,h2,h3,h4,Bool.true_and,decide_true,Bool.true_or]
        ·by_cases h5:a≤b
         ·simp (disch:=omega) only [go_sem,f1,f3,boxF,hk,List.length_map,h1,h2,h3,h4,h5,Bool.true_and,decide_true,Bool.false_or]
         ·simp (disch:=omega) only [go_sem,f1,f3,boxF,hk,List.length_map,h1,h2,h3,h4,h5,Bool.true_and,decide_true,Bool.false_or,Bool.false_and]
       ·simp (disch:=omega) only [go_sem,f1,f3,boxF,hk,List.length_map,h1,h2,h3,Bool.true_and,Bool.false_and,Bool.and_false]
      ·simp (disch:=omega) only [go_sem,f1,f3,boxF,hk,List.length_map,h1,h2,Bool.true_and,Bool.false_and,Bool.and_false]
     ·simp (disch:=omega) only [go_sem,f1,f3,boxF,hk,List.length_map,h1,Bool.true_and,Bool.false_and,Bool.and_false]
  rintro fr σ ⟨f1,f3,rfl⟩
  rw [hbad] at f3
  generalize badB k s sub.length a b=z at f3 c0 hbad
  refine wW_cut (fun fr σ=>fr 1=.ptr 0 0∧z=false∧σ=[.box 25 (boxF k s sub a b)]) ?_ ?_
  ·cases z
   ·simp (disch:=omega) only [go_sem,f1,f3,Bool.not_false,Bool.not_true]
   ·have e:chk (.mk k s sub a b)=1:=by rw [c0,if_pos rfl]
    simp (disch:=omega) only [go_sem,f1,f3,Bool.not_false,Bool.not_true,e]
  rintro fr σ ⟨f1,rfl,rfl⟩
  have c1:chk (.mk k s sub a b)=chkL sub:=c0
  have hnl:∀ x,x∈sub→x.nodes≤1000000:=fun x hx=>by
   have h1:=nodes_mem sub x hx
   have h2:(Tree.mk k s sub a b).nodes=1+Tree.nodesL sub:=nodes_eq _
   omega
  simp (disch:=omega) only [go_sem,f1]
  refine wL_ind (fun (j:Nat) fr σ=>j≤sub.length∧fr 1=.ptr 0 0∧fr 4=.d (.int .i64 j)∧σ=[.box 25 (boxF k s sub a b)]∧chkL (sub.drop j)=chk (.mk k s sub a b)) (fun j=>sub.length - j) ?_ 0 ?_
  ·rintro j fr σ ⟨hj,f1,f4,rfl,hc⟩ ih2
   by_cases hlt:j<sub.length
   ·obtain ⟨x,hx⟩:∃ x,x=sub.getD j default:=⟨_,rfl⟩
    have hxm:x∈sub:=by rw [hx];exact getD_mem sub j hlt
    have hd:sub.drop j=x::sub.drop (j+1):=by rw [hx];exact drop_getD sub j hlt
    rw [hd] at hc
    simp (disch:=omega) only [go_sem,f1,f4,boxF,hlt,List.length_map,nodeD_eq,nodeC,← hx]
    refine (ih x hxm (hnl x hxm) (thinL_mem ht.2 hxm)).at ?_
    by_cases h0:chk x=0
    ·have hc':chkL (sub.drop (j+1))=chk (.mk k s sub a b):=by rw [← hc,chkL,if_pos h0]
     simp (disch:=omega) only [go_sem,h0,f4]
     refine ih2 (j+1) _ _ (by omega) ⟨by omega,?_,?_,?_,hc'⟩
     ·simp (disch:=omega) only [go_sem,f1]
     ·simp (disch:=omega) only [go_sem,f4]
     ·simp only [boxF,nodeD_eq,nodeC]
    ·have e:chk (.mk k s sub a b)=chk x:=by rw [← hc,chkL,if_neg h0]
     simp (disch:=omega) only [go_sem,h0,e]
   ·rw [List.drop_of_length_le (by omega)] at hc
    simp (disch:=omega) only [go_sem,f1,f4,boxF,hlt,List.length_map]
    rw [← hc,chkL]
  ·refine ⟨by omega,?_,?_,?_,?_⟩
   ·simp (disch:=omega) only [go_sem,f1]
   ·simp (disch:=omega) only [go_sem]
   ·rfl
   ·rw [c1];rfl
theorem check35 (n:Tree) (h:Thin n):PCall Tryz.prog 12 [nodeA n] (.d (.int .i64 (chkE n))):=by
 refine fn12.pure noHint (Nat.le_refl _) (by simp only [go_sem,nodeA,nodeF,setD]) (by simp only [go_sem]) ?_
 have hc:=count22 n 121 (by omega) (by omega)
 simp only [nodeA,nodeF] at hc
 simp (disch:=omega) only [go_sem,nodeA,nodeF]
 refine hc.at ?_
 by_cases h1:120<n.nodes
 ·have e:(120:Int)<(min n.nodes 121:Nat):=by omega
  have e2:chkE n=5:=by rw [chkE,if_pos h1]
  simp (disch:=omega) only [go_sem,e,e2]
 ·have e:¬ (120:Int)<(min n.nodes 121:Nat):=by omega
  have e2:chkE n=chk n:=by rw [chkE,if_neg h1]
  have hn:=node52 n (by omega) h
  simp only [nodeA,nodeF] at hn
  simp (disch:=omega) only [go_sem,e,e2]
  refine hn.at ?_
  simp (disch:=omega) only [go_sem,e2]
end Go.Proofs.YtngdkenddfdhaaaGreatDoor
/- The prepared code of further functions. Written by a program of mine (gen.py) out of what the loaded dump prints. -/

set_option linter.unusedVariables false
set_option maxRecDepth 100000
namespace Go.Proofs.YtngdkenddfdhaaaGreatDoor
open Go Nv
theorem fn3:FnIs Tryz.prog 3 1 [Go.ResultVar.tmp 2] (.seq (.region [⟨some 1,Go.Op.box 25 (Go.Operand.tmp 0),0,none⟩,
   ⟨some 2,Go.Op.assign (Go.Operand.const (Go.Value.bool false)),4,none⟩])
  (.seq (.seq (.region [⟨some 7,Go.Op.load 25 (Go.Operand.tmp 1),25,none⟩,
   ⟨some 8,Go.Op.call { callee:=Go.Callee.value (Go.Operand.func 7),args:=#[Go.Operand.tmp 7],argTypes:=#[25] },4,none⟩])
  (.cond (Go.Operand.tmp 8)
   (.seq (.region [⟨some 9,Go.Op.call { callee:=Go.Callee.value (Go.Operand.func 8),args:=#[],argTypes:=#[] },4,none⟩,
    ⟨some 2,Go.Op.assign (Go.Operand.tmp 9),4,none⟩])
   .ret)
   .skip))
  (.seq (.region [⟨some 11,Go.Op.load 25 (Go.Operand.tmp 1),25,none⟩,
   ⟨some 12,Go.Op.call { callee:=Go.Callee.value (Go.Operand.func 9),args:=#[Go.Operand.tmp 11],argTypes:=#[25] },33,none⟩,
   ⟨some 10,Go.Op.move (Go.Operand.tmp 12),33,none⟩,
   ⟨some 13,Go.Op.extract (Go.Operand.tmp 10) 0,31,none⟩,
   ⟨some 14,Go.Op.extract (Go.Operand.tmp 10) 1,32,none⟩,
   ⟨some 3,Go.Op.alloc 31,0,none⟩,
   ⟨none,Go.Op.store 31 (Go.Operand.tmp 3) (Go.Operand.tmp 13),0,none⟩,
   ⟨some 4,Go.Op.assign (Go.Operand.tmp 14),32,none⟩])
  (.seq (.region [⟨some 16,Go.Op.load 25 (Go.Operand.tmp 1),25,none⟩,
   ⟨some 17,Go.Op.call { callee:=Go.Callee.value (Go.Operand.func 10),args:=#[Go.Operand.tmp 16],argTypes:=#[25] },33,none⟩,
   ⟨some 15,Go.Op.move (Go.Operand.tmp 17),33,none⟩,
   ⟨some 18,Go.Op.extract (Go.Operand.tmp 15) 0,31,none⟩,
   ⟨some 19,Go.Op.extract (Go.Operand.tmp 15) 1,32,none⟩,
   ⟨some 5,Go.Op.alloc 31,0,none⟩,
   ⟨none,Go.Op.store 31 (Go.Operand.tmp 5) (Go.Operand.tmp 18),0,none⟩,
   ⟨some 6,Go.Op.assign (Go.Operand.tmp 19),32,none⟩])
  (.seq (.region [⟨some 20,Go.Op.load 31 (Go.Operand.tmp 3),31,none⟩,
   ⟨some 21,Go.Op.load 31 (Go.Operand.tmp 5),31,none⟩,
   ⟨some 22,Go.Op.call { callee:=Go.Callee.value (Go.Operand.func 11),args:=#[Go.Operand.tmp 20,Go.Operand.tmp 21],argTypes:=#[31,31] },4,none⟩,
   ⟨some 23,Go.Op.move (Go.Operand.tmp 22),4,none⟩,
   ⟨some 24,Go.Op.move (Go.Operand.tmp 4),32,(some (23,true))⟩,
   ⟨some 25,Go.Op.move (Go.Operand.tmp 6),32,(some (23,true))⟩,
   ⟨some 26,Go.Op.binOp Go.BinOp.eql 32 (Go.Operand.tmp 24) (Go.Operand.tmp 25) 32,4,(some (23,true))⟩,
   ⟨some 27,Go.Op.pick (Go.Operand.tmp 23) (Go.Operand.tmp 26) (Go.Operand.const (Go.Value.bool false)),4,none⟩,
   ⟨some 28,Go.Op.move (Go.Operand.tmp 27),4,none⟩,
   ⟨some 29,Go.Op.call { callee:=Go.Callee.value (Go.Operand.func 8),args:=#[],argTypes:=#[] },4,(some (28,true))⟩,
   ⟨some 30,Go.Op.pick (Go.Operand.tmp 28) (Go.Operand.tmp 29) (Go.Operand.const (Go.Value.bool false)),4,none⟩,
   ⟨some 2,Go.Op.assign (Go.Operand.tmp 30),4,none⟩])
  .ret))))) :=
 ⟨foll,Tryz.f3,Tryz.func3,by kernel_rfl,by kernel_rfl,by kernel_rfl,by rw [Tryz.ntmps3];decide⟩
theorem fn7:FnIs Tryz.prog 7 1 [Go.ResultVar.tmp 2] (.seq (.region [⟨some 1,Go.Op.box 25 (Go.Operand.tmp 0),0,none⟩,
   ⟨some 2,Go.Op.assign (Go.Operand.const (Go.Value.bool false)),4,none⟩])
  (.seq (.region [⟨some 3,Go.Op.load 25 (Go.Operand.tmp 1),25,none⟩,
   ⟨some 4,Go.Op.call { callee:=Go.Callee.value (Go.Operand.func 19),args:=#[Go.Operand.tmp 3],argTypes:=#[25] },4,none⟩,
   ⟨some 5,Go.Op.move (Go.Operand.tmp 4),4,none⟩,
   ⟨some 6,Go.Op.load 25 (Go.Operand.tmp 1),25,(some (5,false))⟩,
   ⟨some 7,Go.Op.call { callee:=Go.Callee.value (Go.Operand.func 12),args:=#[Go.Operand.tmp 6],argTypes:=#[25] },3,(some (5,false))⟩,
   ⟨some 8,Go.Op.binOp Go.BinOp.eql 3 (Go.Operand.tmp 7) (Go.Operand.const (Go.Value.int Go.IntKind.i64 0)) 3,4,(some (5,false))⟩,
   ⟨some 9,Go.Op.move (Go.Operand.tmp 8),4,(some (5,false))⟩,
   ⟨some 10,Go.Op.load 25 (Go.Operand.tmp 1),25,(some (9,true))⟩,
   ⟨some 11,Go.Op.call { callee:=Go.Callee.value (Go.Operand.func 20),args:=#[Go.Operand.tmp 10],argTypes:=#[25] },3,(some (9,true))⟩,
   ⟨some 12,Go.Op.binOp Go.BinOp.gtr 3 (Go.Operand.tmp 11) (Go.Operand.const (Go.Value.int Go.IntKind.i64 500)) 3,4,(some (9,true))⟩,
   ⟨some 13,Go.Op.pick (Go.Operand.tmp 9) (Go.Operand.tmp 12) (Go.Operand.const (Go.Value.bool false)),4,(some (5,false))⟩,
   ⟨some 14,Go.Op.move (Go.Operand.tmp 13),4,(some (5,false))⟩,
   ⟨some 15,Go.Op.load 25 (Go.Operand.tmp 1),25,(some (14,true))⟩,
   ⟨some 16,Go.Op.call { callee:=Go.Callee.value (Go.Operand.func 20),args:=#[Go.Operand.tmp 15],argTypes:=#[25] },3,(some (14,true))⟩,
   ⟨some 17,Go.Op.binOp Go.BinOp.leq 3 (Go.Operand.tmp 16) (Go.Operand.const (Go.Value.int Go.IntKind.i64 3000)) 3,4,(some (14,true))⟩,
   ⟨some 18,Go.Op.pick (Go.Operand.tmp 14) (Go.Operand.tmp 17) (Go.Operand.const (Go.Value.bool false)),4,(some (5,false))⟩,
   ⟨some 19,Go.Op.pick (Go.Operand.tmp 5) (Go.Operand.const (Go.Value.bool true)) (Go.Operand.tmp 18),4,none⟩,
   ⟨some 2,Go.Op.assign (Go.Operand.tmp 19),4,none⟩])
  .ret)) :=
 ⟨foll,Tryz.f7,Tryz.func7,by kernel_rfl,by kernel_rfl,by kernel_rfl,by rw [Tryz.ntmps7];decide⟩
theorem fn8:FnIs Tryz.prog 8 0 [Go.ResultVar.tmp 0] (.seq (.region [⟨some 0,Go.Op.assign (Go.Operand.const (Go.Value.bool false)),4,none⟩])
  (.seq (.region [⟨some 8,Go.Op.call { callee:=Go.Callee.value (Go.Operand.func 21),args:=#[Go.Operand.const (Go.Value.int Go.IntKind.i32 97)],argTypes:=#[21] },25,none⟩,
   ⟨some 9,Go.Op.call { callee:=Go.Callee.value (Go.Operand.func 9),args:=#[Go.Operand.tmp 8],argTypes:=#[25] },33,none⟩,
   ⟨some 7,Go.Op.move (Go.Operand.tmp 9),33,none⟩,
   ⟨some 10,Go.Op.extract (Go.Operand.tmp 7) 0,31,none⟩,
   ⟨some 11,Go.Op.extract (Go.Operand.tmp 7) 1,32,none⟩,
   ⟨some 1,Go.Op.alloc 31,0,none⟩,
   ⟨none,Go.Op.store 31 (Go.Operand.tmp 1) (Go.Operand.tmp 10),0,none⟩,
   ⟨some 2,Go.Op.assign (Go.Operand.tmp 11),32,none⟩])
  (.seq (.region [⟨some 13,Go.Op.call { callee:=Go.Callee.value (Go.Operand.func 22),args:=#[Go.Operand.const (Go.Value.string { data:=#[97,123,50,44,125] })],argTypes:=#[9] },43,none⟩,
   ⟨some 12,Go.Op.move (Go.Operand.tmp 13),43,none⟩,
   ⟨some 14,Go.Op.extract (Go.Operand.tmp 12) 0,25,none⟩,
   ⟨some 15,Go.Op.extract (Go.Operand.tmp 12) 1,32,none⟩,
   ⟨some 3,Go.Op.alloc 25,0,none⟩,
   ⟨none,Go.Op.store 25 (Go.Operand.tmp 3) (Go.Operand.tmp 14),0,none⟩,
   ⟨some 4,Go.Op.assign (Go.Operand.tmp 15),32,none⟩])
  (.seq (.region [⟨some 17,Go.Op.load 25 (Go.Operand.tmp 3),25,none⟩,
   ⟨some 18,Go.Op.call { callee:=Go.Callee.value (Go.Operand.func 9),args:=#[Go.Operand.tmp 17],argTypes:=#[25] },33,none⟩,
   ⟨some 16,Go.Op.move (Go.Operand.tmp 18),33,none⟩,
   ⟨some 19,Go.Op.extract (Go.Operand.tmp 16) 0,31,none⟩,
   ⟨some 20,Go.Op.extract (Go.Operand.tmp 16) 1,32,none⟩,
   ⟨some 5,Go.Op.alloc 31,0,none⟩,
   ⟨none,Go.Op.store 31 (Go.Operand.tmp 5) (Go.Operand.tmp 19),0,none⟩,
   ⟨some 6,Go.Op.assign (Go.Operand.tmp 20),32,none⟩])
  (.seq (.region [⟨some 21,Go.Op.move (Go.Operand.tmp 2),32,none⟩,
   ⟨some 22,Go.Op.binOp Go.BinOp.eql 32 (Go.Operand.tmp 21) (Go.Operand.const (Go.Value.int Go.IntKind.i64 0)) 32,4,none⟩,
   ⟨some 23,Go.Op.move (Go.Operand.tmp 22),4,none⟩,
   ⟨some 24,Go.Op.move (Go.Operand.tmp 4),32,(some (23,true))⟩,
   ⟨some 25,Go.Op.binOp Go.BinOp.eql 32 (Go.Operand.tmp 24) (Go.Operand.const (Go.Value.int Go.IntKind.i64 0)) 32,4,(some (23,true))⟩,
   ⟨some 26,Go.Op.pick (Go.Operand.tmp 23) (Go.Operand.tmp 25) (Go.Operand.const (Go.Value.bool false)),4,none⟩,
   ⟨some 27,Go.Op.move (Go.Operand.tmp 26),4,none⟩,
   ⟨some 28,Go.Op.move (Go.Operand.tmp 6),32,(some (27,true))⟩,
   ⟨some 29,Go.Op.binOp Go.BinOp.eql 32 (Go.Operand.tmp 28) (Go.Operand.const (Go.Value.int Go.IntKind.i64 0)) 32,4,(some (27,true))⟩,
   ⟨some 30,Go.Op.pick (Go.Operand.tmp 27) (Go.Operand.tmp 29) (Go.Operand.const (Go.Value.bool false)),4,none⟩,
   ⟨some 31,Go.Op.move (Go.Operand.tmp 30),4,none⟩,
   ⟨some 32,Go.Op.fieldAddr 31 (Go.Operand.tmp 1) 2,0,(some (31,true))⟩,
   ⟨some 33,Go.Op.load 28 (Go.Operand.tmp 32),28,(some (31,true))⟩,
   ⟨some 34,Go.Op.call { callee:=Go.Callee.builtin Go.Builtin.len,args:=#[Go.Operand.tmp 33],argTypes:=#[28] },3,(some (31,true))⟩,
   ⟨some 35,Go.Op.binOp Go.BinOp.eql 3 (Go.Operand.tmp 34) (Go.Operand.const (Go.Value.int Go.IntKind.i64 2)) 3,4,(some (31,true))⟩,
   ⟨some 36,Go.Op.pick (Go.Operand.tmp 31) (Go.Operand.tmp 35) (Go.Operand.const (Go.Value.bool false)),4,none⟩,
   ⟨some 37,Go.Op.move (Go.Operand.tmp 36),4,none⟩,
   ⟨some 38,Go.Op.load 31 (Go.Operand.tmp 1),31,(some (37,true))⟩,
   ⟨some 39,Go.Op.call { callee:=Go.Callee.value (Go.Operand.func 16),args:=#[Go.Operand.tmp 38,Go.Operand.const (Go.Value.string { data:=#[97] })],argTypes:=#[31,9] },4,(some (37,true))⟩,
   ⟨some 40,Go.Op.pick (Go.Operand.tmp 37) (Go.Operand.tmp 39) (Go.Operand.const (Go.Value.bool false)),4,none⟩,
   ⟨some 41,Go.Op.move (Go.Operand.tmp 40),4,none⟩,
   ⟨some 42,Go.Op.load 31 (Go.Operand.tmp 1),31,(some (41,true))⟩,
   ⟨some 43,Go.Op.call { callee:=Go.Callee.value (Go.Operand.func 16),args:=#[Go.Operand.tmp 42,Go.Operand.const (Go.Value.string { data:=#[] })],argTypes:=#[31,9] },4,(some (41,true))⟩,
   ⟨some 44,Go.Op.unOp Go.UnOp.not 4 (Go.Operand.tmp 43),4,(some (41,true))⟩,
   ⟨some 45,Go.Op.pick (Go.Operand.tmp 41) (Go.Operand.tmp 44) (Go.Operand.const (Go.Value.bool false)),4,none⟩,
   ⟨some 46,Go.Op.move (Go.Operand.tmp 45),4,none⟩,
   ⟨some 47,Go.Op.fieldAddr 31 (Go.Operand.tmp 5) 2,0,(some (46,true))⟩,
   ⟨some 48,Go.Op.load 28 (Go.Operand.tmp 47),28,(some (46,true))⟩,
   ⟨some 49,Go.Op.call { callee:=Go.Callee.builtin Go.Builtin.len,args:=#[Go.Operand.tmp 48],argTypes:=#[28] },3,(some (46,true))⟩,
   ⟨some 50,Go.Op.binOp Go.BinOp.eql 3 (Go.Operand.tmp 49) (Go.Operand.const (Go.Value.int Go.IntKind.i64 8)) 3,4,(some (46,true))⟩,
   ⟨some 51,Go.Op.pick (Go.Operand.tmp 46) (Go.Operand.tmp 50) (Go.Operand.const (Go.Value.bool false)),4,none⟩,
   ⟨some 52,Go.Op.move (Go.Operand.tmp 51),4,none⟩,
   ⟨some 53,Go.Op.load 31 (Go.Operand.tmp 5),31,(some (52,true))⟩,
   ⟨some 54,Go.Op.call { callee:=Go.Callee.value (Go.Operand.func 16),args:=#[Go.Operand.tmp 53,Go.Operand.const (Go.Value.string { data:=#[97,97,97] })],argTypes:=#[31,9] },4,(some (52,true))⟩,
   ⟨some 55,Go.Op.pick (Go.Operand.tmp 52) (Go.Operand.tmp 54) (Go.Operand.const (Go.Value.bool false)),4,none⟩,
   ⟨some 56,Go.Op.move (Go.Operand.tmp 55),4,none⟩,
   ⟨some 57,Go.Op.load 31 (Go.Operand.tmp 5),31,(some (56,true))⟩,
   ⟨some 58,Go.Op.call { callee:=Go.Callee.value (Go.Operand.func 16),args:=#[Go.Operand.tmp 57,Go.Operand.const (Go.Value.string { data:=#[97] })],argTypes:=#[31,9] },4,(some (56,true))⟩,
   ⟨some 59,Go.Op.unOp Go.UnOp.not 4 (Go.Operand.tmp 58),4,(some (56,true))⟩,
   ⟨some 60,Go.Op.pick (Go.Operand.tmp 56) (Go.Operand.tmp 59) (Go.Operand.const (Go.Value.bool false)),4,none⟩,
   ⟨some 0,Go.Op.assign (Go.Operand.tmp 60),4,none⟩])
  .ret))))) :=
 ⟨foll,Tryz.f8,Tryz.func8,by kernel_rfl,by kernel_rfl,by kernel_rfl,by rw [Tryz.ntmps8];decide⟩
theorem fn21:FnIs Tryz.prog 21 1 [Go.ResultVar.cell 2 25] (.seq (.region [⟨some 2,Go.Op.alloc 25,0,none⟩])
  (.seq (.region [⟨some 3,Go.Op.move (Go.Operand.tmp 0),21,none⟩,
   ⟨some 4,Go.Op.move (Go.Operand.tmp 0),21,none⟩,
   ⟨some 5,Go.Op.build 57 #[(0,Go.Operand.tmp 3),(1,Go.Operand.tmp 4)],57,none⟩,
   ⟨some 6,Go.Op.buildSlice 22 1 #[(0,Go.Operand.tmp 5)],22,none⟩,
   ⟨some 7,Go.Op.build 25 #[(0,Go.Operand.const (Go.Value.int Go.IntKind.i64 2)),(1,Go.Operand.tmp 6)],25,none⟩,
   ⟨none,Go.Op.store 25 (Go.Operand.tmp 2) (Go.Operand.tmp 7),0,none⟩])
  .ret)) :=
 ⟨foll,Tryz.f21,Tryz.func21,by kernel_rfl,by kernel_rfl,by kernel_rfl,by rw [Tryz.ntmps21];decide⟩
end Go.Proofs.YtngdkenddfdhaaaGreatDoor
set_option linter.unusedVariables false
set_option linter.unusedSimpArgs false
set_option maxRecDepth 100000
namespace Go.Proofs.YtngdkenddfdhaaaGreatDoor
open Go Nv Pat
def times (k a b:Int):Nat:=if k=5 then copies a b else 1
theorem sz_times {k:Int} {s:List (Int × Int)} {sub:List Tree} {a b:Int} (hc:chk (.mk k s sub a b)=0):sz (.mk k s sub a b)=2+times k a b * (sub.map sz).sum:=by
 obtain ⟨h1,h2,h3,h4⟩:=chk_kinds hc
 unfold times
 rw [sz]
 by_cases h5:k=5
 ·obtain ⟨x,rfl,_⟩:=h3 h5
  rw [if_pos h5,if_pos h5];simp [szs]
 ·rw [if_neg h5,if_neg h5,szs_map,Nat.one_mul]
theorem times_le {k:Int} {s:List (Int × Int)} {sub:List Tree} {a b:Int} (hc:chk (.mk k s sub a b)=0):times k a b≤21:=by
 obtain ⟨h1,h2,h3,h4⟩:=chk_kinds hc
 unfold times
 split
 ·rename_i h5
  obtain ⟨x,rfl,h6,h7,h8,h9⟩:=h3 h5
  unfold copies;split <;> omega
 ·omega
theorem cap_step {c S z L:Nat}:min (min (2+c * S) L+c * min z L) L=min (2+c * (S+z)) L:=by
 rw [Nat.mul_add]
 rcases Nat.eq_zero_or_pos c with h | h
 ·subst h;simp
 ·rcases Nat.lt_or_ge L z with hz | hz
  ·rw [Nat.min_eq_right (by omega:L≤z)]
   have h1:L≤c * L:=Nat.le_mul_of_pos_left _ h
   have h2:c * L≤c * z:=Nat.mul_le_mul_left _ (by omega)
   omega
  ·rw [Nat.min_eq_left hz];omega
theorem sum_take (sub:List Tree) (j:Nat) (h:j<sub.length):((sub.take (j+1)).map sz).sum=((sub.take j).map sz).sum+sz (sub.getD j default):=by
 rw [take_succ' sub j h,List.map_append,List.sum_append];simp
theorem size20:∀ n:Tree,chk n=0→n.nodes≤1000000→PCall Tryz.prog 20 [nodeA n] (.d (.int .i64 (min (sz n) 10000:Nat))):=by
 intro n
 induction n using Tree.ind with
 | h k s sub a b ih =>
  intro hc hn
  obtain ⟨h1,h2,h3,h4⟩:=chk_kinds hc
  have hnn:(Tree.mk k s sub a b).nodes=1+Tree.nodesL sub:=nodes_eq _
  have hsl:=length_nodesL sub
  have htm:=times_le hc
  have hst:=sz_times hc
  refine fn20.pure noHint (Nat.le_refl _) (by simp only [go_sem,nodeA,nodeF,setD]) (by simp only [go_sem]) ?_
  simp (disch:=omega) only [go_sem,nodeA,nodeF,Tree.kind,Tree.set,Tree.sub,Tree.min,Tree.max,setD]
  refine wL_ind (fun (j:Nat) fr σ=>j≤sub.length∧fr 1=.ptr 0 0∧(∃ m:Nat,m=min (2+times k a b * ((sub.take j).map sz).sum) 10000∧fr 3=.d (.int .i64 m))∧fr 4=.d (.int .i64 j) ∧
   ∃ τ,σ=.box 25 [.d (.int .i64 k),.d (.list 2 (s.map rgD)),.d (.list 5 (sub.map nodeD)),.d (.int .i64 a),.d (.int .i64 b)]::τ) (fun j=>sub.length - j) ?_ 0 ?_
  ·rintro j fr σ ⟨hj,f1,⟨m,hm,f3⟩,f4,τ,rfl⟩ ih2
   by_cases hlt:j<sub.length
   ·obtain ⟨x,hx⟩:∃ x,x=sub.getD j default:=⟨_,rfl⟩
    have hxm:x∈sub:=by rw [hx];exact getD_mem sub j hlt
    have hxn:=nodes_mem sub x hxm
    have hst2:=sum_take sub j hlt
    rw [← hx] at hst2
    have hcap:=cap_step (c:=times k a b) (S:=((sub.take j).map sz).sum) (z:=sz x) (L:=10000)
    rw [← hst2,← hm] at hcap
    have hq:times k a b * min (sz x) 10000≤21 * 10000:=Nat.mul_le_mul htm (Nat.min_le_right _ _)
    have e4:((times k a b:Nat):Int) * ((min (sz x) 10000:Nat):Int)=((times k a b * min (sz x) 10000:Nat):Int):=by rw [Int.natCast_mul]
    generalize times k a b * min (sz x) 10000=q at *
    have hm2:m≤10000:=by rw [hm];exact Nat.min_le_right _ _
    have e5:(if (10000:Int)<(m:Int)+(q:Int) then (10000:Int) else (m:Int)+(q:Int))=((min (m+q) 10000:Nat):Int):=by split <;> omega
    have hih:=ih x hxm (h4 x hxm) (by omega)
    have hj9:j+1≤1000000:=by omega
    by_cases h5:k=5
    ·subst h5
     obtain ⟨y,hys,ha,ha2,hb,hab⟩:=h3 rfl
     have hcp:=copies41 (.mk 5 s sub a b) ⟨by simp only [Tree.min];omega,by simp only [Tree.min];omega⟩ (by simp only [Tree.max];omega)
     simp only [Tree.min,Tree.max] at hcp
     have e6:times 5 a b=copies a b:=if_pos rfl
     rw [e6] at e4
     simp (disch:=omega) only [go_sem,f1,f3,f4,hlt,apR]
     refine hcp.at ?_
     simp (disch:=omega) only [go_sem,f1,f3,f4,hlt,node_get,← hx,nodeD_eq,nodeC,apR]
     refine hih.at ?_
     simp (disch:=omega) only [go_sem,f1,f3,f4,e4]
     refine ih2 (j+1) _ _ (by omega) ⟨by omega,?_,⟨min (m+q) 10000,hcap,?_⟩,?_,_,rfl⟩
     ·simp (disch:=omega) only [go_sem,f1]
     ·simp (disch:=omega) only [go_sem,e5]
     ·simp (disch:=omega) only [go_sem]
    ·have e6:times k a b=1:=if_neg h5
     rw [e6] at e4
     have e7:(1:Int) * ((min (sz x) 10000:Nat):Int)=(q:Int):=by simpa using e4
     simp (disch:=omega) only [go_sem,f1,f3,f4,hlt,h5,node_get,← hx,nodeD_eq,nodeC,apR]
     refine hih.at ?_
     simp (disch:=omega) only [go_sem,f1,f3,f4,e7]
     refine ih2 (j+1) _ _ (by omega) ⟨by omega,?_,⟨min (m+q) 10000,hcap,?_⟩,?_,_,rfl⟩
     ·simp (disch:=omega) only [go_sem,f1]
     ·simp (disch:=omega) only [go_sem,e5]
     ·simp (disch:=omega) only [go_sem]
   ·have hje:j=sub.length:=by omega
    subst hje
    rw [List.take_length,← hst] at hm
    simp (disch:=omega) only [go_sem,f1,f3,f4,hlt,hm]
  ·refine ⟨by omega,?_,⟨2,by simp,?_⟩,?_,[],rfl⟩
   ·simp (disch:=omega) only [go_sem]
   ·simp (disch:=omega) only [go_sem];rfl
   ·simp (disch:=omega) only [go_sem]
end Go.Proofs.YtngdkenddfdhaaaGreatDoor
set_option linter.unusedVariables false
set_option linter.unusedSimpArgs false
set_option maxRecDepth 100000
namespace Go.Proofs.YtngdkenddfdhaaaGreatDoor
open Go Nv Pat
def grB (n:Tree):Bool:=decide (200<n.nodes) || wideB n
def largeB (n:Tree):Bool:=grB n || (decide (chkE n=0) && decide (500<sz n) && decide (sz n≤3000))
theorem large7 (n:Tree):PCall Tryz.prog 7 [nodeA n] (.d (.bool (largeB n))):=by
 refine fn7.pure noHint (Nat.le_refl _) (by simp only [go_sem,nodeA,nodeF,setD]) (by simp only [go_sem]) ?_
 simp (disch:=omega) only [go_sem,nodeA,nodeF]
 refine (great10 n).at ?_
 cases hg:decide (200<n.nodes) || wideB n with
 | true =>
  have e:largeB n=true:=by simp [largeB,grB,hg]
  simp (disch:=omega) only [go_sem,e]
 | false =>
 have hn:n.nodes≤200:=by
  simp only [Bool.or_eq_false_iff,decide_eq_false_iff_not] at hg;omega
 have ht:Thin n:=by
  simp only [Bool.or_eq_false_iff,decide_eq_false_iff_not] at hg;exact thin_of n hg.2
 simp (disch:=omega) only [go_sem,nodeA,nodeF]
 refine (check35 n ht).at ?_
 by_cases hc:chkE n=0
 ·have hc0:=(chkE_ok hc).2
  simp (disch:=omega) only [go_sem,hc]
  refine (size20 n hc0 (by omega)).at ?_
  by_cases h5:500<sz n
  ·have h5':(500:Int)<((min (sz n) 10000:Nat):Int):=by omega
   simp (disch:=omega) only [go_sem,h5']
   refine (size20 n hc0 (by omega)).at ?_
   by_cases h3:sz n≤3000
   ·have h3':((min (sz n) 10000:Nat):Int)≤3000:=by omega
    have e:largeB n=true:=by simp [largeB,grB,hg,hc,h5,h3]
    simp (disch:=omega) only [go_sem,h3',e]
   ·have h3':¬ ((min (sz n) 10000:Nat):Int)≤3000:=by omega
    have e:largeB n=false:=by unfold largeB grB;rw [hg];simp [h3]
    simp (disch:=omega) only [go_sem,h3',e]
  ·have h5':¬ (500:Int)<((min (sz n) 10000:Nat):Int):=by omega
   have e:largeB n=false:=by unfold largeB grB;rw [hg];simp [h5]
   simp (disch:=omega) only [go_sem,h5',e]
 ·have e:largeB n=false:=by unfold largeB grB;rw [hg];simp [hc]
  simp (disch:=omega) only [go_sem,hc,e]
/- Short rows: the automaton fits. -/
theorem rows_short:∀ n:Tree,chk n=0→Thin n→∀ (o:Nat) l,l∈rowsA n o→l.length≤1000000:=by
 intro n
 induction n using Tree.ind with
 | h k s sub a b ih =>
  intro hc ht o l hl
  obtain ⟨h1,h2,h3,h4⟩:=chk_kinds hc
  have hwf:=chk_wf _ hc
  simp only [Thin] at ht
  by_cases hk:k=2
  ·rw [rowsA,if_pos hk] at hl
   simp only [List.mem_cons,List.not_mem_nil,or_false] at hl
   rcases hl with rfl | rfl
   ·rw [List.length_map];exact ht.1
   ·simp
  ·rw [rowsA_items k s sub a b o hk (fun h5=>by obtain ⟨y,rfl,_⟩:=h3 h5;simp)] at hl
   simp only [List.mem_cons,List.mem_append,List.not_mem_nil,or_false] at hl
   have hit:∀ y,y∈items (.mk k s sub a b)→y∈sub:=by
    intro y hy
    by_cases h5:k=5
    ·obtain ⟨z,rfl,_⟩:=h3 h5
     simp only [items,h5,if_true,List.headD_cons] at hy
     rw [(List.mem_replicate.1 hy).2];simp
    ·simpa [items,h5] using hy
   rcases hl with rfl | hl | rfl
   ·simp
   ·obtain ⟨y,o',q1,_,_,q4⟩:=catA_mem _ _ (items_wf hwf) l hl
    exact ih y (hit y q1) (h4 y (hit y q1)) (thinL_mem ht.2 (hit y q1)) o' l q4
   ·simp
theorem build_fit {n:Tree} (hc:chk n=0) (ht:Thin n) (hs:sz n≤3000):Fit (buildM n):=by
 have hwf:=chk_wf n hc
 have hb:=build_is hwf
 have hl:(buildM n).arcs.length=sz n:=by rw [hb.arcs,rowsA_len hwf]
 have hO0:Okb st0:=⟨rfl,fun f=>by simp [st0],fun f z hz=>by simp [st0] at hz⟩
 have hOk:Okb (partB n st0).1:=(part_ok hwf st0 hO0).1
 have hpl:=(part_len hwf hO0).1
 refine ⟨by omega,by rw [hb.len];omega,fun l hl'=>?_,fun l hl'=>?_⟩
 ·rw [hb.arcs] at hl'
  have:=rows_short n hc ht 0 l hl'
  omega
 ·simp only [buildM,List.mem_map] at hl'
  obtain ⟨l0,h0,rfl⟩:=hl'
  obtain ⟨r,hr,rfl⟩:=List.mem_iff_getElem.1 h0
  have:=hOk.row r
  rw [List.getD_eq_getElem?_getD,List.getElem?_eq_getElem hr] at this
  rw [sortI_len]
  have h00:st0.A.length=0:=rfl
  simp only [Option.getD_some] at this
  omega
end Go.Proofs.YtngdkenddfdhaaaGreatDoor
set_option linter.unusedVariables false
set_option linter.unusedSimpArgs false
set_option maxRecDepth 100000
namespace Go.Proofs.YtngdkenddfdhaaaGreatDoor
open Go Nv Pat
theorem ints28 (l:List Int) (hl:l.length≤1000000000):PCall Tryz.prog 28 [.d (.list 1 (l.map intD)),.d (.list 1 (l.map intD))] (.d (.bool true)):=by
 refine fn28.pure noHint (Nat.le_refl _) (by simp only [go_sem]) (by simp only [go_sem]) ?_
 have hll:=ints_len l
 simp (disch:=omega) only [go_sem,hll]
 refine wL_ind (fun (i:Nat) fr σ=>i≤l.length∧fr 0=.d (.list 1 (l.map intD))∧fr 1=.d (.list 1 (l.map intD))∧fr 5=.d (.int .i64 i)) (fun i=>l.length - i) ?_ 0 ?_
 ·rintro i fr σ ⟨hi,f0,f1,f5⟩ ih
  by_cases hlt:i<l.length
  ·have hgt:=ints_get l i hlt
   simp (disch:=omega) only [go_sem,f0,f1,f5,hlt,hll,hgt]
   refine ih (i+1) _ _ (by omega) ⟨by omega,?_,?_,?_⟩
   ·simp (disch:=omega) only [go_sem,f0]
   ·simp (disch:=omega) only [go_sem,f1]
   ·simp (disch:=omega) only [go_sem]
  ·have hie:i=l.length:=by omega
   subst hie
   simp (disch:=omega) only [go_sem,f0,f1,f5,hlt,hll]
 ·refine ⟨by omega,?_,?_,?_⟩
  ·simp (disch:=omega) only [go_sem]
  ·simp (disch:=omega) only [go_sem]
  ·simp (disch:=omega) only [go_sem]
theorem arcs_get' (A:List (List Arc)) (i:Nat) (h:i<A.length):((arcsL A).map (DV.list 3)).getD i default=.list 3 ((A.getD i []).map arcD):=by simp [arcsL,List.getD_eq_getElem?_getD,h]
theorem ints_get' (A:List (List Int)) (i:Nat) (h:i<A.length):((intsL A).map (DV.list 1)).getD i default=.list 1 ((A.getD i []).map intD):=by simp [intsL,List.getD_eq_getElem?_getD,h]
theorem arc_get' (l:List Arc) (i:Nat) (h:i<l.length):(l.map arcD).getD i default=arcD (l.getD i default):=by simp [List.getD_eq_getElem?_getD,h]
theorem hsk:structKinds Tryz.prog 59=some [0,0,0]:=by kernel_rfl
theorem scalarEq_arc (a b c:Int):scalarEq [0,0,0] [AV.d (.int .i32 a),AV.d (.int .i32 b),AV.d (.int .i64 c)] [AV.d (.int .i32 a),AV.d (.int .i32 b),AV.d (.int .i64 c)]=some true:=by simp [scalarEq]
theorem same11 (A:Au) (hA:Fit A):PCall Tryz.prog 11 [auA A,auA A] (.d (.bool true)):=by
 refine fn11.pure noHint (Nat.le_refl _) (by simp only [go_sem,auA,auF]) (by simp only [go_sem]) ?_
 obtain ⟨h1,h2,h3,h4⟩:=hA
 have hla:((arcsL A.arcs).map (DV.list 3)).length=A.arcs.length:=by simp [arcsL]
 have hle:((intsL A.emp).map (DV.list 1)).length=A.emp.length:=by simp [intsL]
 simp (disch:=omega) only [go_sem,auA,auF,rowsD,hla,hle]
 obtain ⟨S,hS⟩:∃ S,S=[Blk.box 31 [AV.d (.int .i64 A.start),AV.d (.int .i64 A.accept),AV.d (.list 1 ((arcsL A.arcs).map (DV.list 3))),AV.d (.list 1 ((intsL A.emp).map (DV.list 1)))],Blk.box 31 [AV.d (.int .i64 A.start),AV.d (.int .i64 A.accept),AV.d (.list 1 ((arcsL A.arcs).map (DV.list 3))),AV.d (.list 1 ((intsL A.emp).map (DV.list 1)))]]:=⟨_,rfl⟩
 have b0:stGet S 0=.box 31 [AV.d (.int .i64 A.start),AV.d (.int .i64 A.accept),AV.d (.list 1 ((arcsL A.arcs).map (DV.list 3))),AV.d (.list 1 ((intsL A.emp).map (DV.list 1)))]:=by rw [hS];rfl
 have b1:stGet S 1=.box 31 [AV.d (.int .i64 A.start),AV.d (.int .i64 A.accept),AV.d (.list 1 ((arcsL A.arcs).map (DV.list 3))),AV.d (.list 1 ((intsL A.emp).map (DV.list 1)))]:=by rw [hS];rfl
 rw [← hS]
 refine wL_ind (fun (s:Nat) fr σ=>s≤A.arcs.length∧fr 2=.ptr 0 0∧fr 3=.ptr 1 0∧fr 5=.d (.int .i64 s)∧σ=S) (fun s=>A.arcs.length - s) ?_ 0 ?_
 ·rintro s fr σ ⟨hs,f2,f3,f5,rfl⟩ ih
  by_cases hlt:s<A.arcs.length
  ·have hgt:=arcs_get' A.arcs s hlt
   have hrl:(A.arcs.getD s []).length≤1000000000:=h3 _ (by rw [List.getD_eq_getElem?_getD,List.getElem?_eq_getElem hlt];exact List.getElem_mem _)
   generalize A.arcs.getD s []=row at *
   have hrw:(row.map arcD).length=row.length:=by simp
   simp (disch:=omega) only [go_sem,f2,f3,f5,b0,b1,hla,hlt,hgt,hrw]
   refine wL_ind (fun (i:Nat) fr σ'=>i≤row.length∧fr 2=.ptr 0 0∧fr 3=.ptr 1 0∧fr 5=.d (.int .i64 s)∧fr 6=.d (.int .i64 i)∧σ'=σ) (fun i=>row.length - i) ?_ 0 ?_
   ·rintro i fr σ' ⟨hi,f2,f3,f5,f6,rfl⟩ ih2
    by_cases hli:i<row.length
    ·have hga:=arc_get' row i hli
     obtain ⟨x,hx⟩:∃ x,x=row.getD i default:=⟨_,rfl⟩
     rw [← hx] at hga
     simp (disch:=omega) only [go_sem,f2,f3,f5,f6,b0,b1,hla,hlt,hgt,hrw,hli,hga,arcD,hsk,scalarEq_arc]
     refine ih2 (i+1) _ _ (by omega) ⟨by omega,?_,?_,?_,?_,rfl⟩
     ·simp (disch:=omega) only [go_sem,f2]
     ·simp (disch:=omega) only [go_sem,f3]
     ·simp (disch:=omega) only [go_sem,f5]
     ·simp (disch:=omega) only [go_sem]
    ·have hie:i=row.length:=by omega
     subst hie
     simp (disch:=omega) only [go_sem,f2,f3,f5,f6,b0,b1,hla,hlt,hgt,hrw,hli]
     refine ih (s+1) _ _ (by omega) ⟨by omega,?_,?_,?_,rfl⟩
     ·simp (disch:=omega) only [go_sem,f2]
     ·simp (disch:=omega) only [go_sem,f3]
     ·simp (disch:=omega) only [go_sem]
   ·refine ⟨by omega,?_,?_,?_,?_,rfl⟩
    ·simp (disch:=omega) only [go_sem,f2]
    ·simp (disch:=omega) only [go_sem,f3]
    ·simp (disch:=omega) only [go_sem,f5]
    ·simp (disch:=omega) only [go_sem]
  ·have hse:s=A.arcs.length:=by omega
   subst hse
   simp (disch:=omega) only [go_sem,f2,f3,f5,b0,b1,hla,hlt]
   refine wL_ind (fun (s:Nat) fr σ'=>s≤A.emp.length∧fr 2=.ptr 0 0∧fr 3=.ptr 1 0∧fr 7=.d (.int .i64 s)∧σ'=σ) (fun s=>A.emp.length - s) ?_ 0 ?_
   ·rintro s fr σ' ⟨hs,f2,f3,f7,rfl⟩ ih2
    by_cases hlt:s<A.emp.length
    ·have hgt:=ints_get' A.emp s hlt
     have hrl:(A.emp.getD s []).length≤1000000000:=h4 _ (by rw [List.getD_eq_getElem?_getD,List.getElem?_eq_getElem hlt];exact List.getElem_mem _)
     generalize A.emp.getD s []=row at *
     simp (disch:=omega) only [go_sem,f2,f3,f7,b0,b1,hle,hlt,hgt]
     refine (ints28 row hrl).dat ?_
     simp (disch:=omega) only [go_sem,f7]
     refine ih2 (s+1) _ _ (by omega) ⟨by omega,?_,?_,?_,rfl⟩
     ·simp (disch:=omega) only [go_sem,f2]
     ·simp (disch:=omega) only [go_sem,f3]
     ·simp (disch:=omega) only [go_sem]
    ·have hse:s=A.emp.length:=by omega
     subst hse
     simp (disch:=omega) only [go_sem,f2,f3,f7,b0,b1,hle,hlt]
   ·refine ⟨by omega,?_,?_,?_,rfl⟩
    ·simp (disch:=omega) only [go_sem,f2]
    ·simp (disch:=omega) only [go_sem,f3]
    ·simp (disch:=omega) only [go_sem]
 ·refine ⟨by omega,?_,?_,?_,rfl⟩
  ·simp (disch:=omega) only [go_sem]
  ·simp (disch:=omega) only [go_sem]
  ·simp (disch:=omega) only [go_sem]
theorem same11z:PCall Tryz.prog 11 [auZ,auZ] (.d (.bool true)):=by
 refine fn11.pure noHint (Nat.le_refl _) (by simp only [go_sem,auZ]) (by simp only [go_sem]) ?_
 simp (disch:=omega) only [go_sem,auZ]
 refine wL_ind (fun (_:Unit) fr σ=>fr 2=.ptr 0 0∧fr 3=.ptr 1 0∧fr 5=.d (.int .i64 0)∧σ=[Blk.box 31 [AV.d (.int .i64 0),AV.d (.int .i64 0),AV.d .nilslice,AV.d .nilslice],Blk.box 31 [AV.d (.int .i64 0),AV.d (.int .i64 0),AV.d .nilslice,AV.d .nilslice]]) (fun _=>0) ?_ () ?_
 ·rintro _ fr σ ⟨f2,f3,f5,rfl⟩ ih
  simp (disch:=omega) only [go_sem,f2,f3,f5]
  refine wL_ind (fun (_:Unit) fr σ=>fr 2=.ptr 0 0∧fr 3=.ptr 1 0∧fr 7=.d (.int .i64 0)∧σ=[Blk.box 31 [AV.d (.int .i64 0),AV.d (.int .i64 0),AV.d .nilslice,AV.d .nilslice],Blk.box 31 [AV.d (.int .i64 0),AV.d (.int .i64 0),AV.d .nilslice,AV.d .nilslice]]) (fun _=>0) ?_ () ?_
  ·rintro _ fr σ ⟨f2,f3,f7,rfl⟩ ih
   simp (disch:=omega) only [go_sem,f2,f3,f7]
  ·refine ⟨?_,?_,?_,rfl⟩
   ·simp (disch:=omega) only [go_sem,f2]
   ·simp (disch:=omega) only [go_sem,f3]
   ·simp (disch:=omega) only [go_sem]
 ·refine ⟨?_,?_,?_,rfl⟩
  ·simp (disch:=omega) only [go_sem]
  ·simp (disch:=omega) only [go_sem]
  ·simp (disch:=omega) only [go_sem]
theorem refbuild10 (n:Tree) (ht:Thin n) (hn:n.nodes≤1000000):PCall Tryz.prog 10 [nodeA n] (.tuple [buildA n,.d (.int .i64 (buildE n))]):=by
 refine fn10.thaw noHint (Nat.le_refl _) (by simp only [go_sem,nodeA,nodeF,setD]) (by unfold buildA;split <;> rfl) ?_
 simp (disch:=omega) only [go_sem,nodeA,nodeF,setD,apR]
 refine (check35 n ht).at ?_
 by_cases hc:chkE n=0
 ·simp (disch:=omega) only [go_sem,hc]
  obtain ⟨hn120,hc0⟩:=chkE_ok hc
  have hwf:=chk_wf n hc0
  refine (size20 n hc0 hn).at ?_
  by_cases hbig:3000<sz n
  ·have hE:buildE n=5:=by unfold buildE szP;rw [if_pos hc,if_pos (by omega)]
   have hA:buildA n=auZ:=by rw [buildA,if_neg (by rw [hE];decide)]
   have hbig':(3000:Int)<((min (sz n) 10000:Nat):Int):=by omega
   simp (disch:=omega) only [go_sem,hbig']
   rw [hA,hE]
   exact ⟨_,_,rfl,Thaws.refl _ _⟩
  ·have hE:buildE n=0:=by unfold buildE szP;rw [if_pos hc,if_neg (by omega)]
   have hA:buildA n=auA (buildM n):=by rw [buildA,if_pos hE]
   have hbig':¬ (3000:Int)<((min (sz n) 10000:Nat):Int):=by omega
   simp (disch:=omega) only [go_sem,hbig']
   have hO0:OkR st0:=⟨rfl,fun f=>by simp [st0],fun f z hz=>by simp [st0] at hz⟩
   have hD0:∀ S:Nv.ST,Duo S st0 (.d .nilslice) (.d .nilslice) (fun _=>False) (fun _=>False):=fun S=>⟨.inl ⟨rfl,rfl⟩,.inl ⟨rfl,rfl⟩,fun _ h=>h.elim,fun _ h=>absurd h (by simp)⟩
   refine (part_ref n hc0 (thin_sets n ht) (hD0 _) hO0 (by simp only [st0,List.length_nil];omega)).at ?_
   rintro v σ1 ⟨va,ve,F,G,rfl,hD,hK⟩
   obtain ⟨p1,p2,p3⟩:=part_same hwf
   have hb:buildM n=⟨0,(Pat.partR n st0).2,(Pat.partR n st0).1.A,(Pat.partR n st0).1.E⟩:=by
    show Au.mk _ _ _ _=_
    rw [show st0=⟨[],[]⟩ from rfl,p1,p2,p3];rfl
   have r1:=(hK.stay (k:=0) (b:=.box 25 (nodeF n)) (by rfl) (by simp) (by simp)).1
   have r2:=(hK.stay (k:=1) (b:=.box 31 [AV.d (.int .i64 0),AV.d (.int .i64 0),AV.d .nilslice,AV.d .nilslice]) (by rfl) (by simp) (by simp)).1
   have o1:=Rw.one hD.a
   have o2:=Rw.one hD.e
   have l1:=lt_of_get r2 (by simp)
   have hg:∀ X m,stGet (stSet σ1 1 X++m) 1=X:=fun X m=>by rw [stGet_left _ _ _ (by rw [stSet_len];exact l1),stGet_set_eq l1]
   simp (disch:=omega) only [go_sem,nfaV,nfaF,o1,o2,r2,l1,hg,stGet_left,stSet_left,stGet_sl,stGet_set_eq,apR]
   have hD1:Duo (stSet σ1 1 (.box 31 [AV.d (.int .i64 st0.len),AV.d (.int .i64 (Pat.partR n st0).2),va,ve])++[.box 31 [AV.d (.int .i64 st0.len),AV.d (.int .i64 (Pat.partR n st0).2),va,ve]]) (Pat.partR n st0).1 va ve F G:=by
    refine (hD.keep (σ':=stSet σ1 1 (.box 31 [AV.d (.int .i64 st0.len),AV.d (.int .i64 (Pat.partR n st0).2),va,ve])) (by rw [stSet_len];exact Nat.le_refl _) fun k q=>stGet_set_ne fun e=>?_).pushed _
    subst e
    have:=hK.new 1 q
    simp at this
   rw [hA,hE,hb]
   obtain ⟨τ1,t1,k1⟩:=Rw.thaw (P:=Tryz.prog) hD1.a
   obtain ⟨τ2,t2,_⟩:=Rw.thaw (P:=Tryz.prog) (hD1.e.keep fun k hk=>k1 k fun hF=>hD1.dis k hF hk)
   refine ⟨_,τ2,rfl,?_⟩
   exact Thaws.tuple (.cons (Thaws.agg (.cons (Thaws.refl _ _) (.cons (Thaws.refl _ _) (.cons t1 (.cons t2 (.nil _)))))) (.cons (Thaws.refl _ _) (.nil _)))
 ·have hE:buildE n=chkE n:=by rw [buildE,if_neg hc]
  have hA:buildA n=auZ:=by rw [buildA,if_neg (by rw [hE];exact hc)]
  simp (disch:=omega) only [go_sem,hc]
  rw [hA,hE]
  exact ⟨_,_,rfl,Thaws.refl _ _⟩
end Go.Proofs.YtngdkenddfdhaaaGreatDoor
/- Patterns as texts of characters: how they are read,and how they are written. Plain: no program. -/

set_option linter.unusedVariables false
set_option linter.unusedSimpArgs false
namespace Pat
def allS:List (Int × Int):=[(0,55295),(57344,1114111)]
def clip1 (a b:Int) (q:Int × Int):List (Int × Int):=if max a q.1≤min b q.2 then [(max a q.1,min b q.2)] else []
def clipS (a b:Int):List (Int × Int):=clip1 a b (0,55295)++clip1 a b (57344,1114111)
def joinR (out:List (Int × Int)) (r:Int × Int):List (Int × Int) :=
 if 0<out.length∧r.1≤(out.getD (out.length - 1) default).2+1 then out.set (out.length - 1) ((out.getD (out.length - 1) default).1,max (out.getD (out.length - 1) default).2 r.2)
 else out++[r]
def compL:Int→List (Int × Int)→List (Int × Int)
 | low,[]=>clipS low 1114111
 | low,r::l=>clipS low (r.1 - 1)++compL (r.2+1) l
def compS (l:List (Int × Int)):List (Int × Int):=compL 0 l
def spec:List Int:=[92,40,41,91,93,123,125,124,42,43,63,46]
def digit (c:Int):Bool:=decide (48≤c) && decide (c≤57)
def numL:List Int→Int→Int × List Int
 | [],n=>(n,[])
 | c::t,n=>if digit c then numL t (min (10 * n+(c - 48)) 1000) else (n,c::t)
def numP (l:List Int):Option (Int × List Int) :=
 if (numL l 0).2.length=l.length∨(l.headD 0=48∧(numL l 0).2.length+1<l.length)∨20<(numL l 0).1 then none else some (numL l 0)
def oneP:List Int→Option (Int × List Int)
 | []=>none
 | c::t=>some (c,t)
def letP:List Int→Option (Int × List Int)
 | []=>none
 | c::t=>if c=92 then oneP t else if c=93∨c=94∨c=45 then none else some (c,t)
def itemP (l:List Int):Option ((Int × Int) × List Int) :=
 match letP l with
 | none=>none
 | some x=>if x.2.headD (-1)=45 then (letP x.2.tail).map fun y=>((x.1,y.1),y.2) else some ((x.1,x.1),x.2)
def clsP:Nat→List (Int × Int)→List Int→Option (List (Int × Int) × List Int)
 | 0,_,_=>none
 | f+1,acc,l =>
  if acc≠[]∧l.headD (-1)=93 then some (acc,l.tail)
  else match itemP l with
   | none=>none
   | some (q,r)=>if q.2<q.1 then none else clsP f (acc++clipS q.1 q.2) r
section
variable (sort:List (Int × Int)→List (Int × Int))
def normS (l:List (Int × Int)):List (Int × Int):=(sort l).foldl joinR []
def classP (l:List Int):Option (List (Int × Int) × List Int) :=
 if l.headD (-1)=94 then (clsP (l.length+1) [] l.tail).map fun x=>(compS (normS sort x.1),x.2)
 else (clsP (l.length+1) [] l).map fun x=>(normS sort x.1,x.2)
def setT (s:List (Int × Int)):Tree:=.mk 2 s [] 0 0
def rep5 (x:Tree) (a b:Int):Tree:=.mk 5 [] [x] a b
def mkJoin:List Tree→Tree
 | []=>.mk 1 [] [] 0 0
 | [x]=>x
 | l=>.mk 3 [] l 0 0
def mkChoice:List Tree→Tree
 | [x]=>x
 | l=>.mk 4 [] l 0 0
variable (ch:List Int→Option (Tree × List Int))
def atomP:List Int→Option (Tree × List Int)
 | []=>none
 | c::t =>
  if c=40 then (match ch t with
   | none=>none
   | some (n,r)=>if r.headD (-1)=41 then some (n,r.tail) else none)
  else if c=46 then some (setT allS,t)
  else if c=91 then (classP sort t).map fun x=>(setT x.1,x.2)
  else if c=92 then (match t with | []=>none | d::t=>some (setT [(d,d)],t))
  else if c∈spec then none
  else some (setT [(c,c)],t)
def bndP (l:List Int):Option ((Int × Int) × List Int) :=
 match numP l with
 | none=>none
 | some (a,r) =>
  match (if r.headD (-1)=44 then (if r.tail.headD (-1)=125 then some (-1,r.tail) else numP r.tail) else some (a,r)) with
  | none=>none
  | some (b,r)=>if r.headD (-1)=125∧¬ (0≤b∧b<a) then some ((a,b),r.tail) else none
def repP (l:List Int):Option (Tree × List Int) :=
 match atomP sort ch l with
 | none=>none
 | some (x,r) =>
  if r.headD (-1)=42 then some (rep5 x 0 (-1),r.tail)
  else if r.headD (-1)=43 then some (rep5 x 1 (-1),r.tail)
  else if r.headD (-1)=63 then some (rep5 x 0 1,r.tail)
  else if r.headD (-1)=123 then (bndP r.tail).map fun y=>(rep5 x y.1.1 y.1.2,y.2)
  else some (x,r)
def joinL:Nat→List Int→Option (List Tree × List Int)
 | 0,_=>none
 | f+1,l =>
  if l.headD (-1)<0∨l.headD (-1)=124∨l.headD (-1)=41 then some ([],l)
  else match repP sort ch l with
   | none=>none
   | some (x,r)=>(joinL f r).map fun y=>(x::y.1,y.2)
def joinP (l:List Int):Option (Tree × List Int):=(joinL sort ch (l.length+1) l).map fun y=>(mkJoin y.1,y.2)
def choiceL:Nat→List Int→Option (List Tree × List Int)
 | 0,_=>none
 | f+1,l =>
  match joinP sort ch l with
  | none=>none
  | some (x,r)=>if r.headD (-1)=124 then (choiceL f r.tail).map fun y=>(x::y.1,y.2) else some ([x],r)
def choiceP (l:List Int):Option (Tree × List Int):=(choiceL sort ch (l.length+1) l).map fun y=>(mkChoice y.1,y.2)
end
def chP (sort:List (Int × Int)→List (Int × Int)):Nat→List Int→Option (Tree × List Int)
 | 0=>fun _=>none
 | f+1=>choiceP sort (chP sort f)
def parseC (sort:List (Int × Int)→List (Int × Int)) (l:List Int):Option Tree :=
 match chP sort (l.length+1) l with
 | some (n,[])=>some n
 | _=>none
/- writing -/
end Pat
