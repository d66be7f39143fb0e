/- Part of a proof about the functions of this seat. -/
import Derived.Test.YtfnddhbiolpmgaaGreatDoorG21Pw56
import Derived.Shelf.SlSortCmp.WholeK
import Derived.WalkKit
import Derived.KernelRfl
import Derived.Test.YtfnddhbiolpmgaaGreatDoorProg
import Derived.Test.YtfnddhbiolpmgaaGreatDoorG12Q56
import Derived.Test.YtfnddhbiolpmgaaGreatDoorG15NvV
import Derived.Test.YtfnddhbiolpmgaaGreatDoorG18Fv56
import Derived.Lib.TrimUEq
import Derived.Lib.IndexMore
set_option linter.unusedVariables false
set_option linter.unusedSimpArgs false
set_option maxRecDepth 100000
namespace Go.Proofs.YtfnddhbiolpmgaaGreatDoor
open Go Nv Pat
theorem peekL (l u r:List Int) (e:l=u++r) (hl:l.length≤1000000) (A B:Nv.ST):SCall Tryz.prog 28 [.ptr A.length 0] (A++boxP l u.length::B) (.d (.int .i32 (r.headD (-1)))) (A++boxP l u.length::B):=by
 subst e;exact peek29 u r hl A B
theorem letter91 (l r:List Int) (hl:l.length≤1000000) (h0:∀ c,c∈l→0≤c):PS 99 [] l r ((letP r).map fun x=>(.d (.int .i32 x.1),x.2)):=by
 refine PS.of fn99 noHint (Nat.le_refl _) fun A B u e=>?_
 simp (disch:=omega) only [go_sem]
 refine (next84 l r hl h0).at A B u e ?_ ?_
 ·intro v r' u' τ ho e'
  cases r with
  | nil=>cases ho
  | cons c t =>
   cases ho
   by_cases h1:c=92
   ·simp (disch:=omega) only [go_sem,h1]
    refine (next84 l _ hl h0).at A (B++τ) u' e' ?_ ?_
    ·intro v r2 u2 τ2 ho e2
     cases r' with
     | nil=>cases ho
     | cons d r' =>
      cases ho
      simp (disch:=omega) only [go_sem,letP,oneP,h1,Option.map_some]
      exact ⟨u2,τ++τ2,e2,by simp⟩
    ·intro ho σ'
     cases r' with
     | nil=>simp (disch:=omega) only [go_sem,letP,oneP,h1,Option.map_none];exact ⟨_,rfl⟩
     | cons d t=>cases ho
   by_cases h2:c=93
   ·simp (disch:=omega) only [go_sem,h1,h2,letP,Option.map_none,badV,true_or];exact ⟨_,rfl⟩
   by_cases h3:c=94
   ·simp (disch:=omega) only [go_sem,h1,h2,h3,letP,Option.map_none,badV,true_or,or_true];exact ⟨_,rfl⟩
   by_cases h4:c=45
   ·simp (disch:=omega) only [go_sem,h1,h2,h3,h4,letP,Option.map_none,badV,true_or,or_true];exact ⟨_,rfl⟩
   ·simp (disch:=omega) only [go_sem,h1,h2,h3,h4,letP,Option.map_some,or_self]
    exact ⟨u',τ,e',rfl⟩
 ·intro ho σ'
  cases r with
  | nil=>simp (disch:=omega) only [go_sem,letP,Option.map_none];exact ⟨_,rfl⟩
  | cons c t=>cases ho
/- ranges -/
theorem max_if (x y:Int):(if x<y then y else x)=max x y:=by omega
theorem min_if (x y:Int):(if y<x then y else x)=min x y:=by omega
def hintA:Nat→Hint:=fun i=>if i=3 then .freeze else .no
@[go_sem] theorem hintA_at (i:Nat):hintA i=if i=3 then .freeze else .no:=nrfl rfl
theorem all59:PCall Tryz.prog 95 [] (.d (setD allS)):=by
 refine fn95.pure hintA (Nat.le_refl _) (by simp only [go_sem]) (by simp only [go_sem]) ?_
 simp (disch:=omega) only [go_sem,setD,allS,List.map_cons,List.map_nil,rgD]
def hintC:Nat→Hint:=fun i=>if i=5 then .own ⟨2,98⟩ else if i=34 then .freeze else .no
@[go_sem] theorem hintC_at (i:Nat):hintC i=if i=5 then .own ⟨2,98⟩ else if i=34 then .freeze else .no:=nrfl rfl
theorem clip92 (a b:Int):PCall Tryz.prog 100 [.d (.int .i32 a),.d (.int .i32 b)] (.d (setD (clipS a b))):=by
 refine fn100.pure hintC (Nat.le_refl _) (by simp only [go_sem]) (by simp only [go_sem,setD]) ?_
 simp (disch:=omega) only [go_sem]
 refine all59.at ?_
 have z0:(0:Int)<((2:Nat):Int):=by decide
 have z1:(1:Int)<((2:Nat):Int):=by decide
 have z2:¬ (2:Int)<((2:Nat):Int):=by decide
 simp (disch:=omega) only [go_sem,setD,allS,List.map_cons,List.map_nil,rgD]
 refine wL_step ?_
 simp (disch:=omega) only [go_sem,max_if,min_if,z0]
 by_cases h1:max a 0≤min b 55295
 ·simp (disch:=omega) only [go_sem,h1]
  refine wL_step ?_
  simp (disch:=omega) only [go_sem,max_if,min_if,z1]
  by_cases h2:max a 57344≤min b 1114111
  ·have e:clipS a b=[(max a 0,min b 55295),(max a 57344,min b 1114111)]:=by simp only [clipS,clip1,h1,h2,if_true,List.cons_append,List.nil_append]
   simp (disch:=omega) only [go_sem,h2]
   refine wL_step ?_
   simp (disch:=omega) only [go_sem,z2,e,List.map_cons,List.map_nil,rgD]
  ·have e:clipS a b=[(max a 0,min b 55295)]:=by simp only [clipS,clip1,h1,h2,if_true,if_false,List.append_nil]
   simp (disch:=omega) only [go_sem,h2]
   refine wL_step ?_
   simp (disch:=omega) only [go_sem,z2,e,List.map_cons,List.map_nil,rgD]
 ·simp (disch:=omega) only [go_sem,h1]
  refine wL_step ?_
  simp (disch:=omega) only [go_sem,max_if,min_if,z1]
  by_cases h2:max a 57344≤min b 1114111
  ·have e:clipS a b=[(max a 57344,min b 1114111)]:=by simp only [clipS,clip1,h1,h2,if_true,if_false,List.nil_append]
   simp (disch:=omega) only [go_sem,h2]
   refine wL_step ?_
   simp (disch:=omega) only [go_sem,z2,e,List.map_cons,List.map_nil,rgD]
  ·have e:clipS a b=[]:=by simp only [clipS,clip1,h1,h2,if_false,List.append_nil]
   simp (disch:=omega) only [go_sem,h2]
   refine wL_step ?_
   simp (disch:=omega) only [go_sem,z2,e,List.map_cons,List.map_nil,rgD]
end Go.Proofs.YtfnddhbiolpmgaaGreatDoor
set_option linter.unusedVariables false
set_option linter.unusedSimpArgs false
set_option maxRecDepth 100000
namespace Go.Proofs.YtfnddhbiolpmgaaGreatDoor
open Go Nv Pat
theorem clip_len (a b:Int):(clipS a b).length≤2:=by
 unfold clipS clip1
 rw [List.length_append]
 split <;> split <;> simp
def hintK:Nat→Hint:=fun i=>if i=3 then .own ⟨2,98⟩ else .no
@[go_sem] theorem hintK_at (i:Nat):hintK i=if i=3 then .own ⟨2,98⟩ else .no:=nrfl rfl
def CharR (r:Int × Int):Prop:=(0≤r.1∧r.1≤1114111)∧0≤r.2∧r.2≤1114111
theorem comp94 (s:List (Int × Int)) (hs:∀ r,r∈s→CharR r) (hlen:s.length≤100000) (σ:Nv.ST) :
  RCall Tryz.prog 102 [.d (setD s)] σ fun v σ'=>∃ g n τ,n=(compS s).length∧v=.own σ.length g 0 n∧σ'=σ++.arr g ⟨2,98⟩ ((compS s).map rgD)::τ:=by
 refine fn102.rel hintK (Nat.le_refl _) ?_
 simp (disch:=omega) only [go_sem,setD]
 refine wL_ind (fun (k:Nat) fr σ'=>k≤s.length∧fr 7=.d (.list 2 (s.map rgD))∧fr 8=.d (.int .i64 s.length)∧fr 9=.d (.int .i64 k) ∧
  ∃ (out:List (Int × Int)) (low:Int) (g n:Nat) (rest:Nv.ST),n=out.length∧out.length≤2 * k∧out++compL low (s.drop k)=compS s∧(0≤low∧low≤1114112)∧fr 3=.own σ.length g 0 n∧fr 4=.d (.int .i32 low) ∧
   σ'=σ++.arr g ⟨2,98⟩ (out.map rgD)::rest) (fun k=>s.length - k) ?_ 0 ?_
 ·rintro k fr σ' ⟨hk,f7,f8,f9,out,low,g,n,rest,hn,hol,hc,hlow,f3,f4,rfl⟩ ih
  have hom:(out.map rgD).length=n:=by simp [hn]
  have hta:=take_all (out.map rgD) n hom
  by_cases hlt:k<s.length
  ·obtain ⟨r,hr⟩:∃ r,r=s.getD k default:=⟨_,rfl⟩
   have hd:s.drop k=r::s.drop (k+1):=by rw [hr];exact drop_getD s k hlt
   have hrm:r∈s:=by rw [hr];exact getD_mem s k hlt
   obtain ⟨⟨r0,r1⟩,r2,r3⟩:=hs r hrm
   have hw1:IntKind.i32.wrap (r.1 - 1)=r.1 - 1:=wrap_i32 (by omega) (by omega)
   have hw2:IntKind.i32.wrap (r.2+1)=r.2+1:=wrap_i32 (by omega) (by omega)
   have hcl:=clip_len low (r.1 - 1)
   have hb1:(n+(clipS low (r.1 - 1)).length) * 8≤140737488355328:=by omega
   rw [hd,compL] at hc
   simp (disch:=omega) only [go_sem,f3,f4,f7,f8,f9,hlt,rgD,← hr,hw1]
   refine (clip92 low (r.1 - 1)).at ?_
   simp (disch:=omega) only [go_sem,setD,hom,hta,List.length_map,hb1,hw2,Nat.zero_add,Nat.le_refl,f9,apR]
   refine ih (k+1) _ _ (by omega) ⟨by omega,?_,?_,?_,out++clipS low (r.1 - 1),r.2+1,g+1,n+(clipS low (r.1 - 1)).length,?rr,by rw [List.length_append,hn],by rw [List.length_append];omega,by rw [← hc];simp,by omega,?_,?_,?_⟩
   rotate_right 1
   ·rw [List.map_append]
   ·simp (disch:=omega) only [go_sem,f7]
   ·simp (disch:=omega) only [go_sem,f8]
   ·simp (disch:=omega) only [go_sem]
   ·simp (disch:=omega) only [go_sem]
   ·simp (disch:=omega) only [go_sem]
  ·have hd:s.drop k=[]:=List.drop_of_length_le (by omega)
   rw [hd,compL] at hc
   have hcl:=clip_len low 1114111
   have hb1:(n+(clipS low 1114111).length) * 8≤140737488355328:=by omega
   simp (disch:=omega) only [go_sem,f3,f4,f7,f8,f9,hlt]
   refine (clip92 low 1114111).at ?_
   simp (disch:=omega) only [go_sem,setD,hom,hta,List.length_map,hb1,Nat.zero_add,Nat.le_refl,apR]
   exact ⟨_,rfl,g+1,n+(clipS low 1114111).length,rest,by rw [← hc,List.length_append,hn],rfl,by rw [← hc,List.map_append]⟩
 ·refine ⟨by omega,?_,?_,?_,[],0,0,0,[],rfl,by simp,by simp [compS],by omega,?_,?_,?_⟩
  ·simp (disch:=omega) only [go_sem]
  ·simp (disch:=omega) only [go_sem]
  ·simp (disch:=omega) only [go_sem]
  ·simp (disch:=omega) only [go_sem]
  ·simp (disch:=omega) only [go_sem]
  ·rfl
end Go.Proofs.YtfnddhbiolpmgaaGreatDoor
set_option linter.unusedVariables false
set_option linter.unusedSimpArgs false
set_option maxRecDepth 100000
namespace Go.Proofs.YtfnddhbiolpmgaaGreatDoor
open Go Nv Pat
def SortC (sort:List (Int × Int)→List (Int × Int)):Prop:=∀ (s:List (Int × Int)) (b g:Nat) (σ:Nv.ST),b<σ.length→stGet σ b=.arr g ⟨2,98⟩ (s.map rgD)→0<s.length→s.length≤100000 →
 SCall Tryz.prog 103 [.own b g 0 s.length,.d (.func (.func 104))] σ (.tuple []) (stSet σ b (.arr g ⟨2,98⟩ ((sort s).map rgD)))
theorem take_fold (l:List (Int × Int)) (k:Nat) (h:k<l.length):(l.take (k+1)).foldl joinR []=joinR ((l.take k).foldl joinR []) (l.getD k default):=by
 rw [take_succ' l k h,List.foldl_append];rfl
theorem joinR_nil' (r:Int × Int):joinR [] r=[r]:=by simp [joinR]
theorem joinR_len (l:List (Int × Int)) (r:Int × Int):(joinR l r).length≤l.length+1:=by unfold joinR;split <;> simp
theorem joinR_char {l:List (Int × Int)} {r:Int × Int} (hl:∀ q,q∈l→CharR q) (hr:CharR r):∀ q,q∈joinR l r→CharR q:=by
 intro q hq
 unfold joinR at hq
 split at hq
 ·rename_i h
  have hd:=hl _ (getD_mem l (l.length - 1) (by omega))
  rcases List.mem_or_eq_of_mem_set hq with hq | rfl
  ·exact hl q hq
  ·obtain ⟨h1,h2⟩:=hd
   obtain ⟨h3,h4⟩:=hr
   exact ⟨h1,by simp only;omega⟩
 ·rcases List.mem_append.1 hq with hq | hq
  ·exact hl q hq
  ·rw [List.mem_singleton] at hq;rw [hq];exact hr
theorem norm93 (sort:List (Int × Int)→List (Int × Int)) (hS:SortC sort) (s:List (Int × Int)) (hs:∀ r,r∈sort s→CharR r) (hsl:(sort s).length=s.length) (hlen:s.length≤100000) (h0:0<s.length) (b g n:Nat) (hn:n=s.length) (σ:Nv.ST) (hb:b<σ.length)
  (hst:stGet σ b=.arr g ⟨2,98⟩ (s.map rgD)) :
  RCall Tryz.prog 101 [.own b g 0 n] σ fun v σ'=>∃ g' m τ,m=(normS sort s).length∧v=.own σ.length g' 0 m∧σ'=stSet σ b (.arr g ⟨2,98⟩ ((sort s).map rgD))++.arr g' ⟨2,98⟩ ((normS sort s).map rgD)::τ:=by
 refine fn101.rel hintK (Nat.le_refl _) ?_
 have hcall:=hS s b g σ hb hst h0 hlen
 rw [← hn] at hcall
 simp (disch:=omega) only [go_sem]
 refine hcall.at ?_
 obtain ⟨σ1,hσ1⟩:∃ σ1,σ1=stSet σ b (.arr g ⟨2,98⟩ ((sort s).map rgD)):=⟨_,rfl⟩
 have hl1:List.length σ1=List.length σ:=by rw [hσ1];simp [stSet]
 have hg1:stGet σ1 b=.arr g ⟨2,98⟩ ((sort s).map rgD):=by rw [hσ1];simp [stGet,stSet,List.getD_eq_getElem?_getD,hb]
 have hb1:b<List.length σ1:=by omega
 rw [← hσ1]
 clear hσ1
 rw [← hl1]
 obtain ⟨l,hl⟩:∃ l,l=sort s:=⟨_,rfl⟩
 have hfin:normS sort s=l.foldl joinR []:=by rw [normS,hl]
 rw [hfin]
 rw [← hl] at hs hsl hg1
 have hgl:∀ X:Nv.ST,stGet (σ1++X) b=.arr g ⟨2,98⟩ (l.map rgD):=fun X=>by rw [stGet_left _ _ _ hb1,hg1]
 simp (disch:=omega) only [go_sem,hgl]
 refine wL_ind (fun (k:Nat) fr σ'=>k≤l.length∧fr 9=.own b g 0 n∧fr 10=.d (.int .i64 n)∧fr 11=.d (.int .i64 k) ∧
  ∃ (out:List (Int × Int)) (g' m:Nat) (rest:Nv.ST),m=out.length∧out.length≤k∧out=(l.take k).foldl joinR []∧(∀ q,q∈out→CharR q)∧fr 3=.own (List.length σ1) g' 0 m ∧
   σ'=σ1++.arr g' ⟨2,98⟩ (out.map rgD)::rest) (fun k=>l.length - k) ?_ 0 ?_
 ·rintro k fr σ' ⟨hk,f9,f10,f11,out,g',m,rest,hm,hol,ho,hoc,f3,rfl⟩ ih
  have hom:(out.map rgD).length=m:=by simp [hm]
  have hta:=take_all (out.map rgD) m hom
  by_cases hlt:k<l.length
  ·obtain ⟨r,hr⟩:∃ r,r=l.getD k default:=⟨_,rfl⟩
   have hrm:r∈l:=by rw [hr];exact getD_mem l k hlt
   have hrc:=hs r hrm
   have hgk:(l.map rgD).getD k default=rgD r:=by rw [hr];simp [List.getD_eq_getElem?_getD,hlt]
   have hlt2:k<n:=by omega
   have hlk:k<(l.map rgD).length:=by simpa using hlt
   have hnext:(l.take (k+1)).foldl joinR []=joinR out r:=by rw [take_fold l k hlt,← ho,← hr]
   simp (disch:=omega) only [go_sem,f3,f9,f10,f11,hlt,hlt2,hgl,hgk,hlk,rgD,Nat.zero_add,apR]
   by_cases hm0:m=0
   ·have hle0:m≤0:=by omega
    have ho0:out=[]:=List.eq_nil_of_length_eq_zero (by omega)
    have hz:¬ (0:Int)<(m:Int):=by omega
    have hnx:joinR out r=[r]:=by rw [ho0,joinR_nil']
    have hb1':(m+1) * 8≤140737488355328:=by omega
    rw [ho0] at hom hta ⊢
    simp (disch:=omega) only [go_sem,hz,f3,f11,hom,hta,hb1',hle0,hm0,List.length_nil,List.length_cons,List.nil_append,rgD,Nat.zero_add,Nat.le_refl,apR]
    refine ih (k+1) _ _ (by omega) ⟨by omega,?_,?_,?_,[r],g'+1,1,?r1,by simp,by simp,by rw [hnext,hnx],by simpa using hrc,?_,?_⟩
    rotate_right 1
    ·rfl
    ·simp (disch:=omega) only [go_sem,f9]
    ·simp (disch:=omega) only [go_sem,f10]
    ·simp (disch:=omega) only [go_sem]
    ·simp (disch:=omega) only [go_sem]
   ·have hz:(0:Int)<(m:Int):=by omega
    have hmi:IntKind.i64.wrap ((m:Int) - 1)=((m - 1:Nat):Int):=by rw [wrap_id (by omega) (by omega)];omega
    obtain ⟨q,hq⟩:∃ q,q=out.getD (m - 1) default:=⟨_,rfl⟩
    have hqc:=hoc q (by rw [hq];exact getD_mem out (m - 1) (by omega))
    have hqk:(out.map rgD).getD (m - 1) default=rgD q:=by rw [hq];simp [List.getD_eq_getElem?_getD,show m - 1<out.length by omega]
    have hql:m - 1<(out.map rgD).length:=by omega
    have hqm:m - 1<m:=by omega
    obtain ⟨⟨q0,q1⟩,q2,q3⟩:=hqc
    have hw:IntKind.i32.wrap (q.2+1)=q.2+1:=wrap_i32 (by omega) (by omega)
    simp (disch:=omega) only [go_sem,hz,f3,hmi,hqk,hql,hqm,hom,hw,rgD,Nat.zero_add,apR]
    by_cases hle:r.1≤q.2+1
    ·have hnx:joinR out r=out.set (m - 1) (q.1,max q.2 r.2):=by
      unfold joinR
      rw [← hm,← hq,if_pos ⟨by omega,hle⟩]
     simp (disch:=omega) only [go_sem,hle,f3,f11,hmi,hqk,hql,hqm,hom,max_if,rgD,Nat.zero_add,apR]
     refine ih (k+1) _ _ (by omega) ⟨by omega,?_,?_,?_,joinR out r,g',m,?r2,by rw [hnx,List.length_set,hm],by rw [hnx,List.length_set];omega,by rw [hnext],joinR_char hoc hrc,?_,?_⟩
     rotate_right 1
     ·rw [hnx,List.map_set];rfl
     ·simp (disch:=omega) only [go_sem,f9]
     ·simp (disch:=omega) only [go_sem,f10]
     ·simp (disch:=omega) only [go_sem]
     ·simp (disch:=omega) only [go_sem,f3]
    ·have hnx:joinR out r=out++[r]:=by
      unfold joinR
      rw [← hm,← hq,if_neg (by omega)]
     have hb1':(m+1) * 8≤140737488355328:=by omega
     simp (disch:=omega) only [go_sem,hle,f3,f11,hom,hta,hb1',rgD,Nat.zero_add,Nat.le_refl,apR]
     refine ih (k+1) _ _ (by omega) ⟨by omega,?_,?_,?_,joinR out r,g'+1,m+1,?r3,by rw [hnx,List.length_append,hm];rfl,by rw [hnx,List.length_append];simp;omega,by rw [hnext],joinR_char hoc hrc,?_,?_⟩
     rotate_right 1
     ·rw [hnx,List.map_append];rfl
     ·simp (disch:=omega) only [go_sem,f9]
     ·simp (disch:=omega) only [go_sem,f10]
     ·simp (disch:=omega) only [go_sem]
     ·simp (disch:=omega) only [go_sem]
  ·have ek:l.take k=l:=List.take_of_length_le (by omega)
   have hlt2:¬ k<n:=by omega
   rw [ek] at ho
   rw [← ho]
   simp (disch:=omega) only [go_sem,f3,f9,f10,f11,hlt2,apR]
   exact ⟨_,rfl,g',m,rest,hm,rfl,rfl⟩
 ·refine ⟨by omega,?_,?_,?_,[],0,0,[],rfl,by simp,by simp,by simp,?_,?_⟩
  ·simp (disch:=omega) only [go_sem]
  ·simp (disch:=omega) only [go_sem]
  ·simp (disch:=omega) only [go_sem]
  ·simp (disch:=omega) only [go_sem]
  ·rfl
end Go.Proofs.YtfnddhbiolpmgaaGreatDoor
set_option linter.unusedVariables false
set_option linter.unusedSimpArgs false
set_option maxRecDepth 100000
namespace Go.Proofs.YtfnddhbiolpmgaaGreatDoor
open Go Nv Pat
theorem numL_nil (n:Int):numL [] n=(n,[]):=rfl
theorem numL_stop {c:Int} (h:digit c=false) (t:List Int) (n:Int):numL (c::t) n=(n,c::t):=by simp [numL,h]
theorem numL_go {c:Int} (h:digit c=true) (t:List Int) (n:Int):numL (c::t) n=numL t (min (10 * n+(c - 48)) 1000):=by simp [numL,h]
theorem number77 (l r:List Int) (hl:l.length≤1000000) (h0:∀ c,c∈l→0≤c):PS 83 [] l r ((numP r).map fun x=>(.d (.int .i64 x.1),x.2)):=by
 refine PS.of fn83 noHint (Nat.le_refl _) fun A B u e=>?_
 have hul:u.length+r.length=l.length:=by rw [e,List.length_append]
 simp (disch:=omega) only [go_sem,boxP,apR]
 refine wL_ind (fun (r':List Int) fr σ=>fr 0=.ptr (List.length A) 0∧fr 3=.d (.int .i64 u.length)∧∃ (n:Int) (u':List Int) (τ:Nv.ST),(0≤n∧n≤1000)∧l=u'++r'∧numL r 0=numL r' n∧r'.length≤r.length∧fr 4=.d (.int .i64 n) ∧
  σ=A++boxP l u'.length::(B++τ)) (fun r'=>r'.length) ?_ r ?_
 ·rintro r' fr σ ⟨f0,f3,n,u',τ,hn,e',hN,hrl,f4,rfl⟩ ih
  have hul':u'.length+r'.length=l.length:=by rw [e',List.length_append]
  have out:(r'=[]∨∃ c t,r'=c::t∧digit c=false)→numL r 0=(n,r'):=by
   rintro (h | ⟨c,t,h,hd⟩)
   ·rw [hN,h,numL_nil]
   ·rw [hN,h,numL_stop hd]
  simp (disch:=omega) only [go_sem,f0]
  refine (peekL l u' r' e' hl A (B++τ)).at ?_
  by_cases hdd:48≤r'.headD (-1)∧r'.headD (-1)≤57
  ·obtain ⟨hd,hd2⟩:=hdd
   simp (disch:=omega) only [go_sem,hd,f0]
   refine (peekL l u' r' e' hl A (B++τ)).at ?_
   simp (disch:=omega) only [go_sem,hd2,f0,f4]
   cases r' with
   | nil=>simp at hd
   | cons c t =>
    simp only [List.headD_cons] at hd hd2
    have hdg:digit c=true:=by simp [digit,hd,hd2]
    have hw1:IntKind.i64.wrap (10 * n)=10 * n:=wrap_id (by omega) (by omega)
    have hw2:IntKind.i32.wrap (c - 48)=c - 48:=wrap_i32 (by omega) (by omega)
    have hw3:IntKind.i64.wrap (c - 48)=c - 48:=wrap_id (by omega) (by omega)
    have hw4:IntKind.i64.wrap (10 * n+(c - 48))=10 * n+(c - 48):=wrap_id (by omega) (by omega)
    refine (next84 l (c::t) hl h0).at A (B++τ) u' e' ?_ ?_
    ·intro v r2 u2 τ2 ho e2
     cases ho
     simp (disch:=omega) only [go_sem,hw1,hw2,hw3,hw4,min_if]
     refine ih t _ _ (by simp) ⟨?_,?_,min (10 * n+(c - 48)) 1000,u2,τ++τ2,by omega,e2,by rw [hN,numL_go hdg],by simp at hrl;omega,?_,by simp⟩
     ·simp (disch:=omega) only [go_sem,f0]
     ·simp (disch:=omega) only [go_sem,f3]
     ·simp (disch:=omega) only [go_sem]
    ·intro ho;cases ho
  ·have hN':=out (by
    cases r' with
    | nil=>exact .inl rfl
    | cons c t=>simp only [List.headD_cons] at hdd;exact .inr ⟨c,t,rfl,by simp [digit];omega⟩)
   clear ih
   have hnum:numP r=if r'.length=r.length∨(r.headD 0=48∧r'.length+1<r.length)∨20<n then none else some (n,r'):=by rw [numP,hN']
   rw [hnum]
   by_cases hd:48≤r'.headD (-1)
   case' pos =>
    have hd2:¬ r'.headD (-1)≤57:=fun h=>hdd ⟨hd,h⟩
    simp (disch:=omega) only [go_sem,hd,f0]
    refine (peekL l u' r' e' hl A (B++τ)).at ?_
    simp (disch:=omega) only [go_sem,hd2,f0,f3,f4,boxP,apR]
   case' neg=>simp (disch:=omega) only [go_sem,hd,f0,f3,f4,boxP,apR]
   all_goals
    by_cases q1:r'.length=r.length
    ·have q1':u'.length=u.length:=by omega
     simp (disch:=omega) only [go_sem,q1,q1',badV,true_or,Option.map_none];exact ⟨_,rfl⟩
    ·have q1':¬ u'.length=u.length:=by omega
     obtain ⟨c,t,rfl⟩:∃ c t,r=c::t:=by
      cases r with
      | nil=>simp at hrl;simp [hrl] at q1
      | cons c t=>exact ⟨c,t,rfl⟩
     have hg:(runesD l).getD u.length default=.int .i32 c:=by rw [e];exact runes_at u t c
     have hlt:u.length<l.length:=by rw [e];simp
     simp only [List.length_cons] at hul q1 hrl
     have hw5:IntKind.i64.wrap ((u.length:Int)+1)=(u.length:Int)+1:=wrap_id (by omega) (by omega)
     simp (disch:=omega) only [go_sem,q1,q1',f0,f3,hg,hlt,runesD_length,hw5,boxP,apR]
     by_cases q2:c=48
     ·by_cases q3:u.length+1<u'.length
      ·have q3':r'.length+1<t.length+1:=by omega
       simp (disch:=omega) only [go_sem,q2,q3,q3',f0,f3,hw5,List.headD_cons,badV,true_or,or_true,true_and,Option.map_none,List.length_cons,boxP,apR];exact ⟨_,rfl⟩
      ·have q3':¬ r'.length+1<t.length+1:=by omega
       by_cases q4:20<n
       ·simp (disch:=omega) only [go_sem,q2,q3,q3',q4,f0,f3,f4,hw5,List.headD_cons,badV,true_or,or_true,true_and,Option.map_none,List.length_cons,boxP,apR];exact ⟨_,rfl⟩
       ·simp (disch:=omega) only [go_sem,q1,q2,q3,q3',q4,f0,f3,f4,hw5,List.headD_cons,false_or,and_false,or_self,Option.map_some,List.length_cons,boxP,apR]
        exact ⟨u',τ,e',by simp [boxP]⟩
     ·by_cases q4:20<n
      ·simp (disch:=omega) only [go_sem,q2,q4,f4,List.headD_cons,badV,true_or,or_true,true_and,Option.map_none,List.length_cons];exact ⟨_,rfl⟩
      ·simp (disch:=omega) only [go_sem,q1,q2,q4,f4,List.headD_cons,false_or,false_and,or_self,Option.map_some,List.length_cons]
       exact ⟨u',τ,e',rfl⟩
 ·refine ⟨?_,?_,0,u,[],by omega,e,rfl,by omega,?_,?_⟩
  ·simp (disch:=omega) only [go_sem]
  ·simp (disch:=omega) only [go_sem]
  ·simp (disch:=omega) only [go_sem]
  ·simp [boxP]
end Go.Proofs.YtfnddhbiolpmgaaGreatDoor
set_option linter.unusedVariables false
set_option linter.unusedSimpArgs false
set_option maxRecDepth 100000
namespace Go.Proofs.YtfnddhbiolpmgaaGreatDoor
open Go Nv Pat
theorem let_lt {l r:List Int} {c:Int} (h:letP l=some (c,r)):r.length<l.length:=by
 cases l with
 | nil=>cases h
 | cons d t =>
  rw [letP] at h
  split at h
  ·cases t with
   | nil=>cases h
   | cons d t=>simp only [oneP,Option.some.injEq,Prod.mk.injEq] at h;rw [← h.2];simp;omega
  ·split at h
   ·cases h
   ·simp only [Option.some.injEq,Prod.mk.injEq] at h;rw [← h.2];simp
theorem clip_char (a b:Int):∀ q,q∈clipS a b→CharR q:=by
 intro q hq
 unfold clipS clip1 at hq
 rcases List.mem_append.1 hq with hq | hq
 ·split at hq
  ·rw [List.mem_singleton] at hq;subst hq;simp only at *;exact ⟨by simp only;omega,by simp only;omega⟩
  ·cases hq
 ·split at hq
  ·rw [List.mem_singleton] at hq;subst hq;simp only at *;exact ⟨by simp only;omega,by simp only;omega⟩
  ·cases hq
theorem fold_char:∀ (l acc:List (Int × Int)),(∀ q,q∈acc→CharR q)→(∀ q,q∈l→CharR q)→∀ q,q∈l.foldl joinR acc→CharR q
 | [],acc,h,_=>h
 | r::l,acc,h,hl=>fold_char l (joinR acc r) (joinR_char h (hl r (by simp))) (fun q hq=>hl q (by simp [hq]))
theorem fold_len:∀ (l acc:List (Int × Int)),(l.foldl joinR acc).length≤acc.length+l.length
 | [],acc=>by simp
 | r::l,acc=>by
  have h1:=fold_len l (joinR acc r)
  have h2:=joinR_len acc r
  rw [List.foldl_cons,List.length_cons];omega
structure Sorts (sort:List (Int × Int)→List (Int × Int)):Prop where
 call:SortC sort
 len:∀ s,(sort s).length=s.length
 mem:∀ s r,r∈sort s↔r∈s
def hintL:Nat→Hint:=fun i=>if i=4 then .own ⟨2,98⟩ else if i=37 then .freeze else if i=39 then .freeze else .no
@[go_sem] theorem hintL_at (i:Nat):hintL i=if i=4 then .own ⟨2,98⟩ else if i=37 then .freeze else if i=39 then .freeze else .no:=nrfl rfl
theorem class85 (sort:List (Int × Int)→List (Int × Int)) (hS:Sorts sort) (l r:List Int) (hl:l.length≤10000) (h0:∀ c,c∈l→0≤c) :
  PS 96 [] l r ((classP sort r).map fun x=>(.d (setD x.1),x.2)):=by
 refine PS.of fn96 hintL (Nat.le_refl _) fun A B u e=>?_
 have hl':l.length≤1000000:=by omega
 simp (disch:=omega) only [go_sem]
 refine (skip45 l r hl' 94 (by omega)).at A B u e ?_ (fun h=>by cases h)
 intro v r1 u1 τ1 ho e1
 simp only [Option.some.injEq,Prod.mk.injEq] at ho
 obtain ⟨rfl,hr1⟩:=ho
 obtain ⟨neg,hneg⟩:∃ neg,neg=decide (r.headD (-1)=94):=⟨_,rfl⟩
 have hr1l:r1.length≤r.length:=by
  rw [← hr1];split <;> simp
 obtain ⟨tot,htot⟩:∃ tot,tot=clsP (r.length+1) [] r1:=⟨_,rfl⟩
 have hcl:classP sort r=tot.map fun x=>(if neg then compS (normS sort x.1) else normS sort x.1,x.2):=by
  rw [classP,htot,hneg,← hr1]
  by_cases h:r.headD (-1)=94
  ·simp only [h,if_true,decide_true]
  ·simp only [h,if_false,decide_false,Bool.false_eq_true]
 rw [hcl,← hneg]
 have hul1:u1.length+r1.length=l.length:=by rw [e1,List.length_append]
 clear hcl hr1 hneg
 obtain ⟨B',hB'⟩:∃ B',B'=B++τ1:=⟨_,rfl⟩
 rw [← hB']
 simp (disch:=omega) only [go_sem,apR]
 refine wL_ind (fun (r':List Int) fr σ=>fr 0=.ptr (List.length A) 0∧fr 3=.d (.bool neg)∧∃ (acc:List (Int × Int)) (f g n:Nat) (u':List Int) (rest:Nv.ST),n=acc.length∧acc.length+2 * r'.length≤2 * r1.length∧(∀ q,q∈acc→CharR q)∧l=u'++r' ∧
  r'.length<f∧clsP f acc r'=tot∧fr 4=.own (List.length A+(List.length B'+1)) g 0 n∧σ=A++boxP l u'.length::(B'++.arr g ⟨2,98⟩ (acc.map rgD)::rest)) (fun r'=>r'.length) ?_ r1 ?_
 ·rintro r' fr σ ⟨f0,f3,acc,f,g,n,u',rest,hn,hal,hac,e',hf,hc,f4,rfl⟩ ih
  have hom:(acc.map rgD).length=n:=by simp [hn]
  have hta:=take_all (acc.map rgD) n hom
  obtain ⟨f,rfl⟩:∃ f',f=f'+1:=⟨f - 1,by omega⟩
  rw [clsP] at hc
  by_cases hstop:acc≠[]∧r'.headD (-1)=93
  ·rw [if_pos hstop] at hc
   have hn0:0<acc.length:=by
    cases acc with
    | nil=>exact absurd rfl hstop.1
    | cons=>simp
   have hnz:¬ (n:Int)=0:=by omega
   simp (disch:=omega) only [go_sem,f4,f0,hnz,boxP,apR]
   refine (skip45 l r' hl' 93 (by omega)).at A (B'++.arr g ⟨2,98⟩ (acc.map rgD)::rest) u' e' ?_ (fun h=>by cases h)
   intro v r2 u2 τ2 ho e2
   simp only [Option.some.injEq,Prod.mk.injEq] at ho
   obtain ⟨rfl,hr2⟩:=ho
   rw [if_pos hstop.2] at hr2
   simp (disch:=omega) only [go_sem,hstop.2,decide_true,f4,apR]
   have hsl:=hS.len acc
   have hnm:=norm93 sort hS.call acc (fun q hq=>hac q ((hS.mem acc q).1 hq)) hsl (by omega) hn0 (List.length A+(List.length B'+1)) g n hn
    (A++boxP l u2.length::(B'++.arr g ⟨2,98⟩ (acc.map rgD)::(rest++τ2))) (by simp) (by simp (disch:=omega) only [go_sem,apR])
   refine hnm.at ?_
   rintro v σ' ⟨g',m,τ',hm,rfl,rfl⟩
   have hnl:(normS sort acc).length≤100000:=by
    have:=fold_len (sort acc) []
    rw [normS];simp at this;omega
   have hnc:∀ q,q∈normS sort acc→CharR q:=fold_char _ _ (by simp) (fun q hq=>hac q ((hS.mem acc q).1 hq))
   have hom2:((normS sort acc).map rgD).length=m:=by simp [hm]
   have hta2:=take_all ((normS sort acc).map rgD) m hom2
   rw [← hc,Option.map_some]
   have hu2:l=u2++r'.tail:=by rw [e2,hr2]
   cases neg
   ·simp (disch:=omega) only [go_sem,f3,hom2,hta2,Nat.zero_add,Nat.le_refl,Bool.false_eq_true,apR]
    refine ⟨rfl,u2,?q1,hu2,?_⟩
    rotate_left 1
    ·rw [hB'];simp only [List.append_assoc];rfl
   ·have hcm:∀ g2:Nat,(compS (normS sort acc)).length=(compS (normS sort acc)).length:=fun _=>rfl
    simp (disch:=omega) only [go_sem,f3,hom2,hta2,Nat.zero_add,Nat.le_refl,apR]
    refine (comp94 (normS sort acc) hnc hnl _).at ?_
    rintro v σ' ⟨g2,m2,τ3,hm2,rfl,rfl⟩
    have hom3:((compS (normS sort acc)).map rgD).length=m2:=by simp [hm2]
    have hta3:=take_all ((compS (normS sort acc)).map rgD) m2 hom3
    simp (disch:=omega) only [go_sem,hom3,hta3,Nat.zero_add,Nat.le_refl,apR]
    refine ⟨rfl,u2,?q2,hu2,?_⟩
    rotate_left 1
    ·rw [hB'];simp only [List.append_assoc];rfl
  ·rw [if_neg hstop] at hc
   by_cases hacc:acc=[]
   case' pos =>
    have hnz:(n:Int)=0:=by rw [hn,hacc];rfl
    simp (disch:=omega) only [go_sem,f4,f0,hnz,boxP,apR]
    generalize hrr:rest=rest2
   case' neg =>
    have hnz:¬ (n:Int)=0:=by
     intro h;exact hacc (List.eq_nil_of_length_eq_zero (by omega))
    have hne:¬ r'.headD (-1)=93:=fun h=>hstop ⟨hacc,h⟩
    simp (disch:=omega) only [go_sem,f4,f0,hnz,boxP,apR]
    refine (skip45 l r' hl' 93 (by omega)).at A (B'++.arr g ⟨2,98⟩ (acc.map rgD)::rest) u' e' ?_ (fun h=>by cases h)
    intro v r2 u2 τ2 ho e2
    simp only [Option.some.injEq,Prod.mk.injEq,if_neg hne] at ho
    obtain ⟨rfl,rfl⟩:=ho
    obtain rfl:u'=u2:=List.append_cancel_right (e'.symm.trans e2)
    simp (disch:=omega) only [go_sem,hne,decide_false,f0,apR]
    generalize hrr:rest++τ2=rest2
   all_goals
    clear hrr
    refine (letter91 l r' hl' h0).at A (B'++.arr g ⟨2,98⟩ (acc.map rgD)::rest2) u' e' ?_ (fun hno σ'=>?_)
    ·intro v r3 u3 τ3 ho e3
     cases hL:letP r' with
     | none=>rw [hL] at ho;cases ho
     | some x =>
      obtain ⟨lo,r3'⟩:=x
      rw [hL] at ho
      simp only [Option.map_some,Option.some.injEq,Prod.mk.injEq] at ho
      obtain ⟨rfl,rfl⟩:=ho
      have hlt:=let_lt hL
      simp (disch:=omega) only [go_sem,f0,apR]
      refine (skip45 l r3' hl' 45 (by omega)).at A (B'++.arr g ⟨2,98⟩ (acc.map rgD)::(rest2++τ3)) u3 e3 ?_ (fun h=>by cases h)
      intro v r4 u4 τ4 ho e4
      simp only [Option.some.injEq,Prod.mk.injEq] at ho
      obtain ⟨rfl,hr4⟩:=ho
      by_cases h45:r3'.headD (-1)=45
      case pos =>
       rw [if_pos h45] at hr4
       simp (disch:=omega) only [go_sem,h45,decide_true,f0,apR]
       refine (letter91 l r4 hl' h0).at A (B'++.arr g ⟨2,98⟩ (acc.map rgD)::(rest2++(τ3++τ4))) u4 e4 ?_ (fun hno σ'=>by
        have hi:itemP r'=none:=by
         rw [itemP,hL];simp only [h45,if_true,hr4]
         cases hL2:letP r4 with
         | none=>rfl
         | some x=>rw [hL2] at hno;cases hno
        rw [hi] at hc
        rw [← hc,Option.map_none]
        simp (disch:=omega) only [go_sem];exact ⟨_,rfl⟩)
       intro v r6 u6 τ6 ho e6
       obtain ⟨y,hL2⟩:∃ y,letP r4=some y:=by
        cases hL2:letP r4 with
        | none=>rw [hL2] at ho;cases ho
        | some y=>exact ⟨y,rfl⟩
       obtain ⟨hi,r6'⟩:=y
       rw [hL2] at ho
       simp only [Option.map_some,Option.some.injEq,Prod.mk.injEq] at ho
       obtain ⟨rfl,rfl⟩:=ho
       have hitem:itemP r'=some ((lo,hi),r6'):=by rw [itemP,hL];simp only [h45,if_true,hr4,hL2,Option.map_some]
       have hlt6:r6'.length<r'.length:=by
        have h1:=let_lt hL2
        have h2:r4.length≤r3'.length:=by rw [← hr4];simp
        omega
       simp (disch:=omega) only [go_sem,apR]
       generalize hrr:rest2++(τ3++(τ4++τ6))=rest3
       rw [hitem] at hc
       simp only at hc
       by_cases hq:hi<lo
       ·rw [if_pos hq] at hc
        rw [← hc,Option.map_none]
        simp (disch:=omega) only [go_sem,hq,badV];exact ⟨_,rfl⟩
       ·rw [if_neg hq] at hc
        have hcl:=clip_len lo hi
        have hb1':(n+(clipS lo hi).length) * 8≤140737488355328:=by omega
        simp (disch:=omega) only [go_sem,hq]
        refine (clip92 lo hi).at ?_
        simp (disch:=omega) only [go_sem,f4,setD,hom,hta,List.length_map,hb1',Nat.zero_add,Nat.le_refl,boxP,apR]
        refine ih r6' _ _ hlt6 ⟨?_,?_,acc++clipS lo hi,f,g+1,n+(clipS lo hi).length,u6,rest3,by rw [List.length_append,hn],by rw [List.length_append];omega,?_,e6,by omega,hc,?_,?_⟩
        rotate_right 1
        ·rw [List.map_append];rfl
        ·simp (disch:=omega) only [go_sem,f0]
        ·simp (disch:=omega) only [go_sem,f3]
        ·intro q hq'
         rcases List.mem_append.1 hq' with hq' | hq'
         ·exact hac q hq'
         ·exact clip_char lo hi q hq'
        ·simp (disch:=omega) only [go_sem]
      case neg =>
       rw [if_neg h45] at hr4
       subst hr4
       have hitem:itemP r'=some ((lo,lo),r3'):=by rw [itemP,hL];simp only [h45,if_false]
       have hlt6:r3'.length<r'.length:=hlt
       simp (disch:=omega) only [go_sem,h45,decide_false,apR]
       generalize hrr:rest2++(τ3++τ4)=rest3
       rw [hitem] at hc
       simp only at hc
       by_cases hq:lo<lo
       ·rw [if_pos hq] at hc
        rw [← hc,Option.map_none]
        simp (disch:=omega) only [go_sem,hq,badV];exact ⟨_,rfl⟩
       ·rw [if_neg hq] at hc
        have hcl:=clip_len lo lo
        have hb1':(n+(clipS lo lo).length) * 8≤140737488355328:=by omega
        simp (disch:=omega) only [go_sem,hq]
        refine (clip92 lo lo).at ?_
        simp (disch:=omega) only [go_sem,f4,setD,hom,hta,List.length_map,hb1',Nat.zero_add,Nat.le_refl,boxP,apR]
        refine ih r3' _ _ hlt6 ⟨?_,?_,acc++clipS lo lo,f,g+1,n+(clipS lo lo).length,u4,rest3,by rw [List.length_append,hn],by rw [List.length_append];omega,?_,e4,by omega,hc,?_,?_⟩
        rotate_right 1
        ·rw [List.map_append];rfl
        ·simp (disch:=omega) only [go_sem,f0]
        ·simp (disch:=omega) only [go_sem,f3]
        ·intro q hq'
         rcases List.mem_append.1 hq' with hq' | hq'
         ·exact hac q hq'
         ·exact clip_char lo lo q hq'
        ·simp (disch:=omega) only [go_sem]
    ·cases hL:letP r' with
     | none =>
      rw [itemP,hL] at hc
      rw [← hc,Option.map_none]
      simp (disch:=omega) only [go_sem];exact ⟨_,rfl⟩
     | some x=>rw [hL] at hno;cases hno
 ·refine ⟨?_,?_,[],r.length+1,0,0,u1,[],rfl,by simp,by simp,e1,by omega,htot.symm,?_,?_⟩
  ·simp (disch:=omega) only [go_sem]
  ·simp (disch:=omega) only [go_sem]
  ·simp (disch:=omega) only [go_sem]
  ·simp
end Go.Proofs.YtfnddhbiolpmgaaGreatDoor
set_option linter.unusedVariables false
set_option maxRecDepth 100000
namespace Go.Proofs.YtfnddhbiolpmgaaGreatDoor
open Go.Shelf
def Tryz.sortR_ren:Go.Shelf.Ren:=⟨fun | 6=>103 | 15=>50 | 14=>106 | 28=>72 | 29=>73 | 20=>108 | 21=>109 | 22=>110 | 23=>111 | 24=>112 | 25=>113 | 26=>114 | 27=>115 | 46=>116 | 47=>87 | 48=>88 | 49=>117 | 50=>118 | 57=>119 | n=>n,fun | 22=>36 | 24=>98 | 25=>165 | 3=>3 | 39=>56 | 0=>0 | 53=>64 | 55=>139 | 4=>4 | 46=>130 | 45=>129 | 50=>135 | 5=>5 | 9=>9 | 66=>148 | 70=>152 | 76=>159 | 77=>82 | n=>n,fun | n=>n⟩
theorem Tryz.sortR:Go.Proofs.SlLaysF0.n6 Tryz.prog Tryz.sortR_ren where
 mixed:=by kernel_rfl
 f6:=⟨Tryz.f103.name,by kernel_rfl,Tryz.func103.trans (congrArg some (by kernel_rfl))⟩
 f14:=⟨Tryz.f106.name,by kernel_rfl,Tryz.func106.trans (congrArg some (by kernel_rfl))⟩
 f15:=Tryz.func50.trans (congrArg some (by kernel_rfl))
 f20:=⟨Tryz.f108.name,by kernel_rfl,Tryz.func108.trans (congrArg some (by kernel_rfl))⟩
 f21:=⟨Tryz.f109.name,by kernel_rfl,Tryz.func109.trans (congrArg some (by kernel_rfl))⟩
 f22:=⟨Tryz.f110.name,by kernel_rfl,Tryz.func110.trans (congrArg some (by kernel_rfl))⟩
 f23:=⟨Tryz.f111.name,by kernel_rfl,Tryz.func111.trans (congrArg some (by kernel_rfl))⟩
 f24:=⟨Tryz.f112.name,by kernel_rfl,Tryz.func112.trans (congrArg some (by kernel_rfl))⟩
 f25:=⟨Tryz.f113.name,by kernel_rfl,Tryz.func113.trans (congrArg some (by kernel_rfl))⟩
 f26:=⟨Tryz.f114.name,by kernel_rfl,Tryz.func114.trans (congrArg some (by kernel_rfl))⟩
 f27:=⟨Tryz.f115.name,by kernel_rfl,Tryz.func115.trans (congrArg some (by kernel_rfl))⟩
 f28:=Tryz.func72.trans (congrArg some (by kernel_rfl))
 f29:=Tryz.func73.trans (congrArg some (by kernel_rfl))
 f46:=⟨Tryz.f116.name,by kernel_rfl,Tryz.func116.trans (congrArg some (by kernel_rfl))⟩
 f47:=Tryz.func87.trans (congrArg some (by kernel_rfl))
 f48:=Tryz.func88.trans (congrArg some (by kernel_rfl))
 f49:=⟨Tryz.f117.name,by kernel_rfl,Tryz.func117.trans (congrArg some (by kernel_rfl))⟩
 f50:=⟨Tryz.f118.name,by kernel_rfl,Tryz.func118.trans (congrArg some (by kernel_rfl))⟩
 f57:=⟨Tryz.f119.name,by kernel_rfl,Tryz.func119.trans (congrArg some (by kernel_rfl))⟩
 t0:=Tryz.underlying0
 a0:=Tryz.isAgg0
 z0:=Tryz.sizeOf0
 v0:=Tryz.zeroValue0
 t3:=Tryz.underlying3
 a3:=Tryz.isAgg3
 z3:=Tryz.sizeOf3
 v3:=Tryz.zeroValue3
 t4:=Tryz.underlying4
 a4:=Tryz.isAgg4
 z4:=Tryz.sizeOf4
 v4:=Tryz.zeroValue4
 t5:=Tryz.underlying5
 a5:=Tryz.isAgg5
 z5:=Tryz.sizeOf5
 v5:=Tryz.zeroValue5
 t9:=Tryz.underlying9
 a9:=Tryz.isAgg9
 z9:=Tryz.sizeOf9
 v9:=Tryz.zeroValue9
 t22:=Tryz.underlying36
 a22:=Tryz.isAgg36
 z22:=Tryz.sizeOf36
 v22:=Tryz.zeroValue36
 t25:=Tryz.underlying165
 a25:=Tryz.isAgg165
 z25:=Tryz.sizeOf165
 v25:=Tryz.zeroValue165
 t39:=Tryz.underlying56
 a39:=Tryz.isAgg56
 z39:=Tryz.sizeOf56
 v39:=Tryz.zeroValue56
 t45:=Tryz.underlying129
 a45:=Tryz.isAgg129
 z45:=Tryz.sizeOf129
 v45:=Tryz.zeroValue129
 t46:=Tryz.underlying130
 a46:=Tryz.isAgg130
 z46:=Tryz.sizeOf130
 v46:=Tryz.zeroValue130
 t50:=Tryz.underlying135
 a50:=Tryz.isAgg135
 z50:=Tryz.sizeOf135
 v50:=Tryz.zeroValue135
 t53:=Tryz.underlying64
 a53:=Tryz.isAgg64
 z53:=Tryz.sizeOf64
 v53:=Tryz.zeroValue64
 t55:=Tryz.underlying139
 a55:=Tryz.isAgg139
 z55:=Tryz.sizeOf139
 v55:=Tryz.zeroValue139
 t66:=Tryz.underlying148
 a66:=Tryz.isAgg148
 z66:=Tryz.sizeOf148
 v66:=Tryz.zeroValue148
 t70:=Tryz.underlying152
 a70:=Tryz.isAgg152
 z70:=Tryz.sizeOf152
 v70:=Tryz.zeroValue152
 t76:=Tryz.underlying159
 a76:=Tryz.isAgg159
 z76:=Tryz.sizeOf159
 v76:=Tryz.zeroValue159
 t77:=Tryz.underlying82
 a77:=Tryz.isAgg82
 z77:=Tryz.sizeOf82
 v77:=Tryz.zeroValue82
open Go.RowKit Go.Lib Go.Sort
def cfR (x y:Int × Int):Int:=if x.1<y.1 then -1 else if y.1<x.1 then 1 else 0
def encR (x:Int × Int):List Go.Value:=[.int .i32 x.1,.int .i32 x.2]
set_option maxHeartbeats 1000000 in
theorem closure105 (x y:Int × Int) (W:Go.World):Go.Calls Tryz.prog 104 #[.agg #[.int .i32 x.1,.int .i32 x.2],.agg #[.int .i32 y.1,.int .i32 y.2]] W fun e w'=>e=.returned (.int .i64 (cfR x y))∧∃ q os',w'=grow (W.drewN q) os':=by
 go_enter Tryz.func104,Tryz.ntmps104
 go_wp2
 all_goals
  go_ret
  refine ⟨?_,0,_,by rw [alloc_eq_grow,alloc_eq_grow,grow_grow];rfl⟩
  unfold cfR
  split <;> (try split) <;> first | rfl | (exfalso;omega)
theorem cmpLays105 (blk off size:Nat) (w:Go.World):CmpLays Tryz.prog 104 #[] encR 2 cfR blk off size w:=fun _ _ _ _ x y=>closure105 x y _
theorem ltR (x y:Int × Int):ltOf cfR x y=decide (x.1<y.1):=by
 unfold ltOf cfR
 by_cases h1:x.1<y.1
 ·simp [h1]
 ·by_cases h2:y.1<x.1 <;> simp [h1,h2]
theorem swoR:SWO (ltOf cfR) where
 irrefl x:=by rw [ltR];simp
 trans x y z h1 h2:=by rw [ltR] at *;simp at *;omega
 ntrans x y z h1 h2:=by rw [ltR] at *;simp at *;omega
def sortR (s:List (Int × Int)):List (Int × Int):=(pdq (ltOf cfR) s.toArray 0 s.length (Go.Lib.bitLen s.length) true true).toList
theorem sort_facts (s:List (Int × Int)):PermIn 0 s.length s.toArray (pdq (ltOf cfR) s.toArray 0 s.length (Go.Lib.bitLen s.length) true true)∧SortedIn (ltOf cfR) 0 s.length (pdq (ltOf cfR) s.toArray 0 s.length (Go.Lib.bitLen s.length) true true) :=
 pdq_sorts (ltOf cfR) swoR s.toArray 0 s.length (Go.Lib.bitLen s.length) true true (Nat.zero_le _) (by simp) (Or.inl rfl)
theorem sort_perm (s:List (Int × Int)):(sortR s).Perm s:=by
 obtain ⟨⟨h1,_,h2⟩,_⟩:=sort_facts s
 unfold sortR
 generalize pdq (ltOf cfR) s.toArray 0 s.length (Go.Lib.bitLen s.length) true true=d at h1 h2 ⊢
 have hd:d.size=s.length:=by simpa using h1
 have e:d.extract 0 s.length=d:=by rw [← hd];simp
 rw [e] at h2
 have e2:(s.toArray.extract 0 s.length).toList=s:=by simp
 rw [e2] at h2
 exact h2
theorem sort_len (s:List (Int × Int)):(sortR s).length=s.length:=(sort_perm s).length_eq
theorem sort_mem (s:List (Int × Int)) (r:Int × Int):r∈sortR s↔r∈s:=(sort_perm s).mem_iff
end Go.Proofs.YtfnddhbiolpmgaaGreatDoor
set_option linter.unusedVariables false
set_option linter.unusedSimpArgs false
set_option maxRecDepth 100000
namespace Go.Proofs.YtfnddhbiolpmgaaGreatDoor
open Go Nv Pat Go.Sort
theorem flat_rg (s:List (Int × Int)):flat (s.map rgD)=s.flatMap fun r=>[.int .i32 r.1,.int .i32 r.2]:=by
 simp only [flat,List.flatMap_map,rgD,DV.cells]
theorem rg_cell:∀ (s:List (Int × Int)) (j:Nat),j<s.length * 2→(flat (s.map rgD))[j]? = some (if j % 2=0 then .int .i32 (s.getD (j / 2) default).1 else .int .i32 (s.getD (j / 2) default).2)
 | [],j,h=>by simp at h
 | r::s,j,h=>by
  rw [flat_rg,List.flatMap_cons]
  match j,h with
  | 0,_=>rfl
  | 1,_=>rfl
  | j+2,h =>
   have:=rg_cell s j (by simp at h;omega)
   rw [flat_rg] at this
   rw [show [DV.int IntKind.i32 r.1,DV.int IntKind.i32 r.2]++(s.flatMap fun r=>[.int .i32 r.1,.int .i32 r.2])=DV.int IntKind.i32 r.1::DV.int IntKind.i32 r.2::(s.flatMap fun r=>[.int .i32 r.1,.int .i32 r.2]) from rfl,
    List.getElem?_cons_succ,List.getElem?_cons_succ,this]
   simp only [show (j+2) % 2=j % 2 by omega,show (j+2) / 2=j / 2+1 by omega,List.getD_cons_succ]
def valR (s:List (Int × Int)) (j:Nat):Value:=if j % 2=0 then .int .i32 (s.getD (j / 2) default).1 else .int .i32 (s.getD (j / 2) default).2
theorem flatK_rg (d:Array (Int × Int)) (j:Nat) (h:j<d.size * 2):(flatK encR 2 d)[j]! = valR d.toList j:=by
 rw [get_flatK _ _ _ _ h,valR]
 have hd:d[j / 2]! = d.toList.getD (j / 2) default:=by
  have hlt:j / 2<d.size:=by omega
  rw [getElem!_pos d _ hlt,List.getD_eq_getElem?_getD,Array.getElem?_toList,Array.getElem?_eq_getElem hlt];rfl
 rw [hd]
 rcases (by omega:j % 2=0∨j % 2=1) with h2 | h2 <;> simp [h2,encR]
theorem sort104:SortC sortR:=by
 intro s b g σ hb hst h0 hlen K hK ρ I w vs hr hv
 have hsb:σ[b]? = some (.arr g ⟨2,98⟩ (s.map rgD)):=stGet_some hst (by simp)
 have hsz:vs.size=2:=by have:=hv.1;simpa using this.symm
 obtain ⟨v0,v1,rfl⟩:∃ v0 v1,vs=#[v0,v1]:=by
  obtain ⟨l⟩:=vs
  match l,hsz with
  | [a,b],_=>exact ⟨a,b,rfl⟩
 have hv0:=hv.2 0 _ rfl
 have hv1:=(hv.2 1 _ rfl).d_inv
 simp only [Array.getD_eq_getD_getElem?,List.size_toArray,List.length_cons,List.length_nil,List.getElem?_toArray,List.getElem?_cons_zero,List.getElem?_cons_succ,Option.getD_some] at hv0 hv1
 obtain rfl:v1=.func (.func 104) #[] #[]:=by cases hv1;rfl
 generalize hn:s.length=n0 at hv0
 cases hv0 with
 | ownNil k1 k2=>omega
 | ownOld k1 k2=>rw [hsb] at k1;cases k1;exact absurd (k2 _ _ _ rfl) (by omega)
 | own k1 k2 k3 k4 =>
  rw [hsb] at k1;cases k1
  subst hn
  rename_i B cap
  obtain ⟨us,q1,q2,q3,q4,q5⟩:=hr.arr hsb k2
  dsimp only at q2
  simp only [Nat.zero_mul,Nat.add_zero]
  have hBlt:B<w.heap.size:=by
   rcases Nat.lt_or_ge B w.heap.size with h' | h'
   ·exact h'
   ·rw [Array.getElem?_eq_none h'] at q1;cases q1
  have hul:(ρ b).base+s.length * 2≤us.size:=by
   have:s.length * 2≤(ρ b).cap * 2:=Nat.mul_le_mul_right _ (by simpa using q3)
   omega
  have hH:HoldsK encR 2 w B (ρ b).base s.toArray:=by
   intro j hj
   have hj':j<s.length * 2:=by simpa using hj
   have hc:=q5 j _ (rg_cell s j hj')
   have hlt:(ρ b).base+j<us.size:=by omega
   refine ⟨?_,by simp [World.frozen?,q1]⟩
   rw [flatK_rg _ _ (by simpa using hj')]
   have hg:us.getD ((ρ b).base+j) undef=valR s j:=by
    unfold valR
    by_cases h2:j % 2=0
    ·rw [if_pos h2] at hc ⊢;exact hc.int_inv
    ·rw [if_neg h2] at hc ⊢;exact hc.int_inv
   simp only [World.cell?,q1,Option.bind_some]
   rw [Array.getD_eq_getD_getElem?,Array.getElem?_eq_getElem hlt,Option.getD_some] at hg
   simp [Array.getElem?_eq_getElem hlt,hg]
  have eg:∀ args w,(callFunc 104 args).run Tryz.prog w=.ok (.enter 104 args) w:=enters_of Tryz.func104 (by kernel_rfl) rfl
  have hcon:=AnyQ.slices_SortFunc_eq Tryz.sortR 2 Tryz.isAgg98 Tryz.sizeOf98 encR (fun _=>rfl) (fun x v hv=>by simp [encR] at hv;rcases hv with rfl | rfl <;> rfl) cfR swoR 104 #[] B (ρ b).base cap s.toArray w eg
   (cmpLays105 B (ρ b).base s.toArray.size w) hH hBlt (by simp;omega)
  simp only [List.size_toArray] at hcon
  refine hcon.mono ?_
  rintro e w' ⟨rfl,n,os,rfl⟩
  obtain ⟨d,hd⟩:∃ d,d=pdq (ltOf cfR) s.toArray 0 s.length (Lib.bitLen s.length) true true:=⟨_,rfl⟩
  have hds:d.toList=sortR s:=by rw [hd,sortR]
  have hdz:d.size=s.length:=by rw [← Array.length_toList,hds,sort_len]
  rw [← hd]
  obtain ⟨us',hus'⟩:∃ us',us'=putCells id (ρ b).base (flatK encR 2 d) us:=⟨_,rfl⟩
  have husz:us'.size=us.size:=by rw [hus'];simp [putCells]
  have hheapB:(sortWorldK encR 2 w B (ρ b).base n d os).heap[B]? = some (.cells us' 98 (0,0)):=by
   have hBl:B<(putRow id (Sort.ahead w n) B (ρ b).base (flatK encR 2 d)).heap.size:=by simpa [Sort.ahead] using hBlt
   simp only [sortWorldK,putRowK,grow]
   rw [Array.getElem?_append,if_pos hBl]
   simp [putRow,mapBlock,Sort.ahead,Array.getElem?_modify,q1,onCells,hus']
  have hold:∀ c,c<w.heap.size→c≠B→(sortWorldK encR 2 w B (ρ b).base n d os).heap[c]? = w.heap[c]? := by
   intro c hc hcB
   have hcl:c<(putRow id (Sort.ahead w n) B (ρ b).base (flatK encR 2 d)).heap.size:=by simpa [Sort.ahead] using hc
   simp only [sortWorldK,putRowK,grow]
   rw [Array.getElem?_append,if_pos hcl]
   simp [putRow,mapBlock,Sort.ahead,Array.getElem?_modify,show ¬ B=c from fun h=>hcB h.symm]
  have hE:Ext w (sortWorldK encR 2 w B (ρ b).base n d os):=Ext.of (by simp [sortWorldK,putRowK,Sort.ahead]) ⟨rfl,rfl,rfl⟩
  obtain ⟨ρ',h1,h2⟩:=own_anew (ys:=(sortR s).map rgD) hr hsb k2 (by simp [sort_len]) (fun y hy=>by
   obtain ⟨r,_,rfl⟩:=List.mem_map.1 hy
   refine ⟨rfl,fun c hc=>?_⟩
   simp only [rgD,DV.cells,List.mem_cons,List.not_mem_nil,or_false] at hc
   rcases hc with rfl | rfl <;> rfl) hE hold hheapB (by rw [husz];exact q2) (fun j c hj=>by
   have hjl:j<(sortR s).length * 2:=by
    rcases Nat.lt_or_ge j ((sortR s).length * 2) with h | h
    ·exact h
    ·have hfl:(flat ((sortR s).map rgD)).length=(sortR s).length * 2:=by
      rw [flat_rg];generalize sortR s=t
      induction t with
      | nil=>rfl
      | cons x t ih=>simp only [List.flatMap_cons,List.length_append,List.length_cons,ih,List.length_nil];omega
     rw [List.getElem?_eq_none (by omega)] at hj;cases hj
   rw [rg_cell _ _ hjl] at hj
   simp only [Option.some.injEq] at hj
   have hlt:(ρ b).base+j<us.size:=by rw [sort_len] at hjl;omega
   have hval:us'.getD ((ρ b).base+j) undef=valR (sortR s) j:=by
    rw [hus',putCells,Array.getD_eq_getD_getElem?,Array.getElem?_mapIdx,Array.getElem?_eq_getElem hlt]
    simp only [Option.map_some,Option.getD_some,size_flatK,hdz]
    rw [sort_len] at hjl
    rw [if_pos ⟨by omega,by omega⟩,show (ρ b).base+j - (ρ b).base=j by omega]
    show (flatK encR 2 d)[j]! = _
    rw [flatK_rg d j (by omega),hds]
   rw [hval,← hj,valR]
   split <;> exact .int _ _)
  exact ⟨ρ',I,_,.ret (.tuple []),h1,h2,.tuple rfl (fun j c hj=>by simp at hj),hK⟩
end Go.Proofs.YtfnddhbiolpmgaaGreatDoor
set_option linter.unusedVariables false
set_option linter.unusedSimpArgs false
set_option maxRecDepth 100000
namespace Go.Proofs.YtfnddhbiolpmgaaGreatDoor
open Go Nv Pat
/- Characters as bytes,and back. -/
def encB (c:Int):List UInt8:=(Utf8.encode c).data.toList
theorem encB1 {r:Nat} (h:r<128):encB r=[UInt8.ofNat r]:=by
 have v:Utf8.valid (r:Int)=true:=by simp [Utf8.valid];omega
 simp [encB,Utf8.encode,v,h]
theorem encB2 {r:Nat} (h1:128≤r) (h2:r<2048):encB r=[UInt8.ofNat (192+r / 64),UInt8.ofNat (128+r % 64)]:=by
 have v:Utf8.valid (r:Int)=true:=by simp [Utf8.valid];omega
 have c1:¬ r<128:=by omega
 simp [encB,Utf8.encode,v,c1,h2]
theorem encB3 {r:Nat} (h1:2048≤r) (h2:r<65536) (hv:r<55296∨57344≤r):encB r=[UInt8.ofNat (224+r / 4096),UInt8.ofNat (128+r / 64 % 64),UInt8.ofNat (128+r % 64)]:=by
 have v:Utf8.valid (r:Int)=true:=by simp [Utf8.valid];omega
 have c1:¬ r<128:=by omega
 have c2:¬ r<2048:=by omega
 simp [encB,Utf8.encode,v,c1,c2,h2]
theorem encB4 {r:Nat} (h1:65536≤r) (h2:r≤1114111):encB r=[UInt8.ofNat (240+r / 262144),UInt8.ofNat (128+r / 4096 % 64),UInt8.ofNat (128+r / 64 % 64),UInt8.ofNat (128+r % 64)]:=by
 have v:Utf8.valid (r:Int)=true:=by simp [Utf8.valid];omega
 have c1:¬ r<128:=by omega
 have c2:¬ r<2048:=by omega
 have c3:¬ r<65536:=by omega
 simp [encB,Utf8.encode,v,c1,c2,c3]
theorem char_cases {c:Int} (h:charB c=true):∃ r:Nat,c=r∧(r<128∨(128≤r∧r<2048)∨(2048≤r∧r<65536∧(r<55296∨57344≤r))∨(65536≤r∧r≤1114111)):=by
 rw [charB_iff] at h
 exact ⟨c.toNat,by omega,by omega⟩
theorem u8n (n:Nat) (h:n<256):(UInt8.ofNat n).toNat=n:=by simp;omega
theorem dec_enc {c:Int} (h:charB c=true) (t:List UInt8):Lib.decodeL (encB c++t)=(c.toNat,(encB c).length):=by
 obtain ⟨r,rfl,h1 | ⟨h1,h2⟩ | ⟨h1,h2,h3⟩ | ⟨h1,h2⟩⟩:=char_cases h
 ·rw [encB1 h1,Lib.decodeL_N]
  simp only [List.cons_append,List.nil_append,List.getD_cons_zero,u8n r (by omega),Lib.decodeN,h1,if_true]
  simp
 ·rw [encB2 h1 h2,Lib.decodeL_N]
  simp only [List.cons_append,List.nil_append,List.getD_cons_zero,List.getD_cons_succ,u8n (192+r / 64) (by omega),u8n (128+r % 64) (by omega),Lib.decodeN,List.length_cons]
  rw [if_neg (by omega),if_pos (by omega),if_pos (by omega)]
  simp;omega
 ·rw [encB3 h1 h2 h3,Lib.decodeL_N]
  simp only [List.cons_append,List.nil_append,List.getD_cons_zero,List.getD_cons_succ,u8n (224+r / 4096) (by omega),u8n (128+r / 64 % 64) (by omega),u8n (128+r % 64) (by omega),Lib.decodeN,List.length_cons]
  have e:(224+r / 4096) % 16 * 4096+(128+r / 64 % 64) % 64 * 64+(128+r % 64) % 64=r:=by omega
  rw [if_neg (by omega),if_neg (by omega),if_pos (by omega),e,if_pos (by omega)]
  simp
 ·rw [encB4 h1 h2,Lib.decodeL_N]
  simp only [List.cons_append,List.nil_append,List.getD_cons_zero,List.getD_cons_succ,u8n (240+r / 262144) (by omega),u8n (128+r / 4096 % 64) (by omega),u8n (128+r / 64 % 64) (by omega),u8n (128+r % 64) (by omega),Lib.decodeN,List.length_cons]
  have e:(240+r / 262144) % 8 * 262144+(128+r / 4096 % 64) % 64 * 4096+(128+r / 64 % 64) % 64 * 64+(128+r % 64) % 64=r:=by omega
  rw [if_neg (by omega),if_neg (by omega),if_neg (by omega),if_pos (by omega),e,if_pos (by omega)]
  simp
theorem begin_two {b:Int} (h1:194≤b) (h2:b≤223):(beginM b).missing=1∧(beginM b).low=128∧(beginM b).high=191:=by
 unfold beginM;rw [if_pos ⟨h1,h2⟩];exact ⟨rfl,rfl,rfl⟩
theorem begin_three {b:Int} (h1:224≤b) (h2:b≤239):(beginM b).missing=2∧(beginM b).low=(if b=224 then 160 else 128)∧(beginM b).high=(if b=237 then 159 else 191):=by
 unfold beginM;rw [if_neg (by omega),if_pos ⟨h1,h2⟩];exact ⟨rfl,rfl,rfl⟩
theorem begin_four {b:Int} (h1:240≤b) (h2:b≤244):(beginM b).missing=3∧(beginM b).low=(if b=240 then 144 else 128)∧(beginM b).high=(if b=244 then 143 else 191):=by
 unfold beginM;rw [if_neg (by omega),if_neg (by omega),if_pos ⟨h1,h2⟩];exact ⟨rfl,rfl,rfl⟩
theorem begin_none {b:Int} (h1:¬ (194≤b∧b≤223)) (h2:¬ (224≤b∧b≤239)) (h3:¬ (240≤b∧b≤244)):(beginM b).missing=0:=by
 unfold beginM;rw [if_neg h1,if_neg h2,if_neg h3]
theorem begin_which (b:Int):(194≤b∧b≤223)∨(224≤b∧b≤239)∨(240≤b∧b≤244)∨(beginM b).missing=0:=by
 by_cases h1:194≤b∧b≤223
 ·exact .inl h1
 by_cases h2:224≤b∧b≤239
 ·exact .inr (.inl h2)
 by_cases h3:240≤b∧b≤244
 ·exact .inr (.inr (.inl h3))
 ·exact .inr (.inr (.inr (begin_none h1 h2 h3)))
theorem begin1 {b:Int} (h:(beginM b).missing=1):194≤b∧b≤223∧(beginM b).low=128∧(beginM b).high=191:=by
 rcases begin_which b with k | k | k | k
 ·exact ⟨k.1,k.2,(begin_two k.1 k.2).2⟩
 ·have:=(begin_three k.1 k.2).1;omega
 ·have:=(begin_four k.1 k.2).1;omega
 ·omega
theorem begin2 {b:Int} (h:(beginM b).missing=2):224≤b∧b≤239∧(beginM b).low=(if b=224 then 160 else 128)∧(beginM b).high=(if b=237 then 159 else 191):=by
 rcases begin_which b with k | k | k | k
 ·have:=(begin_two k.1 k.2).1;omega
 ·exact ⟨k.1,k.2,(begin_three k.1 k.2).2⟩
 ·have:=(begin_four k.1 k.2).1;omega
 ·omega
theorem begin3 {b:Int} (h:(beginM b).missing=3):240≤b∧b≤244∧(beginM b).low=(if b=240 then 144 else 128)∧(beginM b).high=(if b=244 then 143 else 191):=by
 rcases begin_which b with k | k | k | k
 ·have:=(begin_two k.1 k.2).1;omega
 ·have:=(begin_three k.1 k.2).1;omega
 ·exact ⟨k.1,k.2,(begin_four k.1 k.2).2⟩
 ·omega
theorem u8e {a b:UInt8} (h:a.toNat=b.toNat):a=b:=UInt8.toNat_inj.1 h
theorem seq_enc {p:List UInt8} (hp:OkSeq p):∃ c,charB c=true∧p=encB c:=by
 cases hp with
 | @one b h =>
  refine ⟨(b.toNat:Nat),by rw [charB_iff];omega,?_⟩
  rw [encB1 h];simp
 | @two b c h1 h2 h3 =>
  obtain ⟨k1,k2,k3,k4⟩:=begin1 h1
  rw [k3] at h2;rw [k4] at h3
  unfold bt at *
  obtain ⟨r,hr⟩:∃ r,r=(b.toNat - 192) * 64+(c.toNat - 128):=⟨_,rfl⟩
  refine ⟨(r:Nat),by rw [charB_iff];omega,?_⟩
  rw [encB2 (by omega) (by omega)]
  congr 1
  ·apply u8e;rw [u8n _ (by omega)];omega
  ·congr 1;apply u8e;rw [u8n _ (by omega)];omega
 | @three b c d h1 h2 h3 h4 h5 =>
  obtain ⟨k1,k2,k3,k4⟩:=begin2 h1
  rw [k3] at h2;rw [k4] at h3
  unfold bt at *
  obtain ⟨r,hr⟩:∃ r,r=(b.toNat - 224) * 4096+(c.toNat - 128) * 64+(d.toNat - 128):=⟨_,rfl⟩
  have hb:(2048≤r∧r<65536)∧(r<55296∨57344≤r):=by
   split at h2 <;> split at h3 <;> omega
  have hc:128≤c.toNat:=by split at h2 <;> omega
  have hc2:c.toNat≤191:=by split at h3 <;> omega
  refine ⟨(r:Nat),by rw [charB_iff];omega,?_⟩
  rw [encB3 hb.1.1 hb.1.2 hb.2]
  congr 1
  ·apply u8e;rw [u8n _ (by omega)];omega
  congr 1
  ·apply u8e;rw [u8n _ (by omega)];omega
  ·congr 1;apply u8e;rw [u8n _ (by omega)];omega
 | @four b c d f h1 h2 h3 h4 h5 h6 h7 =>
  obtain ⟨k1,k2,k3,k4⟩:=begin3 h1
  rw [k3] at h2;rw [k4] at h3
  unfold bt at *
  obtain ⟨r,hr⟩:∃ r,r=(b.toNat - 240) * 262144+(c.toNat - 128) * 4096+(d.toNat - 128) * 64+(f.toNat - 128):=⟨_,rfl⟩
  have hb:65536≤r∧r≤1114111:=by
   split at h2 <;> split at h3 <;> omega
  have hc:128≤c.toNat:=by split at h2 <;> omega
  have hc2:c.toNat≤191:=by split at h3 <;> omega
  refine ⟨(r:Nat),by rw [charB_iff];omega,?_⟩
  rw [encB4 hb.1 hb.2]
  congr 1
  ·apply u8e;rw [u8n _ (by omega)];omega
  congr 1
  ·apply u8e;rw [u8n _ (by omega)];omega
  congr 1
  ·apply u8e;rw [u8n _ (by omega)];omega
  ·congr 1;apply u8e;rw [u8n _ (by omega)];omega
def encS (l:List Int):List UInt8:=l.flatMap encB
theorem encS_cons (c:Int) (l:List Int):encS (c::l)=encB c++encS l:=rfl
def Chars (l:List Int):Prop:=∀ c,c∈l→charB c=true
theorem Chars.cons {c:Int} {l:List Int} (h:Chars (c::l)):charB c=true∧Chars l:=⟨h c (by simp),fun d hd=>h d (by simp [hd])⟩
theorem valid_as {s:List UInt8} (h:Lib.validD s=true):∃ l,Chars l∧s=encS l:=by
 refine valid_ind (P:=fun s=>∃ l,Chars l∧s=encS l) ⟨[],fun c hc=>(by cases hc),rfl⟩ (fun p r hp _ ⟨l,h1,h2⟩=>?_) s.length s (Nat.le_refl _) h
 obtain ⟨c,hc,rfl⟩:=seq_enc hp
 exact ⟨c::l,fun d hd=>(List.mem_cons.1 hd).elim (fun e=>e ▸ hc) (h1 d),by rw [encS_cons,h2]⟩
theorem encB_pos (c:Int):0<(encB c).length:=by
 unfold encB Utf8.encode
 simp only
 split
 ·split <;> (try split) <;> (try split) <;> simp
 ·split <;> (try split) <;> (try split) <;> simp
theorem len_enc:∀ l:List Int,l.length≤(encS l).length
 | []=>Nat.le_refl _
 | c::l=>by have:=len_enc l;have:=encB_pos c;rw [encS_cons,List.length_append,List.length_cons];omega
theorem runes_from (pre:List UInt8):∀ (l:List Int) (done:List UInt8) (bound:Nat) (acc:Array Value),Chars l→pre=done++encS l→(encS l).length≤bound →
  (Conv.runesFrom ⟨pre.toArray⟩ bound done.length acc).toList=acc.toList++l.map (Value.int .i32)
 | [],done,bound,acc,_,e,_=>by
  have hs:¬ done.length<(⟨pre.toArray⟩:ByteArray).size:=by rw [e];simp [encS,ByteArray.size]
  cases bound with
  | zero=>simp [Conv.runesFrom]
  | succ b=>rw [Conv.runesFrom,if_neg hs];simp
 | c::l,done,bound,acc,hc,e,hb=>by
  have hp:=encB_pos c
  rw [encS_cons,List.length_append] at hb
  obtain ⟨b,rfl⟩:∃ b,bound=b+1:=⟨bound - 1,by omega⟩
  have hs:done.length<(⟨pre.toArray⟩:ByteArray).size:=by rw [e,encS_cons];simp [ByteArray.size];omega
  have hd:Utf8.decode ⟨pre.toArray⟩ done.length=(c.toNat,(encB c).length):=by
   rw [← Lib.decodeL_drop]
   have:(⟨pre.toArray⟩:ByteArray).data.toList.drop done.length=encB c++encS l:=by simp [e,encS_cons]
   rw [this,dec_enc hc.cons.1]
  have hn:(Int.ofNat c.toNat)=c:=by
   have:=hc.cons.1
   rw [charB_iff] at this
   simp;omega
  rw [Conv.runesFrom,if_pos hs,hd]
  simp only [hn]
  have:=runes_from pre l (done++encB c) b (acc.push (.int .i32 c)) hc.cons.2 (by rw [e,encS_cons];simp) (by omega)
  rw [List.length_append] at this
  rw [this];simp
theorem runes_enc {l:List Int} (h:Chars l):Nv.runesD (encS l)=l.map (DV.int .i32):=by
 have:=runes_from (encS l) l [] (encS l).length #[] h rfl (Nat.le_refl _)
 unfold Nv.runesD
 simp only [List.length_nil] at this
 rw [this]
 simp [Nv.valD,List.map_map,Function.comp_def]
/- a character among others -/
def ints (l:List UInt8):List Int:=l.map fun b=>(b.toNat:Int)
theorem contains_enc {c:Int} (h:charB c=true):∀ sp:List UInt8,(∀ b,b∈sp→b.toNat<128)→Lib.contains sp (encB c)=decide (c∈ints sp):=by
 have key:∀ sp:List UInt8,(∀ b,b∈sp→b.toNat<128)→-1≤Lib.index sp (encB c)∧(0≤Lib.index sp (encB c)↔c∈ints sp):=by
  intro sp
  have hne:(encB c).isEmpty=false:=by
   have:=encB_pos c
   cases he:encB c with
   | nil=>rw [he] at this;simp at this
   | cons=>rfl
  induction sp with
  | nil=>intro _;simp [Lib.index,hne,ints]
  | cons b sp ih =>
   intro hb
   obtain ⟨i1,i2⟩:=ih fun d hd=>hb d (by simp [hd])
   have hpre:(encB c).isPrefixOf (b::sp)=decide (c=(b.toNat:Int)):=by
    have hb':=hb b (by simp)
    obtain ⟨r,rfl,h1 | ⟨h1,h2⟩ | ⟨h1,h2,h3⟩ | ⟨h1,h2⟩⟩:=char_cases h
    ·rw [encB1 h1]
     simp only [List.isPrefixOf,Bool.and_true]
     rw [Bool.eq_iff_iff,beq_iff_eq,decide_eq_true_eq]
     constructor
     ·intro e;rw [← e,u8n _ (by omega)]
     ·intro e;apply u8e;rw [u8n _ (by omega)];omega
    ·have e1:=u8n (192+r / 64) (by omega)
     have:¬ (UInt8.ofNat (192+r / 64))=b:=fun e=>by rw [e] at e1;omega
     have hbf:(UInt8.ofNat (192+r / 64) == b)=false:=beq_eq_false_iff_ne.2 this
     rw [encB2 h1 h2];simp only [List.isPrefixOf,hbf,Bool.false_and];rw [eq_comm,decide_eq_false_iff_not];omega
    ·have e1:=u8n (224+r / 4096) (by omega)
     have:¬ (UInt8.ofNat (224+r / 4096))=b:=fun e=>by rw [e] at e1;omega
     have hbf:(UInt8.ofNat (224+r / 4096) == b)=false:=beq_eq_false_iff_ne.2 this
     rw [encB3 h1 h2 h3];simp only [List.isPrefixOf,hbf,Bool.false_and];rw [eq_comm,decide_eq_false_iff_not];omega
    ·have e1:=u8n (240+r / 262144) (by omega)
     have:¬ (UInt8.ofNat (240+r / 262144))=b:=fun e=>by rw [e] at e1;omega
     have hbf:(UInt8.ofNat (240+r / 262144) == b)=false:=beq_eq_false_iff_ne.2 this
     rw [encB4 h1 h2];simp only [List.isPrefixOf,hbf,Bool.false_and];rw [eq_comm,decide_eq_false_iff_not];omega
   rw [Lib.index,hpre]
   by_cases he:c=(b.toNat:Int)
   ·simp [he,ints]
   ·simp only [he,decide_false,Bool.false_eq_true,if_false,beq_iff_eq]
    have em:c∈ints (b::sp)↔c∈ints sp:=by simp [ints,he]
    rw [em,← i2]
    split <;> omega
 intro sp hsp
 rw [Lib.contains]
 exact decide_eq_decide.2 (key sp hsp).2
end Go.Proofs.YtfnddhbiolpmgaaGreatDoor
