/- Part of a proof about the functions of this seat. -/
import Derived.Test.YtfnddhbiolpmgaaGreatDoorG14Fe56
import Derived.Test.YtfnddhbiolpmgaaGreatDoorG10Base56
import Derived.Shelf.Sort.Plain
import Derived.Shelf.Lays2
import Derived.Shelf.LaysM
import Derived.KernelRfl
import Derived.Test.YtfnddhbiolpmgaaGreatDoorProg
import Derived.Test.YtfnddhbiolpmgaaGreatDoorG12Q56
set_option linter.unusedVariables false
set_option linter.unusedSimpArgs false
set_option maxRecDepth 100000
namespace Go.Proofs.YtfnddhbiolpmgaaGreatDoor
open Go Nv Pat
inductive SetsOk:Tree→Prop
 | mk {k:Int} {set:List (Int × Int)} {sub:List Tree} {a b:Int}:set.length≤100000000→(∀ x,x∈sub→SetsOk x)→SetsOk (.mk k set sub a b)
theorem arcsL_len (A:List (List Arc)):(arcsL A).length=A.length:=by simp [arcsL]
theorem part_one {n:Tree} (hn:WF n):SetsOk n→PartC n:=by
 induction hn with
 | @mk k set sub a b h1 h2 h3 h4 ih =>
  intro hsm σ p st H hB hO hl
  obtain ⟨hset,hslim⟩:set.length≤100000000∧∀ x,x∈sub→SetsOk x:=by cases hsm with | mk q1 q2=>exact ⟨q1,q2⟩
  have ih:∀ x,x∈sub→PartC x:=fun x hx=>ih x hx (hslim x hx)
  have hw:WF (.mk k set sub a b):=.mk h1 h2 h3 h4
  refine fn31.rel hintsP (Nat.le_refl _) ?_
  simp (disch:=omega) only [go_sem,nodeA,nodeF,Tree.kind,Tree.set,Tree.sub,Tree.min,Tree.max,setD]
  refine (state48 (hB.pushed _) hO.len (by omega)).at ?_
  rintro v σ1 ⟨rfl,H1,hB1,hK1⟩
  have hbox:stGet (σ++[.box 39 [.d (.int .i64 k),.d (.list 2 (set.map rgD)),.d (.list 5 (sub.map nodeD)),.d (.int .i64 a),.d (.int .i64 b)]]) σ.length=.box 39 [.d (.int .i64 k),.d (.list 2 (set.map rgD)),.d (.list 5 (sub.map nodeD)),.d (.int .i64 a),.d (.int .i64 b)]:=by simp [stGet]
  obtain ⟨hb1,hn1⟩:=hK1.stay hbox (by simp) (fun h=>by have:=hB.lt _ h;omega)
  have hO1:=hO.push
  have hS1:st.push.A.length=st.A.length+1:=push_len st
  have hsz:=sz_eq hw
  by_cases k2:k=2
  ·subst k2
   simp (disch:=omega) only [go_sem,hb1]
   refine (state48 hB1 hO1.len (by omega)).at ?_
   rintro v σ2 ⟨rfl,H2,hB2,hK2⟩
   obtain ⟨hb2,hn2⟩:=hK2.stay hb1 (by simp) hn1
   have hS2:st.push.push.A.length=st.A.length+2:=by rw [push_len,push_len]
   have hO2:=hO1.push
   simp (disch:=omega) only [go_sem,hb2]
   have hr0:st.push.push.A.getD st.len []=[]:=by
    simp only [St.push,St.len]
    rw [List.getD_eq_getElem?_getD,List.getElem?_append_left (by simp),List.getElem?_append_right (Nat.le_refl _)];simp
   have hs2p:partB (.mk 2 set sub a b) st=(⟨st.push.push.A.set st.len (set.map fun r=>(r.1,r.2,(st.push.len:Int))),st.push.push.E⟩,st.push.len):=by
    rw [show partB (.mk 2 set sub a b) st=(st.push.push.arc st.len (st.len+1) set,st.len+1) from rfl,← push_len']
    simp only [St.arc,hr0,List.nil_append]
   generalize st.push.push=s2 at *
   have hfl:st.len<s2.A.length:=by rw [hS2];simp only [St.len];omega
   refine wL_ind (fun (j:Nat) fr σ'=>j≤set.length∧fr 0=.ptr p 0∧fr 6=.d (.int .i64 st.len)∧fr 7=.d (.int .i64 st.push.len)∧fr 34=.d (.list 2 (set.map rgD))∧fr 35=.d (.int .i64 set.length)∧fr 36=.d (.int .i64 j) ∧
    ∃ (H':Nat→Prop),Bld σ' p ⟨s2.A.set st.len ((set.take j).map fun r=>(r.1,r.2,(st.push.len:Int))),s2.E⟩ H'∧Keeps σ H σ' H') (fun j=>set.length - j) ?_ 0 ?_
   ·rintro j fr σ' ⟨hj,f0,f6,f7,f34,f35,f36,H',hBj,hKj⟩ ih2
    by_cases hlt:j<set.length
    ·obtain ⟨r,hr⟩:∃ r,r=set.getD j default:=⟨_,rfl⟩
     have hget:(set.map rgD).getD j default=rgD r:=by rw [hr];simp [List.getD_eq_getElem?_getD,hlt]
     have htk:set.take (j+1)=set.take j++[r]:=by rw [hr];exact take_succ' set j hlt
     generalize hrow:((set.take j).map fun r=>(r.1,r.2,(st.push.len:Int)))=row at *
     have hrl:row.length=j:=by rw [← hrow];simp;omega
     obtain ⟨va,ve,F,G,hT⟩:=hBj
     have hp:=hT.box
     have hpl:=hT.lt p hT.hp
     rcases hT.a with ⟨rfl,hA⟩ | ⟨b,g,n,xs,rfl,hr⟩
     ·have h0:=congrArg List.length hA
      rw [arcsL_len] at h0
      simp only [List.length_set,List.length_nil] at h0;omega
     have hr1:=hr.row
     have hr2:=hr.num
     have hr3:=hr.len
     rw [arcsL_len,List.length_set] at hr2 hr3
     have hfn:st.len<n:=by omega
     have hfx:st.len<xs.length:=by omega
     have hc:=hr.cell st.len (by rw [arcsL_len,List.length_set];exact hfl)
     rw [arcsL_get,getD_set_eq hfl] at hc
     have hpb:p≠b:=fun e=>hT.np.1 (e ▸ hr.mem)
     have hbl:=hT.lt b (hT.fh b hr.mem)
     rcases hc with ⟨h1,h2⟩ | ⟨cb,cg,m,h1,h2,h3⟩
     ·simp (disch:=omega) only [go_sem,f0,f6,f7,f34,f35,f36,hlt,hget,rgD,apR]
      refine wSeq_of [0,1,2,3,4,5,6,7,8,9,10,11,12,13,14,15,16,17,18] (by rfl) ?_
      simp (disch:=omega) only [go_sem,f0,f6,f7,f36,hp,hr1,hfn,hfx,h1,Nat.zero_add,stGet_left,stSet_left,stGet_sl,stSet_sl,apR]
      obtain ⟨X,hX⟩:∃ X,X=stSet σ' b (.rows g 99 (xs.set st.len (AV.own (List.length σ'+2) 0 0 1))):=⟨_,rfl⟩
      have hXl:X.length=σ'.length:=by rw [hX,stSet_len]
      rw [← hX]
      have he:row=[]:=by simpa using h2
      have hj0:j=0:=by rw [← hrl,he];rfl
      obtain ⟨H3,hB3,hK3⟩:=bld_writeA (σ':=X++[.box 98 [.d (.int .i32 r.1),.d (.int .i32 r.2)],.arr 0 ⟨3,101⟩ [arcD (r.1,r.2,st.push.len)],.arr 0 ⟨3,101⟩ [arcD (r.1,r.2,st.push.len)]]) hT hr (f:=st.len) (by rw [List.length_set];exact hfl)
       (l:=[(r.1,r.2,(st.push.len:Int))]) (c:=.own (σ'.length+2) 0 0 1) (q:=σ'.length+2) (by rw [stGet_left _ _ _ (by omega),hX,stGet_set_eq hbl]) (.inr ⟨σ'.length+2,0,1,rfl,rfl,by rw [stGet_add 2 hXl];rfl⟩) rfl
       (.inl ⟨by omega,by rw [List.length_append,hXl];simp⟩) (fun k h3 h4 _=>by rw [stGet_left _ _ _ (by omega),hX,stGet_set_ne h4]) (by rw [List.length_append,hXl];omega)
      rw [List.set_set] at hB3
      have hrow2:(set.take (j+1)).map (fun r=>(r.1,r.2,(st.push.len:Int)))=[(r.1,r.2,(st.push.len:Int))]:=by rw [htk,List.map_append,hrow,he];rfl
      rw [← hrow2] at hB3
      refine ih2 (j+1) _ _ (by omega) ⟨by omega,?_,?_,?_,?_,?_,?_,H3,hB3,hKj.trans hK3⟩
      ·simp (disch:=omega) only [go_sem,f0]
      ·simp (disch:=omega) only [go_sem,f6]
      ·simp (disch:=omega) only [go_sem,f7]
      ·simp (disch:=omega) only [go_sem,f34]
      ·simp (disch:=omega) only [go_sem,f35]
      ·simp (disch:=omega) only [go_sem]
     ·have hcF:F cb:=hr.blk st.len cb (by rw [arcsL_len,List.length_set];exact hfl) (by rw [h2];rfl)
      have hcl:=hT.lt cb (hT.fh cb hcF)
      have hpc:p≠cb:=fun e=>hT.np.1 (e ▸ hcF)
      have hbc:b≠cb:=fun e=>by subst e;rw [hr1] at h3;cases h3
      have hml:m=row.length:=by rw [h1,List.length_map]
      have hta:=take_all (row.map arcD) m h1.symm
      have h3':stGet σ' cb=.arr cg ⟨3,101⟩ (row.map arcD):=h3
      have hml':(row.map arcD).length=m:=h1.symm
      have hcap:(m+1) * 16≤140737488355328:=by omega
      simp (disch:=omega) only [go_sem,f0,f6,f7,f34,f35,f36,hlt,hget,rgD,apR]
      refine wSeq_of [0,1,2,3,4,5,6,7,8,9,10,11,12,13,14,15,16,17,18] (by rfl) ?_
      simp (disch:=omega) only [go_sem,f0,f6,f7,f36,hp,hr1,hfn,hfx,h2,h3',hml',hta,hcap,Nat.le_refl,hpc,hbc,stGet_set_ne,stGet_set_eq,Nat.zero_add,stGet_left,stSet_left,stGet_sl,stSet_sl,apR]
      obtain ⟨X,hX⟩:∃ X,X=stSet (stSet σ' cb (.arr (cg+1) ⟨3,101⟩ (row.map arcD++[arcD (r.1,r.2,st.push.len)]))) b (.rows g 99 (xs.set st.len (AV.own cb (cg+1) 0 (m+1)))):=⟨_,rfl⟩
      have hXl:X.length=σ'.length:=by rw [hX,stSet_len,stSet_len]
      have hX':=hX
      simp only [arcD] at hX'
      rw [← hX']
      have hb1:blkOf (xs.getD st.len .any)=some cb:=by rw [h2];rfl
      obtain ⟨H3,hB3,hK3⟩:=bld_writeA (σ':=X++[.box 98 [.d (.int .i32 r.1),.d (.int .i32 r.2)],.arr 0 ⟨3,101⟩ [arcD (r.1,r.2,st.push.len)]]) hT hr (f:=st.len) (by rw [List.length_set];exact hfl)
       (l:=row++[(r.1,r.2,(st.push.len:Int))]) (c:=.own cb (cg+1) 0 (m+1)) (q:=cb) (by rw [stGet_left _ _ _ (by omega),hX,stGet_set_eq (by rw [stSet_len];exact hbl)])
       (.inr ⟨cb,cg+1,m+1,by simp [hml],rfl,by rw [stGet_left _ _ _ (by omega),hX,stGet_set_ne (Ne.symm hbc),stGet_set_eq hcl];simp⟩) rfl (.inr hb1)
       (fun k h4 h5 h6=>by rw [stGet_left _ _ _ (by omega),hX,stGet_set_ne h5,stGet_set_ne (fun e=>h6 (by rw [hb1,e]))]) (by rw [List.length_append,hXl];omega)
      rw [List.set_set] at hB3
      have hrow2:(set.take (j+1)).map (fun r=>(r.1,r.2,(st.push.len:Int)))=row++[(r.1,r.2,(st.push.len:Int))]:=by rw [htk,List.map_append,hrow];rfl
      rw [← hrow2] at hB3
      refine ih2 (j+1) _ _ (by omega) ⟨by omega,?_,?_,?_,?_,?_,?_,H3,hB3,hKj.trans hK3⟩
      ·simp (disch:=omega) only [go_sem,f0]
      ·simp (disch:=omega) only [go_sem,f6]
      ·simp (disch:=omega) only [go_sem,f7]
      ·simp (disch:=omega) only [go_sem,f34]
      ·simp (disch:=omega) only [go_sem,f35]
      ·simp (disch:=omega) only [go_sem]
    ·have hjl:j=set.length:=by omega
     subst hjl
     rw [List.take_length] at hBj
     simp (disch:=omega) only [go_sem,f0,f6,f7,f34,f35,f36,hlt]
     have hP:partB (.mk 2 set sub a b) st=(⟨s2.A.set st.len (set.map fun r=>(r.1,r.2,(st.push.len:Int))),s2.E⟩,st.push.len):=by
      rw [hs2p]
     rw [hP]
     exact ⟨_,rfl,rfl,H',hBj,hKj⟩
   ·refine ⟨by omega,?_,?_,?_,?_,?_,?_,H2,?_,((Keeps.push σ H _).trans hK1).trans hK2⟩
    ·simp (disch:=omega) only [go_sem]
    ·simp (disch:=omega) only [go_sem]
    ·simp (disch:=omega) only [go_sem]
    ·simp (disch:=omega) only [go_sem]
    ·simp (disch:=omega) only [go_sem]
    ·simp (disch:=omega) only [go_sem]
    ·have:s2.A.set st.len []=s2.A:=by
      rw [← hr0,List.getD_eq_getElem?_getD,List.getElem?_eq_getElem hfl];simp
     simpa [this] using hB2
  by_cases k3:k=3
  ·subst k3
   simp (disch:=omega) only [go_sem,hb1]
   have hit:items (.mk 3 set sub a b)=sub:=rfl
   rw [hit] at hsz
   have hsl:=sum_len sub h4
   have hP:(partB (.mk 3 set sub a b) st)=(((chainB (Pat.partsB sub) st.push st.len st.len).1.push.free (lastD (chainB (Pat.partsB sub) st.push st.len st.len).2.1 st.len) (chainB (Pat.partsB sub) st.push st.len st.len).1.len),(chainB (Pat.partsB sub) st.push st.len st.len).1.len):=rfl
   generalize hC:chainB (Pat.partsB sub) st.push st.len st.len=C at hP
   refine wL_ind (fun (j:Nat) fr σ'=>j≤sub.length∧fr 0=.ptr p 0∧fr 6=.d (.int .i64 st.len)∧fr 65=.d (.list 5 (sub.map nodeD))∧fr 66=.d (.int .i64 sub.length)∧fr 67=.d (.int .i64 j) ∧
    ∃ (stj:St) (aj fj:Nat) (H':Nat→Prop),fr 10=.d (.int .i64 aj)∧Bld σ' p stj H'∧Okb stj∧Keeps σ H σ' H'∧aj<stj.A.length∧stj.A.length+((sub.drop j).map sz).sum+1≤1000000 ∧
     C.1=(chainB (Pat.partsB (sub.drop j)) stj aj fj).1∧lastD C.2.1 st.len=lastD (chainB (Pat.partsB (sub.drop j)) stj aj fj).2.1 aj) (fun j=>sub.length - j) ?_ 0 ?_
   ·rintro j fr σ' ⟨hj,f0,f6,f65,f66,f67,stj,aj,fj,H',f10,hBj,hOj,hKj,haj,hlj,hc1,hc2⟩ ih2
    by_cases hlt:j<sub.length
    ·obtain ⟨x,hx⟩:∃ x,x=sub.getD j default:=⟨_,rfl⟩
     have hxm:x∈sub:=by rw [hx];exact getD_mem sub j hlt
     have hd:=drop_cons sub j hlt
     rw [← hx] at hd
     rw [hd] at hlj hc1 hc2
     simp only [List.map_cons,List.sum_cons] at hlj
     have hpx:=part_len (h4 x hxm) hOj
     have hox:Okb (partB x stj).1∧stj.A.length<(partB x stj).1.A.length∧(partB x stj).2<(partB x stj).1.A.length:=part_ok (h4 x hxm) stj hOj
     simp (disch:=omega) only [go_sem,f0,f6,f10,f65,f66,f67,hlt,node_get,← hx,nodeD_eq,nodeC,apR]
     refine (ih x hxm (hBj.pushed _) hOj (by omega)).at ?_
     rintro v σa ⟨rfl,Ha,hBa,hKa⟩
     simp (disch:=omega) only [go_sem,f0,f10]
     refine (free49 hBa aj stj.len ?_ ?_).at ?_
     ·rw [hox.1.len,hpx.1];omega
     ·have:=hox.1.row aj;omega
     rintro v σb ⟨rfl,Hb,hBb,hKb⟩
     simp (disch:=omega) only [go_sem,f0,f67]
     refine ih2 (j+1) _ _ (by omega) ⟨by omega,?_,?_,?_,?_,?_,(partB x stj).1.free aj stj.len,(partB x stj).2,stj.len,Hb,?_,hBb,hox.1.free _ hox.2.1,?_,hox.2.2,?_,?_,?_⟩
     ·simp (disch:=omega) only [go_sem,f0]
     ·simp (disch:=omega) only [go_sem,f6]
     ·simp (disch:=omega) only [go_sem,f65]
     ·simp (disch:=omega) only [go_sem,f66]
     ·simp (disch:=omega) only [go_sem]
     ·simp (disch:=omega) only [go_sem]
     ·exact ((hKj.more _).trans hKa).trans hKb
     ·rw [free_lenA,hpx.1];omega
     ·rw [hc1];rfl
     ·rw [hc2];simp only [Pat.partsB,chainB,lastD_cons]
    ·have hjl:j=sub.length:=by omega
     subst hjl
     rw [List.drop_length] at hlj hc1 hc2
     simp only [Pat.partsB,chainB] at hc1 hc2
     simp only [List.map_nil,List.sum_nil] at hlj
     have hlas:lastD C.2.1 st.len=aj:=by rw [hc2];rfl
     rw [hlas,hc1] at hP
     have hpl:=push_len stj
     simp (disch:=omega) only [go_sem,f0,f6,f10,f65,f66,f67,hlt]
     refine (state48 hBj hOj.len (by omega)).at ?_
     rintro v σa ⟨rfl,Ha,hBa,hKa⟩
     simp (disch:=omega) only [go_sem,f0,f10]
     refine (free49 hBa aj stj.len ?_ ?_).at ?_
     ·rw [hOj.push.len];omega
     ·have:=hOj.push.row aj;omega
     rintro v σb ⟨rfl,Hb,hBb,hKb⟩
     simp (disch:=omega) only [go_sem,f6]
     refine ⟨_,rfl,?_,Hb,?_,(hKj.trans hKa).trans hKb⟩
     ·rw [hP]
     ·rw [hP];exact hBb
   ·have hO1c:=hO1
    refine ⟨by omega,?_,?_,?_,?_,?_,st.push,st.len,st.len,H1,?_,hB1,hO1,?_,?_,?_,?_,?_⟩
    ·simp (disch:=omega) only [go_sem]
    ·simp (disch:=omega) only [go_sem]
    ·simp (disch:=omega) only [go_sem]
    ·simp (disch:=omega) only [go_sem]
    ·simp (disch:=omega) only [go_sem]
    ·simp (disch:=omega) only [go_sem]
    ·exact (Keeps.push σ H _).trans hK1
    ·simp only [St.len];omega
    ·rw [List.drop_zero];omega
    ·rw [List.drop_zero,hC]
    ·rw [List.drop_zero,hC]
  by_cases k4:k=4
  ·subst k4
   have hl1:=lt_box hb1
   simp (disch:=omega) only [go_sem,hb1,stGet_left,apR]
   have hit:items (.mk 4 set sub a b)=sub:=rfl
   rw [hit] at hsz
   have hsl:=sum_len sub h4
   have hP:(partB (.mk 4 set sub a b) st)=(frees (fanB (Pat.partsB sub) st.push st.len).1.push (fanB (Pat.partsB sub) st.push st.len).2 (fanB (Pat.partsB sub) st.push st.len).1.len,(fanB (Pat.partsB sub) st.push st.len).1.len):=rfl
   generalize hC:fanB (Pat.partsB sub) st.push st.len=C at hP
   refine wL_ind (fun (j:Nat) fr σ'=>j≤sub.length∧fr 0=.ptr p 0∧fr 6=.d (.int .i64 st.len)∧fr 94=.d (.list 5 (sub.map nodeD))∧fr 95=.d (.int .i64 sub.length)∧fr 96=.d (.int .i64 j) ∧
    ∃ (stj:St) (m g:Nat) (qs:List Nat) (H':Nat→Prop),fr 16=.own m g 0 j∧stGet σ' m=.arr g ⟨1,3⟩ (qsD qs)∧qs.length=j∧σ.length≤m∧¬ H' m∧Bld σ' p stj H'∧Okb stj∧Keeps σ H σ' H'∧st.len<stj.A.length∧(∀ q,q∈qs→q<stj.A.length) ∧
     stj.A.length+((sub.drop j).map sz).sum+1≤1000000∧C.1=(fanB (Pat.partsB (sub.drop j)) stj st.len).1∧C.2=qs++(fanB (Pat.partsB (sub.drop j)) stj st.len).2) (fun j=>sub.length - j) ?_ 0 ?_
   ·rintro j fr σ' ⟨hj,f0,f6,f94,f95,f96,stj,m,g,qs,H',f16,hm,hql,hms,hmH,hBj,hOj,hKj,hsj,hqj,hlj,hc1,hc2⟩ ih2
    by_cases hlt:j<sub.length
    ·obtain ⟨x,hx⟩:∃ x,x=sub.getD j default:=⟨_,rfl⟩
     have hxm:x∈sub:=by rw [hx];exact getD_mem sub j hlt
     have hd:=drop_cons sub j hlt
     rw [← hx] at hd
     rw [hd] at hlj hc1 hc2
     simp only [List.map_cons,List.sum_cons] at hlj
     have hpx:=part_len (h4 x hxm) hOj
     have hox:Okb (partB x stj).1∧stj.A.length<(partB x stj).1.A.length∧(partB x stj).2<(partB x stj).1.A.length:=part_ok (h4 x hxm) stj hOj
     have hml:=lt_of_get hm (by simp)
     simp (disch:=omega) only [go_sem,f0,f6,f16,f94,f95,f96,hlt,node_get,← hx,nodeD_eq,nodeC,apR]
     refine (ih x hxm (hBj.pushed _) hOj (by omega)).at ?_
     rintro v σa ⟨rfl,Ha,hBa,hKa⟩
     have hm0:=(stGet_old σ' [Blk.box 39 (nodeF x)] hml).trans hm
     obtain ⟨hma,hmHa⟩:=hKa.stay hm0 (by simp) hmH
     simp (disch:=omega) only [go_sem,f0,f6]
     refine (free49 hBa st.len stj.len ?_ ?_).at ?_
     ·rw [hox.1.len,hpx.1];omega
     ·have:=hox.1.row st.len;omega
     rintro v σb ⟨rfl,Hb,hBb,hKb⟩
     obtain ⟨hmb,hmHb⟩:=hKb.stay hma (by simp) hmHa
     have hmlb:=lt_of_get hmb (by simp)
     have hqs:=qs_len qs
     have hcap:(j+1) * 8≤140737488355328:=by omega
     have hta:List.take j (qsD qs)=qsD qs:=List.take_of_length_le (by omega)
     have hwr:=IntKind.i64
     simp (disch:=omega) only [go_sem,f0,f16,f96,hmb,hqs,hql,hta,hcap,Nat.zero_add,Nat.le_refl,stGet_left,stSet_left,apR]
     refine ih2 (j+1) _ _ (by omega) ⟨by omega,?_,?_,?_,?_,?_,(partB x stj).1.free st.len stj.len,m,g+1,qs++[(partB x stj).2],Hb,?_,?_,by simp [hql],hms,hmHb,?_,hox.1.free _ hox.2.1,?_,?_,?_,?_,?_,?_⟩
     ·simp (disch:=omega) only [go_sem,f0]
     ·simp (disch:=omega) only [go_sem,f6]
     ·simp (disch:=omega) only [go_sem,f94]
     ·simp (disch:=omega) only [go_sem,f95]
     ·simp (disch:=omega) only [go_sem,f96]
     ·simp (disch:=omega) only [go_sem]
     ·rw [(own_turn _ _ hmlb).1];simp [qsD]
     ·exact hBb.keep (own_turn _ _ hmlb).2.2 fun k hk=>(own_turn _ _ hmlb).2.1 k (hBb.lt k hk) fun e=>hmHb (e ▸ hk)
     ·have hKk:=((hKj.more _).trans hKa).trans hKb
      exact hKk.turn (own_turn _ _ hmlb).2.2 fun k hk=>(own_turn _ _ hmlb).2.1 k (Nat.lt_of_lt_of_le hk hKk.len) (by omega)
     ·rw [free_lenA];omega
     ·intro q hq
      rw [free_lenA]
      rcases List.mem_append.1 hq with hq | hq
      ·have:=hqj q hq;omega
      ·rw [List.mem_singleton.1 hq];exact hox.2.2
     ·rw [free_lenA,hpx.1];omega
     ·rw [hc1];rfl
     ·rw [hc2];simp only [Pat.partsB,fanB,List.append_assoc,List.singleton_append]
    ·have hjl:j=sub.length:=by omega
     subst hjl
     rw [List.drop_length] at hlj hc1 hc2
     simp only [Pat.partsB,fanB,List.append_nil] at hc1 hc2
     simp only [List.map_nil,List.sum_nil] at hlj
     rw [hc1,hc2] at hP
     have hpl:=push_len stj
     have hml:=lt_of_get hm (by simp)
     simp (disch:=omega) only [go_sem,f0,f6,f16,f94,f95,f96,hlt]
     refine (state48 hBj hOj.len (by omega)).at ?_
     rintro v σa ⟨rfl,Ha,hBa,hKa⟩
     obtain ⟨hma,hmHa⟩:=hKa.stay hm (by simp) hmH
     have hqs:=qs_len qs
     simp (disch:=omega) only [go_sem,f16,hma,hqs,hql]
     refine wL_ind (fun (i:Nat) fr τ=>i≤sub.length∧fr 0=.ptr p 0∧fr 6=.d (.int .i64 st.len)∧fr 21=.d (.int .i64 stj.len)∧fr 117=.own m g 0 sub.length∧fr 118=.d (.int .i64 sub.length)∧fr 119=.d (.int .i64 i) ∧
      ∃ (sti:St) (H2:Nat→Prop),stGet τ m=.arr g ⟨1,3⟩ (qsD qs)∧¬ H2 m∧Bld τ p sti H2∧Okb sti∧Keeps σ H τ H2∧sti.A.length=stj.A.length+1∧frees stj.push qs stj.len=frees sti (qs.drop i) stj.len) (fun i=>sub.length - i) ?_ 0 ?_
     ·rintro i fr τ ⟨hi,f0,f6,f21,f117,f118,f119,sti,H2,hmt,hmH2,hBi,hOi,hKi,hil,hfi⟩ ih3
      by_cases hlti:i<sub.length
      ·have hq:qs.drop i=qs.getD i 0::qs.drop (i+1):=drop_cons qs i (by omega)
       have hqm:qs.getD i 0∈qs:=by rw [List.getD_eq_getElem?_getD,List.getElem?_eq_getElem (by omega)];exact List.getElem_mem _
       have hqi:=hqj _ hqm
       have hgt:=qs_get qs i (by omega)
       rw [hq] at hfi
       generalize qs.getD i 0=q at *
       simp (disch:=omega) only [go_sem,f0,f6,f21,f117,f118,f119,hlti,hmt,hgt,Nat.zero_add,qs_len,hql]
       refine (free49 hBi q stj.len ?_ ?_).at ?_
       ·rw [hOi.len,hil];omega
       ·have:=hOi.row q;omega
       rintro v σb ⟨rfl,Hb,hBb,hKb⟩
       obtain ⟨hmb,hmHb⟩:=hKb.stay hmt (by simp) hmH2
       simp (disch:=omega) only [go_sem,f119]
       refine ih3 (i+1) _ _ (by omega) ⟨by omega,?_,?_,?_,?_,?_,?_,sti.free q stj.len,Hb,hmb,hmHb,hBb,hOi.free _ (by simp only [St.len];omega),hKi.trans hKb,by rw [free_lenA,hil],hfi⟩
       ·simp (disch:=omega) only [go_sem,f0]
       ·simp (disch:=omega) only [go_sem,f6]
       ·simp (disch:=omega) only [go_sem,f21]
       ·simp (disch:=omega) only [go_sem,f117]
       ·simp (disch:=omega) only [go_sem,f118]
       ·simp (disch:=omega) only [go_sem]
      ·have hie:i=sub.length:=by omega
       subst hie
       rw [← hql,List.drop_length] at hfi
       simp (disch:=omega) only [go_sem,f6,f21,f118,f119,hlti]
       refine ⟨_,rfl,?_,H2,?_,hKi⟩
       ·rw [hP]
       ·rw [hP];show Bld τ p (frees stj.push qs stj.len) H2
        rw [hfi];exact hBi
     ·refine ⟨by omega,?_,?_,?_,?_,?_,?_,stj.push,Ha,hma,hmHa,hBa,hOj.push,hKj.trans hKa,hpl,by rw [List.drop_zero]⟩
      ·simp (disch:=omega) only [go_sem,f0]
      ·simp (disch:=omega) only [go_sem,f6]
      ·simp (disch:=omega) only [go_sem]
      ·simp (disch:=omega) only [go_sem,f16]
      ·simp (disch:=omega) only [go_sem]
      ·simp (disch:=omega) only [go_sem]
   ·refine ⟨by omega,?_,?_,?_,?_,?_,st.push,σ1.length,0,[],H1,?_,?_,rfl,?_,?_,hB1.pushed _,hO1,?_,?_,?_,?_,?_,?_⟩
    ·simp (disch:=omega) only [go_sem]
    ·simp (disch:=omega) only [go_sem]
    ·simp (disch:=omega) only [go_sem]
    ·simp (disch:=omega) only [go_sem]
    ·simp (disch:=omega) only [go_sem]
    ·simp (disch:=omega) only [go_sem]
    ·simp [stGet,qsD]
    ·omega
    ·intro h;have:=hB1.lt _ h;omega
    ·exact ((Keeps.push σ H _).trans hK1).more _
    ·simp only [St.len];omega
    ·intro q hq;cases hq
    ·rw [List.drop_zero];omega
    ·rw [List.drop_zero,hC]
    ·rw [List.drop_zero,hC];rfl
  by_cases k5:k=5
  ·subst k5
   simp (disch:=omega) only [go_sem,hb1]
   obtain ⟨x,rfl,ha,hab⟩:=h3 rfl
   obtain ⟨A,rfl⟩:∃ A:Nat,a=A:=⟨a.toNat,by omega⟩
   have hsz5:sz (.mk 5 set [x] A b)=2+copies A b * sz x:=by rw [sz,if_pos rfl];rfl
   refine (repeat_one (ih x (by simp)) (h4 x (by simp)) set A b hab hB1 hO1 (s:=st.len) (by simp only [St.len];omega) (by omega)).at ?_
   rintro v σ2 ⟨rfl,H2,hB2,hK2⟩
   simp (disch:=omega) only [go_sem]
   exact ⟨_,rfl,rfl,H2,hB2,((Keeps.push σ H _).trans hK1).trans hK2⟩
  have k1:k=1:=by omega
  subst k1
  simp (disch:=omega) only [go_sem,hb1]
  refine (state48 hB1 hO1.len (by omega)).at ?_
  rintro v σ2 ⟨rfl,H2,hB2,hK2⟩
  simp (disch:=omega) only [go_sem]
  have hS2:st.push.push.A.length=st.A.length+2:=by rw [push_len,push_len]
  have hO2:=hO1.push
  refine (free49 hB2 st.len st.push.len ?_ ?_).at ?_
  ·rw [hO2.len,hS2];simp only [St.len];omega
  ·have:=hO2.row st.len;omega
  rintro v σ3 ⟨rfl,H3,hB3,hK3⟩
  simp (disch:=omega) only [go_sem]
  refine ⟨_,rfl,?_,H3,?_,?_⟩
  ·rw [show (partB (.mk 1 set sub a b) st)=(st.push.push.free st.len (st.len+1),st.len+1) from rfl,push_len']
  ·rw [show (partB (.mk 1 set sub a b) st)=(st.push.push.free st.len (st.len+1),st.len+1) from rfl,← push_len'];exact hB3
  ·exact (((Keeps.push σ H _).trans hK1).trans hK2).trans hK3
end Go.Proofs.YtfnddhbiolpmgaaGreatDoor
set_option linter.unusedVariables false
set_option linter.unusedSimpArgs false
set_option maxRecDepth 100000
namespace Go.Proofs.YtfnddhbiolpmgaaGreatDoor
open Go Nv Pat
theorem chk_kinds {k:Int} {s:List (Int × Int)} {l:List Tree} {a b:Int} (h:chk (.mk k s l a b)=0) :
  (k=1∨k=2∨k=3∨k=4∨k=5)∧(k=1∨k=2→l=[])∧(k=5→∃ x,l=[x]∧0≤a∧a≤20∧b≤20∧(0≤b→a≤b))∧∀ x,x∈l→chk x=0:=by
 obtain ⟨h1,h2,h3⟩:=chk_ok h
 have hk:k=1∨k=2∨k=3∨k=4∨k=5:=by simpa [kindB,or_assoc] using h1
 unfold badB at h2
 simp only [Bool.or_eq_false_iff,Bool.not_eq_false'] at h2
 have hp:=h2.1.1
 unfold partsB at hp
 refine ⟨hk,fun hk12=>?_,fun h5=>?_,chkL_mem h3⟩
 ·rcases hk12 with rfl | rfl
  ·rw [if_pos rfl] at hp
   simp at hp
   exact hp
  ·rw [if_neg (by omega),if_pos rfl] at hp
   simp at hp
   exact hp.1
 ·subst h5
  rw [if_neg (by omega),if_neg (by omega),if_neg (by omega),if_neg (by omega)] at hp
  simp only [Bool.and_eq_true,Bool.or_eq_true,decide_eq_true_eq] at hp
  obtain ⟨⟨⟨q1,q2⟩,q3⟩,q4⟩:=hp
  match l,q1 with
  | [x],_=>exact ⟨x,rfl,q2,q3,by omega,fun hb=>by omega⟩
  | [],q1=>simp at q1
  | _::_::_,q1=>simp at q1;omega
theorem chk_wf:∀ n:Tree,chk n=0→WF n:=by
 intro n
 induction n using Tree.ind with
 | h k s l a b ih =>
  intro h
  obtain ⟨h1,h2,h3,h4⟩:=chk_kinds h
  exact .mk h1 h2 (fun h5=>let ⟨x,e,q1,_,_,q2⟩:=h3 h5;⟨x,e,q1,q2⟩) fun x hx=>ih x hx (h4 x hx)
theorem thin_sets:∀ n:Tree,Thin n→SetsOk n:=by
 intro n
 induction n using Tree.ind with
 | h k s l a b ih =>
  intro h
  simp only [Thin] at h
  exact .mk (by omega) fun x hx=>ih x hx (thinL_mem h.2 hx)
def szP (n:Tree):Nat:=2+min (sz n - 2) 3001
def szF (l:List Tree):Nat:=l.foldl (fun acc x=>min (acc+szP x) 3001) 0
theorem szF_eq:∀ (l:List Tree) (acc s:Nat),(∀ x,x∈l→2≤sz x)→acc=min s 3001→l.foldl (fun acc x=>min (acc+szP x) 3001) acc=min (s+(l.map sz).sum) 3001
 | [],acc,s,_,h=>by simpa using h
 | x::l,acc,s,h2,h=>by
  have hx:=h2 x (by simp)
  simp only [List.foldl_cons,List.map_cons,List.sum_cons]
  rw [szF_eq l _ (s+sz x) (fun y hy=>h2 y (by simp [hy])) (by rw [h,szP];omega)]
  congr 1;omega
theorem min_mul (s c:Nat):min (min s 3001 * c) 3001=min (s * c) 3001:=by
 rcases Nat.eq_zero_or_pos c with h | h
 ·subst h;simp
 ·rcases Nat.lt_or_ge s 3001 with h1 | h1
  ·rw [Nat.min_eq_left (by omega:s≤3001)]
  ·rw [Nat.min_eq_right h1]
   have h2:3001≤3001 * c:=Nat.le_mul_of_pos_right _ h
   have h3:3001 * c≤s * c:=Nat.mul_le_mul_right _ h1
   omega
theorem size24:∀ n:Tree,chk n=0→n.nodes≤1000000→PCall Tryz.prog 30 [nodeA n] (.d (.int .i64 (szP n))):=by
 intro n
 induction n using Tree.ind with
 | h k s sub a b ih =>
  intro hc hn
  obtain ⟨h1,h2,h3,h4⟩:=chk_kinds hc
  have hwf:=chk_wf _ hc
  have hnn:(Tree.mk k s sub a b).nodes=1+Tree.nodesL sub:=nodes_eq _
  have hsl:=length_nodesL sub
  have hsub:∀ x,x∈sub→2≤sz x:=fun x hx=>sz_two (chk_wf x (h4 x hx))
  refine fn30.pure noHint (Nat.le_refl _) (by simp only [go_sem,nodeA,nodeF,setD]) (by simp only [go_sem]) ?_
  simp (disch:=omega) only [go_sem,nodeA,nodeF,Tree.kind,Tree.set,Tree.sub,Tree.min,Tree.max,setD]
  refine wL_ind (fun (j:Nat) fr σ=>j≤sub.length∧fr 1=.ptr 0 0∧(∃ m:Nat,m=szF (sub.take j)∧m≤3001∧fr 3=.d (.int .i64 m))∧fr 7=.d (.list 5 (sub.map nodeD))∧fr 8=.d (.int .i64 sub.length)∧fr 9=.d (.int .i64 j) ∧
   ∃ τ,σ=.box 39 [.d (.int .i64 k),.d (.list 2 (s.map rgD)),.d (.list 5 (sub.map nodeD)),.d (.int .i64 a),.d (.int .i64 b)]::τ) (fun j=>sub.length - j) ?_ 0 ?_
  ·rintro j fr σ ⟨hj,f1,⟨m,hm,hm2,f3⟩,f7,f8,f9,τ,rfl⟩ ih2
   by_cases hlt:j<sub.length
   ·obtain ⟨x,hx⟩:∃ x,x=sub.getD j default:=⟨_,rfl⟩
    have hxm:x∈sub:=by rw [hx];exact getD_mem sub j hlt
    have hxn:=nodes_mem sub x hxm
    simp (disch:=omega) only [go_sem,f1,f3,f7,f8,f9,hlt,node_get,← hx,nodeD_eq,nodeC,apR]
    refine (ih x hxm (h4 x hxm) (by omega)).at ?_
    have hsz:szP x≤3003:=by unfold szP;omega
    have e3:(if (3001:Int)<(m:Int)+(szP x:Int) then (3001:Int) else (m:Int)+(szP x:Int))=((min (m+szP x) 3001:Nat):Int):=by split <;> omega
    have hj9:j+1≤1000000:=by omega
    simp (disch:=omega) only [go_sem,f1,f3,f7,f8,f9,hlt]
    refine ih2 (j+1) _ _ (by omega) ⟨by omega,?_,⟨min (m+szP x) 3001,?_,Nat.min_le_right _ _,?_⟩,?_,?_,?_,_,rfl⟩
    ·simp (disch:=omega) only [go_sem,f1]
    ·rw [take_succ' sub j hlt,szF,List.foldl_append,← hx,hm];rfl
    ·simp (disch:=omega) only [go_sem,e3]
    ·simp (disch:=omega) only [go_sem,f7]
    ·simp (disch:=omega) only [go_sem,f8]
    ·simp (disch:=omega) only [go_sem]
   ·have hjl:j=sub.length:=by omega
    rw [hjl,List.take_length] at hm
    have hm3:m=min (sub.map sz).sum 3001:=by rw [hm,szF,szF_eq sub 0 0 hsub rfl,Nat.zero_add]
    by_cases h5:k=5
    ·subst h5
     obtain ⟨x,hxs,ha,ha2,hb,hab⟩:=h3 rfl
     have hcp:=copies47 (.mk 5 s sub a b) ⟨by simp only [Tree.min];omega,by simp only [Tree.min];omega⟩ (by simp only [Tree.max];omega)
     simp only [Tree.min,Tree.max] at hcp
     have hc21:copies a b≤21:=by unfold copies;split <;> omega
     have hmc:m * copies a b≤3001 * 21:=Nat.mul_le_mul hm2 hc21
     have e4:(m:Int) * (copies a b:Int)=((m * copies a b:Nat):Int):=by rw [Int.natCast_mul]
     have e5:(if (3001:Int)<((m * copies a b:Nat):Int) then (3001:Int) else ((m * copies a b:Nat):Int))=((min (m * copies a b) 3001:Nat):Int):=by split <;> omega
     have e6:szP (.mk 5 s sub a b)=min (m * copies a b) 3001+2:=by
      unfold szP
      rw [sz,if_pos rfl,hm3,min_mul,hxs]
      simp [szs,Nat.mul_comm];omega
     simp (disch:=omega) only [go_sem,f1,f3,f7,f8,f9,hlt]
     refine hcp.at ?_
     simp (disch:=omega) only [go_sem,e4,e5,f3,e6]
    ·have e6:szP (.mk k s sub a b)=m+2:=by
      unfold szP
      rw [sz,if_neg h5,hm3,szs_map];omega
     simp (disch:=omega) only [go_sem,f1,f3,f7,f8,f9,hlt,h5,e6]
  ·refine ⟨by omega,?_,⟨0,rfl,by omega,?_⟩,?_,?_,?_,[],rfl⟩
   all_goals simp (disch:=omega) only [go_sem]
end Go.Proofs.YtfnddhbiolpmgaaGreatDoor
/- The prepared code of further functions. Written by a program of mine (gen.py) out of what the loaded dump prints. -/

set_option linter.unusedVariables false
set_option maxRecDepth 100000
namespace Go.Proofs.YtfnddhbiolpmgaaGreatDoor
open Go Nv
theorem fn32:FnIs Tryz.prog 32 1 [] (.seq (.region [⟨some 3,Go.Op.move (Go.Operand.tmp 0),84,none⟩,
   ⟨some 4,Go.Op.call { callee:=Go.Callee.builtin Go.Builtin.len,args:=#[Go.Operand.tmp 3],argTypes:=#[84] },3,none⟩,
   ⟨some 2,Go.Op.assign (Go.Operand.tmp 4),3,none⟩])
  (.region [⟨some 5,Go.Op.move (Go.Operand.tmp 0),84,none⟩,
   ⟨some 6,Go.Op.move (Go.Operand.tmp 2),3,none⟩,
   ⟨some 7,Go.Op.move (Go.Operand.tmp 2),3,none⟩,
   ⟨some 8,Go.Op.convert 3 56 (Go.Operand.tmp 7),56,none⟩,
   ⟨some 9,Go.Op.call { callee:=Go.Callee.value (Go.Operand.func 50),args:=#[Go.Operand.tmp 8],argTypes:=#[56] },3,none⟩,
   ⟨some 10,Go.Op.call { callee:=Go.Callee.value (Go.Operand.func 49),args:=#[Go.Operand.tmp 5,Go.Operand.const (Go.Value.int Go.IntKind.i64 0),Go.Operand.tmp 6,Go.Operand.tmp 9],argTypes:=#[84,3,3,3] },0,none⟩])) :=
 ⟨foll,Tryz.f32,Tryz.func32,by kernel_rfl,by kernel_rfl,by kernel_rfl,by rw [Tryz.ntmps32];decide⟩
theorem fn49:FnIs Tryz.prog 49 4 [] (.seq (.region [⟨some 8,Go.Op.assign (Go.Operand.const (Go.Value.bool true)),4,none⟩])
  (.seq (.region [⟨some 9,Go.Op.assign (Go.Operand.const (Go.Value.bool true)),4,none⟩])
  (.block 0
   (.loop
    (.block 1
     (.seq (.region [⟨some 19,Go.Op.move (Go.Operand.tmp 2),3,none⟩,
      ⟨some 20,Go.Op.move (Go.Operand.tmp 1),3,none⟩,
      ⟨some 21,Go.Op.binOp Go.BinOp.sub 3 (Go.Operand.tmp 19) (Go.Operand.tmp 20) 3,3,none⟩,
      ⟨some 10,Go.Op.assign (Go.Operand.tmp 21),3,none⟩])
     (.seq (.seq (.region [⟨some 22,Go.Op.move (Go.Operand.tmp 10),3,none⟩,
      ⟨some 23,Go.Op.binOp Go.BinOp.leq 3 (Go.Operand.tmp 22) (Go.Operand.const (Go.Value.int Go.IntKind.i64 12)) 3,4,none⟩])
     (.cond (Go.Operand.tmp 23)
      (.seq (.region [⟨some 24,Go.Op.move (Go.Operand.tmp 0),84,none⟩,
       ⟨some 25,Go.Op.move (Go.Operand.tmp 1),3,none⟩,
       ⟨some 26,Go.Op.move (Go.Operand.tmp 2),3,none⟩,
       ⟨some 27,Go.Op.call { callee:=Go.Callee.value (Go.Operand.func 63),args:=#[Go.Operand.tmp 24,Go.Operand.tmp 25,Go.Operand.tmp 26],argTypes:=#[84,3,3] },0,none⟩])
      .ret)
      .skip))
     (.seq (.seq (.region [⟨some 28,Go.Op.move (Go.Operand.tmp 3),3,none⟩,
      ⟨some 29,Go.Op.binOp Go.BinOp.eql 3 (Go.Operand.tmp 28) (Go.Operand.const (Go.Value.int Go.IntKind.i64 0)) 3,4,none⟩])
     (.cond (Go.Operand.tmp 29)
      (.seq (.region [⟨some 30,Go.Op.move (Go.Operand.tmp 0),84,none⟩,
       ⟨some 31,Go.Op.move (Go.Operand.tmp 1),3,none⟩,
       ⟨some 32,Go.Op.move (Go.Operand.tmp 2),3,none⟩,
       ⟨some 33,Go.Op.call { callee:=Go.Callee.value (Go.Operand.func 64),args:=#[Go.Operand.tmp 30,Go.Operand.tmp 31,Go.Operand.tmp 32],argTypes:=#[84,3,3] },0,none⟩])
      .ret)
      .skip))
     (.seq (.seq (.region [⟨some 34,Go.Op.move (Go.Operand.tmp 8),4,none⟩,
      ⟨some 35,Go.Op.unOp Go.UnOp.not 4 (Go.Operand.tmp 34),4,none⟩])
     (.cond (Go.Operand.tmp 35)
      (.seq (.region [⟨some 36,Go.Op.move (Go.Operand.tmp 0),84,none⟩,
       ⟨some 37,Go.Op.move (Go.Operand.tmp 1),3,none⟩,
       ⟨some 38,Go.Op.move (Go.Operand.tmp 2),3,none⟩,
       ⟨some 39,Go.Op.call { callee:=Go.Callee.value (Go.Operand.func 65),args:=#[Go.Operand.tmp 36,Go.Operand.tmp 37,Go.Operand.tmp 38],argTypes:=#[84,3,3] },0,none⟩])
      (.region [⟨some 40,Go.Op.move (Go.Operand.tmp 3),3,none⟩,
       ⟨some 41,Go.Op.binOp Go.BinOp.sub 3 (Go.Operand.tmp 40) (Go.Operand.const (Go.Value.int Go.IntKind.i64 1)) 3,3,none⟩,
       ⟨some 3,Go.Op.assign (Go.Operand.tmp 41),3,none⟩]))
      .skip))
     (.seq (.region [⟨some 43,Go.Op.move (Go.Operand.tmp 0),84,none⟩,
      ⟨some 44,Go.Op.move (Go.Operand.tmp 1),3,none⟩,
      ⟨some 45,Go.Op.move (Go.Operand.tmp 2),3,none⟩,
      ⟨some 46,Go.Op.call { callee:=Go.Callee.value (Go.Operand.func 66),args:=#[Go.Operand.tmp 43,Go.Operand.tmp 44,Go.Operand.tmp 45],argTypes:=#[84,3,3] },130,none⟩,
      ⟨some 42,Go.Op.move (Go.Operand.tmp 46),130,none⟩,
      ⟨some 47,Go.Op.extract (Go.Operand.tmp 42) 0,3,none⟩,
      ⟨some 48,Go.Op.extract (Go.Operand.tmp 42) 1,129,none⟩,
      ⟨some 11,Go.Op.assign (Go.Operand.tmp 47),3,none⟩,
      ⟨some 12,Go.Op.assign (Go.Operand.tmp 48),129,none⟩])
     (.seq (.seq (.region [⟨some 49,Go.Op.move (Go.Operand.tmp 12),129,none⟩,
      ⟨some 50,Go.Op.binOp Go.BinOp.eql 129 (Go.Operand.tmp 49) (Go.Operand.const (Go.Value.int Go.IntKind.i64 2)) 129,4,none⟩])
     (.cond (Go.Operand.tmp 50)
      (.seq (.region [⟨some 51,Go.Op.move (Go.Operand.tmp 0),84,none⟩,
       ⟨some 52,Go.Op.move (Go.Operand.tmp 1),3,none⟩,
       ⟨some 53,Go.Op.move (Go.Operand.tmp 2),3,none⟩,
       ⟨some 54,Go.Op.call { callee:=Go.Callee.value (Go.Operand.func 67),args:=#[Go.Operand.tmp 51,Go.Operand.tmp 52,Go.Operand.tmp 53],argTypes:=#[84,3,3] },0,none⟩])
      (.seq (.region [⟨some 55,Go.Op.move (Go.Operand.tmp 2),3,none⟩,
       ⟨some 56,Go.Op.binOp Go.BinOp.sub 3 (Go.Operand.tmp 55) (Go.Operand.const (Go.Value.int Go.IntKind.i64 1)) 3,3,none⟩,
       ⟨some 57,Go.Op.move (Go.Operand.tmp 11),3,none⟩,
       ⟨some 58,Go.Op.move (Go.Operand.tmp 1),3,none⟩,
       ⟨some 59,Go.Op.binOp Go.BinOp.sub 3 (Go.Operand.tmp 57) (Go.Operand.tmp 58) 3,3,none⟩,
       ⟨some 60,Go.Op.binOp Go.BinOp.sub 3 (Go.Operand.tmp 56) (Go.Operand.tmp 59) 3,3,none⟩,
       ⟨some 11,Go.Op.assign (Go.Operand.tmp 60),3,none⟩])
      (.region [⟨some 12,Go.Op.assign (Go.Operand.const (Go.Value.int Go.IntKind.i64 1)),129,none⟩])))
      .skip))
     (.seq (.seq (.region [⟨some 61,Go.Op.move (Go.Operand.tmp 8),4,none⟩,
      ⟨some 62,Go.Op.move (Go.Operand.tmp 61),4,none⟩,
      ⟨some 63,Go.Op.move (Go.Operand.tmp 9),4,(some (62,true))⟩,
      ⟨some 64,Go.Op.pick (Go.Operand.tmp 62) (Go.Operand.tmp 63) (Go.Operand.const (Go.Value.bool false)),4,none⟩,
      ⟨some 65,Go.Op.move (Go.Operand.tmp 64),4,none⟩,
      ⟨some 66,Go.Op.move (Go.Operand.tmp 12),129,(some (65,true))⟩,
      ⟨some 67,Go.Op.binOp Go.BinOp.eql 129 (Go.Operand.tmp 66) (Go.Operand.const (Go.Value.int Go.IntKind.i64 1)) 129,4,(some (65,true))⟩,
      ⟨some 68,Go.Op.pick (Go.Operand.tmp 65) (Go.Operand.tmp 67) (Go.Operand.const (Go.Value.bool false)),4,none⟩])
     (.cond (Go.Operand.tmp 68)
      (.seq (.region [⟨some 69,Go.Op.move (Go.Operand.tmp 0),84,none⟩,
       ⟨some 70,Go.Op.move (Go.Operand.tmp 1),3,none⟩,
       ⟨some 71,Go.Op.move (Go.Operand.tmp 2),3,none⟩,
       ⟨some 72,Go.Op.call { callee:=Go.Callee.value (Go.Operand.func 68),args:=#[Go.Operand.tmp 69,Go.Operand.tmp 70,Go.Operand.tmp 71],argTypes:=#[84,3,3] },4,none⟩])
      (.cond (Go.Operand.tmp 72)
       .ret
       .skip))
      .skip))
     (.seq (.seq (.draw true [⟨⟨some 73,Go.Op.move (Go.Operand.tmp 1),3,none⟩,false,false,false⟩,
      ⟨⟨some 74,Go.Op.binOp Go.BinOp.gtr 3 (Go.Operand.tmp 73) (Go.Operand.const (Go.Value.int Go.IntKind.i64 0)) 3,4,none⟩,false,false,false⟩,
      ⟨⟨some 75,Go.Op.move (Go.Operand.tmp 74),4,none⟩,false,false,false⟩,
      ⟨⟨some 76,Go.Op.move (Go.Operand.tmp 0),84,(some (75,true))⟩,false,false,false⟩,
      ⟨⟨some 77,Go.Op.move (Go.Operand.tmp 1),3,(some (75,true))⟩,false,false,false⟩,
      ⟨⟨some 78,Go.Op.binOp Go.BinOp.sub 3 (Go.Operand.tmp 77) (Go.Operand.const (Go.Value.int Go.IntKind.i64 1)) 3,3,(some (75,true))⟩,false,false,false⟩,
      ⟨⟨some 79,Go.Op.indexAddr 84 (Go.Operand.tmp 76) (Go.Operand.tmp 78),0,(some (75,true))⟩,false,false,false⟩,
      ⟨⟨some 80,Go.Op.load 3 (Go.Operand.tmp 79),3,(some (75,true))⟩,false,false,false⟩,
      ⟨⟨some 81,Go.Op.move (Go.Operand.tmp 0),84,(some (75,true))⟩,false,false,false⟩,
      ⟨⟨some 82,Go.Op.move (Go.Operand.tmp 11),3,(some (75,true))⟩,false,false,false⟩,
      ⟨⟨some 83,Go.Op.indexAddr 84 (Go.Operand.tmp 81) (Go.Operand.tmp 82),0,(some (75,true))⟩,false,false,false⟩,
      ⟨⟨some 84,Go.Op.load 3 (Go.Operand.tmp 83),3,(some (75,true))⟩,false,false,false⟩,
      ⟨⟨some 85,Go.Op.call { callee:=Go.Callee.value (Go.Operand.func 69),args:=#[Go.Operand.tmp 80,Go.Operand.tmp 84],argTypes:=#[3,3] },4,(some (75,true))⟩,false,false,false⟩,
      ⟨⟨some 86,Go.Op.unOp Go.UnOp.not 4 (Go.Operand.tmp 85),4,(some (75,true))⟩,false,false,false⟩,
      ⟨⟨some 87,Go.Op.pick (Go.Operand.tmp 75) (Go.Operand.tmp 86) (Go.Operand.const (Go.Value.bool false)),4,none⟩,false,false,false⟩] [[],[0],[0,1],[0,1,2],[0,1,2],[0,1,2,4],[0,1,2,3,4,5],[0,1,2,3,4,5,6],[0,1,2],[0,1,2],[0,1,2,8,9],[0,1,2,8,9,10],[0,1,2,3,4,5,6,7,8,9,10,11],[0,1,2,3,4,5,6,7,8,9,10,11,12],[0,1,2,3,4,5,6,7,8,9,10,11,12,13]])
     (.cond (Go.Operand.tmp 87)
      (.seq (.region [⟨some 88,Go.Op.move (Go.Operand.tmp 0),84,none⟩,
       ⟨some 89,Go.Op.move (Go.Operand.tmp 1),3,none⟩,
       ⟨some 90,Go.Op.move (Go.Operand.tmp 2),3,none⟩,
       ⟨some 91,Go.Op.move (Go.Operand.tmp 11),3,none⟩,
       ⟨some 92,Go.Op.call { callee:=Go.Callee.value (Go.Operand.func 70),args:=#[Go.Operand.tmp 88,Go.Operand.tmp 89,Go.Operand.tmp 90,Go.Operand.tmp 91],argTypes:=#[84,3,3,3] },3,none⟩,
       ⟨some 13,Go.Op.assign (Go.Operand.tmp 92),3,none⟩])
      (.seq (.region [⟨some 93,Go.Op.move (Go.Operand.tmp 13),3,none⟩,
       ⟨some 1,Go.Op.assign (Go.Operand.tmp 93),3,none⟩])
      (.exit 1)))
      .skip))
     (.seq (.region [⟨some 95,Go.Op.move (Go.Operand.tmp 0),84,none⟩,
      ⟨some 96,Go.Op.move (Go.Operand.tmp 1),3,none⟩,
      ⟨some 97,Go.Op.move (Go.Operand.tmp 2),3,none⟩,
      ⟨some 98,Go.Op.move (Go.Operand.tmp 11),3,none⟩,
      ⟨some 99,Go.Op.call { callee:=Go.Callee.value (Go.Operand.func 71),args:=#[Go.Operand.tmp 95,Go.Operand.tmp 96,Go.Operand.tmp 97,Go.Operand.tmp 98],argTypes:=#[84,3,3,3] },135,none⟩,
      ⟨some 94,Go.Op.move (Go.Operand.tmp 99),135,none⟩,
      ⟨some 100,Go.Op.extract (Go.Operand.tmp 94) 0,3,none⟩,
      ⟨some 101,Go.Op.extract (Go.Operand.tmp 94) 1,4,none⟩,
      ⟨some 14,Go.Op.assign (Go.Operand.tmp 100),3,none⟩,
      ⟨some 15,Go.Op.assign (Go.Operand.tmp 101),4,none⟩])
     (.seq (.region [⟨some 102,Go.Op.move (Go.Operand.tmp 15),4,none⟩,
      ⟨some 9,Go.Op.assign (Go.Operand.tmp 102),4,none⟩])
     (.seq (.region [⟨some 103,Go.Op.move (Go.Operand.tmp 14),3,none⟩,
      ⟨some 104,Go.Op.move (Go.Operand.tmp 1),3,none⟩,
      ⟨some 105,Go.Op.binOp Go.BinOp.sub 3 (Go.Operand.tmp 103) (Go.Operand.tmp 104) 3,3,none⟩,
      ⟨some 106,Go.Op.move (Go.Operand.tmp 2),3,none⟩,
      ⟨some 107,Go.Op.move (Go.Operand.tmp 14),3,none⟩,
      ⟨some 108,Go.Op.binOp Go.BinOp.sub 3 (Go.Operand.tmp 106) (Go.Operand.tmp 107) 3,3,none⟩,
      ⟨some 16,Go.Op.assign (Go.Operand.tmp 105),3,none⟩,
      ⟨some 17,Go.Op.assign (Go.Operand.tmp 108),3,none⟩])
     (.seq (.region [⟨some 109,Go.Op.move (Go.Operand.tmp 10),3,none⟩,
      ⟨some 110,Go.Op.binOp Go.BinOp.quo 3 (Go.Operand.tmp 109) (Go.Operand.const (Go.Value.int Go.IntKind.i64 8)) 3,3,none⟩,
      ⟨some 18,Go.Op.assign (Go.Operand.tmp 110),3,none⟩])
     (.seq (.region [⟨some 111,Go.Op.move (Go.Operand.tmp 16),3,none⟩,
      ⟨some 112,Go.Op.move (Go.Operand.tmp 17),3,none⟩,
      ⟨some 113,Go.Op.binOp Go.BinOp.lss 3 (Go.Operand.tmp 111) (Go.Operand.tmp 112) 3,4,none⟩])
     (.cond (Go.Operand.tmp 113)
      (.seq (.region [⟨some 114,Go.Op.move (Go.Operand.tmp 16),3,none⟩,
       ⟨some 115,Go.Op.move (Go.Operand.tmp 18),3,none⟩,
       ⟨some 116,Go.Op.binOp Go.BinOp.geq 3 (Go.Operand.tmp 114) (Go.Operand.tmp 115) 3,4,none⟩,
       ⟨some 8,Go.Op.assign (Go.Operand.tmp 116),4,none⟩])
      (.seq (.region [⟨some 117,Go.Op.move (Go.Operand.tmp 0),84,none⟩,
       ⟨some 118,Go.Op.move (Go.Operand.tmp 1),3,none⟩,
       ⟨some 119,Go.Op.move (Go.Operand.tmp 14),3,none⟩,
       ⟨some 120,Go.Op.move (Go.Operand.tmp 3),3,none⟩,
       ⟨some 121,Go.Op.call { callee:=Go.Callee.value (Go.Operand.func 49),args:=#[Go.Operand.tmp 117,Go.Operand.tmp 118,Go.Operand.tmp 119,Go.Operand.tmp 120],argTypes:=#[84,3,3,3] },0,none⟩])
      (.region [⟨some 122,Go.Op.move (Go.Operand.tmp 14),3,none⟩,
       ⟨some 123,Go.Op.binOp Go.BinOp.add 3 (Go.Operand.tmp 122) (Go.Operand.const (Go.Value.int Go.IntKind.i64 1)) 3,3,none⟩,
       ⟨some 1,Go.Op.assign (Go.Operand.tmp 123),3,none⟩])))
      (.seq (.region [⟨some 124,Go.Op.move (Go.Operand.tmp 17),3,none⟩,
       ⟨some 125,Go.Op.move (Go.Operand.tmp 18),3,none⟩,
       ⟨some 126,Go.Op.binOp Go.BinOp.geq 3 (Go.Operand.tmp 124) (Go.Operand.tmp 125) 3,4,none⟩,
       ⟨some 8,Go.Op.assign (Go.Operand.tmp 126),4,none⟩])
      (.seq (.region [⟨some 127,Go.Op.move (Go.Operand.tmp 0),84,none⟩,
       ⟨some 128,Go.Op.move (Go.Operand.tmp 14),3,none⟩,
       ⟨some 129,Go.Op.binOp Go.BinOp.add 3 (Go.Operand.tmp 128) (Go.Operand.const (Go.Value.int Go.IntKind.i64 1)) 3,3,none⟩,
       ⟨some 130,Go.Op.move (Go.Operand.tmp 2),3,none⟩,
       ⟨some 131,Go.Op.move (Go.Operand.tmp 3),3,none⟩,
       ⟨some 132,Go.Op.call { callee:=Go.Callee.value (Go.Operand.func 49),args:=#[Go.Operand.tmp 127,Go.Operand.tmp 129,Go.Operand.tmp 130,Go.Operand.tmp 131],argTypes:=#[84,3,3,3] },0,none⟩])
      (.region [⟨some 133,Go.Op.move (Go.Operand.tmp 14),3,none⟩,
       ⟨some 2,Go.Op.assign (Go.Operand.tmp 133),3,none⟩])))))))))))))))))))))) :=
 ⟨foll,Tryz.f49,Tryz.func49,by kernel_rfl,by kernel_rfl,by kernel_rfl,by rw [Tryz.ntmps49];decide⟩
theorem fn50:FnIs Tryz.prog 50 1 [Go.ResultVar.tmp 2] (.seq (.region [⟨some 2,Go.Op.assign (Go.Operand.const (Go.Value.int Go.IntKind.i64 0)),3,none⟩])
  (.seq (.cond (Go.Operand.const (Go.Value.bool false))
   (.seq (.region [⟨some 3,Go.Op.move (Go.Operand.tmp 0),56,none⟩,
    ⟨some 4,Go.Op.convert 56 64 (Go.Operand.tmp 3),64,none⟩,
    ⟨some 5,Go.Op.call { callee:=Go.Callee.value (Go.Operand.func 72),args:=#[Go.Operand.tmp 4],argTypes:=#[64] },3,none⟩,
    ⟨some 2,Go.Op.assign (Go.Operand.tmp 5),3,none⟩])
   .ret)
   .skip)
  (.seq (.region [⟨some 6,Go.Op.move (Go.Operand.tmp 0),56,none⟩,
   ⟨some 7,Go.Op.call { callee:=Go.Callee.value (Go.Operand.func 73),args:=#[Go.Operand.tmp 6],argTypes:=#[139] },3,none⟩,
   ⟨some 2,Go.Op.assign (Go.Operand.tmp 7),3,none⟩])
  .ret))) :=
 ⟨foll,Tryz.f50,Tryz.func50,by kernel_rfl,by kernel_rfl,by kernel_rfl,by rw [Tryz.ntmps50];decide⟩
theorem fn63:FnIs Tryz.prog 63 3 [] (.seq (.region [⟨some 8,Go.Op.move (Go.Operand.tmp 1),3,none⟩,
   ⟨some 9,Go.Op.binOp Go.BinOp.add 3 (Go.Operand.tmp 8) (Go.Operand.const (Go.Value.int Go.IntKind.i64 1)) 3,3,none⟩,
   ⟨some 6,Go.Op.assign (Go.Operand.tmp 9),3,none⟩])
  (.block 0
   (.loop
    (.seq (.seq (.region [⟨some 10,Go.Op.move (Go.Operand.tmp 6),3,none⟩,
     ⟨some 11,Go.Op.move (Go.Operand.tmp 2),3,none⟩,
     ⟨some 12,Go.Op.binOp Go.BinOp.lss 3 (Go.Operand.tmp 10) (Go.Operand.tmp 11) 3,4,none⟩])
    (.cond (Go.Operand.tmp 12)
     .skip
     (.exit 0)))
    (.seq (.block 1
     (.seq (.region [⟨some 15,Go.Op.move (Go.Operand.tmp 6),3,none⟩,
      ⟨some 7,Go.Op.assign (Go.Operand.tmp 15),3,none⟩])
     (.block 2
      (.loop
       (.seq (.seq (.draw true [⟨⟨some 16,Go.Op.move (Go.Operand.tmp 7),3,none⟩,false,false,false⟩,
        ⟨⟨some 17,Go.Op.move (Go.Operand.tmp 1),3,none⟩,false,false,false⟩,
        ⟨⟨some 18,Go.Op.binOp Go.BinOp.gtr 3 (Go.Operand.tmp 16) (Go.Operand.tmp 17) 3,4,none⟩,false,false,false⟩,
        ⟨⟨some 19,Go.Op.move (Go.Operand.tmp 18),4,none⟩,false,false,false⟩,
        ⟨⟨some 20,Go.Op.move (Go.Operand.tmp 0),84,(some (19,true))⟩,false,false,false⟩,
        ⟨⟨some 21,Go.Op.move (Go.Operand.tmp 7),3,(some (19,true))⟩,false,false,false⟩,
        ⟨⟨some 22,Go.Op.indexAddr 84 (Go.Operand.tmp 20) (Go.Operand.tmp 21),0,(some (19,true))⟩,false,false,false⟩,
        ⟨⟨some 23,Go.Op.load 3 (Go.Operand.tmp 22),3,(some (19,true))⟩,false,false,false⟩,
        ⟨⟨some 24,Go.Op.move (Go.Operand.tmp 0),84,(some (19,true))⟩,false,false,false⟩,
        ⟨⟨some 25,Go.Op.move (Go.Operand.tmp 7),3,(some (19,true))⟩,false,false,false⟩,
        ⟨⟨some 26,Go.Op.binOp Go.BinOp.sub 3 (Go.Operand.tmp 25) (Go.Operand.const (Go.Value.int Go.IntKind.i64 1)) 3,3,(some (19,true))⟩,false,false,false⟩,
        ⟨⟨some 27,Go.Op.indexAddr 84 (Go.Operand.tmp 24) (Go.Operand.tmp 26),0,(some (19,true))⟩,false,false,false⟩,
        ⟨⟨some 28,Go.Op.load 3 (Go.Operand.tmp 27),3,(some (19,true))⟩,false,false,false⟩,
        ⟨⟨some 29,Go.Op.call { callee:=Go.Callee.value (Go.Operand.func 69),args:=#[Go.Operand.tmp 23,Go.Operand.tmp 28],argTypes:=#[3,3] },4,(some (19,true))⟩,false,false,false⟩,
        ⟨⟨some 30,Go.Op.pick (Go.Operand.tmp 19) (Go.Operand.tmp 29) (Go.Operand.const (Go.Value.bool false)),4,none⟩,false,false,false⟩] [[],[],[0,1],[0,1,2],[0,1,2,3],[0,1,2,3],[0,1,2,3,4,5],[0,1,2,3,4,5,6],[0,1,2,3],[0,1,2,3],[0,1,2,3,9],[0,1,2,3,8,9,10],[0,1,2,3,8,9,10,11],[0,1,2,3,4,5,6,7,8,9,10,11,12],[0,1,2,3,4,5,6,7,8,9,10,11,12,13]])
       (.cond (Go.Operand.tmp 30)
        .skip
        (.exit 2)))
       (.seq (.block 3
        (.draw true [⟨⟨some 33,Go.Op.move (Go.Operand.tmp 0),84,none⟩,false,false,false⟩,
         ⟨⟨some 34,Go.Op.move (Go.Operand.tmp 7),3,none⟩,false,false,false⟩,
         ⟨⟨some 35,Go.Op.move (Go.Operand.tmp 0),84,none⟩,false,false,true⟩,
         ⟨⟨some 36,Go.Op.move (Go.Operand.tmp 7),3,none⟩,false,false,true⟩,
         ⟨⟨some 37,Go.Op.binOp Go.BinOp.sub 3 (Go.Operand.tmp 36) (Go.Operand.const (Go.Value.int Go.IntKind.i64 1)) 3,3,none⟩,false,false,true⟩,
         ⟨⟨some 38,Go.Op.move (Go.Operand.tmp 0),84,none⟩,false,false,false⟩,
         ⟨⟨some 39,Go.Op.move (Go.Operand.tmp 7),3,none⟩,false,false,false⟩,
         ⟨⟨some 40,Go.Op.binOp Go.BinOp.sub 3 (Go.Operand.tmp 39) (Go.Operand.const (Go.Value.int Go.IntKind.i64 1)) 3,3,none⟩,false,false,false⟩,
         ⟨⟨some 41,Go.Op.indexAddr 84 (Go.Operand.tmp 38) (Go.Operand.tmp 40),0,none⟩,false,false,false⟩,
         ⟨⟨some 42,Go.Op.load 3 (Go.Operand.tmp 41),3,none⟩,false,false,false⟩,
         ⟨⟨some 43,Go.Op.move (Go.Operand.tmp 0),84,none⟩,false,false,false⟩,
         ⟨⟨some 44,Go.Op.move (Go.Operand.tmp 7),3,none⟩,false,false,false⟩,
         ⟨⟨some 45,Go.Op.indexAddr 84 (Go.Operand.tmp 43) (Go.Operand.tmp 44),0,none⟩,false,false,false⟩,
         ⟨⟨some 46,Go.Op.load 3 (Go.Operand.tmp 45),3,none⟩,false,false,false⟩,
         ⟨⟨some 47,Go.Op.indexAddr 84 (Go.Operand.tmp 33) (Go.Operand.tmp 34),0,none⟩,false,false,false⟩,
         ⟨⟨none,Go.Op.store 3 (Go.Operand.tmp 47) (Go.Operand.tmp 42),0,none⟩,true,false,false⟩,
         ⟨⟨some 48,Go.Op.indexAddr 84 (Go.Operand.tmp 35) (Go.Operand.tmp 37),0,none⟩,false,false,false⟩,
         ⟨⟨none,Go.Op.store 3 (Go.Operand.tmp 48) (Go.Operand.tmp 46),0,none⟩,true,false,false⟩] [[],[],[],[],[3],[],[],[6],[5,6,7],[5,6,7,8],[],[],[10,11],[10,11,12],[0,1,5,6,7,8,9,10,11,12,13],[0,1,5,6,7,8,9,10,11,12,13,14],[0,1,2,3,4,5,6,7,8,9,10,11,12,13,14,15],[0,1,2,3,4,5,6,7,8,9,10,11,12,13,14,15,16]]))
       (.region [⟨some 31,Go.Op.move (Go.Operand.tmp 7),3,none⟩,
        ⟨some 32,Go.Op.binOp Go.BinOp.sub 3 (Go.Operand.tmp 31) (Go.Operand.const (Go.Value.int Go.IntKind.i64 1)) 3,3,none⟩,
        ⟨some 7,Go.Op.assign (Go.Operand.tmp 32),3,none⟩])))))))
    (.region [⟨some 13,Go.Op.move (Go.Operand.tmp 6),3,none⟩,
     ⟨some 14,Go.Op.binOp Go.BinOp.add 3 (Go.Operand.tmp 13) (Go.Operand.const (Go.Value.int Go.IntKind.i64 1)) 3,3,none⟩,
     ⟨some 6,Go.Op.assign (Go.Operand.tmp 14),3,none⟩])))))) :=
 ⟨foll,Tryz.f63,Tryz.func63,by kernel_rfl,by kernel_rfl,by kernel_rfl,by rw [Tryz.ntmps63];decide⟩
theorem fn73:FnIs Tryz.prog 73 1 [Go.ResultVar.tmp 2] (.seq (.region [⟨some 2,Go.Op.assign (Go.Operand.const (Go.Value.int Go.IntKind.i64 0)),3,none⟩])
  (.seq (.seq (.region [⟨some 3,Go.Op.move (Go.Operand.tmp 0),139,none⟩,
   ⟨some 4,Go.Op.binOp Go.BinOp.geq 139 (Go.Operand.tmp 3) (Go.Operand.const (Go.Value.int Go.IntKind.u64 4294967296)) 139,4,none⟩])
  (.cond (Go.Operand.tmp 4)
   (.seq (.region [⟨some 5,Go.Op.move (Go.Operand.tmp 0),139,none⟩,
    ⟨some 6,Go.Op.binOp Go.BinOp.shr 139 (Go.Operand.tmp 5) (Go.Operand.const (Go.Value.int Go.IntKind.u64 32)) 56,139,none⟩,
    ⟨some 0,Go.Op.assign (Go.Operand.tmp 6),139,none⟩])
   (.region [⟨some 2,Go.Op.assign (Go.Operand.const (Go.Value.int Go.IntKind.i64 32)),3,none⟩]))
   .skip))
  (.seq (.seq (.region [⟨some 7,Go.Op.move (Go.Operand.tmp 0),139,none⟩,
   ⟨some 8,Go.Op.binOp Go.BinOp.geq 139 (Go.Operand.tmp 7) (Go.Operand.const (Go.Value.int Go.IntKind.u64 65536)) 139,4,none⟩])
  (.cond (Go.Operand.tmp 8)
   (.seq (.region [⟨some 9,Go.Op.move (Go.Operand.tmp 0),139,none⟩,
    ⟨some 10,Go.Op.binOp Go.BinOp.shr 139 (Go.Operand.tmp 9) (Go.Operand.const (Go.Value.int Go.IntKind.u64 16)) 56,139,none⟩,
    ⟨some 0,Go.Op.assign (Go.Operand.tmp 10),139,none⟩])
   (.region [⟨some 11,Go.Op.move (Go.Operand.tmp 2),3,none⟩,
    ⟨some 12,Go.Op.binOp Go.BinOp.add 3 (Go.Operand.tmp 11) (Go.Operand.const (Go.Value.int Go.IntKind.i64 16)) 3,3,none⟩,
    ⟨some 2,Go.Op.assign (Go.Operand.tmp 12),3,none⟩]))
   .skip))
  (.seq (.seq (.region [⟨some 13,Go.Op.move (Go.Operand.tmp 0),139,none⟩,
   ⟨some 14,Go.Op.binOp Go.BinOp.geq 139 (Go.Operand.tmp 13) (Go.Operand.const (Go.Value.int Go.IntKind.u64 256)) 139,4,none⟩])
  (.cond (Go.Operand.tmp 14)
   (.seq (.region [⟨some 15,Go.Op.move (Go.Operand.tmp 0),139,none⟩,
    ⟨some 16,Go.Op.binOp Go.BinOp.shr 139 (Go.Operand.tmp 15) (Go.Operand.const (Go.Value.int Go.IntKind.u64 8)) 56,139,none⟩,
    ⟨some 0,Go.Op.assign (Go.Operand.tmp 16),139,none⟩])
   (.region [⟨some 17,Go.Op.move (Go.Operand.tmp 2),3,none⟩,
    ⟨some 18,Go.Op.binOp Go.BinOp.add 3 (Go.Operand.tmp 17) (Go.Operand.const (Go.Value.int Go.IntKind.i64 8)) 3,3,none⟩,
    ⟨some 2,Go.Op.assign (Go.Operand.tmp 18),3,none⟩]))
   .skip))
  (.seq (.region [⟨some 19,Go.Op.move (Go.Operand.tmp 2),3,none⟩,
   ⟨some 20,Go.Op.move (Go.Operand.tmp 0),139,none⟩,
   ⟨some 21,Go.Op.convert 139 5 (Go.Operand.tmp 20),5,none⟩,
   ⟨some 22,Go.Op.index 9 (Go.Operand.const (Go.Value.string { data:=#[0,1,2,2,3,3,3,3,4,4,4,4,4,4,4,4,5,5,5,5,5,5,5,5,5,5,5,5,5,5,5,5,6,6,6,6,6,6,6,6,6,6,6,6,6,6,6,6,6,6,6,6,6,6,6,6,6,6,6,6,6,6,6,6,7,7,7,7,7,7,7,7,7,7,7,7,7,7,7,7,7,7,7,7,7,7,7,7,7,7,7,7,7,7,7,7,7,7,7,7,7,7,7,7,7,7,7,7,7,7,7,7,7,7,7,7,7,7,7,7,7,7,7,7,7,7,7,7,8,8,8,8,8,8,8,8,8,8,8,8,8,8,8,8,8,8,8,8,8,8,8,8,8,8,8,8,8,8,8,8,8,8,8,8,8,8,8,8,8,8,8,8,8,8,8,8,8,8,8,8,8,8,8,8,8,8,8,8,8,8,8,8,8,8,8,8,8,8,8,8,8,8,8,8,8,8,8,8,8,8,8,8,8,8,8,8,8,8,8,8,8,8,8,8,8,8,8,8,8,8,8,8,8,8,8,8,8,8,8,8,8,8,8,8,8,8,8,8,8,8,8,8,8,8,8,8] })) (Go.Operand.tmp 21),5,none⟩,
   ⟨some 23,Go.Op.convert 5 3 (Go.Operand.tmp 22),3,none⟩,
   ⟨some 24,Go.Op.binOp Go.BinOp.add 3 (Go.Operand.tmp 19) (Go.Operand.tmp 23) 3,3,none⟩,
   ⟨some 2,Go.Op.assign (Go.Operand.tmp 24),3,none⟩])
  .ret))))) :=
 ⟨foll,Tryz.f73,Tryz.func73,by kernel_rfl,by kernel_rfl,by kernel_rfl,by rw [Tryz.ntmps73];decide⟩
end Go.Proofs.YtfnddhbiolpmgaaGreatDoor
/- The laying of slices.Sort for numbers in this program. -/





set_option linter.unusedVariables false
set_option maxRecDepth 100000
namespace Go.Proofs.YtfnddhbiolpmgaaGreatDoor
open Go.Shelf
def Tryz.lays189_ren:Go.Shelf.Ren:=⟨fun | 189=>32 | 125=>50 | 257=>49 | 128=>72 | 129=>73 | 294=>63 | 295=>64 | 296=>65 | 297=>66 | 298=>67 | 299=>68 | 216=>69 | 300=>70 | 301=>71 | 328=>86 | 329=>87 | 330=>88 | 331=>89 | 332=>90 | 215=>91 | 343=>98 | n=>n,fun | 28=>84 | 3=>3 | 46=>56 | 0=>0 | 51=>64 | 53=>139 | 4=>4 | 183=>130 | 182=>129 | 131=>135 | 5=>5 | 9=>9 | 218=>148 | 222=>152 | 228=>159 | 229=>82 | n=>n,fun | n=>n⟩
theorem Tryz.lays189:Go.Proofs.Lays.n189 Tryz.prog Tryz.lays189_ren where
 mixed:=by kernel_rfl
 f125:=Tryz.func50.trans (congrArg some (by kernel_rfl))
 f128:=Tryz.func72.trans (congrArg some (by kernel_rfl))
 f129:=Tryz.func73.trans (congrArg some (by kernel_rfl))
 f189:=Tryz.func32.trans (congrArg some (by kernel_rfl))
 f215:=Tryz.func91.trans (congrArg some (by kernel_rfl))
 f216:=Tryz.func69.trans (congrArg some (by kernel_rfl))
 f257:=Tryz.func49.trans (congrArg some (by kernel_rfl))
 f294:=Tryz.func63.trans (congrArg some (by kernel_rfl))
 f295:=Tryz.func64.trans (congrArg some (by kernel_rfl))
 f296:=Tryz.func65.trans (congrArg some (by kernel_rfl))
 f297:=Tryz.func66.trans (congrArg some (by kernel_rfl))
 f298:=Tryz.func67.trans (congrArg some (by kernel_rfl))
 f299:=Tryz.func68.trans (congrArg some (by kernel_rfl))
 f300:=Tryz.func70.trans (congrArg some (by kernel_rfl))
 f301:=Tryz.func71.trans (congrArg some (by kernel_rfl))
 f328:=Tryz.func86.trans (congrArg some (by kernel_rfl))
 f329:=Tryz.func87.trans (congrArg some (by kernel_rfl))
 f330:=Tryz.func88.trans (congrArg some (by kernel_rfl))
 f331:=Tryz.func89.trans (congrArg some (by kernel_rfl))
 f332:=Tryz.func90.trans (congrArg some (by kernel_rfl))
 f343:=Tryz.func98.trans (congrArg some (by kernel_rfl))
 t0:=Tryz.underlying0
 a0:=Tryz.isAgg0
 z0:=Tryz.sizeOf0
 v0:=Tryz.zeroValue0
 t3:=Tryz.underlying3
 a3:=Tryz.isAgg3
 z3:=Tryz.sizeOf3
 v3:=Tryz.zeroValue3
 t4:=Tryz.underlying4
 a4:=Tryz.isAgg4
 z4:=Tryz.sizeOf4
 v4:=Tryz.zeroValue4
 t5:=Tryz.underlying5
 a5:=Tryz.isAgg5
 z5:=Tryz.sizeOf5
 v5:=Tryz.zeroValue5
 t9:=Tryz.underlying9
 a9:=Tryz.isAgg9
 z9:=Tryz.sizeOf9
 v9:=Tryz.zeroValue9
 t28:=Tryz.underlying84
 a28:=Tryz.isAgg84
 z28:=Tryz.sizeOf84
 v28:=Tryz.zeroValue84
 t46:=Tryz.underlying56
 a46:=Tryz.isAgg56
 z46:=Tryz.sizeOf56
 v46:=Tryz.zeroValue56
 t51:=Tryz.underlying64
 a51:=Tryz.isAgg64
 z51:=Tryz.sizeOf64
 v51:=Tryz.zeroValue64
 t53:=Tryz.underlying139
 a53:=Tryz.isAgg139
 z53:=Tryz.sizeOf139
 v53:=Tryz.zeroValue139
 t131:=Tryz.underlying135
 a131:=Tryz.isAgg135
 z131:=Tryz.sizeOf135
 v131:=Tryz.zeroValue135
 t182:=Tryz.underlying129
 a182:=Tryz.isAgg129
 z182:=Tryz.sizeOf129
 v182:=Tryz.zeroValue129
 t183:=Tryz.underlying130
 a183:=Tryz.isAgg130
 z183:=Tryz.sizeOf130
 v183:=Tryz.zeroValue130
 t218:=Tryz.underlying148
 a218:=Tryz.isAgg148
 z218:=Tryz.sizeOf148
 v218:=Tryz.zeroValue148
 t222:=Tryz.underlying152
 a222:=Tryz.isAgg152
 z222:=Tryz.sizeOf152
 v222:=Tryz.zeroValue152
 t228:=Tryz.underlying159
 a228:=Tryz.isAgg159
 z228:=Tryz.sizeOf159
 v228:=Tryz.zeroValue159
 t229:=Tryz.underlying82
 a229:=Tryz.isAgg82
 z229:=Tryz.sizeOf82
 v229:=Tryz.zeroValue82
end Go.Proofs.YtfnddhbiolpmgaaGreatDoor
/- A slice of the call's own,written anew in place by a function of the library. -/

set_option linter.unusedVariables false
set_option linter.unusedSimpArgs false
namespace Nv
open Go Go.RowKit
section
variable {P:Program} {ρ ρ':RHO} {σ σ':ST} {I I':Nat→Prop} {w w':World}
theorem own_anew (hr:RS P ρ I w σ) {b g B:Nat} {e:ET} {xs ys:List DV} (hsb:σ[b]? = some (.arr g e xs)) (hB:(ρ b).blk=some B) (hl:ys.length=xs.length) (hyu:∀ y,y∈ys→Uni e y) {us':Array Value}
  (hE:Ext w w') (hold:∀ c,c<w.heap.size→c≠B→w'.heap[c]? = w.heap[c]?) (hB':w'.heap[B]? = some (.cells us' e.t (0,0))) (hsz:(ρ b).base+(ρ b).cap * e≤us'.size)
  (hc:∀ j c,(flat ys)[j]? = some c→VD I w c (us'.getD ((ρ b).base+j) undef)) :
  ∃ ρ',Step ρ I w σ ρ' I w' (stSet σ b (.arr g e ys))∧RS P ρ' I w' (stSet σ b (.arr g e ys)):=by
 obtain ⟨us,q1,q2,q3,q4,q5⟩:=hr.arr hsb hB
 have hcmp:Compat (.arr g e xs) (ρ b) (.arr g e ys) (ρ b):=.inl ⟨rfl,rfl,rfl,hl⟩
 have hp:∀ B',(ρ b).blk=some B'→B'=B∨w.heap.size≤B':=fun B' h=>by rw [hB] at h;cases h;exact .inl rfl
 have hstep:=step_upd (w':=w') hr hsb hB trivial (ρ b) hcmp hE hold hp
 refine ⟨_,hstep,rs_upd hr hsb hB trivial (ρ b) hcmp hE hold hp ?_⟩
 exact .arr hB hB' hsz (by rw [hl];exact q3) hyu (fun j c hj=>hstep.vd hr (hc j c hj))
end
end Nv
