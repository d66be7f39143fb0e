/- Part of a proof about the functions of this seat. -/
import Derived.Test.YtngdkenddfdhaaaGreatDoorG15Fe32
set_option linter.unusedVariables false
set_option linter.unusedSimpArgs false
set_option maxRecDepth 100000
namespace Go.Proofs.YtngdkenddfdhaaaGreatDoor
open Go Nv Pat
inductive SetsOk:Tree→Prop
 | mk {k:Int} {set:List (Int × Int)} {sub:List Tree} {a b:Int}:set.length≤100000000→(∀ x,x∈sub→SetsOk x)→SetsOk (.mk k set sub a b)
theorem arcsL_len (A:List (List Arc)):(arcsL A).length=A.length:=by simp [arcsL]
theorem part_one {n:Tree} (hn:WF n):SetsOk n→PartC n:=by
 induction hn with
 | @mk k set sub a b h1 h2 h3 h4 ih =>
  intro hsm σ p st H hB hO hl
  obtain ⟨hset,hslim⟩:set.length≤100000000∧∀ x,x∈sub→SetsOk x:=by cases hsm with | mk q1 q2=>exact ⟨q1,q2⟩
  have ih:∀ x,x∈sub→PartC x:=fun x hx=>ih x hx (hslim x hx)
  have hw:WF (.mk k set sub a b):=.mk h1 h2 h3 h4
  refine fn25.rel hintsP (Nat.le_refl _) ?_
  simp (disch:=omega) only [go_sem,nodeA,nodeF,Tree.kind,Tree.set,Tree.sub,Tree.min,Tree.max,setD]
  refine (state48 (hB.pushed _) hO.len (by omega)).at ?_
  rintro v σ1 ⟨rfl,H1,hB1,hK1⟩
  have hbox:stGet (σ++[.box 25 [.d (.int .i64 k),.d (.list 2 (set.map rgD)),.d (.list 5 (sub.map nodeD)),.d (.int .i64 a),.d (.int .i64 b)]]) σ.length=.box 25 [.d (.int .i64 k),.d (.list 2 (set.map rgD)),.d (.list 5 (sub.map nodeD)),.d (.int .i64 a),.d (.int .i64 b)]:=by simp [stGet]
  obtain ⟨hb1,hn1⟩:=hK1.stay hbox (by simp) (fun h=>by have:=hB.lt _ h;omega)
  have hO1:=hO.push
  have hS1:st.push.A.length=st.A.length+1:=push_len st
  have hsz:=sz_eq hw
  by_cases k2:k=2
  ·subst k2
   simp (disch:=omega) only [go_sem,hb1]
   refine (state48 hB1 hO1.len (by omega)).at ?_
   rintro v σ2 ⟨rfl,H2,hB2,hK2⟩
   obtain ⟨hb2,hn2⟩:=hK2.stay hb1 (by simp) hn1
   have hS2:st.push.push.A.length=st.A.length+2:=by rw [push_len,push_len]
   have hO2:=hO1.push
   simp (disch:=omega) only [go_sem,hb2]
   have hr0:st.push.push.A.getD st.len []=[]:=by
    simp only [St.push,St.len]
    rw [List.getD_eq_getElem?_getD,List.getElem?_append_left (by simp),List.getElem?_append_right (Nat.le_refl _)];simp
   have hs2p:partB (.mk 2 set sub a b) st=(⟨st.push.push.A.set st.len (set.map fun r=>(r.1,r.2,(st.push.len:Int))),st.push.push.E⟩,st.push.len):=by
    rw [show partB (.mk 2 set sub a b) st=(st.push.push.arc st.len (st.len+1) set,st.len+1) from rfl,← push_len']
    simp only [St.arc,hr0,List.nil_append]
   generalize st.push.push=s2 at *
   have hfl:st.len<s2.A.length:=by rw [hS2];simp only [St.len];omega
   refine wL_ind (fun (j:Nat) fr σ'=>j≤set.length∧fr 0=.ptr p 0∧fr 6=.d (.int .i64 st.len)∧fr 7=.d (.int .i64 st.push.len)∧fr 34=.d (.list 2 (set.map rgD))∧fr 35=.d (.int .i64 set.length)∧fr 36=.d (.int .i64 j) ∧
    ∃ (H':Nat→Prop),Bld σ' p ⟨s2.A.set st.len ((set.take j).map fun r=>(r.1,r.2,(st.push.len:Int))),s2.E⟩ H'∧Keeps σ H σ' H') (fun j=>set.length - j) ?_ 0 ?_
   ·rintro j fr σ' ⟨hj,f0,f6,f7,f34,f35,f36,H',hBj,hKj⟩ ih2
    by_cases hlt:j<set.length
    ·obtain ⟨r,hr⟩:∃ r,r=set.getD j default:=⟨_,rfl⟩
     have hget:(set.map rgD).getD j default=rgD r:=by rw [hr];simp [List.getD_eq_getElem?_getD,hlt]
     have htk:set.take (j+1)=set.take j++[r]:=by rw [hr];exact take_succ' set j hlt
     generalize hrow:((set.take j).map fun r=>(r.1,r.2,(st.push.len:Int)))=row at *
     have hrl:row.length=j:=by rw [← hrow];simp;omega
     obtain ⟨va,ve,F,G,hT⟩:=hBj
     have hp:=hT.box
     have hpl:=hT.lt p hT.hp
     rcases hT.a with ⟨rfl,hA⟩ | ⟨b,g,n,xs,rfl,hr⟩
     ·have h0:=congrArg List.length hA
      rw [arcsL_len] at h0
      simp only [List.length_set,List.length_nil] at h0;omega
     have hr1:=hr.row
     have hr2:=hr.num
     have hr3:=hr.len
     rw [arcsL_len,List.length_set] at hr2 hr3
     have hfn:st.len<n:=by omega
     have hfx:st.len<xs.length:=by omega
     have hc:=hr.cell st.len (by rw [arcsL_len,List.length_set];exact hfl)
     rw [arcsL_get,getD_set_eq hfl] at hc
     have hpb:p≠b:=fun e=>hT.np.1 (e ▸ hr.mem)
     have hbl:=hT.lt b (hT.fh b hr.mem)
     rcases hc with ⟨h1,h2⟩ | ⟨cb,cg,m,h1,h2,h3⟩
     ·simp (disch:=omega) only [go_sem,f0,f6,f7,f34,f35,f36,hlt,hget,rgD,apR]
      refine wSeq_of [0,1,2,3,4,5,6,7,8,9,10,11,12,13,14,15,16,17,18] (by rfl) ?_
      simp (disch:=omega) only [go_sem,f0,f6,f7,f36,hp,hr1,hfn,hfx,h1,Nat.zero_add,stGet_left,stSet_left,stGet_sl,stSet_sl,apR]
      obtain ⟨X,hX⟩:∃ X,X=stSet σ' b (.rows g 55 (xs.set st.len (AV.own (List.length σ'+2) 0 0 1))):=⟨_,rfl⟩
      have hXl:X.length=σ'.length:=by rw [hX,stSet_len]
      rw [← hX]
      have he:row=[]:=by simpa using h2
      have hj0:j=0:=by rw [← hrl,he];rfl
      obtain ⟨H3,hB3,hK3⟩:=bld_writeA (σ':=X++[.box 57 [.d (.int .i32 r.1),.d (.int .i32 r.2)],.arr 0 ⟨3,59⟩ [arcD (r.1,r.2,st.push.len)],.arr 0 ⟨3,59⟩ [arcD (r.1,r.2,st.push.len)]]) hT hr (f:=st.len) (by rw [List.length_set];exact hfl)
       (l:=[(r.1,r.2,(st.push.len:Int))]) (c:=.own (σ'.length+2) 0 0 1) (q:=σ'.length+2) (by rw [stGet_left _ _ _ (by omega),hX,stGet_set_eq hbl]) (.inr ⟨σ'.length+2,0,1,rfl,rfl,by rw [stGet_add 2 hXl];rfl⟩) rfl
       (.inl ⟨by omega,by rw [List.length_append,hXl];simp⟩) (fun k h3 h4 _=>by rw [stGet_left _ _ _ (by omega),hX,stGet_set_ne h4]) (by rw [List.length_append,hXl];omega)
      rw [List.set_set] at hB3
      have hrow2:(set.take (j+1)).map (fun r=>(r.1,r.2,(st.push.len:Int)))=[(r.1,r.2,(st.push.len:Int))]:=by rw [htk,List.map_append,hrow,he];rfl
      rw [← hrow2] at hB3
      refine ih2 (j+1) _ _ (by omega) ⟨by omega,?_,?_,?_,?_,?_,?_,H3,hB3,hKj.trans hK3⟩
      ·simp (disch:=omega) only [go_sem,f0]
      ·simp (disch:=omega) only [go_sem,f6]
      ·simp (disch:=omega) only [go_sem,f7]
      ·simp (disch:=omega) only [go_sem,f34]
      ·simp (disch:=omega) only [go_sem,f35]
      ·simp (disch:=omega) only [go_sem]
     ·have hcF:F cb:=hr.blk st.len cb (by rw [arcsL_len,List.length_set];exact hfl) (by rw [h2];rfl)
      have hcl:=hT.lt cb (hT.fh cb hcF)
      have hpc:p≠cb:=fun e=>hT.np.1 (e ▸ hcF)
      have hbc:b≠cb:=fun e=>by subst e;rw [hr1] at h3;cases h3
      have hml:m=row.length:=by rw [h1,List.length_map]
      have hta:=take_all (row.map arcD) m h1.symm
      have h3':stGet σ' cb=.arr cg ⟨3,59⟩ (row.map arcD):=h3
      have hml':(row.map arcD).length=m:=h1.symm
      have hcap:(m+1) * 16≤140737488355328:=by omega
      simp (disch:=omega) only [go_sem,f0,f6,f7,f34,f35,f36,hlt,hget,rgD,apR]
      refine wSeq_of [0,1,2,3,4,5,6,7,8,9,10,11,12,13,14,15,16,17,18] (by rfl) ?_
      simp (disch:=omega) only [go_sem,f0,f6,f7,f36,hp,hr1,hfn,hfx,h2,h3',hml',hta,hcap,Nat.le_refl,hpc,hbc,stGet_set_ne,stGet_set_eq,Nat.zero_add,stGet_left,stSet_left,stGet_sl,stSet_sl,apR]
      obtain ⟨X,hX⟩:∃ X,X=stSet (stSet σ' cb (.arr (cg+1) ⟨3,59⟩ (row.map arcD++[arcD (r.1,r.2,st.push.len)]))) b (.rows g 55 (xs.set st.len (AV.own cb (cg+1) 0 (m+1)))):=⟨_,rfl⟩
      have hXl:X.length=σ'.length:=by rw [hX,stSet_len,stSet_len]
      have hX':=hX
      simp only [arcD] at hX'
      rw [← hX']
      have hb1:blkOf (xs.getD st.len .any)=some cb:=by rw [h2];rfl
      obtain ⟨H3,hB3,hK3⟩:=bld_writeA (σ':=X++[.box 57 [.d (.int .i32 r.1),.d (.int .i32 r.2)],.arr 0 ⟨3,59⟩ [arcD (r.1,r.2,st.push.len)]]) hT hr (f:=st.len) (by rw [List.length_set];exact hfl)
       (l:=row++[(r.1,r.2,(st.push.len:Int))]) (c:=.own cb (cg+1) 0 (m+1)) (q:=cb) (by rw [stGet_left _ _ _ (by omega),hX,stGet_set_eq (by rw [stSet_len];exact hbl)])
       (.inr ⟨cb,cg+1,m+1,by simp [hml],rfl,by rw [stGet_left _ _ _ (by omega),hX,stGet_set_ne (Ne.symm hbc),stGet_set_eq hcl];simp⟩) rfl (.inr hb1)
       (fun k h4 h5 h6=>by rw [stGet_left _ _ _ (by omega),hX,stGet_set_ne h5,stGet_set_ne (fun e=>h6 (by rw [hb1,e]))]) (by rw [List.length_append,hXl];omega)
      rw [List.set_set] at hB3
      have hrow2:(set.take (j+1)).map (fun r=>(r.1,r.2,(st.push.len:Int)))=row++[(r.1,r.2,(st.push.len:Int))]:=by rw [htk,List.map_append,hrow];rfl
      rw [← hrow2] at hB3
      refine ih2 (j+1) _ _ (by omega) ⟨by omega,?_,?_,?_,?_,?_,?_,H3,hB3,hKj.trans hK3⟩
      ·simp (disch:=omega) only [go_sem,f0]
      ·simp (disch:=omega) only [go_sem,f6]
      ·simp (disch:=omega) only [go_sem,f7]
      ·simp (disch:=omega) only [go_sem,f34]
      ·simp (disch:=omega) only [go_sem,f35]
      ·simp (disch:=omega) only [go_sem]
    ·have hjl:j=set.length:=by omega
     subst hjl
     rw [List.take_length] at hBj
     simp (disch:=omega) only [go_sem,f0,f6,f7,f34,f35,f36,hlt]
     have hP:partB (.mk 2 set sub a b) st=(⟨s2.A.set st.len (set.map fun r=>(r.1,r.2,(st.push.len:Int))),s2.E⟩,st.push.len):=by
      rw [hs2p]
     rw [hP]
     exact ⟨_,rfl,rfl,H',hBj,hKj⟩
   ·refine ⟨by omega,?_,?_,?_,?_,?_,?_,H2,?_,((Keeps.push σ H _).trans hK1).trans hK2⟩
    ·simp (disch:=omega) only [go_sem]
    ·simp (disch:=omega) only [go_sem]
    ·simp (disch:=omega) only [go_sem]
    ·simp (disch:=omega) only [go_sem]
    ·simp (disch:=omega) only [go_sem]
    ·simp (disch:=omega) only [go_sem]
    ·have:s2.A.set st.len []=s2.A:=by
      rw [← hr0,List.getD_eq_getElem?_getD,List.getElem?_eq_getElem hfl];simp
     simpa [this] using hB2
  by_cases k3:k=3
  ·subst k3
   simp (disch:=omega) only [go_sem,hb1]
   have hit:items (.mk 3 set sub a b)=sub:=rfl
   rw [hit] at hsz
   have hsl:=sum_len sub h4
   have hP:(partB (.mk 3 set sub a b) st)=(((chainB (Pat.partsB sub) st.push st.len st.len).1.push.free (lastD (chainB (Pat.partsB sub) st.push st.len st.len).2.1 st.len) (chainB (Pat.partsB sub) st.push st.len st.len).1.len),(chainB (Pat.partsB sub) st.push st.len st.len).1.len):=rfl
   generalize hC:chainB (Pat.partsB sub) st.push st.len st.len=C at hP
   refine wL_ind (fun (j:Nat) fr σ'=>j≤sub.length∧fr 0=.ptr p 0∧fr 6=.d (.int .i64 st.len)∧fr 65=.d (.list 5 (sub.map nodeD))∧fr 66=.d (.int .i64 sub.length)∧fr 67=.d (.int .i64 j) ∧
    ∃ (stj:St) (aj fj:Nat) (H':Nat→Prop),fr 10=.d (.int .i64 aj)∧Bld σ' p stj H'∧Okb stj∧Keeps σ H σ' H'∧aj<stj.A.length∧stj.A.length+((sub.drop j).map sz).sum+1≤1000000 ∧
     C.1=(chainB (Pat.partsB (sub.drop j)) stj aj fj).1∧lastD C.2.1 st.len=lastD (chainB (Pat.partsB (sub.drop j)) stj aj fj).2.1 aj) (fun j=>sub.length - j) ?_ 0 ?_
   ·rintro j fr σ' ⟨hj,f0,f6,f65,f66,f67,stj,aj,fj,H',f10,hBj,hOj,hKj,haj,hlj,hc1,hc2⟩ ih2
    by_cases hlt:j<sub.length
    ·obtain ⟨x,hx⟩:∃ x,x=sub.getD j default:=⟨_,rfl⟩
     have hxm:x∈sub:=by rw [hx];exact getD_mem sub j hlt
     have hd:=drop_cons sub j hlt
     rw [← hx] at hd
     rw [hd] at hlj hc1 hc2
     simp only [List.map_cons,List.sum_cons] at hlj
     have hpx:=part_len (h4 x hxm) hOj
     have hox:Okb (partB x stj).1∧stj.A.length<(partB x stj).1.A.length∧(partB x stj).2<(partB x stj).1.A.length:=part_ok (h4 x hxm) stj hOj
     simp (disch:=omega) only [go_sem,f0,f6,f10,f65,f66,f67,hlt,node_get,← hx,nodeD_eq,nodeC,apR]
     refine (ih x hxm (hBj.pushed _) hOj (by omega)).at ?_
     rintro v σa ⟨rfl,Ha,hBa,hKa⟩
     simp (disch:=omega) only [go_sem,f0,f10]
     refine (free49 hBa aj stj.len ?_ ?_).at ?_
     ·rw [hox.1.len,hpx.1];omega
     ·have:=hox.1.row aj;omega
     rintro v σb ⟨rfl,Hb,hBb,hKb⟩
     simp (disch:=omega) only [go_sem,f0,f67]
     refine ih2 (j+1) _ _ (by omega) ⟨by omega,?_,?_,?_,?_,?_,(partB x stj).1.free aj stj.len,(partB x stj).2,stj.len,Hb,?_,hBb,hox.1.free _ hox.2.1,?_,hox.2.2,?_,?_,?_⟩
     ·simp (disch:=omega) only [go_sem,f0]
     ·simp (disch:=omega) only [go_sem,f6]
     ·simp (disch:=omega) only [go_sem,f65]
     ·simp (disch:=omega) only [go_sem,f66]
     ·simp (disch:=omega) only [go_sem]
     ·simp (disch:=omega) only [go_sem]
     ·exact ((hKj.more _).trans hKa).trans hKb
     ·rw [free_lenA,hpx.1];omega
     ·rw [hc1];rfl
     ·rw [hc2];simp only [Pat.partsB,chainB,lastD_cons]
    ·have hjl:j=sub.length:=by omega
     subst hjl
     rw [List.drop_length] at hlj hc1 hc2
     simp only [Pat.partsB,chainB] at hc1 hc2
     simp only [List.map_nil,List.sum_nil] at hlj
     have hlas:lastD C.2.1 st.len=aj:=by rw [hc2];rfl
     rw [hlas,hc1] at hP
     have hpl:=push_len stj
     simp (disch:=omega) only [go_sem,f0,f6,f10,f65,f66,f67,hlt]
     refine (state48 hBj hOj.len (by omega)).at ?_
     rintro v σa ⟨rfl,Ha,hBa,hKa⟩
     simp (disch:=omega) only [go_sem,f0,f10]
     refine (free49 hBa aj stj.len ?_ ?_).at ?_
     ·rw [hOj.push.len];omega
     ·have:=hOj.push.row aj;omega
     rintro v σb ⟨rfl,Hb,hBb,hKb⟩
     simp (disch:=omega) only [go_sem,f6]
     refine ⟨_,rfl,?_,Hb,?_,(hKj.trans hKa).trans hKb⟩
     ·rw [hP]
     ·rw [hP];exact hBb
   ·have hO1c:=hO1
    refine ⟨by omega,?_,?_,?_,?_,?_,st.push,st.len,st.len,H1,?_,hB1,hO1,?_,?_,?_,?_,?_⟩
    ·simp (disch:=omega) only [go_sem]
    ·simp (disch:=omega) only [go_sem]
    ·simp (disch:=omega) only [go_sem]
    ·simp (disch:=omega) only [go_sem]
    ·simp (disch:=omega) only [go_sem]
    ·simp (disch:=omega) only [go_sem]
    ·exact (Keeps.push σ H _).trans hK1
    ·simp only [St.len];omega
    ·rw [List.drop_zero];omega
    ·rw [List.drop_zero,hC]
    ·rw [List.drop_zero,hC]
  by_cases k4:k=4
  ·subst k4
   have hl1:=lt_box hb1
   simp (disch:=omega) only [go_sem,hb1,stGet_left,apR]
   have hit:items (.mk 4 set sub a b)=sub:=rfl
   rw [hit] at hsz
   have hsl:=sum_len sub h4
   have hP:(partB (.mk 4 set sub a b) st)=(frees (fanB (Pat.partsB sub) st.push st.len).1.push (fanB (Pat.partsB sub) st.push st.len).2 (fanB (Pat.partsB sub) st.push st.len).1.len,(fanB (Pat.partsB sub) st.push st.len).1.len):=rfl
   generalize hC:fanB (Pat.partsB sub) st.push st.len=C at hP
   refine wL_ind (fun (j:Nat) fr σ'=>j≤sub.length∧fr 0=.ptr p 0∧fr 6=.d (.int .i64 st.len)∧fr 94=.d (.list 5 (sub.map nodeD))∧fr 95=.d (.int .i64 sub.length)∧fr 96=.d (.int .i64 j) ∧
    ∃ (stj:St) (m g:Nat) (qs:List Nat) (H':Nat→Prop),fr 16=.own m g 0 j∧stGet σ' m=.arr g ⟨1,3⟩ (qsD qs)∧qs.length=j∧σ.length≤m∧¬ H' m∧Bld σ' p stj H'∧Okb stj∧Keeps σ H σ' H'∧st.len<stj.A.length∧(∀ q,q∈qs→q<stj.A.length) ∧
     stj.A.length+((sub.drop j).map sz).sum+1≤1000000∧C.1=(fanB (Pat.partsB (sub.drop j)) stj st.len).1∧C.2=qs++(fanB (Pat.partsB (sub.drop j)) stj st.len).2) (fun j=>sub.length - j) ?_ 0 ?_
   ·rintro j fr σ' ⟨hj,f0,f6,f94,f95,f96,stj,m,g,qs,H',f16,hm,hql,hms,hmH,hBj,hOj,hKj,hsj,hqj,hlj,hc1,hc2⟩ ih2
    by_cases hlt:j<sub.length
    ·obtain ⟨x,hx⟩:∃ x,x=sub.getD j default:=⟨_,rfl⟩
     have hxm:x∈sub:=by rw [hx];exact getD_mem sub j hlt
     have hd:=drop_cons sub j hlt
     rw [← hx] at hd
     rw [hd] at hlj hc1 hc2
     simp only [List.map_cons,List.sum_cons] at hlj
     have hpx:=part_len (h4 x hxm) hOj
     have hox:Okb (partB x stj).1∧stj.A.length<(partB x stj).1.A.length∧(partB x stj).2<(partB x stj).1.A.length:=part_ok (h4 x hxm) stj hOj
     have hml:=lt_of_get hm (by simp)
     simp (disch:=omega) only [go_sem,f0,f6,f16,f94,f95,f96,hlt,node_get,← hx,nodeD_eq,nodeC,apR]
     refine (ih x hxm (hBj.pushed _) hOj (by omega)).at ?_
     rintro v σa ⟨rfl,Ha,hBa,hKa⟩
     have hm0:=(stGet_old σ' [Blk.box 25 (nodeF x)] hml).trans hm
     obtain ⟨hma,hmHa⟩:=hKa.stay hm0 (by simp) hmH
     simp (disch:=omega) only [go_sem,f0,f6]
     refine (free49 hBa st.len stj.len ?_ ?_).at ?_
     ·rw [hox.1.len,hpx.1];omega
     ·have:=hox.1.row st.len;omega
     rintro v σb ⟨rfl,Hb,hBb,hKb⟩
     obtain ⟨hmb,hmHb⟩:=hKb.stay hma (by simp) hmHa
     have hmlb:=lt_of_get hmb (by simp)
     have hqs:=qs_len qs
     have hcap:(j+1) * 8≤140737488355328:=by omega
     have hta:List.take j (qsD qs)=qsD qs:=List.take_of_length_le (by omega)
     have hwr:=IntKind.i64
     simp (disch:=omega) only [go_sem,f0,f16,f96,hmb,hqs,hql,hta,hcap,Nat.zero_add,Nat.le_refl,stGet_left,stSet_left,apR]
     refine ih2 (j+1) _ _ (by omega) ⟨by omega,?_,?_,?_,?_,?_,(partB x stj).1.free st.len stj.len,m,g+1,qs++[(partB x stj).2],Hb,?_,?_,by simp [hql],hms,hmHb,?_,hox.1.free _ hox.2.1,?_,?_,?_,?_,?_,?_⟩
     ·simp (disch:=omega) only [go_sem,f0]
     ·simp (disch:=omega) only [go_sem,f6]
     ·simp (disch:=omega) only [go_sem,f94]
     ·simp (disch:=omega) only [go_sem,f95]
     ·simp (disch:=omega) only [go_sem,f96]
     ·simp (disch:=omega) only [go_sem]
     ·rw [(own_turn _ _ hmlb).1];simp [qsD]
     ·exact hBb.keep (own_turn _ _ hmlb).2.2 fun k hk=>(own_turn _ _ hmlb).2.1 k (hBb.lt k hk) fun e=>hmHb (e ▸ hk)
     ·have hKk:=((hKj.more _).trans hKa).trans hKb
      exact hKk.turn (own_turn _ _ hmlb).2.2 fun k hk=>(own_turn _ _ hmlb).2.1 k (Nat.lt_of_lt_of_le hk hKk.len) (by omega)
     ·rw [free_lenA];omega
     ·intro q hq
      rw [free_lenA]
      rcases List.mem_append.1 hq with hq | hq
      ·have:=hqj q hq;omega
      ·rw [List.mem_singleton.1 hq];exact hox.2.2
     ·rw [free_lenA,hpx.1];omega
     ·rw [hc1];rfl
     ·rw [hc2];simp only [Pat.partsB,fanB,List.append_assoc,List.singleton_append]
    ·have hjl:j=sub.length:=by omega
     subst hjl
     rw [List.drop_length] at hlj hc1 hc2
     simp only [Pat.partsB,fanB,List.append_nil] at hc1 hc2
     simp only [List.map_nil,List.sum_nil] at hlj
     rw [hc1,hc2] at hP
     have hpl:=push_len stj
     have hml:=lt_of_get hm (by simp)
     simp (disch:=omega) only [go_sem,f0,f6,f16,f94,f95,f96,hlt]
     refine (state48 hBj hOj.len (by omega)).at ?_
     rintro v σa ⟨rfl,Ha,hBa,hKa⟩
     obtain ⟨hma,hmHa⟩:=hKa.stay hm (by simp) hmH
     have hqs:=qs_len qs
     simp (disch:=omega) only [go_sem,f16,hma,hqs,hql]
     refine wL_ind (fun (i:Nat) fr τ=>i≤sub.length∧fr 0=.ptr p 0∧fr 6=.d (.int .i64 st.len)∧fr 21=.d (.int .i64 stj.len)∧fr 117=.own m g 0 sub.length∧fr 118=.d (.int .i64 sub.length)∧fr 119=.d (.int .i64 i) ∧
      ∃ (sti:St) (H2:Nat→Prop),stGet τ m=.arr g ⟨1,3⟩ (qsD qs)∧¬ H2 m∧Bld τ p sti H2∧Okb sti∧Keeps σ H τ H2∧sti.A.length=stj.A.length+1∧frees stj.push qs stj.len=frees sti (qs.drop i) stj.len) (fun i=>sub.length - i) ?_ 0 ?_
     ·rintro i fr τ ⟨hi,f0,f6,f21,f117,f118,f119,sti,H2,hmt,hmH2,hBi,hOi,hKi,hil,hfi⟩ ih3
      by_cases hlti:i<sub.length
      ·have hq:qs.drop i=qs.getD i 0::qs.drop (i+1):=drop_cons qs i (by omega)
       have hqm:qs.getD i 0∈qs:=by rw [List.getD_eq_getElem?_getD,List.getElem?_eq_getElem (by omega)];exact List.getElem_mem _
       have hqi:=hqj _ hqm
       have hgt:=qs_get qs i (by omega)
       rw [hq] at hfi
       generalize qs.getD i 0=q at *
       simp (disch:=omega) only [go_sem,f0,f6,f21,f117,f118,f119,hlti,hmt,hgt,Nat.zero_add,qs_len,hql]
       refine (free49 hBi q stj.len ?_ ?_).at ?_
       ·rw [hOi.len,hil];omega
       ·have:=hOi.row q;omega
       rintro v σb ⟨rfl,Hb,hBb,hKb⟩
       obtain ⟨hmb,hmHb⟩:=hKb.stay hmt (by simp) hmH2
       simp (disch:=omega) only [go_sem,f119]
       refine ih3 (i+1) _ _ (by omega) ⟨by omega,?_,?_,?_,?_,?_,?_,sti.free q stj.len,Hb,hmb,hmHb,hBb,hOi.free _ (by simp only [St.len];omega),hKi.trans hKb,by rw [free_lenA,hil],hfi⟩
       ·simp (disch:=omega) only [go_sem,f0]
       ·simp (disch:=omega) only [go_sem,f6]
       ·simp (disch:=omega) only [go_sem,f21]
       ·simp (disch:=omega) only [go_sem,f117]
       ·simp (disch:=omega) only [go_sem,f118]
       ·simp (disch:=omega) only [go_sem]
      ·have hie:i=sub.length:=by omega
       subst hie
       rw [← hql,List.drop_length] at hfi
       simp (disch:=omega) only [go_sem,f6,f21,f118,f119,hlti]
       refine ⟨_,rfl,?_,H2,?_,hKi⟩
       ·rw [hP]
       ·rw [hP];show Bld τ p (frees stj.push qs stj.len) H2
        rw [hfi];exact hBi
     ·refine ⟨by omega,?_,?_,?_,?_,?_,?_,stj.push,Ha,hma,hmHa,hBa,hOj.push,hKj.trans hKa,hpl,by rw [List.drop_zero]⟩
      ·simp (disch:=omega) only [go_sem,f0]
      ·simp (disch:=omega) only [go_sem,f6]
      ·simp (disch:=omega) only [go_sem]
      ·simp (disch:=omega) only [go_sem,f16]
      ·simp (disch:=omega) only [go_sem]
      ·simp (disch:=omega) only [go_sem]
   ·refine ⟨by omega,?_,?_,?_,?_,?_,st.push,σ1.length,0,[],H1,?_,?_,rfl,?_,?_,hB1.pushed _,hO1,?_,?_,?_,?_,?_,?_⟩
    ·simp (disch:=omega) only [go_sem]
    ·simp (disch:=omega) only [go_sem]
    ·simp (disch:=omega) only [go_sem]
    ·simp (disch:=omega) only [go_sem]
    ·simp (disch:=omega) only [go_sem]
    ·simp (disch:=omega) only [go_sem]
    ·simp [stGet,qsD]
    ·omega
    ·intro h;have:=hB1.lt _ h;omega
    ·exact ((Keeps.push σ H _).trans hK1).more _
    ·simp only [St.len];omega
    ·intro q hq;cases hq
    ·rw [List.drop_zero];omega
    ·rw [List.drop_zero,hC]
    ·rw [List.drop_zero,hC];rfl
  by_cases k5:k=5
  ·subst k5
   simp (disch:=omega) only [go_sem,hb1]
   obtain ⟨x,rfl,ha,hab⟩:=h3 rfl
   obtain ⟨A,rfl⟩:∃ A:Nat,a=A:=⟨a.toNat,by omega⟩
   have hsz5:sz (.mk 5 set [x] A b)=2+copies A b * sz x:=by rw [sz,if_pos rfl];rfl
   refine (repeat_one (ih x (by simp)) (h4 x (by simp)) set A b hab hB1 hO1 (s:=st.len) (by simp only [St.len];omega) (by omega)).at ?_
   rintro v σ2 ⟨rfl,H2,hB2,hK2⟩
   simp (disch:=omega) only [go_sem]
   exact ⟨_,rfl,rfl,H2,hB2,((Keeps.push σ H _).trans hK1).trans hK2⟩
  have k1:k=1:=by omega
  subst k1
  simp (disch:=omega) only [go_sem,hb1]
  refine (state48 hB1 hO1.len (by omega)).at ?_
  rintro v σ2 ⟨rfl,H2,hB2,hK2⟩
  simp (disch:=omega) only [go_sem]
  have hS2:st.push.push.A.length=st.A.length+2:=by rw [push_len,push_len]
  have hO2:=hO1.push
  refine (free49 hB2 st.len st.push.len ?_ ?_).at ?_
  ·rw [hO2.len,hS2];simp only [St.len];omega
  ·have:=hO2.row st.len;omega
  rintro v σ3 ⟨rfl,H3,hB3,hK3⟩
  simp (disch:=omega) only [go_sem]
  refine ⟨_,rfl,?_,H3,?_,?_⟩
  ·rw [show (partB (.mk 1 set sub a b) st)=(st.push.push.free st.len (st.len+1),st.len+1) from rfl,push_len']
  ·rw [show (partB (.mk 1 set sub a b) st)=(st.push.push.free st.len (st.len+1),st.len+1) from rfl,← push_len'];exact hB3
  ·exact (((Keeps.push σ H _).trans hK1).trans hK2).trans hK3
end Go.Proofs.YtngdkenddfdhaaaGreatDoor
set_option linter.unusedVariables false
set_option linter.unusedSimpArgs false
set_option maxRecDepth 100000
namespace Go.Proofs.YtngdkenddfdhaaaGreatDoor
open Go Nv Pat
theorem chk_kinds {k:Int} {s:List (Int × Int)} {l:List Tree} {a b:Int} (h:chk (.mk k s l a b)=0) :
  (k=1∨k=2∨k=3∨k=4∨k=5)∧(k=1∨k=2→l=[])∧(k=5→∃ x,l=[x]∧0≤a∧a≤20∧b≤20∧(0≤b→a≤b))∧∀ x,x∈l→chk x=0:=by
 obtain ⟨h1,h2,h3⟩:=chk_ok h
 have hk:k=1∨k=2∨k=3∨k=4∨k=5:=by simpa [kindB,or_assoc] using h1
 unfold badB at h2
 simp only [Bool.or_eq_false_iff,Bool.not_eq_false'] at h2
 have hp:=h2.1.1
 unfold partsB at hp
 refine ⟨hk,fun hk12=>?_,fun h5=>?_,chkL_mem h3⟩
 ·rcases hk12 with rfl | rfl
  ·rw [if_pos rfl] at hp
   simp at hp
   exact hp
  ·rw [if_neg (by omega),if_pos rfl] at hp
   simp at hp
   exact hp.1
 ·subst h5
  rw [if_neg (by omega),if_neg (by omega),if_neg (by omega),if_neg (by omega)] at hp
  simp only [Bool.and_eq_true,Bool.or_eq_true,decide_eq_true_eq] at hp
  obtain ⟨⟨⟨q1,q2⟩,q3⟩,q4⟩:=hp
  match l,q1 with
  | [x],_=>exact ⟨x,rfl,q2,q3,by omega,fun hb=>by omega⟩
  | [],q1=>simp at q1
  | _::_::_,q1=>simp at q1;omega
theorem chk_wf:∀ n:Tree,chk n=0→WF n:=by
 intro n
 induction n using Tree.ind with
 | h k s l a b ih =>
  intro h
  obtain ⟨h1,h2,h3,h4⟩:=chk_kinds h
  exact .mk h1 h2 (fun h5=>let ⟨x,e,q1,_,_,q2⟩:=h3 h5;⟨x,e,q1,q2⟩) fun x hx=>ih x hx (h4 x hx)
theorem thin_sets:∀ n:Tree,Thin n→SetsOk n:=by
 intro n
 induction n using Tree.ind with
 | h k s l a b ih =>
  intro h
  simp only [Thin] at h
  exact .mk (by omega) fun x hx=>ih x hx (thinL_mem h.2 hx)
def szP (n:Tree):Nat:=2+min (sz n - 2) 3001
def szF (l:List Tree):Nat:=l.foldl (fun acc x=>min (acc+szP x) 3001) 0
theorem szF_eq:∀ (l:List Tree) (acc s:Nat),(∀ x,x∈l→2≤sz x)→acc=min s 3001→l.foldl (fun acc x=>min (acc+szP x) 3001) acc=min (s+(l.map sz).sum) 3001
 | [],acc,s,_,h=>by simpa using h
 | x::l,acc,s,h2,h=>by
  have hx:=h2 x (by simp)
  simp only [List.foldl_cons,List.map_cons,List.sum_cons]
  rw [szF_eq l _ (s+sz x) (fun y hy=>h2 y (by simp [hy])) (by rw [h,szP];omega)]
  congr 1;omega
theorem min_mul (s c:Nat):min (min s 3001 * c) 3001=min (s * c) 3001:=by
 rcases Nat.eq_zero_or_pos c with h | h
 ·subst h;simp
 ·rcases Nat.lt_or_ge s 3001 with h1 | h1
  ·rw [Nat.min_eq_left (by omega:s≤3001)]
  ·rw [Nat.min_eq_right h1]
   have h2:3001≤3001 * c:=Nat.le_mul_of_pos_right _ h
   have h3:3001 * c≤s * c:=Nat.mul_le_mul_right _ h1
   omega
theorem size24:∀ n:Tree,chk n=0→n.nodes≤1000000→PCall Tryz.prog 24 [nodeA n] (.d (.int .i64 (szP n))):=by
 intro n
 induction n using Tree.ind with
 | h k s sub a b ih =>
  intro hc hn
  obtain ⟨h1,h2,h3,h4⟩:=chk_kinds hc
  have hwf:=chk_wf _ hc
  have hnn:(Tree.mk k s sub a b).nodes=1+Tree.nodesL sub:=nodes_eq _
  have hsl:=length_nodesL sub
  have hsub:∀ x,x∈sub→2≤sz x:=fun x hx=>sz_two (chk_wf x (h4 x hx))
  refine fn24.pure noHint (Nat.le_refl _) (by simp only [go_sem,nodeA,nodeF,setD]) (by simp only [go_sem]) ?_
  simp (disch:=omega) only [go_sem,nodeA,nodeF,Tree.kind,Tree.set,Tree.sub,Tree.min,Tree.max,setD]
  refine wL_ind (fun (j:Nat) fr σ=>j≤sub.length∧fr 1=.ptr 0 0∧(∃ m:Nat,m=szF (sub.take j)∧m≤3001∧fr 3=.d (.int .i64 m))∧fr 7=.d (.list 5 (sub.map nodeD))∧fr 8=.d (.int .i64 sub.length)∧fr 9=.d (.int .i64 j) ∧
   ∃ τ,σ=.box 25 [.d (.int .i64 k),.d (.list 2 (s.map rgD)),.d (.list 5 (sub.map nodeD)),.d (.int .i64 a),.d (.int .i64 b)]::τ) (fun j=>sub.length - j) ?_ 0 ?_
  ·rintro j fr σ ⟨hj,f1,⟨m,hm,hm2,f3⟩,f7,f8,f9,τ,rfl⟩ ih2
   by_cases hlt:j<sub.length
   ·obtain ⟨x,hx⟩:∃ x,x=sub.getD j default:=⟨_,rfl⟩
    have hxm:x∈sub:=by rw [hx];exact getD_mem sub j hlt
    have hxn:=nodes_mem sub x hxm
    simp (disch:=omega) only [go_sem,f1,f3,f7,f8,f9,hlt,node_get,← hx,nodeD_eq,nodeC,apR]
    refine (ih x hxm (h4 x hxm) (by omega)).at ?_
    have hsz:szP x≤3003:=by unfold szP;omega
    have e3:(if (3001:Int)<(m:Int)+(szP x:Int) then (3001:Int) else (m:Int)+(szP x:Int))=((min (m+szP x) 3001:Nat):Int):=by split <;> omega
    have hj9:j+1≤1000000:=by omega
    simp (disch:=omega) only [go_sem,f1,f3,f7,f8,f9,hlt]
    refine ih2 (j+1) _ _ (by omega) ⟨by omega,?_,⟨min (m+szP x) 3001,?_,Nat.min_le_right _ _,?_⟩,?_,?_,?_,_,rfl⟩
    ·simp (disch:=omega) only [go_sem,f1]
    ·rw [take_succ' sub j hlt,szF,List.foldl_append,← hx,hm];rfl
    ·simp (disch:=omega) only [go_sem,e3]
    ·simp (disch:=omega) only [go_sem,f7]
    ·simp (disch:=omega) only [go_sem,f8]
    ·simp (disch:=omega) only [go_sem]
   ·have hjl:j=sub.length:=by omega
    rw [hjl,List.take_length] at hm
    have hm3:m=min (sub.map sz).sum 3001:=by rw [hm,szF,szF_eq sub 0 0 hsub rfl,Nat.zero_add]
    by_cases h5:k=5
    ·subst h5
     obtain ⟨x,hxs,ha,ha2,hb,hab⟩:=h3 rfl
     have hcp:=copies47 (.mk 5 s sub a b) ⟨by simp only [Tree.min];omega,by simp only [Tree.min];omega⟩ (by simp only [Tree.max];omega)
     simp only [Tree.min,Tree.max] at hcp
     have hc21:copies a b≤21:=by unfold copies;split <;> omega
     have hmc:m * copies a b≤3001 * 21:=Nat.mul_le_mul hm2 hc21
     have e4:(m:Int) * (copies a b:Int)=((m * copies a b:Nat):Int):=by rw [Int.natCast_mul]
     have e5:(if (3001:Int)<((m * copies a b:Nat):Int) then (3001:Int) else ((m * copies a b:Nat):Int))=((min (m * copies a b) 3001:Nat):Int):=by split <;> omega
     have e6:szP (.mk 5 s sub a b)=min (m * copies a b) 3001+2:=by
      unfold szP
      rw [sz,if_pos rfl,hm3,min_mul,hxs]
      simp [szs,Nat.mul_comm];omega
     simp (disch:=omega) only [go_sem,f1,f3,f7,f8,f9,hlt]
     refine hcp.at ?_
     simp (disch:=omega) only [go_sem,e4,e5,f3,e6]
    ·have e6:szP (.mk k s sub a b)=m+2:=by
      unfold szP
      rw [sz,if_neg h5,hm3,szs_map];omega
     simp (disch:=omega) only [go_sem,f1,f3,f7,f8,f9,hlt,h5,e6]
  ·refine ⟨by omega,?_,⟨0,rfl,by omega,?_⟩,?_,?_,?_,[],rfl⟩
   all_goals simp (disch:=omega) only [go_sem]
end Go.Proofs.YtngdkenddfdhaaaGreatDoor
set_option linter.unusedVariables false
set_option linter.unusedSimpArgs false
set_option maxRecDepth 100000
namespace Go.Proofs.YtngdkenddfdhaaaGreatDoor
open Go Nv Pat
def resB:Blk:=.box 31 [.d (.int .i64 0),.d (.int .i64 0),.d .nilslice,.d .nilslice]
def autB (va ve:AV):Blk:=.box 31 [.d (.int .i64 0),.d (.int .i64 0),va,ve]
structure Loc (σ0:Nv.ST) (K0:Nat→Prop) (p:Nat) (B:Blk) (τ:Nv.ST) (sj:St) (va ve:AV) (F G H:Nat→Prop):Prop where
 two:TwoN τ p sj va ve F G H
 node:stGet τ (p+1)=B
 res:stGet τ (p+2)=resB
 keeps:Keeps σ0 K0 τ H
 n1:¬ H (p+1)
 n2:¬ H (p+2)
theorem Loc.duo {σ0:Nv.ST} {K0:Nat→Prop} {p:Nat} {B:Blk} {τ:Nv.ST} {sj:St} {va ve:AV} {F G H:Nat→Prop} (h:Loc σ0 K0 p B τ sj va ve F G H):Duo τ sj va ve F G:=duo_of h.two
theorem Loc.get {σ0:Nv.ST} {K0:Nat→Prop} {p:Nat} {B:Blk} {τ:Nv.ST} {sj:St} {va ve:AV} {F G H:Nat→Prop} (h:Loc σ0 K0 p B τ sj va ve F G H):stGet τ p=autB va ve∧va.one=true∧ve.one=true :=
 ⟨h.two.box,Rw.one h.two.a,Rw.one h.two.e⟩
theorem Loc.call {σ0:Nv.ST} {K0:Nat→Prop} {p:Nat} {B:Blk} {τ τ1:Nv.ST} {sj s':St} {va ve va' ve':AV} {F G H F' G':Nat→Prop} (h:Loc σ0 K0 p B τ sj va ve F G H) (hB:B≠.dead)
  (hD:Duo τ1 s' va' ve' F' G') (hK:Keeps τ (fun k=>F k∨G k) τ1 (fun k=>F' k∨G' k)) :
  (stGet τ1 p=autB va ve∧p<τ1.length∧stGet τ1 (p+1)=B∧stGet τ1 (p+2)=resB)∧Loc σ0 K0 p B (stSet τ1 p (autB va' ve')) s' va' ve' F' G' (fun k=>(F' k∨G' k)∨k=p) ∧
  (∀ k x,stGet τ k=x→x≠.dead→¬ H k→stGet τ1 k=x∧stGet (stSet τ1 p (autB va' ve')) k=x∧¬ ((F' k∨G' k)∨k=p))∧va'.one=true∧ve'.one=true:=by
 have hsub:∀ k,F k∨G k→H k:=fun k q=>q.elim (h.two.fh k) (h.two.gh k)
 have hpFG:¬ (F p∨G p):=fun q=>q.elim h.two.np.1 h.two.np.2
 have hstay:∀ k x,stGet τ k=x→x≠.dead→¬ H k→stGet τ1 k=x∧¬ (F' k∨G' k):=fun k x h1 h2 h3=>hK.stay h1 h2 fun q=>h3 (hsub k q)
 obtain ⟨hp1,hp2⟩:=hK.stay h.get.1 (by simp [autB]) hpFG
 have hpl:=lt_of_get hp1 (by simp [autB])
 have hne:∀ k,¬ H k→k≠p:=fun k q e=>q (by rw [e];exact h.two.hp)
 have hall:∀ k x,stGet τ k=x→x≠.dead→¬ H k→stGet τ1 k=x∧stGet (stSet τ1 p (autB va' ve')) k=x∧¬ ((F' k∨G' k)∨k=p):=fun k x h1 h2 h3 =>
  ⟨(hstay k x h1 h2 h3).1,(stGet_set_ne (hne k h3)).trans (hstay k x h1 h2 h3).1,fun q=>q.elim (hstay k x h1 h2 h3).2 (hne k h3)⟩
 obtain ⟨a1,a2,a3⟩:=hall _ _ h.node hB h.n1
 obtain ⟨b1,b2,b3⟩:=hall _ _ h.res (by simp [resB]) h.n2
 refine ⟨⟨hp1,hpl,a1,b1⟩,⟨?_,a2,b2,?_,a3,b3⟩,hall,Rw.one hD.a,Rw.one hD.e⟩
 ·exact (hD.keep (by rw [stSet_len];exact Nat.le_refl _) fun k q=>stGet_set_ne (by rintro rfl;exact hp2 q)).box (stGet_set_eq hpl) hp2
 ·refine ⟨by rw [stSet_len];exact Nat.le_trans h.keeps.len hK.len,fun k h1 h2=>?_,fun k q=>?_⟩
  ·have hH:¬ H k:=fun q=>(h.keeps.new k q).elim h2 (by omega)
   rw [stGet_set_ne (hne k hH),hK.old k (Nat.lt_of_lt_of_le h1 h.keeps.len) fun q=>hH (hsub k q)]
   exact h.keeps.old k h1 h2
  ·rcases q with q | rfl
   ·rcases hK.new k q with q | q
    ·exact h.keeps.new k (hsub k q)
    ·exact .inr (Nat.le_trans h.keeps.len q)
   ·exact h.keeps.new _ h.two.hp
theorem Loc.turn {σ0:Nv.ST} {K0:Nat→Prop} {p:Nat} {B:Blk} {τ τ':Nv.ST} {sj:St} {va ve:AV} {F G H:Nat→Prop} (h:Loc σ0 K0 p B τ sj va ve F G H) (M:Nat→Prop) (hM:∀ k,M k→σ0.length≤k∧¬ H k∧k≠p+1∧k≠p+2)
  (hl:τ.length≤τ'.length) (hlt:p+2<τ.length) (hk:∀ k,k<τ.length→¬ M k→stGet τ' k=stGet τ k):Loc σ0 K0 p B τ' sj va ve F G H :=
 ⟨h.two.keep hl fun k q=>hk k (h.two.lt k q) fun e=>(hM k e).2.1 q,(hk _ (by omega) fun e=>(hM _ e).2.2.1 rfl).trans h.node,(hk _ hlt fun e=>(hM _ e).2.2.2 rfl).trans h.res,
  ⟨Nat.le_trans h.keeps.len hl,fun k q1 q2=>(hk k (Nat.lt_of_lt_of_le q1 h.keeps.len) fun e=>by have:=(hM k e).1;omega).trans (h.keeps.old k q1 q2),h.keeps.new⟩,h.n1,h.n2⟩
theorem two_turn {σb:Nv.ST} {m n:Nat} (Y Z:Blk) (τ:Nv.ST) (hm:m<σb.length) (hn:n<σb.length) (hmn:m≠n):stGet (stSet (stSet σb m Y) n Z++τ) m=Y∧stGet (stSet (stSet σb m Y) n Z++τ) n=Z ∧
  (∀ k,k<σb.length→¬ (k=m∨k=n)→stGet (stSet (stSet σb m Y) n Z++τ) k=stGet σb k)∧σb.length≤(stSet (stSet σb m Y) n Z++τ).length:=by
 have hl:(stSet (stSet σb m Y) n Z).length=σb.length:=by rw [stSet_len,stSet_len]
 refine ⟨?_,?_,fun k h1 h2=>?_,by rw [List.length_append,hl];omega⟩
 ·rw [stGet_left _ _ _ (by omega),stGet_set_ne hmn,stGet_set_eq hm]
 ·rw [stGet_left _ _ _ (by omega),stGet_set_eq (by rw [stSet_len];exact hn)]
 ·rw [stGet_left _ _ _ (by omega),stGet_set_ne fun e=>h2 (.inr e),stGet_set_ne fun e=>h2 (.inl e)]
theorem Loc.lt {σ0:Nv.ST} {K0:Nat→Prop} {p:Nat} {B:Blk} {τ:Nv.ST} {sj:St} {va ve:AV} {F G H:Nat→Prop} (h:Loc σ0 K0 p B τ sj va ve F G H):p+2<τ.length:=lt_of_get h.res (by simp [resB])
theorem Loc.fin {σ0:Nv.ST} {K0:Nat→Prop} {p:Nat} {B:Blk} {τ:Nv.ST} {sj:St} {va ve:AV} {F G H:Nat→Prop} (h:Loc σ0 K0 p B τ sj va ve F G H) (hp:σ0.length≤p) (X:Blk):Duo (stSet τ (p+2) X) sj va ve F G∧Keeps σ0 K0 (stSet τ (p+2) X) (fun k=>F k∨G k):=by
 have hsub:∀ k,F k∨G k→H k:=fun k q=>q.elim (h.two.fh k) (h.two.gh k)
 refine ⟨h.duo.keep (by rw [stSet_len];exact Nat.le_refl _) fun k q=>stGet_set_ne (by rintro rfl;exact h.n2 (hsub _ q)),by rw [stSet_len];exact h.keeps.len,fun k h1 h2=>?_,fun k q=>h.keeps.new k (hsub k q)⟩
 rw [stGet_set_ne (by omega)];exact h.keeps.old k h1 h2
theorem Loc.more {σ0:Nv.ST} {K0:Nat→Prop} {p:Nat} {B:Blk} {τ:Nv.ST} {sj:St} {va ve:AV} {F G H:Nat→Prop} (h:Loc σ0 K0 p B τ sj va ve F G H) (hlt:p+2<τ.length) (υ:Nv.ST):Loc σ0 K0 p B (τ++υ) sj va ve F G H :=
 ⟨h.two.pushed υ,(stGet_old _ _ (by omega)).trans h.node,(stGet_old _ _ hlt).trans h.res,⟨Nat.le_trans h.keeps.len (by simp),fun k q1 q2=>(stGet_old _ _ (Nat.lt_of_lt_of_le q1 h.keeps.len)).trans (h.keeps.old k q1 q2),h.keeps.new⟩,h.n1,h.n2⟩
def PartN (n:Tree):Prop:=∀ {σ:Nv.ST} {st:St} {va ve:AV} {F G:Nat→Prop},Duo σ st va ve F G→OkR st→st.A.length+sz n≤1000000 →
 RCall Tryz.prog 27 [nfaV va ve,nodeA n] σ fun v σ'=>∃ va' ve' F' G',v=.tuple [nfaV va' ve',.d (.int .i64 st.len),.d (.int .i64 (partR n st).2)]∧Duo σ' (partR n st).1 va' ve' F' G'∧Keeps σ (fun k=>F k∨G k) σ' (fun k=>F' k∨G' k)
structure Ls (τ:Nv.ST) (H:Nat→Prop) (v:AV) (m g:Nat) (l:List Nat):Prop where
 v:v=.own m g 0 l.length
 get:stGet τ m=.arr g ⟨1,3⟩ (qsD l)
 nh:¬ H m
theorem edges_cons (st:St) (p:Nat × Nat) (l:List (Nat × Nat)):edges st (p::l)=edges (st.rfree p.1 p.2) l:=rfl
theorem edges_append (st:St) (l m:List (Nat × Nat)):edges st (l++m)=edges (edges st l) m:=by simp [edges]
def con (fs ls:List Nat) (D:St × List Nat × List Nat):St × List Nat × List Nat:=(D.1,fs++D.2.1,ls++D.2.2)
theorem con_cons (fs ls:List Nat) (f:St→St × Nat) (l:List (St→St × Nat)) (st:St):con fs ls (allR (f::l) st)=con (fs++[st.len]) (ls++[(f st).2]) (allR l (f st).1):=by simp [con,allR]
theorem twoN_writeA {σ σ':Nv.ST} {p:Nat} {st:St} {H:Nat→Prop} {ve:AV} {F G:Nat→Prop} {b g n:Nat} {xs:List AV}
  (hT:TwoN σ p st (.rown b g 0 n) ve F G H) (hr:Nv.Rows σ ⟨3,59⟩ 55 b g n (arcsL st.A) F xs) {f:Nat} (hf:f<st.A.length) {l:List Arc} {c:AV} {q:Nat}
  (hb:stGet σ' b=.rows g 55 (xs.set f c)) (hc:Cell σ' ⟨3,59⟩ c (l.map arcD)) (hq:blkOf c=some q) (hn:(σ.length≤q∧q<σ'.length)∨blkOf (xs.getD f .any)=some q)
  (hk:∀ k,k<σ.length→k≠b→blkOf (xs.getD f .any)≠some k→stGet σ' k=stGet σ k) (hl:σ.length≤σ'.length) :
  ∃ F' H',TwoN σ' p ⟨st.A.set f l,st.E⟩ (.rown b g 0 n) ve F' G H'∧Keeps σ H σ' H':=by
 have hfl:f<(arcsL st.A).length:=by simpa [arcsL] using hf
 have hW:=hT.writeA hr hfl hb hc hq hn rfl (fun k hH hkb hbk=>hk k (hT.lt k hH) hkb hbk) hl
 have hset:arcsL (st.A.set f l)=(arcsL st.A).set f (l.map arcD):=by simp [arcsL,List.map_set]
 refine ⟨_,_,by unfold TwoN;rw [hset];exact hW,hl,fun k h1 h2=>hk k h1 (fun e=>h2 (e ▸ hT.fh b hr.mem)) fun e=>h2 (hT.fh k (hr.blk f k hfl e)),fun k hk=>?_⟩
 rcases hk with hk | rfl
 ·exact .inl hk
 ·rcases hn with hn | hn
  ·exact .inr hn.1
  ·exact .inl (hT.fh _ (hr.blk f _ hfl hn))
theorem Loc.write {σ0:Nv.ST} {K0:Nat→Prop} {p:Nat} {B:Blk} {τ τ':Nv.ST} {sj s':St} {va ve:AV} {F G H F' H':Nat→Prop} (h:Loc σ0 K0 p B τ sj va ve F G H) (hB:B≠.dead) (hT:TwoN τ' p s' va ve F' G H') (hK:Keeps τ H τ' H') :
  Loc σ0 K0 p B τ' s' va ve F' G H':=by
 obtain ⟨a1,a2⟩:=hK.stay h.node hB h.n1
 obtain ⟨b1,b2⟩:=hK.stay h.res (by simp [resB]) h.n2
 exact ⟨hT,a1,b1,h.keeps.trans hK,a2,b2⟩
end Go.Proofs.YtngdkenddfdhaaaGreatDoor
