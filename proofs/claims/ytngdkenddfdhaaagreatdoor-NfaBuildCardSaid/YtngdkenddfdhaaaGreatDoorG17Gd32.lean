/- Part of a proof about the functions of this seat. -/
import Derived.Test.YtngdkenddfdhaaaGreatDoorG16Gc32
set_option linter.unusedVariables false
set_option linter.unusedSimpArgs false
set_option maxRecDepth 100000
namespace Go.Proofs.YtngdkenddfdhaaaGreatDoor
open Go Nv Pat
def hintsQ:Nat→Hint:=fun i=>if i=100048∨i=100084∨i=100108∨i=100123∨i=100151∨i=100177 then .rows else .no
@[go_sem] theorem hintsQ_at (i:Nat):hintsQ i=if i=100048 then .rows else if i=100084 then .rows else if i=100108 then .rows else if i=100123 then .rows else if i=100151 then .rows else if i=100177 then .rows else .no:=by
  unfold hintsQ
  by_cases h1:i=100048
  · simp [h1]
  by_cases h2:i=100084
  · simp [h2]
  by_cases h3:i=100108
  · simp [h3]
  by_cases h4:i=100123
  · simp [h4]
  by_cases h5:i=100151
  · simp [h5]
  by_cases h6:i=100177
  · simp [h6]
  simp [h1,h2,h3,h4,h5,h6]
structure Fr (fr:FR) (p s:Nat):Prop where
  f2:fr 2=.ptr p 0
  f3:fr 3=.ptr (p+1) 0
  f4:fr 4=.ptr (p+2) 0
  f7:fr 7=.d (.int .i64 s)
theorem getD_mem0 (l:List Nat) (i:Nat) (h:i<l.length):l.getD i 0∈l:=by rw [List.getD_eq_getElem?_getD,List.getElem?_eq_getElem h];exact List.getElem_mem _
theorem getD_lastD (l:List Nat):l.getD (l.length - 1) 0=l.getLastD 0:=by
  rw [List.getLastD_eq_getLast?,List.getLast?_eq_getElem?,List.getD_eq_getElem?_getD]
theorem allR_len:∀ (l:List (St→St × Nat)) (st:St),(allR l st).2.1.length=l.length
  | [],st=>rfl
  | f::l,st=>by simp only [allR,List.length_cons,allR_len l]
theorem zip_drop (l m:List Nat) (i:Nat) (h:i<l.length) (h':i<m.length):(l.zip m).drop i=(l.getD i 0,m.getD i 0)::(l.zip m).drop (i+1):=by
  rw [List.drop_eq_getElem_cons (by rw [List.length_zip];omega)];simp [List.getD_eq_getElem?_getD,h,h']
set_option maxHeartbeats 4000000 in
theorem part_ref:∀ n:Tree,chk n=0→SetsOk n→PartN n:=by
  intro n
  induction n using Tree.ind with
  | h k set sub a b ih =>
    intro hc hsm σ st va ve F G hD hO hl
    obtain ⟨c1,c2,c3,c4⟩:=chk_kinds hc
    obtain ⟨hset,hslim⟩:set.length≤100000000∧∀ x,x∈sub→SetsOk x:=by cases hsm with | mk q1 q2=>exact ⟨q1,q2⟩
    have hwf:=chk_wf _ hc
    have hwx:∀ x,x∈sub→WF x:=fun x hx=>chk_wf x (c4 x hx)
    have hpx:∀ x,x∈sub→PartN x:=fun x hx=>ih x hx (c4 x hx) (hslim x hx)
    have hsz:=sz_eq hwf
    have hsum:((items (.mk k set sub a b)).map sz).sum=Pat.reps k a b * (sub.map sz).sum:=by
      unfold Pat.reps
      by_cases h5:k=5
      · obtain ⟨x,rfl,_⟩:=c3 h5
        simp [items,h5,List.sum_replicate_nat]
      · simp [items,h5]
    rw [hsum] at hsz
    have hr21:Pat.reps k a b≤21:=by
      unfold Pat.reps Pat.copies
      by_cases h5:k=5
      · obtain ⟨x,rfl,_⟩:=c3 h5
        rw [if_pos h5];split <;> omega
      · rw [if_neg h5];omega
    have hsubl:sub.length≤1000000:=by
      have hsl:=sum_len sub hwx
      unfold Pat.reps at hsz
      by_cases h5:k=5
      · obtain ⟨x,rfl,_⟩:=c3 h5
        simp
      · rw [if_neg h5] at hsz;omega
    obtain ⟨C,hC⟩:∃ C,C=allR ((Pat.partsR sub).flatMap fun f=>List.replicate (Pat.reps k a b) f) st.push:=⟨_,rfl⟩
    have hP:Pat.partR (.mk k set sub a b) st=endK k set a b st.len C:=by rw [hC];rfl
    refine fn27.rel hintsQ (Nat.le_refl _) ?_
    obtain ⟨p,hpe⟩:∃ p,p=σ.length:=⟨_,rfl⟩
    obtain ⟨B,hB⟩:∃ B,B=Blk.box 25 [.d (.int .i64 k),.d (.list 2 (set.map rgD)),.d (.list 5 (sub.map nodeD)),.d (.int .i64 a),.d (.int .i64 b)]:=⟨_,rfl⟩
    have hBd:B≠.dead:=by rw [hB];simp
    have hF0:∀ k,F k∨G k→k<σ.length:=hD.lt
    have hl1:=sz_two hwf
    have hpm:st.push.A.length=st.A.length+1:=push_len st
    refine wW_cut (fun fr τ=>fr 2=.ptr p 0∧fr 3=.ptr (p+1) 0∧fr 4=.ptr (p+2) 0∧∃ H,Loc σ (fun k=>F k∨G k) p B τ st va ve F G H) ?_ ?_
    · have ha:=Rw.one hD.a
      have he:=Rw.one hD.e
      simp (disch:=omega) only [go_sem,nfaV,nfaF,nodeA,nodeF,Tree.kind,Tree.set,Tree.sub,Tree.min,Tree.max,setD,ha,he,apR]
      rw [← hB,hpe]
      refine ⟨rfl,rfl,rfl,fun k=>(F k∨G k)∨k=σ.length,?_,stGet_add 1 rfl,stGet_add 2 rfl,⟨by simp,fun k hk _=>stGet_old σ _ hk,fun k q=>q.imp_right fun e=>by omega⟩,fun q=>q.elim (fun q=>by have:=hF0 _ q;omega) (by omega),fun q=>q.elim (fun q=>by have:=hF0 _ q;omega) (by omega)⟩
      exact (hD.pushed _).box (stGet_add 0 rfl) fun q=>by have:=hF0 _ q;omega
    rintro fr τ ⟨f2,f3,f4,H,hL⟩
    refine wW_cut (fun fr τ=>Fr fr p st.len∧∃ va ve F' G' H,Loc σ (fun k=>F k∨G k) p B τ st.push va ve F' G' H) ?_ ?_
    · obtain ⟨hp,o1,o2⟩:=hL.get
      simp only [autB] at hp
      simp (disch:=omega) only [go_sem,f2,hp]
      refine (state53 hL.duo hO.len (by omega)).at ?_
      rintro v σa ⟨va1,ve1,F1,G1,rfl,hD1,hK1⟩
      obtain ⟨⟨hp1,hpl1,_,_⟩,hL1,_,o3,o4⟩:=hL.call hBd hD1 hK1
      simp only [autB] at hp1
      simp (disch:=omega) only [go_sem,f2,hp1,nfaV,nfaF,o3,o4]
      exact ⟨⟨by simp (disch:=omega) only [go_sem,f2],by simp (disch:=omega) only [go_sem,f3],by simp (disch:=omega) only [go_sem,f4],by simp (disch:=omega) only [go_sem]⟩,_,_,_,_,_,hL1⟩
    clear f2 f3 f4 hL
    rintro fr τ ⟨hf,va1,ve1,F1,G1,H,hL⟩
    refine wW_cut (fun fr τ=>Fr fr p st.len∧∃ va ve F' G' H m8 m9,Loc σ (fun k=>F k∨G k) p B τ st.push va ve F' G' H∧Ls τ H (fr 8) m8 0 []∧Ls τ H (fr 9) m9 0 []∧m8≠m9∧p+2<m8∧p+2<m9) ?_ ?_
    · have hlt:=hL.lt
      have hHl:∀ k,H k→k<τ.length:=hL.two.lt
      simp (disch:=omega) only [go_sem,apR]
      refine ⟨⟨by simp (disch:=omega) only [go_sem,hf.f2],by simp (disch:=omega) only [go_sem,hf.f3],by simp (disch:=omega) only [go_sem,hf.f4],by simp (disch:=omega) only [go_sem,hf.f7]⟩,_,_,_,_,_,τ.length,τ.length+1,hL.more hlt _,⟨by simp (disch:=omega) only [go_sem],stGet_add 0 rfl,fun q=>by have:=hHl _ q;omega⟩,⟨by simp (disch:=omega) only [go_sem],stGet_add 1 rfl,fun q=>by have:=hHl _ q;omega⟩,by omega,by omega,by omega⟩
    clear hf hL
    rintro fr τ ⟨hf,va1,ve1,F1,G1,H,m8,m9,hL,h8,h9,h89,hm8,hm9⟩
    refine wW_cut (fun fr τ=>Fr fr p st.len∧∃ va ve F' G' H m8 m9 g8 g9,Loc σ (fun k=>F k∨G k) p B τ C.1 va ve F' G' H∧Ls τ H (fr 8) m8 g8 C.2.1∧Ls τ H (fr 9) m9 g9 C.2.2∧m8≠m9∧p+2<m8∧p+2<m9∧OkR C.1∧C.1.A.length+1≤1000000∧st.len<C.1.A.length ∧
      (∀ q,q∈C.2.1→q<C.1.A.length)∧(∀ q,q∈C.2.2→q<C.1.A.length)∧C.2.1.length=C.2.2.length∧C.2.1.length≤C.1.A.length) ?_ ?_
    · obtain ⟨f2,f3,f4,f7⟩:=hf
      have hsl:=sum_len sub hwx
      have hr1:1≤Pat.reps k a b∨Pat.reps k a b=0:=by omega
      simp (disch:=omega) only [go_sem]
      refine wL_ind (fun (i:Nat) fr τ=>i≤sub.length∧Fr fr p st.len∧fr 10=.d (.int .i64 i)∧∃ (sj:St) (va ve:AV) (F' G' H:Nat→Prop) (g8 g9:Nat) (fs ls:List Nat),Loc σ (fun k=>F k∨G k) p B τ sj va ve F' G' H∧OkR sj∧Ls τ H (fr 8) m8 g8 fs∧Ls τ H (fr 9) m9 g9 ls∧fs.length=ls.length∧fs.length≤sj.A.length ∧
        (∀ q,q∈fs→q<sj.A.length)∧(∀ q,q∈ls→q<sj.A.length)∧st.len<sj.A.length∧sj.A.length+Pat.reps k a b * ((sub.drop i).map sz).sum+1≤1000000 ∧
        C=con fs ls (allR ((Pat.partsR (sub.drop i)).flatMap fun f=>List.replicate (Pat.reps k a b) f) sj)) (fun i=>sub.length - i) ?_ 0 ?_
      · rintro i fr τ ⟨hi,⟨f2,f3,f4,f7⟩,f10,sj,va,ve,F1,G1,H,g8,g9,fs,ls,hL,hOj,h8,h9,he,hne,hfs,hls,hsj,hlj,hCj⟩ ih2
        have hnd:=hL.node
        rw [hB] at hnd
        by_cases hlt:i<sub.length
        · obtain ⟨x,hx⟩:∃ x,x=sub.getD i default:=⟨_,rfl⟩
          have hxm:x∈sub:=by rw [hx];exact getD_mem sub i hlt
          have hd:=drop_cons sub i hlt
          rw [← hx] at hd
          rw [hd] at hlj hCj
          simp only [Pat.partsR,List.flatMap_cons] at hCj
          rw [List.map_cons,List.sum_cons,Nat.mul_add] at hlj
          generalize hR:((Pat.partsR (sub.drop (i+1))).flatMap fun f=>List.replicate (Pat.reps k a b) f)=R at *
          generalize hS:Pat.reps k a b * ((sub.drop (i+1)).map sz).sum=S at *
          obtain ⟨c,hc⟩:∃ c,c=Pat.reps k a b:=⟨_,rfl⟩
          rw [← hc] at hlj hCj
          have h5:k=5∨¬ k=5:=by omega
          rcases h5 with h5 | h5
          all_goals
            first
            | (obtain ⟨y,hys,ha1,ha2,hb2,hab⟩:=c3 h5
               have hcp:=copies41 (.mk k set sub a b) ⟨by simp only [Tree.min];omega,by simp only [Tree.min];omega⟩ (by simp only [Tree.max];omega)
               simp only [Tree.min,Tree.max] at hcp
               rw [show copies a b=c by rw [hc,Pat.reps,if_pos h5]] at hcp
               simp (disch:=omega) only [go_sem,f2,f3,f10,hnd,hlt,h5]
               rw [h5] at hcp
               refine hcp.at ?_
               simp (disch:=omega) only [go_sem]
               have hc1:c=c:=rfl)
            | (have hc1:c=1:=by rw [hc,Pat.reps,if_neg h5]
               simp (disch:=omega) only [go_sem,f2,f3,f10,hnd,hlt,h5])
            refine wL_ind (fun (j:Nat) fr τ=>j≤c∧Fr fr p st.len∧fr 10=.d (.int .i64 i)∧fr 11=.d (.int .i64 c)∧fr 12=.d (.int .i64 j)∧∃ (sj:St) (va ve:AV) (F' G' H:Nat→Prop) (g8 g9:Nat) (fs ls:List Nat),Loc σ (fun k=>F k∨G k) p B τ sj va ve F' G' H∧OkR sj∧Ls τ H (fr 8) m8 g8 fs∧Ls τ H (fr 9) m9 g9 ls∧fs.length=ls.length∧fs.length≤sj.A.length ∧
              (∀ q,q∈fs→q<sj.A.length)∧(∀ q,q∈ls→q<sj.A.length)∧st.len<sj.A.length∧sj.A.length+((c - j) * sz x+S)+1≤1000000 ∧
              C=con fs ls (allR (List.replicate (c - j) (fun st=>Pat.partR x st)++R) sj)) (fun j=>c - j) ?_ 0 ?_
            · clear f2 f3 f4 f7 f10 hL hOj h8 h9 he hne hfs hls hsj hlj hCj hnd
              rintro j fr τ ⟨hj,⟨f2,f3,f4,f7⟩,f10,f11,f12,sj,va,ve,F1,G1,H,g8,g9,fs,ls,hL,hOj,⟨v8,e8,n8⟩,⟨v9,e9,n9⟩,he,hne,hfs,hls,hsj,hlj,hCj⟩ ih3
              have hnd:=hL.node
              rw [hB] at hnd
              by_cases hltj:j<c
              · have hcj:c - j=(c - (j+1))+1:=by omega
                rw [hcj,List.replicate_succ,List.cons_append,con_cons] at hCj
                rw [hcj,Nat.add_mul,Nat.one_mul] at hlj
                obtain ⟨hp,o1,o2⟩:=hL.get
                simp only [autB] at hp
                obtain ⟨y1,y2,y3⟩:=partR_len (hwx x hxm) hOj
                have hx2:=sz_two (hwx x hxm)
                simp (disch:=omega) only [go_sem,f2,f3,f10,f11,f12,hltj]
                refine wSeq_of [0,1,2,3,4,5,6,7,8,9,10,11,12,13,14] (by rfl) ?_
                simp (disch:=omega) only [go_sem,f2,f3,f10,hp,hnd,hlt,node_get,← hx,nodeD_eq,nodeC,o1,o2]
                refine (hpx x hxm hL.duo hOj (by omega)).at ?_
                rintro v σa ⟨va',ve',F',G',rfl,hD',hK'⟩
                obtain ⟨⟨hp1,hpl1,hn1,hr1⟩,hL',hst,o3,o4⟩:=hL.call hBd hD' hK'
                obtain ⟨q1,q2,q3⟩:=hst _ _ e8 (by simp) n8
                obtain ⟨r1,r2,r3⟩:=hst _ _ e9 (by simp) n9
                have hl8:=lt_of_get q1 (by simp)
                have hl9:=lt_of_get r1 (by simp)
                have hpm8:m8≠p:=by omega
                have hpm9:m9≠p:=by omega
                have hg9:∀ X Y rest,stGet (stSet (stSet σa p X) m8 Y++rest) m9=.arr g9 ⟨1,3⟩ (qsD ls):=fun X Y rest=>by
                  rw [stGet_left _ _ _ (by rw [stSet_len,stSet_len];exact hl9),stGet_set_ne (Ne.symm h89),stGet_set_ne hpm9];exact r1
                have hs9:∀ X Y Z rest,stSet (stSet (stSet σa p X) m8 Y++rest) m9 Z=stSet (stSet (stSet σa p X) m8 Y) m9 Z++rest:=fun X Y Z rest=>stSet_left _ _ _ _ (by rw [stSet_len,stSet_len];exact hl9)
                have hqs8:=qs_len fs
                have hqs9:=qs_len ls
                have hta8:List.take fs.length (qsD fs)=qsD fs:=List.take_of_length_le (by omega)
                have hta9:List.take ls.length (qsD ls)=qsD ls:=List.take_of_length_le (by omega)
                have hcap8:(fs.length+1) * 8≤140737488355328:=by omega
                have hcap9:(ls.length+1) * 8≤140737488355328:=by omega
                simp only [autB] at hp1 hL'
                rw [hB] at hn1
                simp (disch:=omega) only [go_sem,f2,f3,f10,f12,hp1,hn1,hlt,node_get,← hx,nodeD_eq,nodeC,nfaV,nfaF,o3,o4,v8,v9,q1,hg9,hs9,hqs8,hqs9,hta8,hta9,hcap8,hcap9,Nat.zero_add,Nat.le_refl,stGet_left,stSet_left,stGet_sl,stSet_sl,apR]
                obtain ⟨t1,t2,t3,t4⟩:=two_turn (σb:=stSet σa p (.box 31 [.d (.int .i64 0),.d (.int .i64 0),va',ve'])) (m:=m8) (n:=m9) (.arr (g8+1) ⟨1,3⟩ (qsD fs++[DV.int .i64 sj.len])) (.arr (g9+1) ⟨1,3⟩ (qsD ls++[DV.int .i64 (Pat.partR x sj).2]))
                  [.box 31 [.d (.int .i64 0),.d (.int .i64 0),va',ve'],.arr 0 ⟨1,3⟩ [DV.int .i64 sj.len],.arr 0 ⟨1,3⟩ [DV.int .i64 (Pat.partR x sj).2]] (by rw [stSet_len];exact hl8) (by rw [stSet_len];exact hl9) h89
                have hσp:σ.length≤p:=by omega
                refine ih3 (j+1) _ _ (by omega) ⟨by omega,⟨by simp (disch:=omega) only [go_sem,f2],by simp (disch:=omega) only [go_sem,f3],by simp (disch:=omega) only [go_sem,f4],by simp (disch:=omega) only [go_sem,f7]⟩,by simp (disch:=omega) only [go_sem,f10],by simp (disch:=omega) only [go_sem,f11],by simp (disch:=omega) only [go_sem],(Pat.partR x sj).1,va',ve',F',G',_,g8+1,g9+1,fs++[sj.len],ls++[(Pat.partR x sj).2],
                  hL'.turn (fun k=>k=m8∨k=m9) ?_ t4 hL'.lt t3,y3,⟨?_,?_,q3⟩,⟨?_,?_,r3⟩,?_,?_,?_,?_,?_,?_,hCj⟩
                · rintro k (rfl | rfl)
                  · exact ⟨by omega,q3,by omega,by omega⟩
                  · exact ⟨by omega,r3,by omega,by omega⟩
                · simp (disch:=omega) only [go_sem,List.length_append,List.length_singleton]
                · rw [t1];simp [qsD]
                · simp (disch:=omega) only [go_sem,List.length_append,List.length_singleton]
                · rw [t2];simp [qsD]
                · simp [he]
                · simp only [List.length_append,List.length_singleton];omega
                · intro q hq
                  rcases List.mem_append.1 hq with hq | hq
                  · have:=hfs q hq;omega
                  · rw [List.mem_singleton.1 hq];simp only [St.len];omega
                · intro q hq
                  rcases List.mem_append.1 hq with hq | hq
                  · have:=hls q hq;omega
                  · rw [List.mem_singleton.1 hq];omega
                · omega
                · omega
              · have hje:j=c:=by omega
                subst hje
                rw [Nat.sub_self,List.replicate_zero,List.nil_append] at hCj
                rw [Nat.sub_self,Nat.zero_mul,Nat.zero_add] at hlj
                simp (disch:=omega) only [go_sem,f10,f11,f12,hltj]
                have hi9:i+1≤1000000:=by omega
                refine ih2 (i+1) _ _ (by omega) ⟨by omega,⟨by simp (disch:=omega) only [go_sem,f2],by simp (disch:=omega) only [go_sem,f3],by simp (disch:=omega) only [go_sem,f4],by simp (disch:=omega) only [go_sem,f7]⟩,by simp (disch:=omega) only [go_sem],sj,va,ve,F1,G1,H,g8,g9,fs,ls,hL,hOj,⟨by simp (disch:=omega) only [go_sem,v8],e8,n8⟩,⟨by simp (disch:=omega) only [go_sem,v9],e9,n9⟩,he,hne,hfs,hls,hsj,?_,?_⟩
                · rw [hS];exact hlj
                · rw [hR];exact hCj
            · refine ⟨by omega,⟨by simp (disch:=omega) only [go_sem,f2],by simp (disch:=omega) only [go_sem,f3],by simp (disch:=omega) only [go_sem,f4],by simp (disch:=omega) only [go_sem,f7]⟩,by simp (disch:=omega) only [go_sem,f10],by first | (simp (disch:=omega) only [go_sem,hc1];done) | (rw [hc1];simp (disch:=omega) only [go_sem];rfl),by simp (disch:=omega) only [go_sem],sj,va,ve,F1,G1,H,g8,g9,fs,ls,hL,hOj,⟨by simp (disch:=omega) only [go_sem,h8.v],h8.get,h8.nh⟩,⟨by simp (disch:=omega) only [go_sem,h9.v],h9.get,h9.nh⟩,he,hne,hfs,hls,hsj,?_,?_⟩
              · rw [Nat.sub_zero];exact hlj
              · rw [Nat.sub_zero];exact hCj
        · have hie:i=sub.length:=by omega
          subst hie
          rw [List.drop_length] at hlj hCj
          simp only [Pat.partsR,List.flatMap_nil,allR,con,List.append_nil] at hCj
          simp (disch:=omega) only [go_sem,f2,f3,f10,hnd,hlt]
          rw [hCj]
          simp only [List.map_nil,List.sum_nil,Nat.mul_zero] at hlj
          have hlj:sj.A.length+1≤1000000:=by omega
          exact ⟨⟨f2,f3,f4,f7⟩,_,_,_,_,_,_,_,_,_,hL,h8,h9,h89,hm8,hm9,hOj,Nat.le_of_succ_le_succ hlj,hsj,hfs,hls,he,hne⟩
      · refine ⟨by omega,⟨by simp (disch:=omega) only [go_sem,f2],by simp (disch:=omega) only [go_sem,f3],by simp (disch:=omega) only [go_sem,f4],by simp (disch:=omega) only [go_sem,f7]⟩,by simp (disch:=omega) only [go_sem],st.push,va1,ve1,F1,G1,H,0,0,[],[],hL,hO.push,⟨by simp (disch:=omega) only [go_sem,h8.v],h8.get,h8.nh⟩,⟨by simp (disch:=omega) only [go_sem,h9.v],h9.get,h9.nh⟩,rfl,by simp,fun q hq=>(by cases hq),fun q hq=>(by cases hq),?_,?_,?_⟩
        · rw [push_len];exact Nat.lt_succ_self _
        · rw [push_len,List.drop_zero];omega
        · rw [List.drop_zero,hC];simp [con]
    clear hf hL h8 h9 h89 hm8 hm9
    rintro fr τ ⟨hf,va1,ve1,F1,G1,H,m8,m9,g8,g9,hL,h8,h9,h89,hm8,hm9,hOC,hlC,hsC,hfC,hgC,heC,hnC⟩
    refine wW_cut (fun fr τ=>Fr fr p st.len∧fr 16=.d (.int .i64 C.1.len)∧∃ va ve F' G' H,Loc σ (fun k=>F k∨G k) p B τ C.1.push va ve F' G' H∧Ls τ H (fr 8) m8 g8 C.2.1∧Ls τ H (fr 9) m9 g9 C.2.2) ?_ ?_
    · obtain ⟨f2,f3,f4,f7⟩:=hf
      obtain ⟨hp,o1,o2⟩:=hL.get
      simp only [autB] at hp
      simp (disch:=omega) only [go_sem,f2,hp]
      refine (state53 hL.duo hOC.len (by omega)).at ?_
      rintro v σa ⟨va1,ve1,F1,G1,rfl,hD1,hK1⟩
      obtain ⟨⟨hp1,hpl1,_,_⟩,hL1,hst,o3,o4⟩:=hL.call hBd hD1 hK1
      obtain ⟨q1,q2,q3⟩:=hst _ _ h8.get (by simp) h8.nh
      obtain ⟨r1,r2,r3⟩:=hst _ _ h9.get (by simp) h9.nh
      simp only [autB] at hp1
      simp (disch:=omega) only [go_sem,f2,hp1,nfaV,nfaF,o3,o4]
      exact ⟨⟨by simp (disch:=omega) only [go_sem,f2],by simp (disch:=omega) only [go_sem,f3],by simp (disch:=omega) only [go_sem,f4],by simp (disch:=omega) only [go_sem,f7]⟩,_,_,_,_,_,hL1,⟨h8.v,q2,q3⟩,⟨h9.v,r2,r3⟩⟩
    clear hf hL h8 h9
    rintro fr τ ⟨hf,f16,va1,ve1,F1,G1,H,hL,h8,h9⟩
    refine wW_cut (fun fr τ=>Fr fr p st.len∧fr 16=.d (.int .i64 C.1.len)∧∃ va ve F' G' H,Loc σ (fun k=>F k∨G k) p B τ (Pat.partR (.mk k set sub a b) st).1 va ve F' G' H) ?_ ?_
    · obtain ⟨f2,f3,f4,f7⟩:=hf
      have hOs:=hOC.push
      have hls2:C.1.push.A.length=C.1.A.length+1:=push_len _
      have hP1:(Pat.partR (.mk k set sub a b) st).1=if k=2 then C.1.push.arc st.len C.1.len set else edges C.1.push (edgesK k a b st.len C.1.len C.2.1 C.2.2):=by rw [hP];rfl
      have hCl:C.1.len=C.1.A.length:=rfl
      generalize hs2:C.1.push=s2 at *
      have hnd:=hL.node
      rw [hB] at hnd
      by_cases k1:k=1
      · have hE:(Pat.partR (.mk k set sub a b) st).1=s2.rfree st.len C.1.len:=by rw [hP1,if_neg (by omega),edgesK,if_pos k1];rfl
        obtain ⟨hp,o1,o2⟩:=hL.get
        simp only [autB] at hp
        simp (disch:=omega) only [go_sem,f2,f3,f7,f16,hp,hnd,k1,o1,o2]
        refine (free54 hL.duo hOs (by omega) st.len C.1.len (by omega)).at ?_
        rintro v σa ⟨va',ve',F',G',rfl,hD',hK'⟩
        obtain ⟨⟨hp1,hpl1,hn1,hr1⟩,hL',hst,o3,o4⟩:=hL.call hBd hD' hK'
        simp only [autB] at hp1 hL'
        simp (disch:=omega) only [go_sem,f2,hp1,nfaV,nfaF,o3,o4]
        rw [← k1,hE]
        exact ⟨⟨by simp (disch:=omega) only [go_sem,f2],by simp (disch:=omega) only [go_sem,f3],by simp (disch:=omega) only [go_sem,f4],by simp (disch:=omega) only [go_sem,f7]⟩,by simp (disch:=omega) only [go_sem,f16],_,_,_,_,_,hL'⟩
      by_cases k2:k=2
      · have hsub:sub=[]:=c2 (.inr k2)
        have hC0:C=(st.push,[],[]):=by rw [hC,hsub];rfl
        have hC1:C.1=st.push:=by rw [hC0]
        have hS2:s2.A.length=st.A.length+2:=by rw [hls2,hC1,hpm]
        have hr0:s2.A.getD st.len []=[]:=by
          rw [← hs2,hC1]
          simp only [St.push,St.len]
          rw [List.getD_eq_getElem?_getD,List.getElem?_append_left (by simp),List.getElem?_append_right (Nat.le_refl _)];simp
        have hE:(Pat.partR (.mk k set sub a b) st).1=⟨s2.A.set st.len (set.map fun r=>(r.1,r.2,(C.1.len:Int))),s2.E⟩:=by
          rw [hP1,if_pos k2];simp only [St.arc,hr0,List.nil_append]
        generalize C.1.len=t at *
        have hfl:st.len<s2.A.length:=by rw [hS2];simp only [St.len];omega
        simp (disch:=omega) only [go_sem,f3,hnd,k1,k2]
        refine wL_ind (fun (j:Nat) fr τ'=>j≤set.length∧Fr fr p st.len∧fr 16=.d (.int .i64 t)∧fr 17=.d (.int .i64 j)∧∃ (va ve:AV) (F' G' H':Nat→Prop),Loc σ (fun k=>F k∨G k) p B τ' ⟨s2.A.set st.len ((set.take j).map fun r=>(r.1,r.2,(t:Int))),s2.E⟩ va ve F' G' H') (fun j=>set.length - j) ?_ 0 ?_
        · rintro j fr σ' ⟨hj,⟨f2,f3,f4,f7⟩,f16,f17,va,ve,F1,G1,H1,hL⟩ ih2
          have hnd:=hL.node
          rw [hB] at hnd
          by_cases hlt:j<set.length
          · obtain ⟨r,hr⟩:∃ r,r=set.getD j default:=⟨_,rfl⟩
            have hget:(set.map rgD).getD j default=rgD r:=by rw [hr];simp [List.getD_eq_getElem?_getD,hlt]
            have htk:set.take (j+1)=set.take j++[r]:=by rw [hr];exact take_succ' set j hlt
            generalize hrow:((set.take j).map fun r=>(r.1,r.2,(t:Int)))=row at *
            have hrl:row.length=j:=by rw [← hrow];simp;omega
            obtain ⟨hp,o1,o2⟩:=hL.get
            simp only [autB] at hp
            have hT:=hL.two
            have hpl:=hT.lt p hT.hp
            rcases hT.a with ⟨rfl,hA⟩ | ⟨b',g,n,xs,rfl,hr⟩
            · have h0:=congrArg List.length hA
              rw [arcsL_len] at h0
              simp only [List.length_set,List.length_nil] at h0;omega
            have hr1:=hr.row
            have hr2:=hr.num
            have hr3:=hr.len
            rw [arcsL_len,List.length_set] at hr2 hr3
            have hfn:st.len<n:=by omega
            have hfx:st.len<xs.length:=by omega
            have hc:=hr.cell st.len (by rw [arcsL_len,List.length_set];exact hfl)
            rw [arcsL_get,getD_set_eq hfl] at hc
            have hpb:p≠b':=fun e=>hT.np.1 (e ▸ hr.mem)
            have hbl:=hT.lt b' (hT.fh b' hr.mem)
            rcases hc with ⟨h1,h2⟩ | ⟨cb,cg,m,h1,h2,h3⟩
            · simp (disch:=omega) only [go_sem,f3,f17,hnd,hlt]
              refine wSeq_of [0,1,2,3,4,5,6,7,8,9,10,11,12,13,14,15,16,17,18] (by rfl) ?_
              simp (disch:=omega) only [go_sem,f2,f3,f7,f16,f17,hnd,hp,hr1,hfn,hfx,h1,hlt,hget,rgD,Nat.zero_add,stGet_left,stSet_left,stGet_sl,stSet_sl,apR]
              obtain ⟨X,hX⟩:∃ X,X=stSet σ' b' (.rows g 55 (xs.set st.len (AV.own (List.length σ'+1) 0 0 1))):=⟨_,rfl⟩
              have hXl:X.length=σ'.length:=by rw [hX,stSet_len]
              rw [← hX]
              have he:row=[]:=by simpa using h2
              have hj0:j=0:=by rw [← hrl,he];rfl
              obtain ⟨F3,H3,hT3,hK3⟩:=twoN_writeA (σ':=X++[.arr 0 ⟨3,59⟩ [arcD (r.1,r.2,t)],.arr 0 ⟨3,59⟩ [arcD (r.1,r.2,t)]]) hT hr (f:=st.len) (by rw [List.length_set];exact hfl)
                (l:=[(r.1,r.2,(t:Int))]) (c:=.own (σ'.length+1) 0 0 1) (q:=σ'.length+1) (by rw [stGet_left _ _ _ (by omega),hX,stGet_set_eq hbl]) (.inr ⟨σ'.length+1,0,1,rfl,rfl,by rw [stGet_add 1 hXl];rfl⟩) rfl
                (.inl ⟨by omega,by rw [List.length_append,hXl];simp⟩) (fun k h3 h4 _=>by rw [stGet_left _ _ _ (by omega),hX,stGet_set_ne h4]) (by rw [List.length_append,hXl];omega)
              have hrow2:(set.take (j+1)).map (fun r=>(r.1,r.2,(t:Int)))=[(r.1,r.2,(t:Int))]:=by rw [htk,List.map_append,hrow,he];rfl
              simp only [List.set_set,← hrow2] at hT3
              exact ih2 (j+1) _ _ (by omega) ⟨by omega,⟨by simp (disch:=omega) only [go_sem,f2],by simp (disch:=omega) only [go_sem,f3],by simp (disch:=omega) only [go_sem,f4],by simp (disch:=omega) only [go_sem,f7]⟩,by simp (disch:=omega) only [go_sem,f16],by simp (disch:=omega) only [go_sem],_,_,F3,_,H3,hL.write hBd hT3 hK3⟩
            · have hcF:F1 cb:=hr.blk st.len cb (by rw [arcsL_len,List.length_set];exact hfl) (by rw [h2];rfl)
              have hcl:=hT.lt cb (hT.fh cb hcF)
              have hpc:p≠cb:=fun e=>hT.np.1 (e ▸ hcF)
              have hbc:b'≠cb:=fun e=>by subst e;rw [hr1] at h3;cases h3
              have hml:m=row.length:=by rw [h1,List.length_map]
              have hta:=take_all (row.map arcD) m h1.symm
              have h3':stGet σ' cb=.arr cg ⟨3,59⟩ (row.map arcD):=h3
              have hml':(row.map arcD).length=m:=h1.symm
              have hcap:(m+1) * 16≤140737488355328:=by omega
              have hnc:p+1≠cb:=fun e=>hL.n1 (e ▸ hT.fh cb hcF)
              have hnb:p+1≠b':=fun e=>hL.n1 (e ▸ hT.fh b' hr.mem)
              simp (disch:=omega) only [go_sem,f3,f17,hnd,hlt]
              refine wSeq_of [0,1,2,3,4,5,6,7,8,9,10,11,12,13,14,15,16,17,18] (by rfl) ?_
              simp (disch:=omega) only [go_sem,f2,f3,f7,f16,f17,hnd,hp,hr1,hfn,hfx,h2,h3',hlt,hget,rgD,hml',hta,hcap,Nat.le_refl,hpc,hbc,stGet_set_ne,stGet_set_eq,Nat.zero_add,stGet_left,stSet_left,stGet_sl,stSet_sl,apR]
              obtain ⟨X,hX⟩:∃ X,X=stSet (stSet σ' cb (.arr (cg+1) ⟨3,59⟩ (row.map arcD++[arcD (r.1,r.2,t)]))) b' (.rows g 55 (xs.set st.len (AV.own cb (cg+1) 0 (m+1)))):=⟨_,rfl⟩
              have hXl:X.length=σ'.length:=by rw [hX,stSet_len,stSet_len]
              have hX':=hX
              simp only [arcD] at hX'
              rw [← hX']
              have hb1:blkOf (xs.getD st.len .any)=some cb:=by rw [h2];rfl
              obtain ⟨F3,H3,hT3,hK3⟩:=twoN_writeA (σ':=X++[.arr 0 ⟨3,59⟩ [arcD (r.1,r.2,t)]]) hT hr (f:=st.len) (by rw [List.length_set];exact hfl)
                (l:=row++[(r.1,r.2,(t:Int))]) (c:=.own cb (cg+1) 0 (m+1)) (q:=cb) (by rw [stGet_left _ _ _ (by omega),hX,stGet_set_eq (by rw [stSet_len];exact hbl)])
                (.inr ⟨cb,cg+1,m+1,by simp [hml],rfl,by rw [stGet_left _ _ _ (by omega),hX,stGet_set_ne (Ne.symm hbc),stGet_set_eq hcl];simp⟩) rfl (.inr hb1)
                (fun k h4 h5 h6=>by rw [stGet_left _ _ _ (by omega),hX,stGet_set_ne h5,stGet_set_ne (fun e=>h6 (by rw [hb1,e]))]) (by rw [List.length_append,hXl];omega)
              have hrow2:(set.take (j+1)).map (fun r=>(r.1,r.2,(t:Int)))=row++[(r.1,r.2,(t:Int))]:=by rw [htk,List.map_append,hrow];rfl
              simp only [List.set_set,← hrow2] at hT3
              exact ih2 (j+1) _ _ (by omega) ⟨by omega,⟨by simp (disch:=omega) only [go_sem,f2],by simp (disch:=omega) only [go_sem,f3],by simp (disch:=omega) only [go_sem,f4],by simp (disch:=omega) only [go_sem,f7]⟩,by simp (disch:=omega) only [go_sem,f16],by simp (disch:=omega) only [go_sem],_,_,F3,_,H3,hL.write hBd hT3 hK3⟩
          · have hjl:j=set.length:=by omega
            subst hjl
            rw [List.take_length] at hL
            simp (disch:=omega) only [go_sem,f3,f17,hnd,hlt]
            rw [hE]
            exact ⟨⟨f2,f3,f4,f7⟩,f16,_,_,_,_,_,hL⟩
        · refine ⟨by omega,⟨by simp (disch:=omega) only [go_sem,f2],by simp (disch:=omega) only [go_sem,f3],by simp (disch:=omega) only [go_sem,f4],by simp (disch:=omega) only [go_sem,f7]⟩,by simp (disch:=omega) only [go_sem,f16],by simp (disch:=omega) only [go_sem],va1,ve1,F1,G1,H,?_⟩
          have:s2.A.set st.len []=s2.A:=by
            rw [← hr0,List.getD_eq_getElem?_getD,List.getElem?_eq_getElem hfl];simp
          simpa [this] using hL
      rw [if_neg k2] at hP1
      by_cases k4:k=4
      · have hE:(Pat.partR (.mk k set sub a b) st).1=edges s2 ((C.2.1.zip C.2.2).flatMap fun p=>[(st.len,p.1),(p.2,C.1.len)]):=by rw [hP1,edgesK,if_neg k1,if_neg k2,if_pos k4]
        simp (disch:=omega) only [go_sem,f3,hnd,k4]
        refine wL_ind (fun (i:Nat) fr τ=>i≤C.2.1.length∧Fr fr p st.len∧fr 16=.d (.int .i64 C.1.len)∧fr 18=.d (.int .i64 i)∧∃ (si:St) (va ve:AV) (F' G' H:Nat→Prop),Loc σ (fun k=>F k∨G k) p B τ si va ve F' G' H∧OkR si∧si.A.length=s2.A.length∧Ls τ H (fr 8) m8 g8 C.2.1∧Ls τ H (fr 9) m9 g9 C.2.2 ∧
          (Pat.partR (.mk k set sub a b) st).1=edges si (((C.2.1.zip C.2.2).drop i).flatMap fun p=>[(st.len,p.1),(p.2,C.1.len)])) (fun i=>C.2.1.length - i) ?_ 0 ?_
        · rintro i fr τ ⟨hi,⟨f2,f3,f4,f7⟩,f16,f18,si,va,ve,F1,G1,H,hL,hOi,hli,⟨v8,e8,n8⟩,⟨v9,e9,n9⟩,hEi⟩ ih2
          by_cases hlt:i<C.2.1.length
          · obtain ⟨hp,o1,o2⟩:=hL.get
            simp only [autB] at hp
            have hlt9:i<C.2.2.length:=by omega
            have g1:=qs_get C.2.1 i hlt
            have g2:=qs_get C.2.2 i hlt9
            have z1:C.2.1.getD i 0<s2.A.length:=by have:=hfC _ (getD_mem0 C.2.1 i hlt);omega
            have z2:C.2.2.getD i 0<s2.A.length:=by have:=hgC _ (getD_mem0 C.2.2 i hlt9);omega
            rw [zip_drop C.2.1 C.2.2 i hlt hlt9,List.flatMap_cons] at hEi
            simp only [List.cons_append,List.nil_append,edges_cons] at hEi
            generalize C.2.1.getD i 0=u1 at *
            generalize C.2.2.getD i 0=u2 at *
            have hqs8:=qs_len C.2.1
            have hqs9:=qs_len C.2.2
            simp (disch:=omega) only [go_sem,f2,f3,f7,f16,f18,v8,e8,hlt]
            refine wSeq_of [0,1,2,3,4,5,7,8,9,10,11,6,12,13] (by rfl) ?_
            simp (disch:=omega) only [go_sem,f2,f7,f16,f18,v8,v9,e8,e9,hp,hlt,hlt9,g1,g2,hqs8,hqs9,Nat.zero_add,o1,o2]
            refine (free54 hL.duo hOi (by omega) st.len u1 (by omega)).at ?_
            rintro v σa ⟨va',ve',F',G',rfl,hD',hK'⟩
            obtain ⟨⟨hp1,hpl1,hn1,hr1⟩,hL',hst,o3,o4⟩:=hL.call hBd hD' hK'
            obtain ⟨q1,q2,q3⟩:=hst _ _ e8 (by simp) n8
            obtain ⟨r1,r2,r3⟩:=hst _ _ e9 (by simp) n9
            have hO1:=hOi.rfree (f:=st.len) (t:=u1) (by omega) (by omega)
            simp (disch:=omega) only [go_sem,f2,f7,f16,f18,v8,v9,q1,r1,hlt,hlt9,g1,g2,hqs8,hqs9,Nat.zero_add]
            refine (free54 hD' hO1 (by rw [rfree_lenA];omega) u2 C.1.len (by rw [rfree_lenA];omega)).at ?_
            rintro v σb ⟨va2,ve2,F2,G2,rfl,hD2,hK2⟩
            obtain ⟨⟨hp2,hpl2,hn2,hr2⟩,hL2,hst2,o5,o6⟩:=hL.call hBd hD2 (hK'.trans hK2)
            obtain ⟨q4,q5,q6⟩:=hst2 _ _ e8 (by simp) n8
            obtain ⟨r4,r5,r6⟩:=hst2 _ _ e9 (by simp) n9
            simp only [autB] at hp2 hL2 q5 r5
            simp (disch:=omega) only [go_sem,f2,f18,hp2,nfaV,nfaF,o5,o6]
            refine ih2 (i+1) _ _ (by omega) ⟨by omega,⟨by simp (disch:=omega) only [go_sem,f2],by simp (disch:=omega) only [go_sem,f3],by simp (disch:=omega) only [go_sem,f4],by simp (disch:=omega) only [go_sem,f7]⟩,by simp (disch:=omega) only [go_sem,f16],by simp (disch:=omega) only [go_sem],_,va2,ve2,F2,G2,_,hL2,hO1.rfree (by rw [rfree_lenA];omega) (by rw [rfree_lenA];omega),by rw [rfree_lenA,rfree_lenA];exact hli,⟨by simp (disch:=omega) only [go_sem,v8],q5,q6⟩,⟨by simp (disch:=omega) only [go_sem,v9],r5,r6⟩,hEi⟩
          · have hie:i=C.2.1.length:=by omega
            subst hie
            rw [show (C.2.1.zip C.2.2).drop C.2.1.length=[] from List.drop_of_length_le (by rw [List.length_zip];omega)] at hEi
            simp (disch:=omega) only [go_sem,f3,v8,e8,f18,hlt]
            rw [hEi]
            exact ⟨⟨f2,f3,f4,f7⟩,f16,_,_,_,_,_,hL⟩
        · exact ⟨by omega,⟨by simp (disch:=omega) only [go_sem,f2],by simp (disch:=omega) only [go_sem,f3],by simp (disch:=omega) only [go_sem,f4],by simp (disch:=omega) only [go_sem,f7]⟩,by simp (disch:=omega) only [go_sem,f16],by simp (disch:=omega) only [go_sem],s2,va1,ve1,F1,G1,H,hL,hOs,rfl,⟨by simp (disch:=omega) only [go_sem,h8.v],h8.get,h8.nh⟩,⟨by simp (disch:=omega) only [go_sem,h9.v],h9.get,h9.nh⟩,by rw [List.drop_zero];exact hE⟩
      have hitems:(k=3∨k=5)∧¬ k=1:=by omega
      obtain ⟨L,hL0⟩:∃ L,L=if k=5 then a.toNat else C.2.1.length:=⟨_,rfl⟩
      have hLe:k=5→(L:Int)=a:=fun h5=>by
        obtain ⟨x,_,h0,_⟩:=c3 h5
        rw [hL0,if_pos h5];omega
      obtain ⟨pts,hpts⟩:∃ pts,pts=st.len::C.2.2:=⟨_,rfl⟩
      have hptl:pts.length=C.2.1.length+1:=by rw [hpts,List.length_cons,heC]
      have hptm:∀ q,q∈pts→q<s2.A.length:=fun q hq=>by
        rw [hpts] at hq
        rcases List.mem_cons.1 hq with rfl | hq
        · omega
        · have:=hgC q hq;omega
      obtain ⟨E3,hE3⟩:∃ E3,E3=if k=5∧b<0 then [(lastD C.2.2 st.len,C.2.1.getLastD 0)] else []:=⟨_,rfl⟩
      have hE:(Pat.partR (.mk k set sub a b) st).1=edges (edges (edges s2 (pts.zip C.2.1)) ((pts.drop L).map fun q=>(q,C.1.len))) E3:=by
        rw [hP1,edgesK,if_neg k1,if_neg k2,if_neg k4,← hpts,← hL0,← hE3,edges_append,edges_append]
      obtain ⟨v8,e8,n8⟩:=h8
      obtain ⟨v9,e9,n9⟩:=h9
      have hqs8:=qs_len C.2.1
      have hqs9:=qs_len C.2.2
      have hta9:List.take C.2.2.length (qsD C.2.2)=qsD C.2.2:=List.take_of_length_le (by omega)
      have hcap9:(1+C.2.2.length) * 8≤140737488355328:=by omega
      have hl9:=lt_of_get e9 (by simp)
      have hlt0:=hL.lt
      have hHl:∀ k,H k→k<τ.length:=hL.two.lt
      simp (disch:=omega) only [go_sem,f3,f7,hnd,k1,k2,k4,v9,e9,hqs9,hta9,hcap9,hl9,Nat.zero_add,Nat.le_refl,stGet_left,stSet_left,List.length_singleton,apR]
      refine wL_ind (fun (i:Nat) fr τ'=>i≤C.2.1.length∧Fr fr p st.len∧fr 16=.d (.int .i64 C.1.len)∧fr 20=.d (.int .i64 i)∧∃ (si:St) (va ve:AV) (F' G' H:Nat→Prop),Loc σ (fun k=>F k∨G k) p B τ' si va ve F' G' H∧OkR si∧si.A.length=s2.A.length∧Ls τ' H (fr 8) m8 g8 C.2.1∧Ls τ' H (fr 19) τ.length 1 pts ∧
        edges s2 (pts.zip C.2.1)=edges si ((pts.zip C.2.1).drop i)) (fun i=>C.2.1.length - i) ?_ 0 ?_
      · rintro i fr τ' ⟨hi,⟨f2,f3,f4,f7⟩,f16,f20,si,va,ve,F1,G1,H,hL,hOi,hli,⟨v8,e8,n8⟩,⟨v19,e19,n19⟩,hEi⟩ ih2
        by_cases hlt:i<C.2.1.length
        · obtain ⟨hp,o1,o2⟩:=hL.get
          simp only [autB] at hp
          have hlt9:i<pts.length:=by omega
          have g1:=qs_get C.2.1 i hlt
          have g2:=qs_get pts i hlt9
          have z1:C.2.1.getD i 0<s2.A.length:=by have:=hfC _ (getD_mem0 C.2.1 i hlt);omega
          have z2:pts.getD i 0<s2.A.length:=hptm _ (getD_mem0 pts i hlt9)
          rw [zip_drop pts C.2.1 i hlt9 hlt,edges_cons] at hEi
          generalize C.2.1.getD i 0=u1 at *
          generalize pts.getD i 0=u2 at *
          have hqs19:=qs_len pts
          simp (disch:=omega) only [go_sem,f2,f3,f7,f16,f20,v8,e8,hlt]
          refine wSeq_of [0,1,2,3,4,5,6,7,8,9,10] (by rfl) ?_
          simp (disch:=omega) only [go_sem,f2,f7,f16,f20,v8,v19,e8,e19,hp,hlt,hlt9,g1,g2,hqs8,hqs19,Nat.zero_add,o1,o2]
          refine (free54 hL.duo hOi (by omega) u2 u1 (by omega)).at ?_
          rintro v σa ⟨va',ve',F',G',rfl,hD',hK'⟩
          obtain ⟨⟨hp1,hpl1,hn1,hr1⟩,hL',hst,o3,o4⟩:=hL.call hBd hD' hK'
          obtain ⟨q1,q2,q3⟩:=hst _ _ e8 (by simp) n8
          obtain ⟨r1,r2,r3⟩:=hst _ _ e19 (by simp) n19
          simp only [autB] at hp1 hL' q2 r2
          simp (disch:=omega) only [go_sem,f2,f20,hp1,nfaV,nfaF,o3,o4]
          refine ih2 (i+1) _ _ (by omega) ⟨by omega,⟨by simp (disch:=omega) only [go_sem,f2],by simp (disch:=omega) only [go_sem,f3],by simp (disch:=omega) only [go_sem,f4],by simp (disch:=omega) only [go_sem,f7]⟩,by simp (disch:=omega) only [go_sem,f16],by simp (disch:=omega) only [go_sem],_,va',ve',F',G',_,hL',hOi.rfree (by omega) (by omega),by rw [rfree_lenA];exact hli,⟨by simp (disch:=omega) only [go_sem,v8],q2,q3⟩,⟨by simp (disch:=omega) only [go_sem,v19],r2,r3⟩,hEi⟩
        · have hie:i=C.2.1.length:=by omega
          subst hie
          rw [show (pts.zip C.2.1).drop C.2.1.length=[] from List.drop_of_length_le (by rw [List.length_zip];omega)] at hEi
          have hEi:edges s2 (pts.zip C.2.1)=si:=hEi
          rw [hEi] at hE
          have hnd':=hL.node
          rw [hB] at hnd'
          have h5:k=5∨¬ k=5:=by omega
          rcases h5 with h5 | h5
          all_goals
            first
            | (obtain ⟨y,hys,ha1,ha2,hb2,hab⟩:=c3 h5
               have hLa:=hLe h5
               simp (disch:=omega) only [go_sem,f3,v8,e8,f20,hlt,hnd',h5])
            | (have hLa:L=C.2.1.length:=by rw [hL0,if_neg h5]
               simp (disch:=omega) only [go_sem,f3,v8,e8,f20,hlt,hnd',h5])
            refine wL_ind (fun (i:Nat) fr τ'=>Fr fr p st.len∧fr 16=.d (.int .i64 C.1.len)∧fr 22=.d (.int .i64 i)∧∃ (sj:St) (va ve:AV) (F' G' H:Nat→Prop),Loc σ (fun k=>F k∨G k) p B τ' sj va ve F' G' H∧OkR sj∧sj.A.length=s2.A.length∧Ls τ' H (fr 8) m8 g8 C.2.1∧Ls τ' H (fr 19) τ.length 1 pts ∧
              edges si ((pts.drop L).map fun q=>(q,C.1.len))=edges sj ((pts.drop i).map fun q=>(q,C.1.len))) (fun i=>pts.length - i) ?_ L ?_
            · clear f2 f3 f4 f7 f16 f20 v8 e8 n8 v19 e19 n19 hnd' hlt
              rintro i fr τ' ⟨⟨f2,f3,f4,f7⟩,f16,f22,sj,va,ve,F1,G1,H,hL,hOi,hli,⟨v8,e8,n8⟩,⟨v19,e19,n19⟩,hEj⟩ ih3
              have hqs19:=qs_len pts
              obtain ⟨hp,o1,o2⟩:=hL.get
              simp only [autB] at hp
              by_cases hlt:i<pts.length
              · have g2:=qs_get pts i hlt
                have z2:pts.getD i 0<s2.A.length:=hptm _ (getD_mem0 pts i hlt)
                rw [drop_cons pts i hlt,List.map_cons,edges_cons] at hEj
                change _=edges (sj.rfree (pts.getD i 0) C.1.len) _ at hEj
                have hd0:(default:Nat)=0:=rfl
                generalize pts.getD i 0=u2 at *
                simp (disch:=omega) only [go_sem,f2,f3,f7,f16,f22,v19,e19,hlt]
                refine wSeq_of [0,1,2,3,4,5,6,7] (by rfl) ?_
                simp (disch:=omega) only [go_sem,f2,f7,f16,f22,v19,e19,hp,hlt,g2,hqs19,Nat.zero_add,o1,o2]
                refine (free54 hL.duo hOi (by omega) u2 C.1.len (by omega)).at ?_
                rintro v σa ⟨va',ve',F',G',rfl,hD',hK'⟩
                obtain ⟨⟨hp1,hpl1,hn1,hr1⟩,hL',hst,o3,o4⟩:=hL.call hBd hD' hK'
                obtain ⟨q1,q2,q3⟩:=hst _ _ e8 (by simp) n8
                obtain ⟨r1,r2,r3⟩:=hst _ _ e19 (by simp) n19
                simp only [autB] at hp1 hL' q2 r2
                simp (disch:=omega) only [go_sem,f2,f22,hp1,nfaV,nfaF,o3,o4]
                refine ih3 (i+1) _ _ (by omega) ⟨⟨by simp (disch:=omega) only [go_sem,f2],by simp (disch:=omega) only [go_sem,f3],by simp (disch:=omega) only [go_sem,f4],by simp (disch:=omega) only [go_sem,f7]⟩,by simp (disch:=omega) only [go_sem,f16],by simp (disch:=omega) only [go_sem],_,va',ve',F',G',_,hL',hOi.rfree (by omega) (by omega),by rw [rfree_lenA];exact hli,⟨by simp (disch:=omega) only [go_sem,v8],q2,q3⟩,⟨by simp (disch:=omega) only [go_sem,v19],r2,r3⟩,hEj⟩
              · rw [show pts.drop i=[] from List.drop_of_length_le (by omega)] at hEj
                have hEj:edges si ((pts.drop L).map fun q=>(q,C.1.len))=sj:=hEj
                rw [hEj] at hE
                have hnd':=hL.node
                rw [hB] at hnd'
                first
                | (obtain ⟨y,hys,ha1,ha2,hb2,hab⟩:=c3 h5
                   by_cases hb:b<0
                   · have hfl:C.2.1.length=Pat.copies a b:=by rw [hC,allR_len,hys];simp [Pat.partsR,Pat.reps,h5]
                     have hf1:1≤C.2.1.length:=by rw [hfl,Pat.copies,if_pos hb];omega
                     have hi1:C.2.1.length - 1<C.2.1.length:=by omega
                     have g1:=qs_get C.2.1 (C.2.1.length - 1) hi1
                     have g2:=qs_get pts C.2.1.length (by omega)
                     have z1:C.2.1.getD (C.2.1.length - 1) 0<s2.A.length:=by have:=hfC _ (getD_mem0 C.2.1 _ hi1);omega
                     have z2:pts.getD C.2.1.length 0<s2.A.length:=hptm _ (getD_mem0 pts _ (by omega))
                     have w1:C.2.1.getD (C.2.1.length - 1) 0=C.2.1.getLastD 0:=getD_lastD _
                     have w2:pts.getD C.2.1.length 0=lastD C.2.2 st.len:=by rw [hpts,heC];exact getD_last _ _
                     rw [hE3,if_pos ⟨h5,hb⟩,← w1,← w2] at hE
                     have hE:(Pat.partR (.mk k set sub a b) st).1=sj.rfree (pts.getD C.2.1.length 0) (C.2.1.getD (C.2.1.length - 1) 0):=hE
                     generalize C.2.1.getD (C.2.1.length - 1) 0=u1 at *
                     generalize pts.getD C.2.1.length 0=u2 at *
                     have hlp:C.2.1.length<pts.length:=by omega
                     have e1:((C.2.1.length:Nat):Int) - 1=((C.2.1.length - 1:Nat):Int):=by omega
                     simp (disch:=omega) only [go_sem,f3,f22,v19,e19,hlt,hnd',h5,hb]
                     refine wSeq_of [0,1,2,3,4,5,6,7,8,9,10,11,12,13] (by rfl) ?_
                     simp (disch:=omega) only [go_sem,f2,v8,e8,v19,e19,hp,hi1,hlp,g1,g2,hqs8,hqs19,e1,Nat.zero_add,o1,o2]
                     refine (free54 hL.duo hOi (by omega) u2 u1 (by omega)).at ?_
                     rintro v σa ⟨va',ve',F',G',rfl,hD',hK'⟩
                     obtain ⟨⟨hp1,hpl1,hn1,hr1⟩,hL',hst,o3,o4⟩:=hL.call hBd hD' hK'
                     simp only [autB] at hp1 hL'
                     simp (disch:=omega) only [go_sem,f2,hp1,nfaV,nfaF,o3,o4]
                     rw [← h5,hE]
                     exact ⟨⟨by simp (disch:=omega) only [go_sem,f2],by simp (disch:=omega) only [go_sem,f3],by simp (disch:=omega) only [go_sem,f4],by simp (disch:=omega) only [go_sem,f7]⟩,by simp (disch:=omega) only [go_sem,f16],_,_,_,_,_,hL'⟩
                   · rw [hE3,if_neg (fun h=>hb h.2)] at hE
                     simp (disch:=omega) only [go_sem,f3,f22,v19,e19,hlt,hnd',h5,hb]
                     rw [← h5,hE]
                     exact ⟨⟨f2,f3,f4,f7⟩,f16,_,_,_,_,_,hL⟩)
                | (rw [hE3,if_neg (fun h=>h5 h.1)] at hE
                   simp (disch:=omega) only [go_sem,f3,f22,v19,e19,hlt,hnd',h5]
                   rw [hE]
                   exact ⟨⟨f2,f3,f4,f7⟩,f16,_,_,_,_,_,hL⟩)
            · refine ⟨⟨by simp (disch:=omega) only [go_sem,f2],by simp (disch:=omega) only [go_sem,f3],by simp (disch:=omega) only [go_sem,f4],by simp (disch:=omega) only [go_sem,f7]⟩,by simp (disch:=omega) only [go_sem,f16],?_,si,va,ve,F1,G1,H,hL,hOi,hli,⟨by simp (disch:=omega) only [go_sem,v8],e8,n8⟩,⟨by simp (disch:=omega) only [go_sem,v19],e19,n19⟩,rfl⟩
              rw [hLa];simp (disch:=omega) only [go_sem]
      · refine ⟨by omega,⟨by simp (disch:=omega) only [go_sem,f2],by simp (disch:=omega) only [go_sem,f3],by simp (disch:=omega) only [go_sem,f4],by simp (disch:=omega) only [go_sem,f7]⟩,by simp (disch:=omega) only [go_sem,f16],by simp (disch:=omega) only [go_sem],s2,va1,ve1,F1,G1,H,hL.more hlt0 _,hOs,rfl,⟨by simp (disch:=omega) only [go_sem,v8],?_,n8⟩,⟨?_,?_,fun q=>by have:=hHl _ q;omega⟩,by rw [List.drop_zero]⟩
        · rw [stGet_old _ _ (lt_of_get e8 (by simp))];exact e8
        · simp (disch:=omega) only [go_sem,hptl]
          rw [Nat.add_comm,heC]
        · rw [hpts];exact stGet_add 0 rfl
    clear hf hL h8 h9 f16
    rintro fr τ ⟨⟨f2,f3,f4,f7⟩,f16,va1,ve1,F1,G1,H,hL⟩
    obtain ⟨hp,o1,o2⟩:=hL.get
    have hr:=hL.res
    have hrl:=hL.lt
    simp only [autB,resB] at hp hr
    obtain ⟨d1,d2⟩:=hL.fin (by omega) (autB va1 ve1)
    simp only [autB] at d1 d2
    have e2:(Pat.partR (.mk k set sub a b) st).2=C.1.len:=by rw [hP];rfl
    simp (disch:=omega) only [go_sem,f2,f3,f4,f7,f16,hp,hr,o1,o2,stGet_set_eq,hrl]
    exact ⟨_,rfl,_,_,_,_,by rw [e2];rfl,d1,d2⟩
end Go.Proofs.YtngdkenddfdhaaaGreatDoor
