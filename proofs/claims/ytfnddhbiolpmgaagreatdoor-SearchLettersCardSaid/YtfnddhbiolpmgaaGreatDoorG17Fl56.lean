/- Part of a proof about the functions of this seat. -/
import Derived.Test.YtfnddhbiolpmgaaGreatDoorG16Nfm
import Derived.Test.YtfnddhbiolpmgaaGreatDoorG12Q56
set_option linter.unusedVariables false
set_option linter.unusedSimpArgs false
set_option maxRecDepth 100000
namespace Go.Proofs.YtfnddhbiolpmgaaGreatDoor
open Go Nv Pat
def st0:St:=⟨[],[]⟩
def buildM (n:Tree):Au:=⟨0,(partB n st0).2,(partB n st0).1.A,(partB n st0).1.E.map sortI⟩
def auF (A:Au):List AV:=[.d (.int .i64 A.start),.d (.int .i64 A.accept),.d (rowsD 3 (arcsL A.arcs)),.d (rowsD 1 (intsL A.emp))]
def auA (A:Au):AV:=.agg (auF A)
def auZ:AV:=.agg [.d (.int .i64 0),.d (.int .i64 0),.d .nilslice,.d .nilslice]
def buildE (n:Tree):Int:=if chkE n=0 then (if 3000<szP n then 5 else 0) else chkE n
def buildA (n:Tree):AV:=if buildE n=0 then auA (buildM n) else auZ
theorem Rw.thaw {P:Program} {σ:Nv.ST} {e:ET} {t:Nat} {v:AV} {L:List (List DV)} {F:Nat→Prop} (h:Rw σ e t v L F):∃ τ,Thaws P v (.d (rowsD e.n L)) σ τ∧∀ k,¬ F k→stGet τ k=stGet σ k:=by
 rcases h with ⟨rfl,rfl⟩ | ⟨b,g,n,xs,rfl,hr⟩
 ·exact ⟨σ,Thaws.deep (q:=e.n) (by simp [rDeep,Res.holds,rowsD]),fun _ _=>rfl⟩
 ·obtain ⟨σ',h1,h2,h3⟩:=hr.deep
  have hbl:=lt_of_get hr.row (by simp)
  refine ⟨stSet σ' b .dead,Thaws.deep (q:=e.n) ?_,fun k hk=>?_⟩
  ·simp only [rDeep,hr.row,Res.holds]
   refine ⟨⟨trivial,trivial,by rw [hr.num,hr.len]⟩,?_⟩
   rw [h1]
   simp only [Res.holds]
   refine ⟨by simp [DV.isAgg],?_⟩
   simp [rowsD]
  ·rw [stGet_set_ne (fun e=>hk (by rw [e];exact hr.mem))]
   exact h3 k hk
theorem intsL_set (E:List (List Int)) (i:Nat) (l:List Int):intsL (E.set i l)=(intsL E).set i (l.map intD):=by simp [intsL,List.map_set]
theorem set_getD_self {α:Type} {l:List α} {i:Nat} {d:α} (h:i<l.length):l.set i (l.getD i d)=l:=by
 rw [List.getD_eq_getElem?_getD,List.getElem?_eq_getElem h];simp
theorem two_sort {σ σ':Nv.ST} {p b g n:Nat} {va:AV} {A:List (List DV)} {E:List (List Int)} {F G H:Nat→Prop} {xs:List AV} (hT:Two σ p 81 ⟨3,101⟩ ⟨1,3⟩ 99 84 A (intsL E) va (.rown b g 0 n) F G H)
  (hr:Nv.Rows σ ⟨1,3⟩ 84 b g n (intsL E) G xs) {i:Nat} (hi:i<E.length) {l:List Int} (hc:Cell σ' ⟨1,3⟩ (xs.getD i .any) (l.map intD)) (hl:σ'.length=σ.length) (hk:∀ k,blkOf (xs.getD i .any)≠some k→stGet σ' k=stGet σ k)
  (hnil:blkOf (xs.getD i .any)=none→E.getD i []=l):∃ G' H',Two σ' p 81 ⟨3,101⟩ ⟨1,3⟩ 99 84 A (intsL (E.set i l)) va (.rown b g 0 n) F G' H'∧∀ k,H' k→H k:=by
 have hil:i<(intsL E).length:=by simpa [intsL] using hi
 cases hq:blkOf (xs.getD i .any) with
 | none =>
  have he:E.set i l=E:=by rw [← hnil hq];exact set_getD_self hi
  rw [he]
  exact ⟨G,H,hT.keep (by omega) fun k _=>hk k (by rw [hq];simp),fun k h=>h⟩
 | some q =>
  have hxl:i<xs.length:=by rw [hr.len];exact hil
  have hne:q≠b:=by
   intro e
   subst e
   rcases hr.cell i hil with ⟨h1,_⟩ | ⟨b',g1,n1,_,h1,h2⟩
   ·rw [h1] at hq;cases hq
   ·rw [h1] at hq
    simp only [blkOf,Option.some.injEq] at hq
    subst hq
    rw [hr.row] at h2;cases h2
  have hG:=hr.blk i q hil hq
  rw [intsL_set]
  refine ⟨_,_,hT.writeE hr hil (c:=xs.getD i .any) (by rw [set_getD_self hxl,hk b (by rw [hq];simpa using hne)];exact hr.row) hc hq (.inr hq) rfl (fun k _ _ hb=>hk k hb) (by omega),?_⟩
  rintro k (h | rfl)
  ·exact h
  ·exact hT.gh _ hG
theorem build9 (n:Tree) (ht:Thin n) (hn:n.nodes≤1000000):PCall Tryz.prog 19 [nodeA n] (.tuple [buildA n,.d (.int .i64 (buildE n))]):=by
 refine fn19.thaw noHint (Nat.le_refl _) (by simp only [go_sem,nodeA,nodeF,setD]) (by unfold buildA;split <;> rfl) ?_
 simp (disch:=omega) only [go_sem,nodeA,nodeF,setD]
 refine (check13 n ht).at ?_
 by_cases hc:chkE n=0
 ·simp (disch:=omega) only [go_sem,hc]
  obtain ⟨hn120,hc0⟩:=chkE_ok hc
  refine (size24 n hc0 hn).at ?_
  by_cases hbig:3000<szP n
  ·have hE:buildE n=5:=by rw [buildE,if_pos hc,if_pos hbig]
   have hA:buildA n=auZ:=by rw [buildA,if_neg (by rw [hE];decide)]
   have hbig':(3000:Int)<(szP n:Int):=by omega
   simp (disch:=omega) only [go_sem,hbig']
   rw [hA,hE]
   exact ⟨_,_,rfl,Thaws.refl _ _⟩
  ·have hE:buildE n=0:=by rw [buildE,if_pos hc,if_neg hbig]
   have hA:buildA n=auA (buildM n):=by rw [buildA,if_pos hE]
   have hbig':¬ (3000:Int)<(szP n:Int):=by omega
   have hsz:sz n≤3000:=by unfold szP at hbig;omega
   simp (disch:=omega) only [go_sem,hbig']
   have hwf:=chk_wf n hc0
   have hO0:Okb st0:=⟨rfl,fun f=>by simp [st0],fun f z hz=>by simp [st0] at hz⟩
   obtain ⟨S,hS⟩:∃ S,S=[Blk.box 39 [AV.d (.int .i64 n.kind),AV.d (.list 2 (n.set.map rgD)),AV.d (.list 5 (n.sub.map nodeD)),AV.d (.int .i64 n.min),AV.d (.int .i64 n.max)],
    Blk.box 43 [AV.d (.int .i64 0),AV.d (.int .i64 0),AV.d .nilslice,AV.d .nilslice],Blk.box 81 [AV.d .nilslice,AV.d .nilslice]]:=⟨_,rfl⟩
   have hB0:Bld S 2 st0 (fun k=>k=2):=by
    refine ⟨.d .nilslice,.d .nilslice,fun _=>False,fun _=>False,?_⟩
    exact ⟨by rw [hS];rfl,.inl ⟨rfl,rfl⟩,.inl ⟨rfl,rfl⟩,fun _ h=>h.elim,⟨id,id⟩,fun _ h=>h.elim,fun _ h=>h.elim,rfl,fun k e=>by rw [e,hS];simp⟩
   rw [← hS]
   refine (part_one hwf (thin_sets n ht) hB0 hO0 (by simp only [st0,List.length_nil];omega)).at ?_
   rintro v σ1 ⟨rfl,H1,hB1,hK1⟩
   have hres:stGet σ1 1=.box 43 [AV.d (.int .i64 0),AV.d (.int .i64 0),AV.d .nilslice,AV.d .nilslice]∧¬ H1 1:=hK1.stay (by rw [hS];rfl) (by simp) (by omega)
   have hOk:=part_ok hwf st0 hO0
   have hplen:=(part_len hwf hO0).1
   simp only at hOk
   obtain ⟨hOk,_,_⟩:=hOk
   have hbA:buildM n=⟨0,(partB n st0).2,(partB n st0).1.A,(partB n st0).1.E.map sortI⟩:=rfl
   generalize partB n st0=R at *
   obtain ⟨va,ve,F,G,hT⟩:=hB1
   have hp:=hT.box
   have hEl:(intsL R.1.E).length=R.1.E.length:=by simp [intsL]
   have hsz2:=sz_two hwf
   have hEA:=hOk.len
   rcases hT.e with ⟨_,hE0⟩ | ⟨b,g,N,xs,rfl,hr⟩
   ·have h0:=congrArg List.length hE0
    rw [hEl] at h0;simp only [List.length_nil] at h0;simp only [st0,List.length_nil] at hplen;omega
   rcases hT.a with ⟨_,hA0⟩ | ⟨bA,gA,NA,xsA,rfl,hrA⟩
   ·have h0:=congrArg List.length hA0
    rw [arcsL_len] at h0;simp only [List.length_nil] at h0;simp only [st0,List.length_nil] at hplen;omega
   have hr1:=hr.row
   have hN:N=R.1.E.length:=by rw [hr.num,hEl]
   simp (disch:=omega) only [go_sem,hp,hr1]
   clear hr hr1
   subst hN
   have hNs:R.1.E.length≤3000:=by simp only [st0,List.length_nil] at hplen;omega
   refine wL_ind (fun (i:Nat) fr τ=>i≤R.1.E.length∧fr 2=.ptr 1 0∧fr 5=.ptr 2 0∧fr 6=.d (.int .i64 0)∧fr 7=.d (.int .i64 R.2)∧fr 31=.rown b g 0 R.1.E.length∧fr 32=.d (.int .i64 R.1.E.length)∧fr 33=.d (.int .i64 i) ∧
    ∃ (G2 H2:Nat→Prop),stGet τ 1=.box 43 [AV.d (.int .i64 0),AV.d (.int .i64 0),AV.d .nilslice,AV.d .nilslice]∧¬ H2 1 ∧
     Two τ 2 81 ⟨3,101⟩ ⟨1,3⟩ 99 84 (arcsL R.1.A) (intsL ((R.1.E.take i).map sortI++R.1.E.drop i)) (.rown bA gA 0 NA) (.rown b g 0 R.1.E.length) F G2 H2) (fun i=>R.1.E.length - i) ?_ 0 ?_
   ·rintro i fr τ ⟨hi,f2,f5,f6,f7,f31,f32,f33,G2,H2,hz,hzH,hT2⟩ ih2
    have hlen:((R.1.E.take i).map sortI++R.1.E.drop i).length=R.1.E.length:=by simp;omega
    by_cases hlt:i<R.1.E.length
    ·rcases hT2.e with ⟨he,_⟩ | ⟨b',g',n',xs',he,hr⟩
     ·cases he
     cases he
     have hr1:=hr.row
     have hil:i<(intsL ((R.1.E.take i).map sortI++R.1.E.drop i)).length:=by simp only [intsL,List.length_map];omega
     have hxl:i<xs'.length:=by rw [hr.len];exact hil
     have hc:=hr.cell i hil
     rw [intsL_get] at hc
     have hget:((R.1.E.take i).map sortI++R.1.E.drop i).getD i []=R.1.E.getD i []:=by
      rw [List.getD_eq_getElem?_getD,List.getElem?_append_right (by simp;omega)]
      simp [List.getD_eq_getElem?_getD]
      congr 2;omega
     rw [hget] at hc
     simp (disch:=omega) only [go_sem,f2,f5,f31,f32,f33,hlt,hr1,hxl,Nat.zero_add]
     refine (sort26c hc ?_).at ?_
     ·have:=hOk.row i;omega
     rintro v σ' ⟨rfl,hsl,hsc,hsk⟩
     obtain ⟨G3,H3,hT3,hH3⟩:=two_sort hT2 hr (by omega) hsc hsl hsk (fun hn=>by
      rcases hc with ⟨h1,h2⟩ | ⟨b',g1,n1,_,h1,h2⟩
      ·have:R.1.E.getD i []=[]:=by simpa using h2
       rw [hget,this,sortI_nil]
      ·rw [h1] at hn;cases hn)
     have hset:((R.1.E.take i).map sortI++R.1.E.drop i).set i (sortI (R.1.E.getD i []))=(R.1.E.take (i+1)).map sortI++R.1.E.drop (i+1):=by
      rw [List.set_append_right _ _ (by simp;omega)]
      rw [show i - ((R.1.E.take i).map sortI).length=0 by simp;omega,drop_cons _ i hlt,List.set_cons_zero,take_succ' _ i hlt,List.map_append,List.append_assoc]
      rfl
     rw [hset] at hT3
     simp (disch:=omega) only [go_sem,f33]
     refine ih2 (i+1) _ _ (by omega) ⟨by omega,?_,?_,?_,?_,?_,?_,?_,G3,H3,?_,fun h=>hzH (hH3 1 h),hT3⟩
     ·simp (disch:=omega) only [go_sem,f2]
     ·simp (disch:=omega) only [go_sem,f5]
     ·simp (disch:=omega) only [go_sem,f6]
     ·simp (disch:=omega) only [go_sem,f7]
     ·simp (disch:=omega) only [go_sem,f31]
     ·simp (disch:=omega) only [go_sem,f32]
     ·simp (disch:=omega) only [go_sem]
     ·rw [hsk 1 (fun e=>hzH (hT2.gh 1 (hr.blk i 1 hil e)))];exact hz
    ·have hie:i=R.1.E.length:=by omega
     subst hie
     rw [List.take_length,List.drop_length,List.append_nil] at hT2
     have hp2:=hT2.box
     have hzl:=lt_of_get hz (by simp)
     simp (disch:=omega) only [go_sem,f2,f5,f6,f7,f31,f32,f33,hlt,hp2,hz,stGet_set_eq,apR]
     rw [hA,hE,hbA]
     have hT3:=hT2.keep (σ':=stSet τ 1 (.box 43 [AV.d (.int .i64 0),AV.d (.int .i64 R.2),AV.rown bA gA 0 NA,AV.rown b g 0 R.1.E.length])) (by rw [stSet_len];exact Nat.le_refl _) (fun k hk=>stGet_set_ne fun e=>hzH (e ▸ hk))
     obtain ⟨τ1,t1,k1⟩:=Rw.thaw (P:=Tryz.prog) hT3.a
     obtain ⟨τ2,t2,_⟩:=Rw.thaw (P:=Tryz.prog) (hT3.e.keep fun k hk=>k1 k fun hF=>hT3.dis k hF hk)
     refine ⟨_,τ2,rfl,?_⟩
     exact Thaws.tuple (.cons (Thaws.agg (.cons (Thaws.refl _ _) (.cons (Thaws.refl _ _) (.cons t1 (.cons t2 (.nil _)))))) (.cons (Thaws.refl _ _) (.nil _)))
   ·refine ⟨by omega,?_,?_,?_,?_,?_,?_,?_,G,H1,hres.1,hres.2,by simpa using hT⟩
    all_goals simp (disch:=omega) only [go_sem,st0,St.len,List.length_nil]
 ·have hE:buildE n=chkE n:=by rw [buildE,if_neg hc]
  have hA:buildA n=auZ:=by rw [buildA,if_neg (by rw [hE];exact hc)]
  simp (disch:=omega) only [go_sem,hc]
  rw [hA,hE]
  exact ⟨_,_,rfl,Thaws.refl _ _⟩
end Go.Proofs.YtfnddhbiolpmgaaGreatDoor
set_option linter.unusedVariables false
set_option linter.unusedSimpArgs false
set_option maxRecDepth 100000
namespace Go.Proofs.YtfnddhbiolpmgaaGreatDoor
open Go Nv Pat
def inZ (n:Nat) (z:Int):Bool:=decide (0≤z) && decide (z<n)
def arcB (n:Nat) (x:Arc):Bool:=charB x.1 && charB x.2.1 && decide (x.1≤x.2.1) && inZ n x.2.2
def rowB (A:Au) (j:Nat):Bool:=(A.arcs.getD j []).all (arcB A.arcs.length) && (A.emp.getD j []).all (inZ A.arcs.length)
def okA (A:Au):Bool:=decide (1≤A.arcs.length) && decide (A.arcs.length≤3000) && decide (A.emp.length=A.arcs.length) && inZ A.arcs.length A.start && inZ A.arcs.length A.accept && (List.range A.arcs.length).all (rowB A)
structure Fit (A:Au):Prop where
 arcs:A.arcs.length≤1000000000
 emp:A.emp.length≤1000000000
 arow:∀ l,l∈A.arcs→l.length≤1000000000
 erow:∀ l,l∈A.emp→l.length≤1000000000
theorem charB_iff2 (r:Int):charB r=true↔scalar r:=by
 rw [charB_iff];unfold scalar;omega
theorem char38 (r:Int):PCall Tryz.prog 80 [.d (.int .i32 r)] (.d (.bool (charB r))):=by
 refine fn80.pure noHint (Nat.le_refl _) (by simp only [go_sem]) (by simp only [go_sem]) ?_
 simp (disch:=omega) only [go_sem]
 by_cases h1:0≤r
 ·by_cases h2:r≤1114111
  ·by_cases h3:r<55296
   ·have e:charB r=true:=(charB_iff r).2 (by omega)
    simp (disch:=omega) only [go_sem,h1,h2,h3,e]
   ·by_cases h4:57343<r
    ·have e:charB r=true:=(charB_iff r).2 (by omega)
     simp (disch:=omega) only [go_sem,h1,h2,h3,h4,e]
    ·have e:charB r=false:=by
      cases hc:charB r
      ·rfl
      ·have:=(charB_iff r).1 hc;omega
     simp (disch:=omega) only [go_sem,h1,h2,h3,h4,e]
  ·have e:charB r=false:=by
    cases hc:charB r
    ·rfl
    ·have:=(charB_iff r).1 hc;omega
   simp (disch:=omega) only [go_sem,h1,h2,e]
 ·have e:charB r=false:=by
   cases hc:charB r
   ·rfl
   ·have:=(charB_iff r).1 hc;omega
  simp (disch:=omega) only [go_sem,h1,e]
theorem in37 {σ:Nv.ST} {b n:Nat} (hb:stGet σ b=.box 3 [.d (.int .i64 n)]) (x:Int) :
  RCall Tryz.prog 79 [.d (.int .i64 x),.ptr b 0] σ fun v σ'=>v=.d (.bool (inZ n x))∧σ'=σ:=by
 refine fn79.rel noHint (Nat.le_refl _) ?_
 by_cases h1:0≤x
 ·by_cases h2:x<n
  ·simp (disch:=omega) only [go_sem,hb,h1,h2,inZ]
   exact ⟨_,rfl,rfl⟩
  ·simp (disch:=omega) only [go_sem,hb,h1,h2,inZ]
   exact ⟨_,rfl,rfl⟩
 ·simp (disch:=omega) only [go_sem,hb,h1,inZ]
  exact ⟨_,rfl,rfl⟩
theorem arows_get (A:List (List Arc)) (j:Nat) (h:j<A.length):((arcsL A).map (DV.list 3)).getD j default=.list 3 ((A.getD j []).map arcD):=by
 simp [arcsL,List.getD_eq_getElem?_getD,h]
theorem erows_get (E:List (List Int)) (j:Nat) (h:j<E.length):((intsL E).map (DV.list 1)).getD j default=.list 1 ((E.getD j []).map intD):=by
 simp [intsL,List.getD_eq_getElem?_getD,h]
theorem arc_get (l:List Arc) (i:Nat) (h:i<l.length):(l.map arcD).getD i default=.agg [.int .i32 (l.getD i default).1,.int .i32 (l.getD i default).2.1,.int .i64 (l.getD i default).2.2]:=by
 simp [arcD,List.getD_eq_getElem?_getD,h]
theorem emp_get (l:List Int) (i:Nat) (h:i<l.length):(l.map intD).getD i default=.int .i64 (l.getD i default):=by
 simp [intD,List.getD_eq_getElem?_getD,h]
theorem okA_bad {A:Au} {j:Nat} (hj:j<A.arcs.length) (h:rowB A j=false):okA A=false:=by
 cases ho:okA A
 ·rfl
 ·unfold okA at ho
  simp only [Bool.and_eq_true,List.all_eq_true] at ho
  have:=ho.2 j (List.mem_range.2 hj)
  rw [h] at this;cases this
theorem all_bad {α:Type} [Inhabited α] {l:List α} {f:α→Bool} {i:Nat} (hi:i<l.length) (h:f (l.getD i default)=false):l.all f=false:=by
 cases ha:l.all f
 ·rfl
 ·have:=List.all_eq_true.1 ha _ (getD_mem l i hi)
  rw [h] at this;cases this
theorem all_take {α:Type} [Inhabited α] {l:List α} {f:α→Bool} {i:Nat} (hi:i<l.length) (h1:(l.take i).all f=true) (h2:f (l.getD i default)=true):(l.take (i+1)).all f=true:=by
 rw [take_succ' l i hi,List.all_append,h1,List.all_cons,List.all_nil,h2];rfl
theorem check17 (A:Au) (hf:Fit A):PCall Tryz.prog 55 [auA A] (.d (.int .i64 (if okA A then 0 else 1))):=by
 refine fn55.pure noHint (Nat.le_refl _) (by simp only [go_sem,auA,auF,rowsD]) (by simp only [go_sem]) ?_
 have hla:((arcsL A.arcs).map (DV.list 3)).length=A.arcs.length:=by simp [arcsL]
 have hle:((intsL A.emp).map (DV.list 1)).length=A.emp.length:=by simp [intsL]
 simp (disch:=omega) only [go_sem,auA,auF,rowsD,hla,hle]
 have hfa:=hf.arcs
 have hfe:=hf.emp
 have okf:(decide (1≤A.arcs.length) && decide (A.arcs.length≤3000) && decide (A.emp.length=A.arcs.length))=false→okA A=false:=fun h=>by unfold okA;rw [h];rfl
 by_cases h1:¬ 1≤A.arcs.length
 ·have h1':(A.arcs.length:Int)<1:=by omega
  have e:=okf (by simp [h1])
  simp (disch:=omega) only [go_sem,h1',e]
 have h1:1≤A.arcs.length:=by omega
 have h1':¬ (A.arcs.length:Int)<1:=by omega
 by_cases h2:¬ A.arcs.length≤3000
 ·have h2':(3000:Int)<(A.arcs.length:Int):=by omega
  have e:=okf (by simp [h2])
  simp (disch:=omega) only [go_sem,h1',h2',e]
 have h2:A.arcs.length≤3000:=by omega
 have h2':¬ (3000:Int)<(A.arcs.length:Int):=by omega
 by_cases h3:¬ A.emp.length=A.arcs.length
 ·have h3':¬ (A.emp.length:Int)=(A.arcs.length:Int):=by omega
  have e:=okf (by simp [h3])
  simp (disch:=omega) only [go_sem,h1',h2',h3',hle,e]
 have h3:A.emp.length=A.arcs.length:=by omega
 have h3':(A.emp.length:Int)=(A.arcs.length:Int):=by omega
 simp (disch:=omega) only [go_sem,h1',h2',h3',hle]
 refine (in37 (b:=1) (n:=A.arcs.length) rfl A.start).at ?_
 rintro v σ' ⟨rfl,rfl⟩
 cases h4:inZ A.arcs.length A.start with
 | false =>
  have e:okA A=false:=by unfold okA;rw [h4];simp
  simp (disch:=omega) only [go_sem,h4,e]
 | true =>
 simp (disch:=omega) only [go_sem,h4]
 refine (in37 (b:=1) (n:=A.arcs.length) rfl A.accept).at ?_
 rintro v σ' ⟨rfl,rfl⟩
 cases h5:inZ A.arcs.length A.accept with
 | false =>
  have e:okA A=false:=by unfold okA;rw [h5];simp
  simp (disch:=omega) only [go_sem,h5,e]
 | true =>
 simp (disch:=omega) only [go_sem,h5]
 obtain ⟨B0,hB0⟩:∃ B0,B0=Blk.box 43 [AV.d (.int .i64 A.start),AV.d (.int .i64 A.accept),AV.d (.list 1 ((arcsL A.arcs).map (DV.list 3))),AV.d (.list 1 ((intsL A.emp).map (DV.list 1)))]:=⟨_,rfl⟩
 obtain ⟨B1,hB1⟩:∃ B1,B1=Blk.box 3 [AV.d (.int .i64 A.arcs.length)]:=⟨_,rfl⟩
 refine wL_ind (fun (j:Nat) fr σ=>j≤A.arcs.length∧fr 1=.ptr 0 0∧fr 3=.ptr 1 0∧fr 4=.func (.func 79) [] [.ptr 1 0]∧fr 41=.d (.int .i64 A.arcs.length)∧fr 42=.d (.int .i64 j)∧(∃ τ,σ=B0::B1::τ)∧∀ i,i<j→rowB A i=true) (fun j=>A.arcs.length - j) ?_ 0 ?_
 ·rintro j fr σ ⟨hj,f1,f3,f4,f41,f42,⟨τ,rfl⟩,hok⟩ ih
  by_cases hlt:j<A.arcs.length
  ·have ha:=arows_get A.arcs j hlt
   have he:=erows_get A.emp j (by omega)
   have hrl:=hf.arow (A.arcs.getD j []) (by rw [List.getD_eq_getElem?_getD,List.getElem?_eq_getElem hlt];exact List.getElem_mem _)
   have hre:=hf.erow (A.emp.getD j []) (by rw [List.getD_eq_getElem?_getD,List.getElem?_eq_getElem (by omega)];exact List.getElem_mem _)
   obtain ⟨row,hrow⟩:∃ row,row=A.arcs.getD j []:=⟨_,rfl⟩
   obtain ⟨erow,herow⟩:∃ erow,erow=A.emp.getD j []:=⟨_,rfl⟩
   have hrB:rowB A j=(row.all (arcB A.arcs.length) && erow.all (inZ A.arcs.length)):=by rw [hrow,herow];rfl
   rw [← hrow] at ha hrl
   rw [← herow] at he hre
   simp (disch:=omega) only [go_sem,f1,f3,f4,f41,f42,hlt,hB0,hla,ha,List.length_map]
   refine wL_ind (fun (i:Nat) fr σ=>i≤row.length∧fr 1=.ptr 0 0∧fr 3=.ptr 1 0∧fr 4=.func (.func 79) [] [.ptr 1 0]∧fr 41=.d (.int .i64 A.arcs.length)∧fr 42=.d (.int .i64 j)∧fr 5=.d (.int .i64 j) ∧
    fr 49=.d (.list 3 (row.map arcD))∧fr 50=.d (.int .i64 row.length)∧fr 51=.d (.int .i64 i)∧(∃ τ,σ=B0::B1::τ)∧(row.take i).all (arcB A.arcs.length)=true) (fun i=>row.length - i) ?_ 0 ?_
   ·rintro i fr σ ⟨hi,f1,f3,f4,f41,f42,f5,f49,f50,f51,⟨τ,rfl⟩,hall⟩ ih2
    by_cases hil:i<row.length
    ·have hg:=arc_get row i hil
     have hbad:arcB A.arcs.length (row.getD i default)=false→okA A=false:=fun h=>okA_bad hlt (by rw [hrB,all_bad hil h];rfl)
     have htake:arcB A.arcs.length (row.getD i default)=true→(row.take (i+1)).all (arcB A.arcs.length)=true:=all_take hil hall
     generalize row.getD i default=x at *
     obtain ⟨lo,hi',to⟩:=x
     unfold arcB at hbad htake
     simp (disch:=omega) only [go_sem,f1,f3,f4,f41,f42,f49,f50,f51,hil,hg,apR]
     refine (char38 lo).at ?_
     cases c1:charB lo with
     | false =>
      have e:=hbad (by simp [c1])
      simp (disch:=omega) only [go_sem,c1,e]
     | true =>
     simp (disch:=omega) only [go_sem,c1]
     refine (char38 hi').at ?_
     cases c2:charB hi' with
     | false =>
      have e:=hbad (by simp [c2])
      simp (disch:=omega) only [go_sem,c2,e]
     | true =>
     by_cases c3:¬ lo≤hi'
     ·have e:=hbad (by simp [c3])
      have c3':hi'<lo:=by omega
      simp (disch:=omega) only [go_sem,c2,c3',e]
     have c3:lo≤hi':=by omega
     have c3':¬ hi'<lo:=by omega
     simp (disch:=omega) only [go_sem,c2,c3',f4]
     refine (in37 (b:=1) (n:=A.arcs.length) (by rw [hB1];rfl) to).at ?_
     rintro v σ' ⟨rfl,rfl⟩
     cases c4:inZ A.arcs.length to with
     | false =>
      have e:=hbad (by simp [c4])
      simp (disch:=omega) only [go_sem,c4,e]
     | true =>
     simp (disch:=omega) only [go_sem,c4,f51]
     refine ih2 (i+1) _ _ (by omega) ⟨by omega,?_,?_,?_,?_,?_,?_,?_,?_,?_,⟨_,rfl⟩,htake (by simp [c1,c2,c3,c4])⟩
     ·simp (disch:=omega) only [go_sem,f1]
     ·simp (disch:=omega) only [go_sem,f3]
     ·simp (disch:=omega) only [go_sem,f4]
     ·simp (disch:=omega) only [go_sem,f41]
     ·simp (disch:=omega) only [go_sem,f42]
     ·simp (disch:=omega) only [go_sem,f5]
     ·simp (disch:=omega) only [go_sem,f49]
     ·simp (disch:=omega) only [go_sem,f50]
     ·simp (disch:=omega) only [go_sem]
    ·rw [List.take_of_length_le (by omega)] at hall
     have hlt2:j<A.emp.length:=by omega
     simp (disch:=omega) only [go_sem,f1,f3,f4,f41,f42,f5,f49,f50,f51,hil,hlt2,hB0,hle,he,List.length_map]
     refine wL_ind (fun (i:Nat) fr σ=>i≤erow.length∧fr 1=.ptr 0 0∧fr 3=.ptr 1 0∧fr 4=.func (.func 79) [] [.ptr 1 0]∧fr 41=.d (.int .i64 A.arcs.length)∧fr 42=.d (.int .i64 j) ∧
      fr 88=.d (.list 1 (erow.map intD))∧fr 89=.d (.int .i64 erow.length)∧fr 90=.d (.int .i64 i)∧(∃ τ,σ=B0::B1::τ)∧(erow.take i).all (inZ A.arcs.length)=true) (fun i=>erow.length - i) ?_ 0 ?_
     ·rintro i fr σ ⟨hi,f1,f3,f4,f41,f42,f88,f89,f90,⟨τ,rfl⟩,hall2⟩ ih3
      by_cases hil:i<erow.length
      ·have hg:=emp_get erow i hil
       have hbad:inZ A.arcs.length (erow.getD i default)=false→okA A=false:=fun h=>okA_bad hlt (by rw [hrB,all_bad hil h,Bool.and_false])
       have htake:inZ A.arcs.length (erow.getD i default)=true→(erow.take (i+1)).all (inZ A.arcs.length)=true:=all_take hil hall2
       generalize erow.getD i default=z at *
       simp (disch:=omega) only [go_sem,f1,f3,f4,f41,f42,f88,f89,f90,hil,hg,apR]
       refine (in37 (b:=1) (n:=A.arcs.length) (by rw [hB1];rfl) z).at ?_
       rintro v σ' ⟨rfl,rfl⟩
       cases c4:inZ A.arcs.length z with
       | false =>
        have e:=hbad c4
        simp (disch:=omega) only [go_sem,c4,e]
       | true =>
       simp (disch:=omega) only [go_sem,c4,f90]
       refine ih3 (i+1) _ _ (by omega) ⟨by omega,?_,?_,?_,?_,?_,?_,?_,?_,⟨_,rfl⟩,htake c4⟩
       ·simp (disch:=omega) only [go_sem,f1]
       ·simp (disch:=omega) only [go_sem,f3]
       ·simp (disch:=omega) only [go_sem,f4]
       ·simp (disch:=omega) only [go_sem,f41]
       ·simp (disch:=omega) only [go_sem,f42]
       ·simp (disch:=omega) only [go_sem,f88]
       ·simp (disch:=omega) only [go_sem,f89]
       ·simp (disch:=omega) only [go_sem]
      ·rw [List.take_of_length_le (by omega)] at hall2
       simp (disch:=omega) only [go_sem,f1,f3,f4,f41,f42,f88,f89,f90,hil]
       refine ih (j+1) _ _ (by omega) ⟨by omega,?_,?_,?_,?_,?_,⟨_,rfl⟩,fun i hi=>?_⟩
       ·simp (disch:=omega) only [go_sem,f1]
       ·simp (disch:=omega) only [go_sem,f3]
       ·simp (disch:=omega) only [go_sem,f4]
       ·simp (disch:=omega) only [go_sem,f41]
       ·simp (disch:=omega) only [go_sem]
       ·rcases Nat.lt_or_ge i j with h | h
        ·exact hok i h
        ·obtain rfl:i=j:=by omega
         rw [hrB,hall,hall2];rfl
     ·refine ⟨by omega,?_,?_,?_,?_,?_,?_,?_,?_,⟨τ,by rw [hB0]⟩,rfl⟩
      all_goals simp (disch:=omega) only [go_sem,f1,f3,f4,f41,f42]
   ·refine ⟨by omega,?_,?_,?_,?_,?_,?_,?_,?_,?_,⟨τ,by rw [hB0]⟩,rfl⟩
    all_goals simp (disch:=omega) only [go_sem,f1,f3,f4,f41,f42]
  ·have e:okA A=true:=by
    unfold okA
    rw [h4,h5]
    simp only [Bool.and_eq_true,decide_eq_true_eq,List.all_eq_true,List.mem_range]
    exact ⟨⟨⟨⟨⟨h1,h2⟩,h3⟩,trivial⟩,trivial⟩,fun i hi=>hok i (by omega)⟩
   simp (disch:=omega) only [go_sem,f1,f3,f4,f41,f42,hlt,e]
 ·refine ⟨by omega,?_,?_,?_,?_,?_,⟨[],by rw [hB0,hB1]⟩,fun i hi=>by omega⟩
  all_goals simp (disch:=omega) only [go_sem]
end Go.Proofs.YtfnddhbiolpmgaaGreatDoor
/- Closing a set of states,step by step. Plain: no program. -/

set_option linter.unusedVariables false
set_option linter.unusedSimpArgs false
namespace Pat
def Seen (s:List Bool) (z:Int):Prop:=0≤z∧s.getD z.toNat false=true
def pushC (s:List Bool × List Int) (x:Int):List Bool × List Int:=if 0≤x∧x<s.1.length∧s.1.getD x.toNat false=false then (s.1.set x.toNat true,s.2++[x]) else s
def unseen (s:List Bool):Nat:=s.countP fun b => !b
def meas (s:List Bool × List Int):Nat:=2 * unseen s.1+s.2.length
theorem Seen.lt {s:List Bool} {z:Int} (h:Seen s z):z.toNat<s.length:=by
 rcases Nat.lt_or_ge z.toNat s.length with h1 | h1
 ·exact h1
 ·have:=h.2;rw [List.getD_eq_getElem?_getD,List.getElem?_eq_none h1] at this;cases this
theorem Seen.inR {s:List Bool} {n:Nat} (hl:s.length=n) {z:Int} (h:Seen s z):inR n z:=by
 have h1:=h.lt
 have h2:=h.1
 exact ⟨h2,by omega⟩
theorem unseen_set:∀ (s:List Bool) (i:Nat),i<s.length→s.getD i false=false→unseen (s.set i true)+1=unseen s
 | [],i,h,_=>by simp at h
 | b::s,0,_,h=>by
  have:b=false:=h
  subst this
  simp [unseen]
 | b::s,i+1,h,hb=>by
  have:=unseen_set s i (by simpa using h) (by simpa using hb)
  unfold unseen at this ⊢
  simp only [List.set_cons_succ,List.countP_cons]
  omega
theorem push_meas (s:List Bool × List Int) (x:Int):meas (pushC s x)≤meas s:=by
 unfold pushC
 split
 ·rename_i h
  have:=unseen_set s.1 x.toNat (by have:=h.1;have:=h.2.1;omega) h.2.2
  unfold meas
  simp only [List.length_append,List.length_singleton]
  omega
 ·exact Nat.le_refl _
theorem push_length (s:List Bool × List Int) (x:Int):(pushC s x).1.length=s.1.length:=by
 unfold pushC;split <;> simp
theorem seen_set {s:List Bool} {i:Nat} (hi:i<s.length) (z:Int):Seen (s.set i true) z↔(0≤z∧z.toNat=i)∨Seen s z:=by
 unfold Seen
 by_cases h:i=z.toNat
 ·subst h
  simp [List.getD_eq_getElem?_getD,hi]
  intro h1 _;exact h1
 ·have h':¬ z.toNat=i:=fun e=>h e.symm
  simp [List.getD_eq_getElem?_getD,List.getElem?_set,h,h']
theorem seen_push (s:List Bool × List Int) (x z:Int):Seen (pushC s x).1 z↔Seen s.1 z∨(z=x∧inR s.1.length x):=by
 unfold pushC
 split
 ·rename_i h
  have hlt:x.toNat<s.1.length:=by have:=h.1;have:=h.2.1;omega
  rw [seen_set hlt]
  constructor
  ·rintro (⟨h1,h2⟩ | h1)
   ·exact .inr ⟨by have:=h.1;omega,h.1,h.2.1⟩
   ·exact .inl h1
  ·rintro (h1 | ⟨rfl,h1⟩)
   ·exact .inr h1
   ·exact .inl ⟨h.1,rfl⟩
 ·rename_i h
  constructor
  ·exact .inl
  ·rintro (h1 | ⟨rfl,h1⟩)
   ·exact h1
   ·refine ⟨h1.1,?_⟩
    cases hb:s.1.getD z.toNat false
    ·exact absurd ⟨h1.1,h1.2,hb⟩ h
    ·rfl
structure Dfs (A:Au) (l:List Int) (E:Int→Prop) (s:List Bool × List Int):Prop where
 len:s.1.length=A.arcs.length
 snd:∀ z,Seen s.1 z→Got A l z
 opn:∀ z,z∈s.2→Seen s.1 z
 cls:∀ z,Seen s.1 z→z ∉ s.2→¬ E z→∀ y,y∈A.emp.getD z.toNat []→Seen s.1 y
theorem Dfs.push {A:Au} {l:List Int} {E:Int→Prop} {s:List Bool × List Int} (h:Dfs A l E s) {x:Int} (hx:inR A.arcs.length x→Got A l x):Dfs A l E (pushC s x):=by
 refine ⟨by rw [push_length];exact h.len,fun z hz=>?_,fun z hz=>?_,fun z hz hn hE y hy=>?_⟩
 ·rcases (seen_push s x z).1 hz with h1 | ⟨rfl,h1⟩
  ·exact h.snd z h1
  ·exact hx (by rw [← h.len];exact h1)
 ·rw [seen_push]
  unfold pushC at hz
  split at hz
  ·rename_i hc
   rcases List.mem_append.1 hz with h1 | h1
   ·exact .inl (h.opn z h1)
   ·rw [List.mem_singleton] at h1;subst h1;exact .inr ⟨rfl,hc.1,hc.2.1⟩
  ·exact .inl (h.opn z hz)
 ·rw [seen_push]
  have hold:Seen s.1 z∧z ∉ s.2:=by
   unfold pushC at hz hn
   split at hz
   ·rename_i hc
    rw [if_pos hc] at hn
    have hlt:x.toNat<s.1.length:=by have:=hc.1;have:=hc.2.1;omega
    rw [seen_set hlt] at hz
    rcases hz with ⟨h1,h2⟩ | h1
    ·exact absurd (by rw [show z=x by have:=hc.1;omega];simp) hn
    ·exact ⟨h1,fun hm=>hn (List.mem_append_left _ hm)⟩
   ·rename_i hc
    rw [if_neg hc] at hn
    exact ⟨hz,hn⟩
  exact .inl (h.cls z hold.1 hold.2 hE y hy)
theorem Dfs.start (A:Au) (l:List Int):Dfs A l (fun _=>False) (List.replicate A.arcs.length false,[]):=by
 have hno:∀ z,¬ Seen (List.replicate A.arcs.length false) z:=fun z h=>by
  have h2:=h.2
  rw [List.getD_eq_getElem?_getD,List.getElem?_replicate] at h2
  split at h2 <;> cases h2
 exact ⟨by simp,fun z h=>absurd h (hno z),fun z h=>by (cases h),fun z h=>absurd h (hno z)⟩
theorem Dfs.pop {A:Au} {l:List Int} {s:List Bool} {o:List Int} {x:Int} (h:Dfs A l (fun _=>False) (s,o++[x])):Dfs A l (fun z=>z=x) (s,o):=by
 refine ⟨h.len,h.snd,fun z hz=>h.opn z (List.mem_append_left _ hz),fun z hz hn hE y hy=>h.cls z hz (fun hm=>?_) id y hy⟩
 rcases List.mem_append.1 hm with h1 | h1
 ·exact hn h1
 ·exact hE (List.mem_singleton.1 h1)
theorem Dfs.shut {A:Au} {l:List Int} {s:List Bool × List Int} {x:Int} (h:Dfs A l (fun z=>z=x) s) (hx:∀ y,y∈A.emp.getD x.toNat []→Seen s.1 y):Dfs A l (fun _=>False) s:=by
 refine ⟨h.len,h.snd,h.opn,fun z hz hn _ y hy=>?_⟩
 by_cases hzx:z=x
 ·subst hzx;exact hx y hy
 ·exact h.cls z hz hn hzx y hy
theorem Dfs.done {A:Au} {l:List Int} {s:List Bool} (h:Dfs A l (fun _=>False) (s,[])) (hl:∀ z,z∈l→inR A.arcs.length z→Seen s z) (z:Int):Seen s z↔Got A l z:=by
 have key:∀ x,Reach A x z→Seen s x→Seen s z:=by
  intro x h3
  induction h3 with
  | refl=>exact id
  | step q1 q2 ih=>exact fun hx=>ih (h.cls _ hx (by simp) id _ q1)
 exact ⟨h.snd z,fun ⟨x,h1,h2,h3⟩=>key x h3 (hl x h1 h2)⟩
theorem clos_of {A:Au} {l:List Int} {s:List Bool} (hl:s.length=A.arcs.length) (h:∀ z,Seen s z↔Got A l z):closM A l=((List.range s.length).filter fun i=>s.getD i false).map fun (i:Nat)=>(i:Int):=by
 unfold closM
 rw [hl]
 congr 1
 refine List.filter_congr fun i _=>?_
 have:=h (i:Int)
 unfold Seen at this
 simp only [Int.toNat_natCast,Int.natCast_nonneg,true_and] at this
 rw [Bool.eq_iff_iff]
 rw [this]
 simp
theorem seen_mono (s:List Bool × List Int) (x z:Int) (h:Seen s.1 z):Seen (pushC s x).1 z:=(seen_push s x z).2 (.inl h)
theorem seen_self (s:List Bool × List Int) (x:Int) (h:inR s.1.length x):Seen (pushC s x).1 x:=(seen_push s x x).2 (.inr ⟨rfl,h⟩)
end Pat
set_option linter.unusedVariables false
set_option linter.unusedSimpArgs false
set_option maxRecDepth 100000
namespace Go.Proofs.YtfnddhbiolpmgaaGreatDoor
open Go Nv Pat
def bitsL (s:List Bool):List DV:=s.map DV.bool
structure CloS (B0:Blk) (σ:Nv.ST) (s:List Bool × List Int):Prop where
 s0:stGet σ 0=B0
 s1:stGet σ 1=.arr 0 ⟨1,4⟩ (bitsL s.1)
 s2:stGet σ 2=.box 107 [.own 1 0 0 s.1.length]
 s3:∃ o,stGet σ 3=.box 84 [o]∧((o=.d .nilslice∧s.2=[])∨∃ b g xs,4≤b∧o=.own b g 0 s.2.length∧stGet σ b=.arr g ⟨1,3⟩ xs∧s.2.length≤xs.length∧xs.take s.2.length=s.2.map intD)
theorem bits_get (s:List Bool) (i:Nat) (h:i<s.length):(bitsL s).getD i default=.bool (s.getD i false):=by
 simp [bitsL,List.getD_eq_getElem?_getD,h]
theorem bits_len (s:List Bool):(bitsL s).length=s.length:=by simp [bitsL]
theorem stGet_sl2 {σ m:Nv.ST} {b b' k:Nat} {x y:Blk} (h:k<σ.length) (h1:k≠b) (h2:k≠b'):stGet (stSet (stSet σ b' y) b x++m) k=stGet σ k:=by
 rw [stGet_sl (by rw [stSet_len];exact h) h1,stGet_set_ne h2]
theorem stSet_sl2 {σ m:Nv.ST} {b b' k:Nat} {x y z:Blk} (h:k<σ.length):stSet (stSet (stSet σ b' y) b x++m) k z=stSet (stSet (stSet σ b' y) b x) k z++m:=by
 rw [stSet_sl (by rw [stSet_len];exact h)]
theorem push58 {B0:Blk} {σ:Nv.ST} {s:List Bool × List Int} (hC:CloS B0 σ s) (h1:s.1.length≤1000000) (h2:s.2.length≤1000000) (x:Int) :
  RCall Tryz.prog 81 [.d (.int .i64 x),.ptr 2 0,.ptr 3 0] σ fun v σ'=>v=.tuple []∧CloS B0 σ' (pushC s x):=by
 obtain ⟨seen,opn⟩:=s
 have hs1:=hC.s1
 have hs2:=hC.s2
 dsimp only at hs1 hs2 h1 h2
 refine fn81.rel noHint (Nat.le_refl _) ?_
 by_cases c1:¬ 0≤x
 ·have e:pushC (seen,opn) x=(seen,opn):=if_neg fun h=>c1 h.1
  simp (disch:=omega) only [go_sem,c1]
  exact ⟨_,rfl,rfl,by rw [e];exact hC⟩
 have c1:0≤x:=by omega
 by_cases c2:¬ x<seen.length
 ·have e:pushC (seen,opn) x=(seen,opn):=if_neg fun h=>c2 h.2.1
  simp (disch:=omega) only [go_sem,c1,c2,hs2,hs1]
  exact ⟨_,rfl,rfl,by rw [e];exact hC⟩
 have c2:x<seen.length:=by omega
 obtain ⟨i,rfl⟩:∃ i:Nat,x=i:=⟨x.toNat,by omega⟩
 have hi:i<seen.length:=by omega
 cases c3:seen.getD i false with
 | true =>
  have e:pushC (seen,opn) i=(seen,opn):=if_neg fun h=>by have:=h.2.2;simp only [Int.toNat_natCast] at this;rw [c3] at this;cases this
  simp (disch:=omega) only [go_sem,c1,c2,hs2,hs1,bits_len,bits_get,hi,c3,Int.toNat_natCast,Nat.zero_add]
  exact ⟨_,rfl,rfl,by rw [e];exact hC⟩
 | false =>
  have e:pushC (seen,opn) i=(seen.set i true,opn++[(i:Int)]):=if_pos ⟨c1,c2,by simpa using c3⟩
  rw [e]
  obtain ⟨o,hs3,ho⟩:=hC.s3
  have hl3:=lt_of_get hs3 (by simp)
  have hs0:=hC.s0
  have hbit:(bitsL seen).set i (DV.bool true)=bitsL (seen.set i true):=by simp [bitsL,List.map_set]
  rcases ho with ⟨rfl,ho⟩ | ⟨b,g,xs,hb4,rfl,hb,hxl,htk⟩
  ·dsimp only at ho
   subst ho
   simp (disch:=omega) only [go_sem,c1,c2,hs2,hs1,hs3,bits_len,bits_get,hi,c3,Int.toNat_natCast,Nat.zero_add,hbit,stGet_set_ne,stGet_left,stSet_left,stGet_sl,stSet_sl,apR]
   refine ⟨_,rfl,rfl,?_⟩
   have hg:∀ (y z:Blk) (τ:Nv.ST) k,k<σ.length→k≠3→k≠1→stGet (stSet (stSet σ 1 y) 3 z++τ) k=stGet σ k:=fun y z τ k=>stGet_sl2
   have hln:∀ (y z:Blk),(stSet (stSet σ 1 y) 3 z).length=σ.length:=fun y z=>by rw [stSet_len,stSet_len]
   refine ⟨?_,?_,?_,⟨.own (σ.length+1) 0 0 1,?_,.inr ⟨σ.length+1,0,[.int .i64 i],by omega,rfl,?_,Nat.le_refl _,rfl⟩⟩⟩
   ·rw [hg _ _ _ 0 (by omega) (by omega) (by omega)];exact hs0
   ·rw [stGet_sl (by rw [stSet_len];omega) (by omega),stGet_set_eq (by omega)]
   ·rw [hg _ _ _ 2 (by omega) (by omega) (by omega)];simpa using hs2
   ·rw [stGet_left _ _ _ (by rw [hln];omega),stGet_set_eq (by rw [stSet_len];omega),stSet_len]
   ·rw [stGet_add 1 (hln _ _)];rfl
  ·have hbl:=lt_of_get hb (by simp)
   dsimp only at hxl htk
   have hcap:(opn.length+1) * 8≤140737488355328:=by omega
   have hol:(opn.map intD).length=opn.length:=by simp
   simp (disch:=omega) only [go_sem,c1,c2,hs2,hs1,hs3,hb,htk,hol,hxl,hcap,bits_len,bits_get,hi,c3,Int.toNat_natCast,Nat.zero_add,hbit,stGet_set_ne,stGet_left,stSet_left,stGet_sl,stSet_sl,stGet_sl2,stSet_sl2,apR]
   refine ⟨_,rfl,rfl,?_⟩
   have hln:∀ (y z v:Blk),(stSet (stSet (stSet σ 1 y) b z) 3 v).length=σ.length:=fun y z v=>by rw [stSet_len,stSet_len,stSet_len]
   have hg:∀ (y z v:Blk) (τ:Nv.ST) k,k<σ.length→k≠3→k≠1→k≠b→stGet (stSet (stSet (stSet σ 1 y) b z) 3 v++τ) k=stGet σ k:=fun y z v τ k h1 h2 h3 h4=>by
    rw [stGet_left _ _ _ (by rw [hln];exact h1),stGet_set_ne h2,stGet_set_ne h4,stGet_set_ne h3]
   refine ⟨?_,?_,?_,⟨.own b (g+1) 0 (opn.length+1),?_,.inr ⟨b,g+1,opn.map intD++[.int .i64 i],hb4,by simp,?_,by simp,?_⟩⟩⟩
   ·rw [hg _ _ _ _ 0 (by omega) (by omega) (by omega) (by omega)];exact hs0
   ·rw [stGet_left _ _ _ (by rw [hln];omega),stGet_set_ne (by omega),stGet_set_ne (by omega),stGet_set_eq (by omega)]
   ·rw [hg _ _ _ _ 2 (by omega) (by omega) (by omega) (by omega)];simpa using hs2
   ·rw [stGet_left _ _ _ (by rw [hln];omega),stGet_set_eq (by rw [stSet_len,stSet_len];omega)]
   ·rw [stGet_left _ _ _ (by rw [hln];omega),stGet_set_ne (by omega),stGet_set_eq (by rw [stSet_len];omega)]
   ·dsimp only
    rw [List.take_of_length_le (by simp)];simp [intD]
def hintsC:Nat→Hint:=fun i=>if i=13 then .own ⟨1,3⟩ else if i=4 then .freeze else .no
@[go_sem] theorem hintsC_at (i:Nat):hintsC i=if i=13 then .own ⟨1,3⟩ else if i=4 then .freeze else .no:=nrfl rfl
theorem inZ_iff (n:Nat) (z:Int):inZ n z=true↔inR n z:=by simp [inZ,inR]
theorem all_rows {α:Type} {L:List (List α)} {P:α→Prop}:(∀ l,l∈L→∀ x,x∈l→P x)↔∀ j,j<L.length→∀ x,x∈L.getD j []→P x:=by
 constructor
 ·intro h j hj x hx
  rw [List.getD_eq_getElem?_getD,List.getElem?_eq_getElem hj] at hx
  exact h _ (List.getElem_mem hj) x hx
 ·intro h l hl x hx
  obtain ⟨j,hj,rfl⟩:=List.mem_iff_getElem.1 hl
  exact h j hj x (by rw [List.getD_eq_getElem?_getD,List.getElem?_eq_getElem hj];exact hx)
theorem okA_proper {A:Au}:okA A=true↔A.Proper:=by
 have hrow:∀ j,rowB A j=true↔(∀ x,x∈A.arcs.getD j []→scalar x.1∧scalar x.2.1∧x.1≤x.2.1∧inR A.arcs.length x.2.2)∧∀ z,z∈A.emp.getD j []→inR A.arcs.length z:=by
  intro j
  unfold rowB arcB
  simp only [Bool.and_eq_true,List.all_eq_true,charB_iff2,inZ_iff,decide_eq_true_eq,and_assoc]
 unfold okA
 simp only [Bool.and_eq_true,decide_eq_true_eq,inZ_iff,List.all_eq_true,List.mem_range,hrow]
 constructor
 ·rintro ⟨⟨⟨⟨⟨h1,h2⟩,h3⟩,h4⟩,h5⟩,h6⟩
  exact ⟨h1,h2,h3,h4,h5,all_rows.2 fun j hj=>(h6 j hj).1,all_rows.2 fun j hj=>(h6 j (by omega)).2⟩
 ·rintro ⟨h1,h2,h3,h4,h5,h6,h7⟩
  exact ⟨⟨⟨⟨⟨h1,h2⟩,h3⟩,h4⟩,h5⟩,fun j hj=>⟨all_rows.1 h6 j hj,all_rows.1 h7 j (by omega)⟩⟩
theorem closure33 (A:Au) (hp:A.Proper) (hf:Fit A) (l:List Int) (hl:l.length≤1000000000000000):PCall Tryz.prog 56 [auA A,.d (intsD l)] (.d (intsD (closM A l))):=by
 refine fn56.pure hintsC (Nat.le_refl _) (by simp only [go_sem,auA,auF,rowsD,intsD]) (by simp only [go_sem]) ?_
 have hla:((arcsL A.arcs).map (DV.list 3)).length=A.arcs.length:=by simp [arcsL]
 have hle:((intsL A.emp).map (DV.list 1)).length=A.emp.length:=by simp [intsL]
 have hpos:=hp.pos
 have hmost:=hp.most
 have hsame:=hp.same
 simp (disch:=omega) only [go_sem,auA,auF,rowsD,hla,hle,intsD,List.length_map,Int.toNat_natCast,Nat.le_refl]
 refine ⟨by omega,?_⟩
 obtain ⟨B0,hB0⟩:∃ B0,B0=Blk.box 43 [AV.d (.int .i64 A.start),AV.d (.int .i64 A.accept),AV.d (.list 1 ((arcsL A.arcs).map (DV.list 3))),AV.d (.list 1 ((intsL A.emp).map (DV.list 1)))]:=⟨_,rfl⟩
 rw [← hB0]
 refine wL_ind (fun (i:Nat) fr σ=>i≤l.length∧fr 2=.ptr 0 0∧fr 5=.ptr 2 0∧fr 6=.ptr 3 0∧fr 7=.func (.func 81) [] [.ptr 2 0,.ptr 3 0]∧fr 21=.d (.list 1 (l.map intD))∧fr 22=.d (.int .i64 l.length)∧fr 23=.d (.int .i64 i) ∧
  ∃ s,CloS B0 σ s∧Dfs A l (fun _=>False) s∧(∀ z,z∈l.take i→inR A.arcs.length z→Seen s.1 z)∧meas s≤2 * A.arcs.length) (fun i=>l.length - i) ?_ 0 ?_
 ·rintro i fr σ ⟨hi,f2,f5,f6,f7,f21,f22,f23,s,hC,hD,hseen,hm⟩ ih
  have hsl:=hD.len
  have hol:s.2.length≤2 * A.arcs.length:=by unfold meas at hm;omega
  by_cases hlt:i<l.length
  ·have hg:=emp_get l i hlt
   have hxl:l.getD i default∈l:=getD_mem l i hlt
   have htk:=take_succ' l i hlt
   generalize l.getD i default=x at *
   simp (disch:=omega) only [go_sem,f2,f5,f6,f7,f21,f22,f23,hlt,hg]
   refine (push58 hC (by omega) (by omega) x).at ?_
   rintro v σ' ⟨rfl,hC'⟩
   simp (disch:=omega) only [go_sem,f23]
   refine ih (i+1) _ _ (by omega) ⟨by omega,?_,?_,?_,?_,?_,?_,?_,pushC s x,hC',hD.push fun hx=>⟨x,hxl,hx,.refl x⟩,fun z hz hr=>?_,Nat.le_trans (push_meas s x) hm⟩
   ·simp (disch:=omega) only [go_sem,f2]
   ·simp (disch:=omega) only [go_sem,f5]
   ·simp (disch:=omega) only [go_sem,f6]
   ·simp (disch:=omega) only [go_sem,f7]
   ·simp (disch:=omega) only [go_sem,f21]
   ·simp (disch:=omega) only [go_sem,f22]
   ·simp (disch:=omega) only [go_sem]
   ·rw [htk] at hz
    rcases List.mem_append.1 hz with h | h
    ·exact seen_mono _ _ _ (hseen z h hr)
    ·rw [List.mem_singleton.1 h]
     exact seen_self _ _ (by rw [hsl];exact List.mem_singleton.1 h ▸ hr)
  ·have hil:i=l.length:=by omega
   subst hil
   rw [List.take_length] at hseen
   simp (disch:=omega) only [go_sem,f2,f5,f6,f7,f21,f22,f23,hlt]
   refine wL_ind (fun (s:List Bool × List Int) fr σ=>fr 2=.ptr 0 0∧fr 5=.ptr 2 0∧fr 6=.ptr 3 0∧fr 7=.func (.func 81) [] [.ptr 2 0,.ptr 3 0] ∧
    CloS B0 σ s∧Dfs A l (fun _=>False) s∧(∀ z,z∈l→inR A.arcs.length z→Seen s.1 z)∧meas s≤2 * A.arcs.length) meas ?_ s ?_
   ·rintro ⟨seen,opn⟩ fr σ ⟨f2,f5,f6,f7,hC,hD,hseen,hm⟩ ih2
    have hsl:=hD.len
    have hm':2 * unseen seen+opn.length≤2 * A.arcs.length:=hm
    have hol:opn.length≤2 * A.arcs.length:=by omega
    dsimp only at hsl
    have hs0:=hC.s0
    obtain ⟨o,hs3,ho⟩:=hC.s3
    by_cases hne:opn=[]
    ·subst hne
     have hdone:=Dfs.done hD hseen
     have hclos:=clos_of hsl hdone
     have hs1:=hC.s1
     have hs2:=hC.s2
     have hl3:=lt_of_get hs3 (by simp)
     have hlt2:2<σ.length:=by omega
     have hres:intsD (closM A l)=.list 1 ((((List.range seen.length).filter fun i=>seen.getD i false).map fun (i:Nat)=>(i:Int)).map intD):=by rw [hclos];rfl
     rcases ho with ⟨rfl,_⟩ | ⟨b,g,xs,hb4,rfl,hb,_,_⟩
     case' inl=>simp (disch:=omega) only [go_sem,f2,f5,f6,f7,hs3,hs2,hs1,bits_len,stGet_left,stSet_left,apR]
     case' inr=>simp (disch:=omega) only [go_sem,f2,f5,f6,f7,hs3,hb,hs2,hs1,bits_len,List.length_nil,stGet_left,stSet_left,apR]
     all_goals
      refine wL_ind (fun (j:Nat) fr τ=>j≤seen.length∧fr 59=.own 1 0 0 seen.length∧fr 60=.d (.int .i64 seen.length)∧fr 61=.d (.int .i64 j) ∧
       ∃ (m g:Nat) (rs:List Int),fr 13=.own m g 0 rs.length∧stGet τ m=.arr g ⟨1,3⟩ (rs.map intD)∧4≤m∧stGet τ 1=.arr 0 ⟨1,4⟩ (bitsL seen)∧rs=((List.range j).filter fun i=>seen.getD i false).map fun (i:Nat)=>(i:Int)) (fun j=>seen.length - j) ?_ 0 ?_
      ·rintro j fr τ ⟨hj,f59,f60,f61,m,g',rs,f13,hm9,hm4,hs1',hrs⟩ ih3
       have hml:=lt_of_get hm9 (by simp)
       have hrl:rs.length≤j:=by rw [hrs,List.length_map];exact Nat.le_trans (List.length_filter_le _ _) (by simp)
       have hrn:(rs.map intD).length=rs.length:=by simp
       by_cases hlt:j<seen.length
       ·have hcap:(rs.length+1) * 8≤140737488355328:=by omega
        have hta:List.take rs.length (rs.map intD)=rs.map intD:=List.take_of_length_le (by simp)
        cases hbj:seen.getD j false with
        | true =>
         simp (disch:=omega) only [go_sem,f13,f59,f60,f61,hlt,hm9,hs1',hrn,hta,hcap,bits_len,bits_get,hbj,Nat.zero_add,Nat.le_refl,stGet_left,stSet_left,apR]
         refine ih3 (j+1) _ _ (by omega) ⟨by omega,?_,?_,?_,m,g'+1,rs++[(j:Int)],?_,?_,hm4,?_,?_⟩
         ·simp (disch:=omega) only [go_sem,f59]
         ·simp (disch:=omega) only [go_sem,f60]
         ·simp (disch:=omega) only [go_sem]
         ·simp (disch:=omega) only [go_sem,List.length_append]
         ·rw [(own_turn _ _ hml).1];simp [intD]
         ·rw [(own_turn _ _ hml).2.1 1 (by omega) (by omega)];exact hs1'
         ·rw [List.range_succ,List.filter_append,List.map_append,← hrs];simp only [List.filter_cons,List.filter_nil,hbj,if_true,List.map_cons,List.map_nil]
        | false =>
         simp (disch:=omega) only [go_sem,f13,f59,f60,f61,hlt,hm9,hs1',bits_len,bits_get,hbj,Nat.zero_add,Nat.le_refl]
         refine ih3 (j+1) _ _ (by omega) ⟨by omega,?_,?_,?_,m,g',rs,?_,hm9,hm4,hs1',?_⟩
         ·simp (disch:=omega) only [go_sem,f59]
         ·simp (disch:=omega) only [go_sem,f60]
         ·simp (disch:=omega) only [go_sem]
         ·simp (disch:=omega) only [go_sem,f13]
         ·rw [List.range_succ,List.filter_append,List.map_append,← hrs];simp only [List.filter_cons,List.filter_nil,hbj,Bool.false_eq_true,if_false,List.map_nil,List.append_nil]
       ·have hjl:j=seen.length:=by omega
        subst hjl
        have hta:List.take rs.length (rs.map intD)=rs.map intD:=List.take_of_length_le (by simp)
        simp (disch:=omega) only [go_sem,f13,f59,f60,f61,hlt,hm9,hrn,hta,Nat.zero_add,Nat.le_refl,List.drop_zero]
        rw [hclos,← hrs]
      ·refine ⟨by omega,?_,?_,?_,σ.length,0,[],?_,?_,by omega,?_,rfl⟩
       ·simp (disch:=omega) only [go_sem]
       ·simp (disch:=omega) only [go_sem]
       ·simp (disch:=omega) only [go_sem]
       ·simp (disch:=omega) only [go_sem]
       ·simp [stGet]
       ·rw [stGet_left _ _ _ (by omega)];exact hs1
    ·obtain ⟨op,x,rfl⟩:∃ op x,opn=op++[x]:=⟨opn.dropLast,opn.getLast hne,(List.dropLast_concat_getLast hne).symm⟩
     rcases ho with ⟨_,h1⟩ | ⟨b,g,xs,hb4,rfl,hb,hxl,htk⟩
     ·simp at h1
     dsimp only at hb hxl htk
     have hbl:=lt_of_get hb (by simp)
     have hl3:=lt_of_get hs3 (by simp)
     have hgx:xs.getD op.length default=.int .i64 x:=by
      have h:=congrArg (fun l=>l.getD op.length default) htk
      simp only [List.map_append,List.length_append,List.length_singleton] at h hxl
      rw [List.getD_eq_getElem?_getD,List.getElem?_take,if_pos (by omega),← List.getD_eq_getElem?_getD] at h
      rw [h,List.getD_eq_getElem?_getD,List.getElem?_append_right (by simp)]
      simp [intD]
     have hsx:Seen seen x:=hD.opn x (by simp)
     have hxr:=hsx.inR hsl
     simp only [List.length_append,List.length_singleton] at hxl hol hs3
     have hl0:=lt_of_get hs0 (by rw [hB0];simp)
     have ex1:((op.length+1:Nat):Int) - 1=op.length:=by omega
     have ex2:(op.length:Int)+1 - 1=op.length:=by omega
     have hxe:x<A.emp.length:=by have:=hxr.2;omega
     have hx0:0≤x:=hxr.1
     have he:=erows_get A.emp x.toNat (by omega)
     have hre:=hp.emp (A.emp.getD x.toNat []) (by rw [List.getD_eq_getElem?_getD,List.getElem?_eq_getElem (by omega)];exact List.getElem_mem _)
     obtain ⟨erow,herow⟩:∃ erow,erow=A.emp.getD x.toNat []:=⟨_,rfl⟩
     rw [← herow] at he hre
     have hltx:op.length<op.length+1:=by omega
     have hgt0:(0:Int)<((op.length+1:Nat):Int):=by omega
     simp (disch:=omega) only [go_sem,f2,f5,f6,f7,hs3,hb,hxl,hgt0,hgx,ex1,ex2,hs0,hB0,hle,he,hxe,hx0,hltx,Nat.zero_add,List.length_map,stGet_set_ne,stGet_set_eq,apR]
     refine ⟨by omega,by omega,?_⟩
     have hrl:=hf.erow erow (by rw [herow,List.getD_eq_getElem?_getD,List.getElem?_eq_getElem (by omega)];exact List.getElem_mem _)
     have hs1:=hC.s1
     have hs2:=hC.s2
     have hC2:CloS B0 (stSet σ 3 (.box 84 [.own b g 0 op.length])) (seen,op):=by
      refine ⟨?_,?_,?_,⟨.own b g 0 op.length,?_,.inr ⟨b,g,xs,hb4,rfl,?_,by simp only;omega,?_⟩⟩⟩
      ·rw [stGet_set_ne (by omega)];exact hs0
      ·rw [stGet_set_ne (by omega)];exact hs1
      ·rw [stGet_set_ne (by omega)];exact hs2
      ·rw [stGet_set_eq hl3]
      ·rw [stGet_set_ne (by omega)];exact hb
      ·have h:=congrArg (List.take op.length) htk
       rw [List.take_take,Nat.min_eq_left (by simp),List.map_append,List.take_append_of_le_length (by simp)] at h
       rw [h]
       exact List.take_of_length_le (by simp)
     have hM:meas (seen,op)+1=meas (seen,op++[x]):=by simp [meas];omega
     refine wL_ind (fun (i:Nat) fr σ=>i≤erow.length∧fr 2=.ptr 0 0∧fr 5=.ptr 2 0∧fr 6=.ptr 3 0∧fr 7=.func (.func 81) [] [.ptr 2 0,.ptr 3 0]∧fr 49=.d (.list 1 (erow.map intD))∧fr 50=.d (.int .i64 erow.length)∧fr 51=.d (.int .i64 i) ∧
      ∃ s,CloS B0 σ s∧Dfs A l (fun z=>z=x) s∧(∀ z,z∈l→inR A.arcs.length z→Seen s.1 z)∧(∀ y,y∈erow.take i→Seen s.1 y)∧Seen s.1 x∧meas s≤meas (seen,op)) (fun i=>erow.length - i) ?_ 0 ?_
     ·rintro i fr σ ⟨hi,f2,f5,f6,f7,f49,f50,f51,s,hC,hD,hseen,hrow,hsx,hms⟩ ih3
      have hsl:=hD.len
      have hms2:2 * unseen s.1+s.2.length≤meas (seen,op):=hms
      have h11:meas (seen,op++[x])≤2 * A.arcs.length:=hm
      have hol2:s.2.length≤2 * A.arcs.length:=by omega
      by_cases hlt:i<erow.length
      ·have hg:=emp_get erow i hlt
       have hyl:erow.getD i default∈erow:=getD_mem erow i hlt
       have htk:=take_succ' erow i hlt
       generalize erow.getD i default=y at *
       have hyr:=hre y hyl
       simp (disch:=omega) only [go_sem,f2,f5,f6,f7,f49,f50,f51,hlt,hg]
       refine (push58 hC (by omega) (by omega) y).at ?_
       rintro v σ' ⟨rfl,hC'⟩
       simp (disch:=omega) only [go_sem,f51]
       refine ih3 (i+1) _ _ (by omega) ⟨by omega,?_,?_,?_,?_,?_,?_,?_,pushC s y,hC',hD.push fun _=>?_,fun z hz hr=>seen_mono _ _ _ (hseen z hz hr),fun z hz=>?_,seen_mono _ _ _ hsx,Nat.le_trans (push_meas s y) hms⟩
       ·simp (disch:=omega) only [go_sem,f2]
       ·simp (disch:=omega) only [go_sem,f5]
       ·simp (disch:=omega) only [go_sem,f6]
       ·simp (disch:=omega) only [go_sem,f7]
       ·simp (disch:=omega) only [go_sem,f49]
       ·simp (disch:=omega) only [go_sem,f50]
       ·simp (disch:=omega) only [go_sem]
       ·obtain ⟨q,h1,h2,h3⟩:=hD.snd x hsx
        exact ⟨q,h1,h2,h3.trans (.step (by rw [← herow];exact hyl) (.refl y))⟩
       ·rw [htk] at hz
        rcases List.mem_append.1 hz with h | h
        ·exact seen_mono _ _ _ (hrow z h)
        ·rw [List.mem_singleton.1 h]
         exact seen_self _ _ (by rw [hsl];exact hyr)
      ·rw [List.take_of_length_le (by omega)] at hrow
       simp (disch:=omega) only [go_sem,f2,f5,f6,f7,f49,f50,f51,hlt]
       refine ih2 s _ _ (by omega) ⟨?_,?_,?_,?_,hC,hD.shut (by rw [← herow];exact hrow),hseen,?_⟩
       ·simp (disch:=omega) only [go_sem,f2]
       ·simp (disch:=omega) only [go_sem,f5]
       ·simp (disch:=omega) only [go_sem,f6]
       ·simp (disch:=omega) only [go_sem,f7]
       ·have h11:meas (seen,op++[x])≤2 * A.arcs.length:=hm
        omega
     ·refine ⟨by omega,?_,?_,?_,?_,?_,?_,?_,(seen,op),hC2,hD.pop,hseen,fun y hy=>(by cases hy),hsx,Nat.le_refl _⟩
      all_goals simp (disch:=omega) only [go_sem,f2,f5,f6,f7]
   ·exact ⟨by simp (disch:=omega) only [go_sem,f2],by simp (disch:=omega) only [go_sem,f5],by simp (disch:=omega) only [go_sem,f6],by simp (disch:=omega) only [go_sem,f7],hC,hD,hseen,hm⟩
 ·refine ⟨by omega,?_,?_,?_,?_,?_,?_,?_,(List.replicate A.arcs.length false,[]),⟨rfl,?_,?_,⟨.d .nilslice,rfl,.inl ⟨rfl,rfl⟩⟩⟩,Dfs.start A l,fun z hz=>(by cases hz),?_⟩
  ·simp (disch:=omega) only [go_sem]
  ·simp (disch:=omega) only [go_sem]
  ·simp (disch:=omega) only [go_sem]
  ·simp (disch:=omega) only [go_sem]
  ·simp (disch:=omega) only [go_sem]
  ·simp (disch:=omega) only [go_sem]
  ·simp (disch:=omega) only [go_sem]
  ·simp [stGet,bitsL]
  ·simp [stGet]
  ·have h9:unseen (List.replicate A.arcs.length false)≤(List.replicate A.arcs.length false).length:=List.countP_le_length
   rw [List.length_replicate] at h9
   have h10:meas (List.replicate A.arcs.length false,[])=2 * unseen (List.replicate A.arcs.length false):=rfl
   rw [h10];omega
end Go.Proofs.YtfnddhbiolpmgaaGreatDoor
set_option linter.unusedVariables false
set_option linter.unusedSimpArgs false
set_option maxRecDepth 100000
namespace Go.Proofs.YtfnddhbiolpmgaaGreatDoor
open Go Nv Pat
def hintsT:Nat→Hint:=fun i=>if i=7 then .own ⟨1,3⟩ else if i=48 then .freeze else .no
@[go_sem] theorem hintsT_at (i:Nat):hintsT i=if i=7 then .own ⟨1,3⟩ else if i=48 then .freeze else .no:=nrfl rfl
theorem hits_snoc {c:Int} {row:List Arc} {i:Nat} (h:i<row.length):hitsC c (row.take (i+1))=hitsC c (row.take i)++(if (row.getD i default).1≤c∧c≤(row.getD i default).2.1 then [(row.getD i default).2.2] else []):=by
 rw [take_succ' row i h]
 unfold hitsC
 rw [List.filterMap_append]
 congr 1
 simp only [List.filterMap_cons,List.filterMap_nil]
 split <;> simp_all
theorem hits_len (c:Int) (row:List Arc):(hitsC c row).length≤row.length:=List.length_filterMap_le _ _
theorem targets_snoc (A:Au) {l:List Int} {j:Nat} (c:Int) (h:j<l.length):targets A (l.take (j+1)) c=targets A (l.take j) c++hitsC c (A.arcs.getD (l.getD j default).toNat []):=by
 rw [take_succ' l j h,targets_append];simp [targets]
theorem targets_len {A:Au} (hf:Fit A) (c:Int):∀ l:List Int,(targets A l c).length≤l.length * 1000000000
 | []=>by simp [targets]
 | x::l=>by
  have h:=targets_len hf c l
  have hr:(A.arcs.getD x.toNat []).length≤1000000000:=by
   rw [List.getD_eq_getElem?_getD]
   cases hx:A.arcs[x.toNat]? with
   | none=>simp
   | some r=>exact hf.arow r (List.mem_of_getElem? hx)
  have h2:=hits_len c (A.arcs.getD x.toNat [])
  have e:targets A (x::l) c=hitsC c (A.arcs.getD x.toNat [])++targets A l c:=by simp [targets]
  rw [e,List.length_append,List.length_cons,Nat.add_mul]
  omega
theorem step35 (A:Au) (hp:A.Proper) (hf:Fit A) (l:List Int) (hl:l.length≤3000) (hr:∀ z,z∈l→inR A.arcs.length z) (c:Int) :
  PCall Tryz.prog 58 [auA A,.d (intsD l),.d (.int .i32 c)] (.d (intsD (stepM A l c))):=by
 refine fn58.pure hintsT (Nat.le_refl _) (by simp only [go_sem,auA,auF,rowsD,intsD]) (by simp only [go_sem]) ?_
 have hla:((arcsL A.arcs).map (DV.list 3)).length=A.arcs.length:=by simp [arcsL]
 have hmost:=hp.most
 simp (disch:=omega) only [go_sem,auA,auF,rowsD,hla,intsD,List.length_map]
 obtain ⟨B0,hB0⟩:∃ B0,B0=Blk.box 43 [AV.d (.int .i64 A.start),AV.d (.int .i64 A.accept),AV.d (.list 1 ((arcsL A.arcs).map (DV.list 3))),AV.d (.list 1 ((intsL A.emp).map (DV.list 1)))]:=⟨_,rfl⟩
 rw [← hB0]
 refine wL_ind (fun (j:Nat) fr σ=>j≤l.length∧fr 2=.d (.int .i32 c)∧fr 3=.ptr 0 0∧fr 12=.d (.list 1 (l.map intD))∧fr 13=.d (.int .i64 l.length)∧fr 14=.d (.int .i64 j) ∧
  ∃ (m g:Nat),fr 7=.own m g 0 (targets A (l.take j) c).length∧stGet σ 0=B0∧stGet σ m=.arr g ⟨1,3⟩ ((targets A (l.take j) c).map intD)∧0<m) (fun j=>l.length - j) ?_ 0 ?_
 ·rintro j fr σ ⟨hj,f2,f3,f12,f13,f14,m,g,f7,hs0,hsm,hm0⟩ ih
  have hml:=lt_of_get hsm (by simp)
  have hts:=targets_len hf c (l.take j)
  have hjl:(l.take j).length≤3000:=by rw [List.length_take];omega
  have hts2:(targets A (l.take j) c).length≤3000 * 1000000000:=Nat.le_trans hts (Nat.mul_le_mul_right _ hjl)
  by_cases hlt:j<l.length
  ·have hg:=emp_get l j hlt
   have hsn:=targets_snoc A c hlt
   have hxr:=hr _ (getD_mem l j hlt)
   generalize l.getD j default=x at *
   have hx0:=hxr.1
   have hxn:=hxr.2
   have ha:=arows_get A.arcs x.toNat (by omega)
   have hrl:=hf.arow (A.arcs.getD x.toNat []) (by rw [List.getD_eq_getElem?_getD,List.getElem?_eq_getElem (by omega)];exact List.getElem_mem _)
   generalize A.arcs.getD x.toNat []=row at *
   generalize targets A (l.take j) c=ts at *
   simp (disch:=omega) only [go_sem,f2,f3,f7,f12,f13,f14,hlt,hg,hs0,hB0,hla,ha,hx0,hxn,List.length_map]
   refine wL_ind (fun (i:Nat) fr σ=>i≤row.length∧fr 2=.d (.int .i32 c)∧fr 3=.ptr 0 0∧fr 12=.d (.list 1 (l.map intD))∧fr 13=.d (.int .i64 l.length)∧fr 14=.d (.int .i64 j) ∧
    fr 22=.d (.list 3 (row.map arcD))∧fr 23=.d (.int .i64 row.length)∧fr 24=.d (.int .i64 i) ∧
    ∃ (m g:Nat),fr 7=.own m g 0 (ts++hitsC c (row.take i)).length∧stGet σ 0=B0∧stGet σ m=.arr g ⟨1,3⟩ ((ts++hitsC c (row.take i)).map intD)∧0<m) (fun i=>row.length - i) ?_ 0 ?_
   ·rintro i fr σ ⟨hi,f2,f3,f12,f13,f14,f22,f23,f24,m,g,f7,hs0,hsm,hm0⟩ ih2
    have hml:=lt_of_get hsm (by simp)
    have hhl:=hits_len c (row.take i)
    have htil:(row.take i).length≤row.length:=by rw [List.length_take];omega
    by_cases hil:i<row.length
    ·have hga:=arc_get row i hil
     have hsn2:=hits_snoc (c:=c) hil
     generalize row.getD i default=y at *
     obtain ⟨lo,hi',to⟩:=y
     generalize hT:ts++hitsC c (row.take i)=T at *
     have hTl:T.length≤3000 * 1000000000+1000000000:=by rw [← hT,List.length_append];omega
     have hcap:(T.length+1) * 8≤140737488355328:=by omega
     have hTn:(T.map intD).length=T.length:=by simp
     have hta:List.take T.length (T.map intD)=T.map intD:=List.take_of_length_le (by simp)
     have hl0:=lt_of_get hs0 (by rw [hB0];simp)
     have hnew:ts++hitsC c (row.take (i+1))=T++(if lo≤c∧c≤hi' then [to] else []):=by rw [hsn2,← List.append_assoc,hT]
     have frs:∀ (x:AV) (fr':FR),True:=fun _ _=>trivial
     by_cases c1:lo≤c
     ·by_cases c2:c≤hi'
      ·rw [if_pos ⟨c1,c2⟩] at hnew
       simp (disch:=omega) only [go_sem,f2,f3,f7,f12,f13,f14,f22,f23,f24,hil,hga,c1,c2,hsm,hta,hTn,hcap,Nat.zero_add,Nat.le_refl,stGet_left,stSet_left,apR]
       refine ih2 (i+1) _ _ (by omega) ⟨by omega,?_,?_,?_,?_,?_,?_,?_,?_,m,g+1,?_,?_,?_,hm0⟩
       ·simp (disch:=omega) only [go_sem,f2]
       ·simp (disch:=omega) only [go_sem,f3]
       ·simp (disch:=omega) only [go_sem,f12]
       ·simp (disch:=omega) only [go_sem,f13]
       ·simp (disch:=omega) only [go_sem,f14]
       ·simp (disch:=omega) only [go_sem,f22]
       ·simp (disch:=omega) only [go_sem,f23]
       ·simp (disch:=omega) only [go_sem]
       ·rw [hnew];simp (disch:=omega) only [go_sem,List.length_append,List.length_cons,List.length_nil]
       ·rw [(own_turn _ _ hml).2.1 0 (by omega) (by omega)];exact hs0
       ·rw [(own_turn _ _ hml).1,hnew];simp [intD]
      ·rw [if_neg (fun h=>c2 h.2),List.append_nil] at hnew
       simp (disch:=omega) only [go_sem,f2,f3,f7,f12,f13,f14,f22,f23,f24,hil,hga,c1,c2,apR]
       refine ih2 (i+1) _ _ (by omega) ⟨by omega,?_,?_,?_,?_,?_,?_,?_,?_,m,g,?_,?_,?_,hm0⟩
       ·simp (disch:=omega) only [go_sem,f2]
       ·simp (disch:=omega) only [go_sem,f3]
       ·simp (disch:=omega) only [go_sem,f12]
       ·simp (disch:=omega) only [go_sem,f13]
       ·simp (disch:=omega) only [go_sem,f14]
       ·simp (disch:=omega) only [go_sem,f22]
       ·simp (disch:=omega) only [go_sem,f23]
       ·simp (disch:=omega) only [go_sem]
       ·rw [hnew];simp (disch:=omega) only [go_sem,f7]
       ·rw [stGet_left _ _ _ (by omega)];exact hs0
       ·rw [stGet_left _ _ _ (by omega),hnew];exact hsm
     ·rw [if_neg (fun h=>c1 h.1),List.append_nil] at hnew
      simp (disch:=omega) only [go_sem,f2,f3,f7,f12,f13,f14,f22,f23,f24,hil,hga,c1,apR]
      refine ih2 (i+1) _ _ (by omega) ⟨by omega,?_,?_,?_,?_,?_,?_,?_,?_,m,g,?_,?_,?_,hm0⟩
      ·simp (disch:=omega) only [go_sem,f2]
      ·simp (disch:=omega) only [go_sem,f3]
      ·simp (disch:=omega) only [go_sem,f12]
      ·simp (disch:=omega) only [go_sem,f13]
      ·simp (disch:=omega) only [go_sem,f14]
      ·simp (disch:=omega) only [go_sem,f22]
      ·simp (disch:=omega) only [go_sem,f23]
      ·simp (disch:=omega) only [go_sem]
      ·rw [hnew];simp (disch:=omega) only [go_sem,f7]
      ·rw [stGet_left _ _ _ (by omega)];exact hs0
      ·rw [stGet_left _ _ _ (by omega),hnew];exact hsm
    ·rw [List.take_of_length_le (by omega)] at f7 hsm
     simp (disch:=omega) only [go_sem,f2,f3,f7,f12,f13,f14,f22,f23,f24,hil]
     refine ih (j+1) _ _ (by omega) ⟨by omega,?_,?_,?_,?_,?_,m,g,?_,hs0,?_,hm0⟩
     ·simp (disch:=omega) only [go_sem,f2]
     ·simp (disch:=omega) only [go_sem,f3]
     ·simp (disch:=omega) only [go_sem,f12]
     ·simp (disch:=omega) only [go_sem,f13]
     ·simp (disch:=omega) only [go_sem]
     ·simp (disch:=omega) only [go_sem,f7,hsn]
     ·rw [hsn];exact hsm
   ·refine ⟨by omega,?_,?_,?_,?_,?_,?_,?_,?_,m,g,?_,hs0,?_,hm0⟩
    all_goals simp (disch:=omega) only [go_sem,f2,f3,f7,f12,f13,f14,List.take_zero,show hitsC c []=[] from rfl,List.append_nil,hsm]
  ·have hje:j=l.length:=by omega
   subst hje
   rw [List.take_length] at f7 hsm hts2
   have hta:List.take (targets A l c).length ((targets A l c).map intD)=(targets A l c).map intD:=List.take_of_length_le (by simp)
   have htl:((targets A l c).map intD).length=(targets A l c).length:=by simp
   simp (disch:=omega) only [go_sem,f2,f3,f7,f12,f13,f14,hlt,hs0,hB0,hsm,hta,htl,Nat.zero_add,Nat.le_refl,List.drop_zero]
   refine (closure33 A hp hf (targets A l c) (by omega)).at ?_
   simp (disch:=omega) only [go_sem,intsD]
   rfl
 ·refine ⟨by omega,?_,?_,?_,?_,?_,1,0,?_,?_,?_,by omega⟩
  all_goals simp (disch:=omega) only [go_sem,List.take_zero,show targets A [] c=[] from rfl,List.length_nil,List.map_nil]
end Go.Proofs.YtfnddhbiolpmgaaGreatDoor
