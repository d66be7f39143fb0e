/- Part of a proof about the functions of this seat. -/
import Derived.Test.YtngdkenddfdhaaaGreatDoorG20V32
import Derived.Test.YtngdkenddfdhaaaGreatDoorG18Fl32
import Derived.Test.YtngdkenddfdhaaaGreatDoorG17Nfd
import Derived.Test.YtngdkenddfdhaaaGreatDoorG10Base32
import Derived.Test.YtngdkenddfdhaaaGreatDoorG13Nfq
set_option linter.unusedVariables false
set_option linter.unusedSimpArgs false
set_option maxRecDepth 100000
namespace Go.Proofs.YtngdkenddfdhaaaGreatDoor
open Go Nv Pat
def finM (s:List UInt8):List Int:=(decM s).out++if restM s=[] then [] else [65533]
def charsM (s:List UInt8):List Int:=(decM s).out++finM (restM s)
theorem decL_ok:∀ (l:List UInt8) (i:Nat) (d:Dec),(0≤d.q.missing∧d.q.missing≤3)→d.start≤i→d.out.length≤2 * i→(decL l i d).out.length≤2 * (i+l.length)
 | [],i,d,_,_,h=>by simpa [decL] using h
 | b::l,i,d,h1,h2,h3=>by
  obtain ⟨k1,k2,k3⟩:=step_ok d i (bt b) h1 h2 h3
  have:=decL_ok l (i+1) _ k1 k2 k3
  rw [decL,List.length_cons];omega
theorem dec_len (s:List UInt8):(decM s).out.length≤2 * s.length:=by
 have:=decL_ok s 0 dec0 (by simp [dec0]) (Nat.le_refl _) (by simp [dec0])
 simpa [decM] using this
theorem rest_len (s:List UInt8):(restM s).length≤s.length:=by unfold restM;split <;> simp
theorem fin_len (s:List UInt8):(finM s).length≤2 * s.length+1:=by
 have:=dec_len s
 unfold finM;split <;> simp <;> omega
theorem finish32 (s:List UInt8) (hs:s.length≤100000) (σ:Nv.ST):RCall Tryz.prog 34 [.d (.str s)] σ fun v σ' =>
  ∃ g n τ,n=(finM s).length∧v=.own σ.length g 0 n∧σ'=σ++.arr g ⟨1,21⟩ (runesD (finM s))::τ:=by
 refine fn34.rel noHint (Nat.le_refl _) ?_
 simp (disch:=omega) only [go_sem]
 refine (decode31 s hs σ).at ?_
 rintro v σ' ⟨g,n,τ,hn,rfl,rfl⟩
 have hl:=dec_len s
 have hn2:(n+1) * 4≤140737488355328:=by omega
 have hta:=take_all (runesD (decM s).out) n (by rw [runesD_length,hn])
 by_cases h:restM s=[]
 ·have e:finM s=(decM s).out:=by rw [finM,if_pos h,List.append_nil]
  simp (disch:=omega) only [go_sem,h]
  exact ⟨_,rfl,g,n,τ,by rw [e,hn],rfl,by rw [e]⟩
 ·have e:finM s=(decM s).out++[65533]:=by rw [finM,if_neg h]
  simp (disch:=omega) only [go_sem,h,hn2,hta,runesD_length,← hn,Nat.zero_add,Nat.le_refl,List.append_assoc,List.cons_append,List.nil_append,List.length_append,apR]
  exact ⟨_,rfl,g+1,n+1,_,by rw [e,hn];simp,rfl,by rw [e];simp only [runesD,List.map_append];rfl⟩
open Classical in
noncomputable def matchB (n:Tree) (s:List UInt8):Bool:=decide (chkE n=0∧Lang n (charsM s))
theorem matchB_iff (n:Tree) (s:List UInt8):matchB n s=true↔chkE n=0∧Lang n (charsM s):=by simp [matchB]
def hintsM:Nat→Hint:=fun i=>if i=19 then .freeze else if i=28 then .freeze else .no
@[go_sem] theorem hintsM_at (i:Nat):hintsM i=if i=19 then .freeze else if i=28 then .freeze else .no:=nrfl rfl
theorem match17 (n:Tree) (hn:Thin n) (s:List UInt8) (hs:s.length≤10000):PCall Tryz.prog 18 [nodeA n,.d (.str s)] (.d (.bool (matchB n s))):=by
 refine fn18.pure hintsM (Nat.le_refl _) (by simp only [go_sem,nodeA,nodeF,setD]) (by simp only [go_sem]) ?_
 simp (disch:=omega) only [go_sem,nodeA,nodeF]
 refine (check13 n hn).at ?_
 by_cases h0:chkE n=0
 ·simp (disch:=omega) only [go_sem,h0,List.append_assoc,List.cons_append,List.nil_append,List.length_append,apR]
  refine (decode31 s (by omega) _).at ?_
  rintro v σ' ⟨g,m,τ,hm,rfl,rfl⟩
  simp (disch:=omega) only [go_sem]
  have hrl:=rest_len s
  refine (finish32 (restM s) (by omega) _).at ?_
  rintro v σ' ⟨g',m',τ',hm',rfl,rfl⟩
  have hl:=dec_len s
  have hl2:=fin_len (restM s)
  have hta:=take_all (runesD (decM s).out) m (by rw [runesD_length,hm])
  have hta':=take_all (runesD (finM (restM s))) m' (by rw [runesD_length,hm'])
  have hmm:(m+m') * 4≤140737488355328:=by omega
  obtain ⟨t,ht⟩:∃ t,t=charsM s:=⟨_,rfl⟩
  have htl:t.length=m+m':=by rw [ht,charsM,List.length_append,hm,hm']
  have hcat:List.take (m+m') (runesD (decM s).out++runesD (finM (restM s)))=runesD t:=by
   rw [ht,charsM,List.take_of_length_le (by rw [List.length_append,runesD_length,runesD_length];omega)]
   simp only [runesD,List.map_append]
  have hb1:t.length≤100000:=by omega
  have hb2:(0:Int)<((t.length+1:Nat):Int):=by omega
  have hb3:(((t.length+1:Nat):Int)) * ((1:Nat):Int)≤140737488355328:=by omega
  have efr:boolsA (places t fun j=>j=0)=.d (.list 1 (DV.bool true::List.replicate t.length (DV.bool false))):=by
   have:places t (fun j=>j=0)=true::List.replicate t.length false:=by
    refine List.ext_getElem (by rw [places_length];simp) fun j h1 h2=>?_
    cases j <;> simp [Pat.places]
   rw [boolsA,this];simp [boolsD]
  have etk:List.take t.length (List.replicate t.length (DV.bool false))=List.replicate t.length (DV.bool false):=List.take_of_length_le (by simp)
  have hnodes:¬ 120<n.nodes:=fun h=>by rw [chkE,if_pos h] at h0;cases h0
  have hchk:chk n=0:=by rw [chkE,if_neg hnodes] at h0;exact h0
  have hr:=reach33 n hchk (by omega) hn t (fun j=>j=0) hb1
  rw [efr] at hr
  have hpl:=places_length t (Pat.Post t (Lang n) fun j=>j=0)
  have hlt:t.length<t.length+1:=by omega
  have hget:=boolsD_get (places t (Pat.Post t (Lang n) fun j=>j=0)) t.length (by omega)
  have hfin:(places t (Pat.Post t (Lang n) fun j=>j=0)).getD t.length false=matchB n s:=by
   rw [Bool.eq_iff_iff,places_get (Nat.le_refl _),matchB_iff,← ht]
   have ep:Pat.part t 0 t.length=t:=by simp [Pat.part]
   constructor
   ·rintro ⟨i,rfl,_,_,h⟩;rw [ep] at h;exact ⟨h0,h⟩
   ·rintro ⟨_,h⟩;exact ⟨0,rfl,by omega,Nat.le_refl _,by rw [ep];exact h⟩
  rw [hfin] at hget
  simp (disch:=omega) only [go_sem,hta,hta',hmm,runesD_length,← hm,← hm',Nat.zero_add,Nat.le_refl,hcat,hb2,hb3,List.length_replicate,List.replicate_succ,etk,List.append_assoc,List.cons_append,List.nil_append,List.length_append,apR]
  refine ⟨by omega,?_⟩
  refine hr.at ?_
  simp (disch:=omega) only [go_sem,boolsA,hpl,hlt,hget,hcat,hmm,runesD_length,List.append_assoc,List.cons_append,List.nil_append,List.length_append,apR]
 ·have e:matchB n s=false:=by rw [← Bool.not_eq_true,matchB_iff];exact fun h=>h0 h.1
  simp (disch:=omega) only [go_sem,h0,e]
end Go.Proofs.YtngdkenddfdhaaaGreatDoor
set_option linter.unusedVariables false
set_option linter.unusedSimpArgs false
set_option maxRecDepth 100000
namespace Go.Proofs.YtngdkenddfdhaaaGreatDoor
open Go Nv Pat
open Classical in
noncomputable def nfaB (A:Au) (s:List UInt8):Bool:=decide (A.Proper∧acceptM A (charsM s))
theorem nfaB_iff (A:Au) (s:List UInt8):nfaB A s=true↔A.Proper∧acceptM A (charsM s):=by simp [nfaB]
def hintsN:Nat→Hint:=fun i=>if i=21 then .freeze else if i=26 then .freeze else .no
@[go_sem] theorem hintsN_at (i:Nat):hintsN i=if i=21 then .freeze else if i=26 then .freeze else .no:=nrfl rfl
theorem clos_len (A:Au) (l:List Int):(closM A l).length≤A.arcs.length:=by
 unfold closM
 rw [List.length_map]
 exact Nat.le_trans (List.length_filter_le _ _) (by simp)
theorem run_take (A:Au) {t:List Int} {j:Nat} (h:j<t.length):runM A (t.take (j+1))=stepM A (runM A (t.take j)) (t.getD j default):=by
 rw [take_succ' t j h,run_snoc]
theorem run_len (A:Au) (t:List Int):(runM A t).length≤A.arcs.length:=by
 unfold runM
 have:∀ (t:List Int) (l:List Int),l.length≤A.arcs.length→(t.foldl (stepM A) l).length≤A.arcs.length:=by
  intro t
  induction t with
  | nil=>intro l h;exact h
  | cons c t ih=>intro l h;exact ih _ (clos_len A _)
 exact this t _ (clos_len A _)
theorem run_inR {A:Au} (hp:A.Proper) (t:List Int):∀ z,z∈runM A t→inR A.arcs.length z:=by
 intro z hz
 rw [← run_closed hp t] at hz
 exact from_inR hp ((mem_clos hp _ _).1 hz)
theorem match16 (A:Au) (hf:Fit A) (s:List UInt8) (hs:s.length≤10000):PCall Tryz.prog 16 [auA A,.d (.str s)] (.d (.bool (nfaB A s))):=by
 refine fn16.pure hintsN (Nat.le_refl _) (by simp only [go_sem,auA,auF,rowsD]) (by simp only [go_sem]) ?_
 simp (disch:=omega) only [go_sem,auA,auF,rowsD]
 refine (check17 A hf).at ?_
 cases hok:okA A with
 | false =>
  have e:nfaB A s=false:=by
   unfold nfaB
   simp only [decide_eq_false_iff_not]
   rintro ⟨h,_⟩
   rw [okA_proper.2 h] at hok;cases hok
  simp (disch:=omega) only [go_sem,e,Bool.false_eq_true]
 | true =>
  have hp:=okA_proper.1 hok
  simp (disch:=omega) only [go_sem,apR]
  refine (decode31 s (by omega) _).at ?_
  rintro v σ' ⟨g,m,τ,hm,rfl,rfl⟩
  simp (disch:=omega) only [go_sem,apR]
  refine (closure33 A hp hf [A.start] (by simp)).at ?_
  simp (disch:=omega) only [go_sem,apR]
  have hrl:=rest_len s
  refine (finish32 (restM s) (by omega) _).at ?_
  rintro v σ' ⟨g',m',τ',hm',rfl,rfl⟩
  have hl:=dec_len s
  have hl2:=fin_len (restM s)
  have hta:=take_all (runesD (decM s).out) m (by rw [runesD_length,hm])
  have hta':=take_all (runesD (finM (restM s))) m' (by rw [runesD_length,hm'])
  have hmm:(m+m') * 4≤140737488355328:=by omega
  obtain ⟨t,ht⟩:∃ t,t=charsM s:=⟨_,rfl⟩
  have htl:t.length=m+m':=by rw [ht,charsM,List.length_append,hm,hm']
  have hcat:List.take (m+m') (runesD (decM s).out++runesD (finM (restM s)))=runesD t:=by
   rw [ht,charsM,List.take_of_length_le (by rw [List.length_append,runesD_length,runesD_length];omega)]
   simp only [runesD,List.map_append]
  have hcat2:runesD (decM s).out++runesD (finM (restM s))=runesD t:=by
   rw [ht,charsM];simp only [runesD,List.map_append]
  have htt:List.take (m+m') (runesD t)=runesD t:=List.take_of_length_le (by rw [runesD_length];omega)
  have hres:nfaB A s=decide (A.accept∈runM A t):=by
   unfold nfaB
   rw [← ht]
   simp only [acceptM]
   exact decide_eq_decide.2 ⟨fun h=>h.2,fun h=>⟨hp,h⟩⟩
  simp (disch:=omega) only [go_sem,hta,hta',hmm,runesD_length,← hm,← hm',Nat.zero_add,Nat.le_refl,hcat,hcat2,List.append_assoc,List.cons_append,List.nil_append,List.length_append,apR]
  refine ⟨by omega,?_⟩
  refine wL_ind (fun (j:Nat) fr σ=>j≤t.length∧fr 2=.ptr 0 0∧fr 7=.d (intsD (runM A (t.take j)))∧fr 26=.d (.list 1 (runesD t))∧fr 27=.d (.int .i64 t.length)∧fr 28=.d (.int .i64 j) ∧
   ∃ τ,σ=.box 31 [AV.d (.int .i64 A.start),AV.d (.int .i64 A.accept),AV.d (.list 1 ((arcsL A.arcs).map (DV.list 3))),AV.d (.list 1 ((intsL A.emp).map (DV.list 1)))]::τ) (fun j=>t.length - j) ?_ 0 ?_
  ·rintro j fr σ ⟨hj,f2,f7,f26,f27,f28,τ,rfl⟩ ih
   by_cases hlt:j<t.length
   ·have hg:(runesD t).getD j default=.int .i32 (t.getD j default):=by
     simp [runesD,List.getD_eq_getElem?_getD,hlt]
    have hrl2:=run_len A (t.take j)
    have hmost:=hp.most
    simp (disch:=omega) only [go_sem,f2,f7,f26,f27,f28,hlt,hg]
    refine (step35 A hp hf (runM A (t.take j)) (by omega) (run_inR hp _) (t.getD j default)).at ?_
    simp (disch:=omega) only [go_sem,f28]
    refine ih (j+1) _ _ (by omega) ⟨by omega,?_,?_,?_,?_,?_,_,rfl⟩
    ·simp (disch:=omega) only [go_sem,f2]
    ·rw [run_take A hlt];simp (disch:=omega) only [go_sem]
    ·simp (disch:=omega) only [go_sem,f26]
    ·simp (disch:=omega) only [go_sem,f27]
    ·simp (disch:=omega) only [go_sem]
   ·have hje:j=t.length:=by omega
    subst hje
    rw [List.take_length] at f7
    have hrl2:=run_len A t
    have hmost:=hp.most
    simp (disch:=omega) only [go_sem,f2,f7,f26,f27,f28,hlt]
    refine (contains36 (runM A t) A.accept (by omega)).at ?_
    rw [hres]
    simp (disch:=omega) only [go_sem]
  ·refine ⟨by omega,?_,?_,?_,?_,?_,_,rfl⟩
   ·simp (disch:=omega) only [go_sem]
   ·simp (disch:=omega) only [go_sem];rfl
   ·simp (disch:=omega) only [go_sem,htt]
   ·simp (disch:=omega) only [go_sem,htt]
   ·simp (disch:=omega) only [go_sem]
end Go.Proofs.YtngdkenddfdhaaaGreatDoor
set_option linter.unusedVariables false
set_option linter.unusedSimpArgs false
set_option maxRecDepth 100000
namespace Go.Proofs.YtngdkenddfdhaaaGreatDoor
open Go Nv Pat
theorem proper_mem:∀ (s:List (Int × Int)) (p:Option Int),properFrom p s=true→∀ r,r∈s→rgB r=true
 | [],_,_,r,hr=>by cases hr
 | x::s,none,h,r,hr=>by
  simp only [properFrom,Bool.and_eq_true] at h
  rcases List.mem_cons.1 hr with rfl | hr
  ·exact h.1
  ·exact proper_mem s _ h.2 r hr
 | x::s,some q,h,r,hr=>by
  simp only [properFrom,Bool.and_eq_true] at h
  rcases List.mem_cons.1 hr with rfl | hr
  ·exact h.1.1
  ·exact proper_mem s _ h.2 r hr
theorem rgB_ok {r:Int × Int} (h:rgB r=true):scalar r.1∧scalar r.2∧r.1≤r.2:=by
 unfold rgB at h
 simp only [Bool.and_eq_true,decide_eq_true_eq] at h
 exact ⟨(charB_iff2 _).1 h.1.1.1,(charB_iff2 _).1 h.1.1.2,h.1.2⟩
theorem chk_set {k:Int} {s:List (Int × Int)} {l:List Tree} {a b:Int} (h:chk (.mk k s l a b)=0) (hk:k=2):∀ r,r∈s→rgB r=true:=by
 obtain ⟨h1,h2,h3⟩:=chk_ok h
 subst hk
 unfold badB at h2
 simp only [Bool.or_eq_false_iff,Bool.not_eq_false'] at h2
 have hp:=h2.1.1
 unfold partsB at hp
 rw [if_neg (by omega),if_pos rfl] at hp
 simp only [Bool.and_eq_true] at hp
 exact proper_mem s none hp.2
theorem catA_mem:∀ (xs:List Tree) (o:Nat),(∀ x,x∈xs→WF x)→∀ l,l∈catA (xs.map fun x o=>rowsA x o) o→∃ (x:Tree) (o':Nat),x∈xs∧o≤o'∧o'+sz x≤o+(xs.map sz).sum∧l∈rowsA x o'
 | [],o,_,l,h=>by simp [catA] at h
 | x::xs,o,hw,l,h=>by
  simp only [List.map_cons,catA,List.mem_append] at h
  have hx:=rowsA_len (hw x (by simp)) o
  rcases h with h | h
  ·exact ⟨x,o,by simp,Nat.le_refl _,by simp only [List.map_cons,List.sum_cons];omega,h⟩
  ·rw [hx] at h
   obtain ⟨y,o',h1,h2,h3,h4⟩:=catA_mem xs _ (fun y hy=>hw y (by simp [hy])) l h
   exact ⟨y,o',by simp [h1],by omega,by simp only [List.map_cons,List.sum_cons];omega,h4⟩
theorem rows_ok:∀ n:Tree,chk n=0→∀ (o:Nat) l,l∈rowsA n o→∀ x,x∈l→scalar x.1∧scalar x.2.1∧x.1≤x.2.1∧0≤x.2.2∧x.2.2<((o+sz n:Nat):Int):=by
 intro n
 induction n using Tree.ind with
 | h k s sub a b ih =>
  intro hc o l hl x hx
  obtain ⟨h1,h2,h3,h4⟩:=chk_kinds hc
  have hwf:=chk_wf _ hc
  have h2s:=sz_two hwf
  by_cases hk:k=2
  ·rw [rowsA,if_pos hk] at hl
   simp only [List.mem_cons,List.not_mem_nil,or_false] at hl
   rcases hl with rfl | rfl
   ·obtain ⟨r,hr,rfl⟩:=List.mem_map.1 hx
    obtain ⟨q1,q2,q3⟩:=rgB_ok (chk_set hc hk r hr)
    exact ⟨q1,q2,q3,by dsimp only;omega,by dsimp only;omega⟩
   ·cases hx
  ·rw [rowsA_items k s sub a b o hk (fun h5=>by obtain ⟨y,rfl,_⟩:=h3 h5;simp)] at hl
   rw [sz_eq hwf]
   simp only [List.mem_cons,List.mem_append,List.not_mem_nil,or_false] at hl
   have hit:∀ y,y∈items (.mk k s sub a b)→y∈sub:=by
    intro y hy
    by_cases h5:k=5
    ·obtain ⟨z,rfl,_⟩:=h3 h5
     simp only [items,h5,if_true,List.headD_cons] at hy
     rw [(List.mem_replicate.1 hy).2];simp
    ·simpa [items,h5] using hy
   rcases hl with rfl | hl | rfl
   ·cases hx
   ·obtain ⟨y,o',q1,q2,q3,q4⟩:=catA_mem _ _ (items_wf hwf) l hl
    obtain ⟨r1,r2,r3,r4,r5⟩:=ih y (hit y q1) (h4 y (hit y q1)) o' l q4 x hx
    exact ⟨r1,r2,r3,r4,by omega⟩
   ·cases hx
theorem st0_is:st0.Is [] (fun _ _=>False):=⟨rfl,rfl,fun r z=>by simp [Mem,st0]⟩
structure Built (n:Tree) (A:Au):Prop where
 arcs:A.arcs=rowsA n 0
 len:A.emp.length=sz n
 emp:∀ r z,z∈A.emp.getD r []↔∃ t:Nat,z=t∧Ed n 0 r t
 start:A.start=0
 accept:A.accept=(sz n:Int) - 1
theorem build_is {n:Tree} (hn:WF n):Built n (buildM n):=by
 obtain ⟨h1,h2⟩:=part_spec hn st0 [] _ st0_is
 simp only [List.nil_append,List.length_nil,Nat.zero_add,false_or] at h1 h2
 refine ⟨h1.a,?_,fun r z=>?_,rfl,?_⟩
 ·simp only [buildM,List.length_map]
  rw [h1.e,rowsA_len hn]
 ·rw [← h1.m r z]
  unfold Mem
  simp only [buildM]
  rw [List.getD_eq_getElem?_getD,List.getD_eq_getElem?_getD,List.getElem?_map]
  cases (partB n st0).1.E[r]? with
  | none=>simp
  | some l=>simp [sortI]
 ·simp only [buildM];omega
theorem built_proper {n:Tree} {A:Au} (hb:Built n A) (hc:chk n=0) (hs:sz n≤3000):A.Proper:=by
 have hwf:=chk_wf n hc
 have h2:=sz_two hwf
 have hl:A.arcs.length=sz n:=by rw [hb.arcs,rowsA_len hwf]
 refine ⟨by omega,by omega,by rw [hb.len,hl],?_,?_,fun l hl' x hx=>?_,fun l hl' z hz=>?_⟩
 ·rw [hl,hb.start];exact ⟨Int.le_refl _,by omega⟩
 ·rw [hl,hb.accept];exact ⟨by omega,by omega⟩
 ·rw [hb.arcs] at hl'
  obtain ⟨q1,q2,q3,q4,q5⟩:=rows_ok n hc 0 l hl' x hx
  rw [hl]
  exact ⟨q1,q2,q3,q4,by simpa using q5⟩
 ·obtain ⟨r,hr,rfl⟩:=List.mem_iff_getElem.1 hl'
  obtain ⟨t,rfl,he⟩:=(hb.emp r z).1 (by rw [List.getD_eq_getElem?_getD,List.getElem?_eq_getElem hr];exact hz)
  have:=ed_region hwf 0 r t he
  rw [hl];exact ⟨by omega,by omega⟩
theorem built_accept {n:Tree} {A:Au} (hb:Built n A) (hc:chk n=0) (hs:sz n≤3000) (w:List Int):acceptM A w↔Lang n w:=by
 have hwf:=chk_wf n hc
 have h2:=sz_two hwf
 have hp:=built_proper hb hc hs
 rw [accept_iff hp w,hb.start,hb.accept]
 have e:((sz n:Int) - 1).toNat=sz n - 1:=by omega
 rw [e]
 have hE:∀ x t,EpA A x t↔Ed n 0 x t:=fun x t=>by
  unfold EpA
  rw [hb.emp]
  constructor
  ·rintro ⟨t',h,he⟩
   have:t=t':=by omega
   rw [this];exact he
  ·exact fun he=>⟨t,rfl,he⟩
 refine reads_all hwf (fun r h0 h1=>⟨fun t=>hE r t,fun c t=>?_⟩) (fun t h=>?_) (fun c t h=>?_) w
 ·unfold ArA;rw [hb.arcs,Nat.sub_zero]
 ·have:=ed_region hwf 0 _ t ((hE _ t).1 h)
  omega
 ·unfold ArA at h
  rw [hb.arcs] at h
  obtain ⟨lo,hi,hm,_⟩:=h
  rw [rowsA_last hwf] at hm;cases hm
theorem built_match {n:Tree} {A:Au} (hb:Built n A) (hc:chkE n=0) (hs:sz n≤3000) (s:List UInt8):nfaB A s=matchB n s:=by
 have hc0:=(chkE_ok hc).2
 rw [Bool.eq_iff_iff,matchB_iff,nfaB_iff,built_accept hb hc0 hs]
 exact ⟨fun h=>⟨hc,h.2⟩,fun h=>⟨built_proper hb hc0 hs,h.2⟩⟩
end Go.Proofs.YtngdkenddfdhaaaGreatDoor
/- The prepared code of further functions. Written by a program of mine (gen.py) out of what the loaded dump prints. -/

set_option linter.unusedVariables false
set_option maxRecDepth 100000
namespace Go.Proofs.YtngdkenddfdhaaaGreatDoor
open Go Nv
theorem fn20:FnIs Tryz.prog 20 1 [Go.ResultVar.tmp 2] (.seq (.region [⟨some 1,Go.Op.box 25 (Go.Operand.tmp 0),0,none⟩,
   ⟨some 2,Go.Op.assign (Go.Operand.const (Go.Value.int Go.IntKind.i64 0)),3,none⟩])
  (.seq (.region [⟨some 3,Go.Op.assign (Go.Operand.const (Go.Value.int Go.IntKind.i64 2)),3,none⟩])
  (.seq (.seq (.region [⟨some 4,Go.Op.assign (Go.Operand.const (Go.Value.int Go.IntKind.i64 0)),3,none⟩])
  (.block 0
   (.loop
    (.seq (.seq (.region [⟨some 6,Go.Op.move (Go.Operand.tmp 4),3,none⟩,
     ⟨some 7,Go.Op.fieldAddr 25 (Go.Operand.tmp 1) 2,0,none⟩,
     ⟨some 8,Go.Op.load 23 (Go.Operand.tmp 7),23,none⟩,
     ⟨some 9,Go.Op.call { callee:=Go.Callee.builtin Go.Builtin.len,args:=#[Go.Operand.tmp 8],argTypes:=#[23] },3,none⟩,
     ⟨some 10,Go.Op.binOp Go.BinOp.lss 3 (Go.Operand.tmp 6) (Go.Operand.tmp 9) 3,4,none⟩])
    (.cond (Go.Operand.tmp 10)
     .skip
     (.exit 0)))
    (.seq (.block 1
     (.seq (.region [⟨some 5,Go.Op.assign (Go.Operand.const (Go.Value.int Go.IntKind.i64 1)),3,none⟩])
     (.seq (.seq (.region [⟨some 13,Go.Op.fieldAddr 25 (Go.Operand.tmp 1) 0,0,none⟩,
      ⟨some 14,Go.Op.load 3 (Go.Operand.tmp 13),3,none⟩,
      ⟨some 15,Go.Op.binOp Go.BinOp.eql 3 (Go.Operand.tmp 14) (Go.Operand.const (Go.Value.int Go.IntKind.i64 5)) 3,4,none⟩])
     (.cond (Go.Operand.tmp 15)
      (.region [⟨some 16,Go.Op.load 25 (Go.Operand.tmp 1),25,none⟩,
       ⟨some 17,Go.Op.call { callee:=Go.Callee.value (Go.Operand.func 41),args:=#[Go.Operand.tmp 16],argTypes:=#[25] },3,none⟩,
       ⟨some 5,Go.Op.assign (Go.Operand.tmp 17),3,none⟩])
      .skip))
     (.region [⟨some 18,Go.Op.move (Go.Operand.tmp 3),3,none⟩,
      ⟨some 19,Go.Op.move (Go.Operand.tmp 5),3,none⟩,
      ⟨some 20,Go.Op.fieldAddr 25 (Go.Operand.tmp 1) 2,0,none⟩,
      ⟨some 21,Go.Op.load 23 (Go.Operand.tmp 20),23,none⟩,
      ⟨some 22,Go.Op.move (Go.Operand.tmp 4),3,none⟩,
      ⟨some 23,Go.Op.indexAddr 23 (Go.Operand.tmp 21) (Go.Operand.tmp 22),0,none⟩,
      ⟨some 24,Go.Op.load 25 (Go.Operand.tmp 23),25,none⟩,
      ⟨some 25,Go.Op.call { callee:=Go.Callee.value (Go.Operand.func 20),args:=#[Go.Operand.tmp 24],argTypes:=#[25] },3,none⟩,
      ⟨some 26,Go.Op.binOp Go.BinOp.mul 3 (Go.Operand.tmp 19) (Go.Operand.tmp 25) 3,3,none⟩,
      ⟨some 27,Go.Op.binOp Go.BinOp.add 3 (Go.Operand.tmp 18) (Go.Operand.tmp 26) 3,3,none⟩,
      ⟨some 28,Go.Op.call { callee:=Go.Callee.builtin Go.Builtin.min,args:=#[Go.Operand.tmp 27,Go.Operand.const (Go.Value.int Go.IntKind.i64 10000)],argTypes:=#[3,3] },3,none⟩,
      ⟨some 3,Go.Op.assign (Go.Operand.tmp 28),3,none⟩]))))
    (.region [⟨some 11,Go.Op.move (Go.Operand.tmp 4),3,none⟩,
     ⟨some 12,Go.Op.binOp Go.BinOp.add 3 (Go.Operand.tmp 11) (Go.Operand.const (Go.Value.int Go.IntKind.i64 1)) 3,3,none⟩,
     ⟨some 4,Go.Op.assign (Go.Operand.tmp 12),3,none⟩]))))))
  (.seq (.region [⟨some 29,Go.Op.move (Go.Operand.tmp 3),3,none⟩,
   ⟨some 2,Go.Op.assign (Go.Operand.tmp 29),3,none⟩])
  .ret)))) :=
 ⟨foll,Tryz.f20,Tryz.func20,by kernel_rfl,by kernel_rfl,by kernel_rfl,by rw [Tryz.ntmps20];decide⟩
theorem fn41:FnIs Tryz.prog 41 1 [Go.ResultVar.tmp 2] (.seq (.region [⟨some 1,Go.Op.box 25 (Go.Operand.tmp 0),0,none⟩,
   ⟨some 2,Go.Op.assign (Go.Operand.const (Go.Value.int Go.IntKind.i64 0)),3,none⟩])
  (.seq (.seq (.region [⟨some 3,Go.Op.fieldAddr 25 (Go.Operand.tmp 1) 4,0,none⟩,
   ⟨some 4,Go.Op.load 3 (Go.Operand.tmp 3),3,none⟩,
   ⟨some 5,Go.Op.binOp Go.BinOp.lss 3 (Go.Operand.tmp 4) (Go.Operand.const (Go.Value.int Go.IntKind.i64 0)) 3,4,none⟩])
  (.cond (Go.Operand.tmp 5)
   (.seq (.region [⟨some 6,Go.Op.fieldAddr 25 (Go.Operand.tmp 1) 3,0,none⟩,
    ⟨some 7,Go.Op.load 3 (Go.Operand.tmp 6),3,none⟩,
    ⟨some 8,Go.Op.binOp Go.BinOp.add 3 (Go.Operand.tmp 7) (Go.Operand.const (Go.Value.int Go.IntKind.i64 1)) 3,3,none⟩,
    ⟨some 2,Go.Op.assign (Go.Operand.tmp 8),3,none⟩])
   .ret)
   .skip))
  (.seq (.region [⟨some 9,Go.Op.fieldAddr 25 (Go.Operand.tmp 1) 4,0,none⟩,
   ⟨some 10,Go.Op.load 3 (Go.Operand.tmp 9),3,none⟩,
   ⟨some 2,Go.Op.assign (Go.Operand.tmp 10),3,none⟩])
  .ret))) :=
 ⟨foll,Tryz.f41,Tryz.func41,by kernel_rfl,by kernel_rfl,by kernel_rfl,by rw [Tryz.ntmps41];decide⟩
end Go.Proofs.YtngdkenddfdhaaaGreatDoor
set_option linter.unusedVariables false
set_option linter.unusedSimpArgs false
set_option maxRecDepth 100000
namespace Go.Proofs.YtngdkenddfdhaaaGreatDoor
open Go Nv Pat
theorem copies41 (n:Tree) (ha:0≤n.min∧n.min≤1000000) (hb:n.max≤1000000):PCall Tryz.prog 41 [nodeA n] (.d (.int .i64 (copies n.min n.max))):=by
 refine fn41.pure noHint (Nat.le_refl _) (by simp only [go_sem,nodeA,nodeF,setD]) (by simp only [go_sem]) ?_
 simp (disch:=omega) only [go_sem,nodeA,nodeF,setD]
 by_cases h:n.max<0
 ·have e:((copies n.min n.max:Nat):Int)=n.min+1:=by unfold copies;rw [if_pos h];omega
  simp (disch:=omega) only [go_sem,h]
  rw [e]
 ·have e:((copies n.min n.max:Nat):Int)=n.max:=by unfold copies;rw [if_neg h];omega
  simp (disch:=omega) only [go_sem,h]
  rw [e]
end Go.Proofs.YtngdkenddfdhaaaGreatDoor
set_option linter.unusedVariables false
set_option linter.unusedSimpArgs false
set_option maxRecDepth 100000
namespace Go.Proofs.YtngdkenddfdhaaaGreatDoor
open Go Nv Pat
def fac1 (a:Int):Int:=(if 100<(if a<0 then 0 else a) then 100 else if a<0 then 0 else a)+15
def fac2 (b:Int):Int:=if 100<(if b<1 then 1 else b) then 100 else if b<1 then 1 else b
theorem fac1_ok (a:Int):15≤fac1 a∧fac1 a≤115:=by unfold fac1;split <;> split at * <;> omega
theorem fac2_ok (b:Int):1≤fac2 b∧fac2 b≤100:=by unfold fac2;split <;> split at * <;> omega
def scale (k a b w:Int):Int:=if k=5 then (if b<0 then w * fac1 a else w * fac2 b) else w
def cap6 (z:Int):Int:=if 1000000<z then 1000000 else z
mutual
def wt:Tree→Int
 | .mk k _ l a b=>cap6 (scale k a b (1+wtL l))
def wtL:List Tree→Int
 | []=>0
 | x::l=>wt x+wtL l
end
theorem scale_pos {k a b w:Int} (h:1≤w):1≤scale k a b w:=by
 have h1:=fac1_ok a
 have h2:=fac2_ok b
 unfold scale
 split
 ·split
  ·calc (1:Int)=1 * 1:=rfl
    _≤w * fac1 a:=Int.mul_le_mul h (by omega) (by omega) (by omega)
  ·calc (1:Int)=1 * 1:=rfl
    _≤w * fac2 b:=Int.mul_le_mul h (by omega) (by omega) (by omega)
 ·exact h
mutual
theorem wt_bound:∀ n:Tree,1≤wt n∧wt n≤1000000
 | .mk k s l a b=>by
  rw [wt]
  have h:=wtL_bound l
  have:=scale_pos (k:=k) (a:=a) (b:=b) (w:=1+wtL l) (by omega)
  unfold cap6;split <;> omega
theorem wtL_bound:∀ l:List Tree,0≤wtL l∧wtL l≤1000000 * l.length
 | []=>by simp [wtL]
 | x::l=>by
  have h1:=wt_bound x
  have h2:=wtL_bound l
  rw [wtL,List.length_cons];omega
end
theorem wtL_append:∀ l m:List Tree,wtL (l++m)=wtL l+wtL m
 | [],m=>by simp [wtL]
 | x::l,m=>by rw [List.cons_append,wtL,wtL,wtL_append l m];omega
theorem weight30:∀ (n:Tree),n.nodes≤1000000→PCall Tryz.prog 15 [nodeA n] (.d (.int .i64 (wt n))):=by
 intro n
 induction n using Tree.ind with
 | h k s sub a b ih =>
  intro hnd
  have hn:(Tree.mk k s sub a b).nodes=1+Tree.nodesL sub:=nodes_eq _
  have hsub:sub.length≤1000000:=by have h1:=length_nodesL sub;omega
  refine fn15.pure noHint (Nat.le_refl _) (by simp only [go_sem,nodeA,nodeF,setD]) (by simp only [go_sem]) ?_
  simp (disch:=omega) only [go_sem,nodeA,nodeF,Tree.kind,Tree.set,Tree.sub,Tree.min,Tree.max]
  refine wL_ind (fun (j:Nat) fr σ=>j≤sub.length∧fr 1=.ptr 0 0∧fr 3=.d (.int .i64 (1+wtL (sub.take j)))∧fr 4=.d (.int .i64 j)∧σ=[.box 25 (boxF k s sub a b)]) (fun j=>sub.length - j) ?_ 0 ?_
  ·rintro j fr σ ⟨hj,f1,f3,f4,rfl⟩ ih2
   have hb:=wtL_bound (sub.take j)
   rw [List.length_take] at hb
   by_cases hlt:j<sub.length
   ·obtain ⟨x,hx⟩:∃ x,x=sub.getD j default:=⟨_,rfl⟩
    have hxm:x∈sub:=by rw [hx];exact getD_mem sub j hlt
    have hxn:=nodes_mem sub x hxm
    have hwx:=wt_bound x
    simp (disch:=omega) only [go_sem,f1,f3,f4,hlt,boxF,nodeD_eq,nodeC,← hx]
    refine (ih x hxm (by omega)).at ?_
    have e:1+wtL (sub.take (j+1))=1+wtL (sub.take j)+wt x:=by
     rw [take_succ' sub j hlt,wtL_append,← hx];simp only [wtL];omega
    have hw:IntKind.i64.wrap (1+wtL (sub.take j)+wt x)=1+wtL (sub.take j)+wt x:=wrap_id (by omega) (by omega)
    simp (disch:=omega) only [go_sem,f4,hw]
    refine ih2 (j+1) _ _ (by omega) ⟨by omega,?_,?_,?_,?_⟩
    ·simp (disch:=omega) only [go_sem,f1]
    ·rw [e];simp (disch:=omega) only [go_sem]
    ·simp (disch:=omega) only [go_sem]
    ·simp (disch:=omega) only [go_sem,boxF,nodeD_eq,nodeC]
   ·have ek:sub.take j=sub:=List.take_of_length_le (by omega)
    rw [ek] at f3 hb
    obtain ⟨w,hw⟩:∃ w,w=1+wtL sub:=⟨_,rfl⟩
    rw [← hw] at f3
    have hwb:1≤w∧w≤1000000000001:=by omega
    have hf1:=fac1_ok a
    have hf2:=fac2_ok b
    by_cases k5:k=5
    ·by_cases hb0:b<0
     ·have e:wt (.mk k s sub a b)=cap6 (w * fac1 a):=by rw [wt,← hw,scale,if_pos k5,if_pos hb0]
      have h1:0≤w * fac1 a:=Int.mul_nonneg (by omega) (by omega)
      have h2:w * fac1 a≤1000000000001 * 115:=Int.mul_le_mul hwb.2 (by omega) (by omega) (by omega)
      have hwr:IntKind.i64.wrap (w * fac1 a)=w * fac1 a:=wrap_id (by omega) (by omega)
      rw [← hwr] at e
      rw [e]
      clear e hwr h1 h2
      simp (disch:=omega) only [go_sem,f1,f3,f4,hlt,boxF,k5,hb0,cap6,fac1]
     ·have e:wt (.mk k s sub a b)=cap6 (w * fac2 b):=by rw [wt,← hw,scale,if_pos k5,if_neg hb0]
      have h1:0≤w * fac2 b:=Int.mul_nonneg (by omega) (by omega)
      have h2:w * fac2 b≤1000000000001 * 100:=Int.mul_le_mul hwb.2 (by omega) (by omega) (by omega)
      have hwr:IntKind.i64.wrap (w * fac2 b)=w * fac2 b:=wrap_id (by omega) (by omega)
      rw [← hwr] at e
      rw [e]
      clear e hwr h1 h2
      simp (disch:=omega) only [go_sem,f1,f3,f4,hlt,boxF,k5,hb0,cap6,fac2]
    ·have e:wt (.mk k s sub a b)=cap6 w:=by rw [wt,← hw,scale,if_neg k5]
     simp (disch:=omega) only [go_sem,f1,f3,f4,hlt,boxF,k5,e,cap6]
  ·refine ⟨by omega,?_,?_,?_,rfl⟩
   ·simp (disch:=omega) only [go_sem]
   ·simp (disch:=omega) only [go_sem,wtL];try rfl
   ·simp (disch:=omega) only [go_sem]
end Go.Proofs.YtngdkenddfdhaaaGreatDoor
/- The prepared code of further functions. Written by a program of mine (gen.py) out of what the loaded dump prints. -/

set_option linter.unusedVariables false
set_option maxRecDepth 100000
namespace Go.Proofs.YtngdkenddfdhaaaGreatDoor
open Go Nv
theorem fn12:FnIs Tryz.prog 12 1 [Go.ResultVar.tmp 2] (.seq (.region [⟨some 1,Go.Op.box 25 (Go.Operand.tmp 0),0,none⟩,
   ⟨some 2,Go.Op.assign (Go.Operand.const (Go.Value.int Go.IntKind.i64 0)),3,none⟩])
  (.seq (.seq (.region [⟨some 3,Go.Op.load 25 (Go.Operand.tmp 1),25,none⟩,
   ⟨some 4,Go.Op.call { callee:=Go.Callee.value (Go.Operand.func 29),args:=#[Go.Operand.tmp 3,Go.Operand.const (Go.Value.int Go.IntKind.i64 121)],argTypes:=#[25,3] },3,none⟩,
   ⟨some 5,Go.Op.binOp Go.BinOp.gtr 3 (Go.Operand.tmp 4) (Go.Operand.const (Go.Value.int Go.IntKind.i64 120)) 3,4,none⟩])
  (.cond (Go.Operand.tmp 5)
   (.seq (.region [⟨some 2,Go.Op.assign (Go.Operand.const (Go.Value.int Go.IntKind.i64 5)),3,none⟩])
   .ret)
   .skip))
  (.seq (.region [⟨some 6,Go.Op.load 25 (Go.Operand.tmp 1),25,none⟩,
   ⟨some 7,Go.Op.call { callee:=Go.Callee.value (Go.Operand.func 30),args:=#[Go.Operand.tmp 6],argTypes:=#[25] },3,none⟩,
   ⟨some 2,Go.Op.assign (Go.Operand.tmp 7),3,none⟩])
  .ret))) :=
 ⟨foll,Tryz.f12,Tryz.func12,by kernel_rfl,by kernel_rfl,by kernel_rfl,by rw [Tryz.ntmps12];decide⟩
theorem fn30:FnIs Tryz.prog 30 1 [Go.ResultVar.tmp 2] (.seq (.region [⟨some 1,Go.Op.box 25 (Go.Operand.tmp 0),0,none⟩,
   ⟨some 2,Go.Op.assign (Go.Operand.const (Go.Value.int Go.IntKind.i64 0)),3,none⟩])
  (.seq (.seq (.region [⟨some 6,Go.Op.fieldAddr 25 (Go.Operand.tmp 1) 0,0,none⟩,
   ⟨some 7,Go.Op.load 3 (Go.Operand.tmp 6),3,none⟩,
   ⟨some 8,Go.Op.binOp Go.BinOp.lss 3 (Go.Operand.tmp 7) (Go.Operand.const (Go.Value.int Go.IntKind.i64 1)) 3,4,none⟩,
   ⟨some 9,Go.Op.move (Go.Operand.tmp 8),4,none⟩,
   ⟨some 10,Go.Op.fieldAddr 25 (Go.Operand.tmp 1) 0,0,(some (9,false))⟩,
   ⟨some 11,Go.Op.load 3 (Go.Operand.tmp 10),3,(some (9,false))⟩,
   ⟨some 12,Go.Op.binOp Go.BinOp.gtr 3 (Go.Operand.tmp 11) (Go.Operand.const (Go.Value.int Go.IntKind.i64 5)) 3,4,(some (9,false))⟩,
   ⟨some 13,Go.Op.pick (Go.Operand.tmp 9) (Go.Operand.const (Go.Value.bool true)) (Go.Operand.tmp 12),4,none⟩])
  (.cond (Go.Operand.tmp 13)
   (.seq (.region [⟨some 2,Go.Op.assign (Go.Operand.const (Go.Value.int Go.IntKind.i64 9)),3,none⟩])
   .ret)
   .skip))
  (.seq (.region [⟨some 14,Go.Op.fieldAddr 25 (Go.Operand.tmp 1) 0,0,none⟩,
   ⟨some 15,Go.Op.load 3 (Go.Operand.tmp 14),3,none⟩,
   ⟨some 16,Go.Op.binOp Go.BinOp.eql 3 (Go.Operand.tmp 15) (Go.Operand.const (Go.Value.int Go.IntKind.i64 2)) 3,4,none⟩,
   ⟨some 17,Go.Op.move (Go.Operand.tmp 16),4,none⟩,
   ⟨some 18,Go.Op.fieldAddr 25 (Go.Operand.tmp 1) 1,0,(some (17,false))⟩,
   ⟨some 19,Go.Op.load 22 (Go.Operand.tmp 18),22,(some (17,false))⟩,
   ⟨some 20,Go.Op.call { callee:=Go.Callee.builtin Go.Builtin.len,args:=#[Go.Operand.tmp 19],argTypes:=#[22] },3,(some (17,false))⟩,
   ⟨some 21,Go.Op.binOp Go.BinOp.eql 3 (Go.Operand.tmp 20) (Go.Operand.const (Go.Value.int Go.IntKind.i64 0)) 3,4,(some (17,false))⟩,
   ⟨some 22,Go.Op.pick (Go.Operand.tmp 17) (Go.Operand.const (Go.Value.bool true)) (Go.Operand.tmp 21),4,none⟩,
   ⟨some 3,Go.Op.assign (Go.Operand.tmp 22),4,none⟩])
  (.seq (.region [⟨some 23,Go.Op.move (Go.Operand.tmp 3),4,none⟩,
   ⟨some 24,Go.Op.move (Go.Operand.tmp 23),4,none⟩,
   ⟨some 25,Go.Op.fieldAddr 25 (Go.Operand.tmp 1) 0,0,(some (24,true))⟩,
   ⟨some 26,Go.Op.load 3 (Go.Operand.tmp 25),3,(some (24,true))⟩,
   ⟨some 27,Go.Op.binOp Go.BinOp.eql 3 (Go.Operand.tmp 26) (Go.Operand.const (Go.Value.int Go.IntKind.i64 5)) 3,4,(some (24,true))⟩,
   ⟨some 28,Go.Op.move (Go.Operand.tmp 27),4,(some (24,true))⟩,
   ⟨some 29,Go.Op.fieldAddr 25 (Go.Operand.tmp 1) 3,0,(some (28,false))⟩,
   ⟨some 30,Go.Op.load 3 (Go.Operand.tmp 29),3,(some (28,false))⟩,
   ⟨some 31,Go.Op.binOp Go.BinOp.eql 3 (Go.Operand.tmp 30) (Go.Operand.const (Go.Value.int Go.IntKind.i64 0)) 3,4,(some (28,false))⟩,
   ⟨some 32,Go.Op.move (Go.Operand.tmp 31),4,(some (28,false))⟩,
   ⟨some 33,Go.Op.fieldAddr 25 (Go.Operand.tmp 1) 4,0,(some (32,true))⟩,
   ⟨some 34,Go.Op.load 3 (Go.Operand.tmp 33),3,(some (32,true))⟩,
   ⟨some 35,Go.Op.binOp Go.BinOp.eql 3 (Go.Operand.tmp 34) (Go.Operand.const (Go.Value.int Go.IntKind.i64 0)) 3,4,(some (32,true))⟩,
   ⟨some 36,Go.Op.pick (Go.Operand.tmp 32) (Go.Operand.tmp 35) (Go.Operand.const (Go.Value.bool false)),4,(some (28,false))⟩,
   ⟨some 37,Go.Op.pick (Go.Operand.tmp 28) (Go.Operand.const (Go.Value.bool true)) (Go.Operand.tmp 36),4,(some (24,true))⟩,
   ⟨some 38,Go.Op.pick (Go.Operand.tmp 24) (Go.Operand.tmp 37) (Go.Operand.const (Go.Value.bool false)),4,none⟩,
   ⟨some 3,Go.Op.assign (Go.Operand.tmp 38),4,none⟩])
  (.seq (.seq (.region [⟨some 39,Go.Op.fieldAddr 25 (Go.Operand.tmp 1) 0,0,none⟩,
   ⟨some 40,Go.Op.load 3 (Go.Operand.tmp 39),3,none⟩])
  (.block 0
   (.seq (.seq (.region [⟨some 42,Go.Op.binOp Go.BinOp.eql 3 (Go.Operand.tmp 40) (Go.Operand.const (Go.Value.int Go.IntKind.i64 1)) 3,4,none⟩,
    ⟨some 41,Go.Op.assign (Go.Operand.tmp 42),4,none⟩])
   (.cond (Go.Operand.tmp 41)
    .skip
    (.region [⟨some 43,Go.Op.binOp Go.BinOp.eql 3 (Go.Operand.tmp 40) (Go.Operand.const (Go.Value.int Go.IntKind.i64 2)) 3,4,none⟩,
     ⟨some 41,Go.Op.assign (Go.Operand.tmp 43),4,none⟩])))
   (.cond (Go.Operand.tmp 41)
    (.region [⟨some 44,Go.Op.move (Go.Operand.tmp 3),4,none⟩,
     ⟨some 45,Go.Op.move (Go.Operand.tmp 44),4,none⟩,
     ⟨some 46,Go.Op.fieldAddr 25 (Go.Operand.tmp 1) 2,0,(some (45,true))⟩,
     ⟨some 47,Go.Op.load 23 (Go.Operand.tmp 46),23,(some (45,true))⟩,
     ⟨some 48,Go.Op.call { callee:=Go.Callee.builtin Go.Builtin.len,args:=#[Go.Operand.tmp 47],argTypes:=#[23] },3,(some (45,true))⟩,
     ⟨some 49,Go.Op.binOp Go.BinOp.eql 3 (Go.Operand.tmp 48) (Go.Operand.const (Go.Value.int Go.IntKind.i64 0)) 3,4,(some (45,true))⟩,
     ⟨some 50,Go.Op.pick (Go.Operand.tmp 45) (Go.Operand.tmp 49) (Go.Operand.const (Go.Value.bool false)),4,none⟩,
     ⟨some 51,Go.Op.move (Go.Operand.tmp 50),4,none⟩,
     ⟨some 52,Go.Op.fieldAddr 25 (Go.Operand.tmp 1) 1,0,(some (51,true))⟩,
     ⟨some 53,Go.Op.load 22 (Go.Operand.tmp 52),22,(some (51,true))⟩,
     ⟨some 54,Go.Op.call { callee:=Go.Callee.value (Go.Operand.func 55),args:=#[Go.Operand.tmp 53],argTypes:=#[22] },4,(some (51,true))⟩,
     ⟨some 55,Go.Op.pick (Go.Operand.tmp 51) (Go.Operand.tmp 54) (Go.Operand.const (Go.Value.bool false)),4,none⟩,
     ⟨some 3,Go.Op.assign (Go.Operand.tmp 55),4,none⟩])
    (.seq (.seq (.region [⟨some 57,Go.Op.binOp Go.BinOp.eql 3 (Go.Operand.tmp 40) (Go.Operand.const (Go.Value.int Go.IntKind.i64 3)) 3,4,none⟩,
     ⟨some 56,Go.Op.assign (Go.Operand.tmp 57),4,none⟩])
    (.cond (Go.Operand.tmp 56)
     .skip
     (.region [⟨some 58,Go.Op.binOp Go.BinOp.eql 3 (Go.Operand.tmp 40) (Go.Operand.const (Go.Value.int Go.IntKind.i64 4)) 3,4,none⟩,
      ⟨some 56,Go.Op.assign (Go.Operand.tmp 58),4,none⟩])))
    (.cond (Go.Operand.tmp 56)
     (.region [⟨some 59,Go.Op.move (Go.Operand.tmp 3),4,none⟩,
      ⟨some 60,Go.Op.move (Go.Operand.tmp 59),4,none⟩,
      ⟨some 61,Go.Op.fieldAddr 25 (Go.Operand.tmp 1) 2,0,(some (60,true))⟩,
      ⟨some 62,Go.Op.load 23 (Go.Operand.tmp 61),23,(some (60,true))⟩,
      ⟨some 63,Go.Op.call { callee:=Go.Callee.builtin Go.Builtin.len,args:=#[Go.Operand.tmp 62],argTypes:=#[23] },3,(some (60,true))⟩,
      ⟨some 64,Go.Op.binOp Go.BinOp.gtr 3 (Go.Operand.tmp 63) (Go.Operand.const (Go.Value.int Go.IntKind.i64 1)) 3,4,(some (60,true))⟩,
      ⟨some 65,Go.Op.pick (Go.Operand.tmp 60) (Go.Operand.tmp 64) (Go.Operand.const (Go.Value.bool false)),4,none⟩,
      ⟨some 3,Go.Op.assign (Go.Operand.tmp 65),4,none⟩])
     (.seq (.region [⟨some 67,Go.Op.binOp Go.BinOp.eql 3 (Go.Operand.tmp 40) (Go.Operand.const (Go.Value.int Go.IntKind.i64 5)) 3,4,none⟩,
      ⟨some 66,Go.Op.assign (Go.Operand.tmp 67),4,none⟩])
     (.cond (Go.Operand.tmp 66)
      (.region [⟨some 68,Go.Op.move (Go.Operand.tmp 3),4,none⟩,
       ⟨some 69,Go.Op.move (Go.Operand.tmp 68),4,none⟩,
       ⟨some 70,Go.Op.fieldAddr 25 (Go.Operand.tmp 1) 2,0,(some (69,true))⟩,
       ⟨some 71,Go.Op.load 23 (Go.Operand.tmp 70),23,(some (69,true))⟩,
       ⟨some 72,Go.Op.call { callee:=Go.Callee.builtin Go.Builtin.len,args:=#[Go.Operand.tmp 71],argTypes:=#[23] },3,(some (69,true))⟩,
       ⟨some 73,Go.Op.binOp Go.BinOp.eql 3 (Go.Operand.tmp 72) (Go.Operand.const (Go.Value.int Go.IntKind.i64 1)) 3,4,(some (69,true))⟩,
       ⟨some 74,Go.Op.pick (Go.Operand.tmp 69) (Go.Operand.tmp 73) (Go.Operand.const (Go.Value.bool false)),4,none⟩,
       ⟨some 75,Go.Op.move (Go.Operand.tmp 74),4,none⟩,
       ⟨some 76,Go.Op.fieldAddr 25 (Go.Operand.tmp 1) 3,0,(some (75,true))⟩,
       ⟨some 77,Go.Op.load 3 (Go.Operand.tmp 76),3,(some (75,true))⟩,
       ⟨some 78,Go.Op.binOp Go.BinOp.geq 3 (Go.Operand.tmp 77) (Go.Operand.const (Go.Value.int Go.IntKind.i64 0)) 3,4,(some (75,true))⟩,
       ⟨some 79,Go.Op.pick (Go.Operand.tmp 75) (Go.Operand.tmp 78) (Go.Operand.const (Go.Value.bool false)),4,none⟩,
       ⟨some 80,Go.Op.move (Go.Operand.tmp 79),4,none⟩,
       ⟨some 81,Go.Op.fieldAddr 25 (Go.Operand.tmp 1) 3,0,(some (80,true))⟩,
       ⟨some 82,Go.Op.load 3 (Go.Operand.tmp 81),3,(some (80,true))⟩,
       ⟨some 83,Go.Op.binOp Go.BinOp.leq 3 (Go.Operand.tmp 82) (Go.Operand.const (Go.Value.int Go.IntKind.i64 20)) 3,4,(some (80,true))⟩,
       ⟨some 84,Go.Op.pick (Go.Operand.tmp 80) (Go.Operand.tmp 83) (Go.Operand.const (Go.Value.bool false)),4,none⟩,
       ⟨some 85,Go.Op.move (Go.Operand.tmp 84),4,none⟩,
       ⟨some 86,Go.Op.fieldAddr 25 (Go.Operand.tmp 1) 4,0,(some (85,true))⟩,
       ⟨some 87,Go.Op.load 3 (Go.Operand.tmp 86),3,(some (85,true))⟩,
       ⟨some 88,Go.Op.binOp Go.BinOp.eql 3 (Go.Operand.tmp 87) (Go.Operand.const (Go.Value.int Go.IntKind.i64 (-1))) 3,4,(some (85,true))⟩,
       ⟨some 89,Go.Op.move (Go.Operand.tmp 88),4,(some (85,true))⟩,
       ⟨some 90,Go.Op.fieldAddr 25 (Go.Operand.tmp 1) 4,0,(some (89,false))⟩,
       ⟨some 91,Go.Op.load 3 (Go.Operand.tmp 90),3,(some (89,false))⟩,
       ⟨some 92,Go.Op.fieldAddr 25 (Go.Operand.tmp 1) 3,0,(some (89,false))⟩,
       ⟨some 93,Go.Op.load 3 (Go.Operand.tmp 92),3,(some (89,false))⟩,
       ⟨some 94,Go.Op.binOp Go.BinOp.geq 3 (Go.Operand.tmp 91) (Go.Operand.tmp 93) 3,4,(some (89,false))⟩,
       ⟨some 95,Go.Op.move (Go.Operand.tmp 94),4,(some (89,false))⟩,
       ⟨some 96,Go.Op.fieldAddr 25 (Go.Operand.tmp 1) 4,0,(some (95,true))⟩,
       ⟨some 97,Go.Op.load 3 (Go.Operand.tmp 96),3,(some (95,true))⟩,
       ⟨some 98,Go.Op.binOp Go.BinOp.leq 3 (Go.Operand.tmp 97) (Go.Operand.const (Go.Value.int Go.IntKind.i64 20)) 3,4,(some (95,true))⟩,
       ⟨some 99,Go.Op.pick (Go.Operand.tmp 95) (Go.Operand.tmp 98) (Go.Operand.const (Go.Value.bool false)),4,(some (89,false))⟩,
       ⟨some 100,Go.Op.pick (Go.Operand.tmp 89) (Go.Operand.const (Go.Value.bool true)) (Go.Operand.tmp 99),4,(some (85,true))⟩,
       ⟨some 101,Go.Op.pick (Go.Operand.tmp 85) (Go.Operand.tmp 100) (Go.Operand.const (Go.Value.bool false)),4,none⟩,
       ⟨some 3,Go.Op.assign (Go.Operand.tmp 101),4,none⟩])
      .skip))))))))
  (.seq (.seq (.region [⟨some 102,Go.Op.move (Go.Operand.tmp 3),4,none⟩,
   ⟨some 103,Go.Op.unOp Go.UnOp.not 4 (Go.Operand.tmp 102),4,none⟩])
  (.cond (Go.Operand.tmp 103)
   (.seq (.region [⟨some 2,Go.Op.assign (Go.Operand.const (Go.Value.int Go.IntKind.i64 1)),3,none⟩])
   .ret)
   .skip))
  (.seq (.seq (.region [⟨some 4,Go.Op.assign (Go.Operand.const (Go.Value.int Go.IntKind.i64 0)),3,none⟩])
  (.block 1
   (.loop
    (.seq (.seq (.region [⟨some 104,Go.Op.move (Go.Operand.tmp 4),3,none⟩,
     ⟨some 105,Go.Op.fieldAddr 25 (Go.Operand.tmp 1) 2,0,none⟩,
     ⟨some 106,Go.Op.load 23 (Go.Operand.tmp 105),23,none⟩,
     ⟨some 107,Go.Op.call { callee:=Go.Callee.builtin Go.Builtin.len,args:=#[Go.Operand.tmp 106],argTypes:=#[23] },3,none⟩,
     ⟨some 108,Go.Op.binOp Go.BinOp.lss 3 (Go.Operand.tmp 104) (Go.Operand.tmp 107) 3,4,none⟩])
    (.cond (Go.Operand.tmp 108)
     .skip
     (.exit 1)))
    (.seq (.block 2
     (.seq (.region [⟨some 111,Go.Op.fieldAddr 25 (Go.Operand.tmp 1) 2,0,none⟩,
      ⟨some 112,Go.Op.load 23 (Go.Operand.tmp 111),23,none⟩,
      ⟨some 113,Go.Op.move (Go.Operand.tmp 4),3,none⟩,
      ⟨some 114,Go.Op.indexAddr 23 (Go.Operand.tmp 112) (Go.Operand.tmp 113),0,none⟩,
      ⟨some 115,Go.Op.load 25 (Go.Operand.tmp 114),25,none⟩,
      ⟨some 116,Go.Op.call { callee:=Go.Callee.value (Go.Operand.func 30),args:=#[Go.Operand.tmp 115],argTypes:=#[25] },3,none⟩,
      ⟨some 5,Go.Op.assign (Go.Operand.tmp 116),3,none⟩])
     (.seq (.region [⟨some 117,Go.Op.move (Go.Operand.tmp 5),3,none⟩,
      ⟨some 118,Go.Op.binOp Go.BinOp.neq 3 (Go.Operand.tmp 117) (Go.Operand.const (Go.Value.int Go.IntKind.i64 0)) 3,4,none⟩])
     (.cond (Go.Operand.tmp 118)
      (.seq (.region [⟨some 119,Go.Op.move (Go.Operand.tmp 5),3,none⟩,
       ⟨some 2,Go.Op.assign (Go.Operand.tmp 119),3,none⟩])
      .ret)
      .skip))))
    (.region [⟨some 109,Go.Op.move (Go.Operand.tmp 4),3,none⟩,
     ⟨some 110,Go.Op.binOp Go.BinOp.add 3 (Go.Operand.tmp 109) (Go.Operand.const (Go.Value.int Go.IntKind.i64 1)) 3,3,none⟩,
     ⟨some 4,Go.Op.assign (Go.Operand.tmp 110),3,none⟩]))))))
  (.seq (.region [⟨some 2,Go.Op.assign (Go.Operand.const (Go.Value.int Go.IntKind.i64 0)),3,none⟩])
  .ret)))))))) :=
 ⟨foll,Tryz.f30,Tryz.func30,by kernel_rfl,by kernel_rfl,by kernel_rfl,by rw [Tryz.ntmps30];decide⟩
theorem fn55:FnIs Tryz.prog 55 1 [Go.ResultVar.tmp 2] (.seq (.region [⟨some 2,Go.Op.assign (Go.Operand.const (Go.Value.bool false)),4,none⟩])
  (.seq (.seq (.region [⟨some 3,Go.Op.assign (Go.Operand.const (Go.Value.int Go.IntKind.i64 0)),3,none⟩])
  (.block 0
   (.loop
    (.seq (.seq (.region [⟨some 5,Go.Op.move (Go.Operand.tmp 3),3,none⟩,
     ⟨some 6,Go.Op.move (Go.Operand.tmp 0),22,none⟩,
     ⟨some 7,Go.Op.call { callee:=Go.Callee.builtin Go.Builtin.len,args:=#[Go.Operand.tmp 6],argTypes:=#[22] },3,none⟩,
     ⟨some 8,Go.Op.binOp Go.BinOp.lss 3 (Go.Operand.tmp 5) (Go.Operand.tmp 7) 3,4,none⟩])
    (.cond (Go.Operand.tmp 8)
     .skip
     (.exit 0)))
    (.seq (.block 1
     (.seq (.region [⟨some 11,Go.Op.move (Go.Operand.tmp 0),22,none⟩,
      ⟨some 12,Go.Op.move (Go.Operand.tmp 3),3,none⟩,
      ⟨some 13,Go.Op.indexAddr 22 (Go.Operand.tmp 11) (Go.Operand.tmp 12),0,none⟩,
      ⟨some 14,Go.Op.load 57 (Go.Operand.tmp 13),57,none⟩,
      ⟨some 4,Go.Op.alloc 57,0,none⟩,
      ⟨none,Go.Op.store 57 (Go.Operand.tmp 4) (Go.Operand.tmp 14),0,none⟩])
     (.seq (.draw true [⟨⟨some 15,Go.Op.fieldAddr 57 (Go.Operand.tmp 4) 0,0,none⟩,false,false,false⟩,
      ⟨⟨some 16,Go.Op.load 21 (Go.Operand.tmp 15),21,none⟩,false,false,false⟩,
      ⟨⟨some 17,Go.Op.call { callee:=Go.Callee.value (Go.Operand.func 78),args:=#[Go.Operand.tmp 16],argTypes:=#[21] },4,none⟩,false,false,false⟩,
      ⟨⟨some 18,Go.Op.unOp Go.UnOp.not 4 (Go.Operand.tmp 17),4,none⟩,false,false,false⟩,
      ⟨⟨some 19,Go.Op.move (Go.Operand.tmp 18),4,none⟩,false,false,false⟩,
      ⟨⟨some 20,Go.Op.fieldAddr 57 (Go.Operand.tmp 4) 1,0,(some (19,false))⟩,false,false,false⟩,
      ⟨⟨some 21,Go.Op.load 21 (Go.Operand.tmp 20),21,(some (19,false))⟩,false,false,false⟩,
      ⟨⟨some 22,Go.Op.call { callee:=Go.Callee.value (Go.Operand.func 78),args:=#[Go.Operand.tmp 21],argTypes:=#[21] },4,(some (19,false))⟩,false,false,false⟩,
      ⟨⟨some 23,Go.Op.unOp Go.UnOp.not 4 (Go.Operand.tmp 22),4,(some (19,false))⟩,false,false,false⟩,
      ⟨⟨some 24,Go.Op.pick (Go.Operand.tmp 19) (Go.Operand.const (Go.Value.bool true)) (Go.Operand.tmp 23),4,none⟩,false,false,false⟩,
      ⟨⟨some 25,Go.Op.move (Go.Operand.tmp 24),4,none⟩,false,false,false⟩,
      ⟨⟨some 26,Go.Op.fieldAddr 57 (Go.Operand.tmp 4) 0,0,(some (25,false))⟩,false,false,false⟩,
      ⟨⟨some 27,Go.Op.load 21 (Go.Operand.tmp 26),21,(some (25,false))⟩,false,false,false⟩,
      ⟨⟨some 28,Go.Op.fieldAddr 57 (Go.Operand.tmp 4) 1,0,(some (25,false))⟩,false,false,false⟩,
      ⟨⟨some 29,Go.Op.load 21 (Go.Operand.tmp 28),21,(some (25,false))⟩,false,false,false⟩,
      ⟨⟨some 30,Go.Op.binOp Go.BinOp.gtr 21 (Go.Operand.tmp 27) (Go.Operand.tmp 29) 21,4,(some (25,false))⟩,false,false,false⟩,
      ⟨⟨some 31,Go.Op.pick (Go.Operand.tmp 25) (Go.Operand.const (Go.Value.bool true)) (Go.Operand.tmp 30),4,none⟩,false,false,false⟩,
      ⟨⟨some 32,Go.Op.move (Go.Operand.tmp 31),4,none⟩,false,false,false⟩,
      ⟨⟨some 33,Go.Op.fieldAddr 57 (Go.Operand.tmp 4) 0,0,(some (32,false))⟩,false,false,false⟩,
      ⟨⟨some 34,Go.Op.load 21 (Go.Operand.tmp 33),21,(some (32,false))⟩,false,false,false⟩,
      ⟨⟨some 35,Go.Op.binOp Go.BinOp.lss 21 (Go.Operand.tmp 34) (Go.Operand.const (Go.Value.int Go.IntKind.i32 55296)) 21,4,(some (32,false))⟩,false,false,false⟩,
      ⟨⟨some 36,Go.Op.move (Go.Operand.tmp 35),4,(some (32,false))⟩,false,false,false⟩,
      ⟨⟨some 37,Go.Op.fieldAddr 57 (Go.Operand.tmp 4) 1,0,(some (36,true))⟩,false,false,false⟩,
      ⟨⟨some 38,Go.Op.load 21 (Go.Operand.tmp 37),21,(some (36,true))⟩,false,false,false⟩,
      ⟨⟨some 39,Go.Op.binOp Go.BinOp.gtr 21 (Go.Operand.tmp 38) (Go.Operand.const (Go.Value.int Go.IntKind.i32 57343)) 21,4,(some (36,true))⟩,false,false,false⟩,
      ⟨⟨some 40,Go.Op.pick (Go.Operand.tmp 36) (Go.Operand.tmp 39) (Go.Operand.const (Go.Value.bool false)),4,(some (32,false))⟩,false,false,false⟩,
      ⟨⟨some 41,Go.Op.pick (Go.Operand.tmp 32) (Go.Operand.const (Go.Value.bool true)) (Go.Operand.tmp 40),4,none⟩,false,false,false⟩,
      ⟨⟨some 42,Go.Op.move (Go.Operand.tmp 41),4,none⟩,false,false,false⟩,
      ⟨⟨some 43,Go.Op.move (Go.Operand.tmp 3),3,(some (42,false))⟩,false,false,false⟩,
      ⟨⟨some 44,Go.Op.binOp Go.BinOp.gtr 3 (Go.Operand.tmp 43) (Go.Operand.const (Go.Value.int Go.IntKind.i64 0)) 3,4,(some (42,false))⟩,false,false,false⟩,
      ⟨⟨some 45,Go.Op.move (Go.Operand.tmp 44),4,(some (42,false))⟩,false,false,false⟩,
      ⟨⟨some 46,Go.Op.fieldAddr 57 (Go.Operand.tmp 4) 0,0,(some (45,true))⟩,false,false,false⟩,
      ⟨⟨some 47,Go.Op.load 21 (Go.Operand.tmp 46),21,(some (45,true))⟩,false,false,false⟩,
      ⟨⟨some 48,Go.Op.move (Go.Operand.tmp 0),22,(some (45,true))⟩,false,false,false⟩,
      ⟨⟨some 49,Go.Op.move (Go.Operand.tmp 3),3,(some (45,true))⟩,false,false,false⟩,
      ⟨⟨some 50,Go.Op.binOp Go.BinOp.sub 3 (Go.Operand.tmp 49) (Go.Operand.const (Go.Value.int Go.IntKind.i64 1)) 3,3,(some (45,true))⟩,false,false,false⟩,
      ⟨⟨some 51,Go.Op.indexAddr 22 (Go.Operand.tmp 48) (Go.Operand.tmp 50),0,(some (45,true))⟩,false,false,false⟩,
      ⟨⟨some 52,Go.Op.fieldAddr 57 (Go.Operand.tmp 51) 1,0,(some (45,true))⟩,false,false,false⟩,
      ⟨⟨some 53,Go.Op.load 21 (Go.Operand.tmp 52),21,(some (45,true))⟩,false,false,false⟩,
      ⟨⟨some 54,Go.Op.binOp Go.BinOp.add 21 (Go.Operand.tmp 53) (Go.Operand.const (Go.Value.int Go.IntKind.i32 2)) 21,21,(some (45,true))⟩,false,false,false⟩,
      ⟨⟨some 55,Go.Op.binOp Go.BinOp.lss 21 (Go.Operand.tmp 47) (Go.Operand.tmp 54) 21,4,(some (45,true))⟩,false,false,false⟩,
      ⟨⟨some 56,Go.Op.pick (Go.Operand.tmp 45) (Go.Operand.tmp 55) (Go.Operand.const (Go.Value.bool false)),4,(some (42,false))⟩,false,false,false⟩,
      ⟨⟨some 57,Go.Op.pick (Go.Operand.tmp 42) (Go.Operand.const (Go.Value.bool true)) (Go.Operand.tmp 56),4,none⟩,false,false,false⟩] [[],[0],[0,1],[0,1,2],[0,1,2,3],[0,1,2,3,4],[0,1,2,3,4,5],[0,1,2,3,4,5,6],[0,1,2,3,4,5,6,7],[0,1,2,3,4,5,6,7,8],[0,1,2,3,4,5,6,7,8,9],[0,1,2,3,4,5,6,7,8,9,10],[0,1,2,3,4,5,6,7,8,9,10,11],[0,1,2,3,4,5,6,7,8,9,10],[0,1,2,3,4,5,6,7,8,9,10,13],[0,1,2,3,4,5,6,7,8,9,10,11,12,13,14],[0,1,2,3,4,5,6,7,8,9,10,11,12,13,14,15],[0,1,2,3,4,5,6,7,8,9,10,11,12,13,14,15,16],[0,1,2,3,4,5,6,7,8,9,10,11,12,13,14,15,16,17],[0,1,2,3,4,5,6,7,8,9,10,11,12,13,14,15,16,17,18],[0,1,2,3,4,5,6,7,8,9,10,11,12,13,14,15,16,17,18,19],[0,1,2,3,4,5,6,7,8,9,10,11,12,13,14,15,16,17,18,19,20],[0,1,2,3,4,5,6,7,8,9,10,11,12,13,14,15,16,17,18,19,20,21],[0,1,2,3,4,5,6,7,8,9,10,11,12,13,14,15,16,17,18,19,20,21,22],[0,1,2,3,4,5,6,7,8,9,10,11,12,13,14,15,16,17,18,19,20,21,22,23],[0,1,2,3,4,5,6,7,8,9,10,11,12,13,14,15,16,17,18,19,20,21,22,23,24],[0,1,2,3,4,5,6,7,8,9,10,11,12,13,14,15,16,17,18,19,20,21,22,23,24,25],[0,1,2,3,4,5,6,7,8,9,10,11,12,13,14,15,16,17,18,19,20,21,22,23,24,25,26],[0,1,2,3,4,5,6,7,8,9,10,11,12,13,14,15,16,17,18,19,20,21,22,23,24,25,26,27],[0,1,2,3,4,5,6,7,8,9,10,11,12,13,14,15,16,17,18,19,20,21,22,23,24,25,26,27,28],[0,1,2,3,4,5,6,7,8,9,10,11,12,13,14,15,16,17,18,19,20,21,22,23,24,25,26,27,28,29],[0,1,2,3,4,5,6,7,8,9,10,11,12,13,14,15,16,17,18,19,20,21,22,23,24,25,26,27,28,29,30],[0,1,2,3,4,5,6,7,8,9,10,11,12,13,14,15,16,17,18,19,20,21,22,23,24,25,26,27,28,29,30,31],[0,1,2,3,4,5,6,7,8,9,10,11,12,13,14,15,16,17,18,19,20,21,22,23,24,25,26,27,28,29,30],[0,1,2,3,4,5,6,7,8,9,10,11,12,13,14,15,16,17,18,19,20,21,22,23,24,25,26,27,28,29,30],[0,1,2,3,4,5,6,7,8,9,10,11,12,13,14,15,16,17,18,19,20,21,22,23,24,25,26,27,28,29,30,34],[0,1,2,3,4,5,6,7,8,9,10,11,12,13,14,15,16,17,18,19,20,21,22,23,24,25,26,27,28,29,30,33,34,35],[0,1,2,3,4,5,6,7,8,9,10,11,12,13,14,15,16,17,18,19,20,21,22,23,24,25,26,27,28,29,30,33,34,35,36],[0,1,2,3,4,5,6,7,8,9,10,11,12,13,14,15,16,17,18,19,20,21,22,23,24,25,26,27,28,29,30,33,34,35,36,37],[0,1,2,3,4,5,6,7,8,9,10,11,12,13,14,15,16,17,18,19,20,21,22,23,24,25,26,27,28,29,30,33,34,35,36,37,38],[0,1,2,3,4,5,6,7,8,9,10,11,12,13,14,15,16,17,18,19,20,21,22,23,24,25,26,27,28,29,30,31,32,33,34,35,36,37,38,39],[0,1,2,3,4,5,6,7,8,9,10,11,12,13,14,15,16,17,18,19,20,21,22,23,24,25,26,27,28,29,30,31,32,33,34,35,36,37,38,39,40],[0,1,2,3,4,5,6,7,8,9,10,11,12,13,14,15,16,17,18,19,20,21,22,23,24,25,26,27,28,29,30,31,32,33,34,35,36,37,38,39,40,41]])
     (.cond (Go.Operand.tmp 57)
      (.seq (.region [⟨some 2,Go.Op.assign (Go.Operand.const (Go.Value.bool false)),4,none⟩])
      .ret)
      .skip))))
    (.region [⟨some 9,Go.Op.move (Go.Operand.tmp 3),3,none⟩,
     ⟨some 10,Go.Op.binOp Go.BinOp.add 3 (Go.Operand.tmp 9) (Go.Operand.const (Go.Value.int Go.IntKind.i64 1)) 3,3,none⟩,
     ⟨some 3,Go.Op.assign (Go.Operand.tmp 10),3,none⟩]))))))
  (.seq (.region [⟨some 2,Go.Op.assign (Go.Operand.const (Go.Value.bool true)),4,none⟩])
  .ret))) :=
 ⟨foll,Tryz.f55,Tryz.func55,by kernel_rfl,by kernel_rfl,by kernel_rfl,by rw [Tryz.ntmps55];decide⟩
theorem fn78:FnIs Tryz.prog 78 1 [Go.ResultVar.tmp 2] (.seq (.region [⟨some 2,Go.Op.assign (Go.Operand.const (Go.Value.bool false)),4,none⟩])
  (.seq (.region [⟨some 3,Go.Op.move (Go.Operand.tmp 0),21,none⟩,
   ⟨some 4,Go.Op.binOp Go.BinOp.geq 21 (Go.Operand.tmp 3) (Go.Operand.const (Go.Value.int Go.IntKind.i32 0)) 21,4,none⟩,
   ⟨some 5,Go.Op.move (Go.Operand.tmp 4),4,none⟩,
   ⟨some 6,Go.Op.move (Go.Operand.tmp 0),21,(some (5,true))⟩,
   ⟨some 7,Go.Op.binOp Go.BinOp.leq 21 (Go.Operand.tmp 6) (Go.Operand.const (Go.Value.int Go.IntKind.i32 1114111)) 21,4,(some (5,true))⟩,
   ⟨some 8,Go.Op.pick (Go.Operand.tmp 5) (Go.Operand.tmp 7) (Go.Operand.const (Go.Value.bool false)),4,none⟩,
   ⟨some 9,Go.Op.move (Go.Operand.tmp 8),4,none⟩,
   ⟨some 10,Go.Op.move (Go.Operand.tmp 0),21,(some (9,true))⟩,
   ⟨some 11,Go.Op.binOp Go.BinOp.lss 21 (Go.Operand.tmp 10) (Go.Operand.const (Go.Value.int Go.IntKind.i32 55296)) 21,4,(some (9,true))⟩,
   ⟨some 12,Go.Op.move (Go.Operand.tmp 11),4,(some (9,true))⟩,
   ⟨some 13,Go.Op.move (Go.Operand.tmp 0),21,(some (12,false))⟩,
   ⟨some 14,Go.Op.binOp Go.BinOp.gtr 21 (Go.Operand.tmp 13) (Go.Operand.const (Go.Value.int Go.IntKind.i32 57343)) 21,4,(some (12,false))⟩,
   ⟨some 15,Go.Op.pick (Go.Operand.tmp 12) (Go.Operand.const (Go.Value.bool true)) (Go.Operand.tmp 14),4,(some (9,true))⟩,
   ⟨some 16,Go.Op.pick (Go.Operand.tmp 9) (Go.Operand.tmp 15) (Go.Operand.const (Go.Value.bool false)),4,none⟩,
   ⟨some 2,Go.Op.assign (Go.Operand.tmp 16),4,none⟩])
  .ret)) :=
 ⟨foll,Tryz.f78,Tryz.func78,by kernel_rfl,by kernel_rfl,by kernel_rfl,by rw [Tryz.ntmps78];decide⟩
end Go.Proofs.YtngdkenddfdhaaaGreatDoor
set_option linter.unusedVariables false
set_option linter.unusedSimpArgs false
set_option maxRecDepth 100000
namespace Go.Proofs.YtngdkenddfdhaaaGreatDoor
open Go Nv Pat
/- The reference: whether a tree is proper. -/
theorem char79 (r:Int):PCall Tryz.prog 78 [.d (.int .i32 r)] (.d (.bool (charB r))):=by
 refine fn78.pure noHint (Nat.le_refl _) (by simp only [go_sem]) (by simp only [go_sem]) ?_
 by_cases h1:0≤r
 ·by_cases h2:r≤1114111
  ·by_cases h3:r<55296
   ·have e:charB r=true:=by rw [charB_iff];omega
    simp (disch:=omega) only [go_sem,h1,h2,h3,e]
   ·by_cases h4:57343<r
    ·have e:charB r=true:=by rw [charB_iff];omega
     simp (disch:=omega) only [go_sem,h1,h2,h3,h4,e]
    ·have e:charB r=false:=by rw [← Bool.not_eq_true,charB_iff];omega
     simp (disch:=omega) only [go_sem,h1,h2,h3,h4,e]
  ·have e:charB r=false:=by rw [← Bool.not_eq_true,charB_iff];omega
   simp (disch:=omega) only [go_sem,h1,h2,e]
 ·have e:charB r=false:=by rw [← Bool.not_eq_true,charB_iff];omega
  simp (disch:=omega) only [go_sem,h1,e]
theorem ranges69 (s:List (Int × Int)) (hs:s.length≤1000000):PCall Tryz.prog 55 [.d (setD s)] (.d (.bool (properB s))):=by
 refine fn55.pure noHint (Nat.le_refl _) (by simp only [go_sem,setD]) (by simp only [go_sem]) ?_
 simp (disch:=omega) only [go_sem,setD]
 refine wL_ind (fun (k:Nat) fr σ=>k≤s.length∧fr 0=.d (.list 2 (s.map rgD))∧fr 3=.d (.int .i64 k) ∧
  properFrom (prevOf s k) (s.drop k)=properB s∧(0<k→0≤(s.getD (k - 1) default).2∧(s.getD (k - 1) default).2≤1114111)) (fun k=>s.length - k) ?_ 0 ?_
 ·rintro k fr σ ⟨hk,f0,f3,hp,hq⟩ ih
  by_cases hlt:k<s.length
  ·obtain ⟨r,hr⟩:∃ r,r=s.getD k default:=⟨_,rfl⟩
   have gd:(s.map rgD).getD k default=rgD r:=by rw [hr];simp [List.getD_eq_getElem?_getD,hlt]
   have hd:s.drop k=r::s.drop (k+1):=by rw [hr];exact drop_getD s k hlt
   rw [hd] at hp
   have bad:rgB r=false→properB s=false:=fun h=>by
    rw [← hp];cases prevOf s k <;> simp only [properFrom,h,Bool.false_and]
   simp (disch:=omega) only [go_sem,f0,f3,List.length_map,hlt,gd,rgD,apR]
   refine (char79 r.1).dat ?_
   by_cases c1:charB r.1=true
   ·simp (disch:=omega) only [go_sem,c1,apR]
    refine (char79 r.2).dat ?_
    by_cases c2:charB r.2=true
    ·have hr1:=(charB_iff r.1).1 c1
     have hr2:=(charB_iff r.2).1 c2
     by_cases c3:r.2<r.1
     ·have e:=bad (by simp only [rgB,Bool.and_eq_false_iff,decide_eq_false_iff_not];exact .inl (.inr (by omega)))
      simp (disch:=omega) only [go_sem,c1,c2,c3,e,apR]
     ·by_cases c4:r.1<55296
      ·by_cases c5:57343<r.2
       ·have e:=bad (by simp only [rgB,c1,c2,Bool.true_and,Bool.and_eq_false_iff];refine .inr ?_;rw [decide_eq_true c4,decide_eq_false (by omega)];rfl)
        simp (disch:=omega) only [go_sem,c1,c2,c3,c4,c5,e,apR]
       ·have hg:rgB r=true:=by simp only [rgB,c1,c2,Bool.true_and,Bool.and_eq_true,decide_eq_true_eq,beq_iff_eq,decide_eq_decide];omega
        have prev:prevOf s (k+1)=some r.2:=by simp [prevOf,hr]
        have prev':(s.getD (k+1 - 1) default).2=r.2:=by rw [hr];rfl
        by_cases hk0:k=0
        ·subst hk0
         have hp':properFrom (some r.2) (s.drop (0+1))=properB s:=by rw [← hp];simp [prevOf,properFrom,hg]
         simp (disch:=omega) only [go_sem,c1,c2,c3,c4,c5,f0,f3,apR]
         refine ih (0+1) _ _ (by omega) ⟨by omega,?_,?_,?_,fun _=>?_⟩
         ·simp (disch:=omega) only [go_sem,f0]
         ·simp (disch:=omega) only [go_sem,f3];try rfl
         ·rw [prev];exact hp'
         ·rw [prev'];omega
        ·have hk1:(0:Int)<k:=by omega
         have hq':=hq (by omega)
         obtain ⟨q,hqe⟩:∃ q,q=(s.getD (k - 1) default).2:=⟨_,rfl⟩
         rw [← hqe] at hq'
         have ek:(k:Int) - 1=((k - 1:Nat):Int):=by omega
         have hk2:k - 1<s.length:=by omega
         have hpq:prevOf s k=some q:=by simp [prevOf,hk0,hqe]
         rw [hpq] at hp
         by_cases c6:r.1<q+2
         ·have e:properB s=false:=by rw [← hp];simp [properFrom,hg];omega
          simp (disch:=omega) only [go_sem,c1,c2,c3,c4,c5,hk1,f0,f3,ek,hk2,rgD,← hqe,c6,e,List.length_map,apR]
         ·have hp':properFrom (some r.2) (s.drop (k+1))=properB s:=by rw [← hp];simp [properFrom,hg];omega
          simp (disch:=omega) only [go_sem,c1,c2,c3,c4,c5,hk1,f0,f3,ek,hk2,rgD,← hqe,c6,List.length_map,apR]
          refine ih (k+1) _ _ (by omega) ⟨by omega,?_,?_,?_,fun _=>?_⟩
          ·simp (disch:=omega) only [go_sem,f0]
          ·simp (disch:=omega) only [go_sem,f3]
          ·rw [prev];exact hp'
          ·rw [prev'];omega
      ·have hg:rgB r=true:=by simp only [rgB,c1,c2,Bool.true_and,Bool.and_eq_true,decide_eq_true_eq,beq_iff_eq,decide_eq_decide];omega
       have prev:prevOf s (k+1)=some r.2:=by simp [prevOf,hr]
       have prev':(s.getD (k+1 - 1) default).2=r.2:=by rw [hr];rfl
       by_cases hk0:k=0
       ·subst hk0
        have hp':properFrom (some r.2) (s.drop (0+1))=properB s:=by rw [← hp];simp [prevOf,properFrom,hg]
        simp (disch:=omega) only [go_sem,c1,c2,c3,c4,f0,f3,apR]
        refine ih (0+1) _ _ (by omega) ⟨by omega,?_,?_,?_,fun _=>?_⟩
        ·simp (disch:=omega) only [go_sem,f0]
        ·simp (disch:=omega) only [go_sem,f3];try rfl
        ·rw [prev];exact hp'
        ·rw [prev'];omega
       ·have hk1:(0:Int)<k:=by omega
        have hq':=hq (by omega)
        obtain ⟨q,hqe⟩:∃ q,q=(s.getD (k - 1) default).2:=⟨_,rfl⟩
        rw [← hqe] at hq'
        have ek:(k:Int) - 1=((k - 1:Nat):Int):=by omega
        have hk2:k - 1<s.length:=by omega
        have hpq:prevOf s k=some q:=by simp [prevOf,hk0,hqe]
        rw [hpq] at hp
        by_cases c6:r.1<q+2
        ·have e:properB s=false:=by rw [← hp];simp [properFrom,hg];omega
         simp (disch:=omega) only [go_sem,c1,c2,c3,c4,hk1,f0,f3,ek,hk2,rgD,← hqe,c6,e,List.length_map,apR]
        ·have hp':properFrom (some r.2) (s.drop (k+1))=properB s:=by rw [← hp];simp [properFrom,hg];omega
         simp (disch:=omega) only [go_sem,c1,c2,c3,c4,hk1,f0,f3,ek,hk2,rgD,← hqe,c6,List.length_map,apR]
         refine ih (k+1) _ _ (by omega) ⟨by omega,?_,?_,?_,fun _=>?_⟩
         ·simp (disch:=omega) only [go_sem,f0]
         ·simp (disch:=omega) only [go_sem,f3]
         ·rw [prev];exact hp'
         ·rw [prev'];omega
    ·have e:=bad (by simp only [rgB,c1,c2,Bool.true_and,Bool.false_and])
     simp (disch:=omega) only [go_sem,c1,c2,e,apR]
   ·have e:=bad (by simp only [rgB,c1,Bool.false_and])
    simp (disch:=omega) only [go_sem,c1,e,apR]
  ·have e:properB s=true:=by rw [← hp,List.drop_of_length_le (by omega)];cases prevOf s k <;> rfl
   simp (disch:=omega) only [go_sem,f0,f3,List.length_map,hlt,e]
 ·refine ⟨by omega,?_,?_,rfl,fun h=>absurd h (by omega)⟩
  ·simp (disch:=omega) only [go_sem]
  ·simp (disch:=omega) only [go_sem]
end Go.Proofs.YtngdkenddfdhaaaGreatDoor
