/- Part of a proof about the functions of this seat. -/
import Derived.Test.YtngdkenddfdhaaaDoorG22Fq3e
import Derived.Test.YtngdkenddfdhaaaDoorG17Fv3e
import Derived.Lib.ValidLaws
import Derived.Test.YtngdkenddfdhaaaDoorG11O3e
set_option linter.unusedVariables false
set_option linter.unusedSimpArgs false
set_option maxRecDepth 100000
namespace Go.Proofs.YtngdkenddfdhaaaDoor
open Go Nv Pat
/- The exported functions on automata that come in. -/
def gtB (A:Au):Bool:=decide (30<A.arcs.length) || decide (30<A.emp.length) || A.arcs.any (fun l=>decide (30<l.length)) || A.emp.any (fun l=>decide (30<l.length))
theorem gt_fit {A:Au} (h:gtB A=false):A.arcs.length≤30∧A.emp.length≤30∧(∀ l,l∈A.arcs→l.length≤30)∧∀ l,l∈A.emp→l.length≤30:=by
 unfold gtB at h
 simp only [Bool.or_eq_false_iff,decide_eq_false_iff_not,List.any_eq_false,decide_eq_true_eq] at h
 obtain ⟨⟨⟨h1,h2⟩,h3⟩,h4⟩:=h
 exact ⟨by omega,by omega,fun l hl=>by have:=h3 l hl;omega,fun l hl=>by have:=h4 l hl;omega⟩
theorem fit_of {A:Au} (h:gtB A=false):Fit A:=by
 obtain ⟨h1,h2,h3,h4⟩:=gt_fit h
 exact ⟨by omega,by omega,fun l hl=>by have:=h3 l hl;omega,fun l hl=>by have:=h4 l hl;omega⟩
theorem any_at {α:Type} {l:List α} {f:α→Bool} {d:α} {i:Nat} (hi:i<l.length) (h:f (l.getD i d)=true):l.any f=true:=by
 rw [List.any_eq_true]
 exact ⟨_,by rw [List.getD_eq_getElem?_getD,List.getElem?_eq_getElem hi];exact List.getElem_mem _,h⟩
theorem none_all {α:Type} {l:List α} {f:α→Bool} {d:α} (h:∀ i,i<l.length→f (l.getD i d)=false):l.any f=false:=by
 rw [List.any_eq_false]
 intro x hx
 obtain ⟨i,hi,rfl⟩:=List.mem_iff_getElem.1 hx
 have:=h i hi
 rw [List.getD_eq_getElem?_getD,List.getElem?_eq_getElem hi] at this
 rw [show f l[i]=false from this];simp
theorem great6 (A:Au):PCall Tryd.prog 6 [auA A] (.d (.int .i64 (if gtB A then 1 else 0))):=by
 refine fn6.pure noHint (Nat.le_refl _) (by simp only [go_sem,auA,auF,rowsD]) (by simp only [go_sem]) ?_
 have hla:((arcsL A.arcs).map (DV.list 3)).length=A.arcs.length:=by simp [arcsL]
 have hle:((intsL A.emp).map (DV.list 1)).length=A.emp.length:=by simp [intsL]
 obtain ⟨S,hS⟩:∃ S,S=[Blk.box 25 [AV.d (.int .i64 A.start),AV.d (.int .i64 A.accept),AV.d (.list 1 ((arcsL A.arcs).map (DV.list 3))),AV.d (.list 1 ((intsL A.emp).map (DV.list 1)))]]:=⟨_,rfl⟩
 have b0:stGet S 0=.box 25 [AV.d (.int .i64 A.start),AV.d (.int .i64 A.accept),AV.d (.list 1 ((arcsL A.arcs).map (DV.list 3))),AV.d (.list 1 ((intsL A.emp).map (DV.list 1)))]:=by rw [hS];rfl
 by_cases c1:(30:Int)<A.arcs.length
 ·have e:gtB A=true:=by unfold gtB;rw [decide_eq_true (show 30<A.arcs.length by omega)];rfl
  simp (disch:=omega) only [go_sem,auA,auF,rowsD,hla,hle,c1,e]
 by_cases c2:(30:Int)<A.emp.length
 ·have e:gtB A=true:=by unfold gtB;rw [decide_eq_true (show 30<A.emp.length by omega)];simp
  simp (disch:=omega) only [go_sem,auA,auF,rowsD,hla,hle,c1,c2,e]
 simp (disch:=omega) only [go_sem,auA,auF,rowsD,hla,hle,c1,c2]
 rw [← hS]
 refine wL_ind (fun (s:Nat) fr σ=>s≤A.arcs.length∧fr 1=.ptr 0 0∧fr 3=.d (.int .i64 s)∧σ=S∧∀ i,i<s→decide (30<(A.arcs.getD i []).length)=false) (fun s=>A.arcs.length - s) ?_ 0 ?_
 ·rintro s fr σ ⟨hs,f1,f3,rfl,hall⟩ ih
  by_cases hlt:s<A.arcs.length
  ·have hgt:=arows_get A.arcs s hlt
   by_cases c3:(30:Int)<(A.arcs.getD s []).length
   ·have e:gtB A=true:=by unfold gtB;rw [any_at (f:=fun l=>decide (30<l.length)) (d:=[]) hlt (decide_eq_true (by omega))];simp
    simp (disch:=omega) only [go_sem,f1,f3,b0,hla,hlt,hgt,c3,e,List.length_map]
   ·simp (disch:=omega) only [go_sem,f1,f3,b0,hla,hlt,hgt,c3,List.length_map]
    refine ih (s+1) _ _ (by omega) ⟨by omega,?_,?_,rfl,fun i hi=>?_⟩
    ·simp (disch:=omega) only [go_sem,f1]
    ·simp (disch:=omega) only [go_sem]
    ·by_cases hi2:i<s
     ·exact hall i hi2
     ·obtain rfl:i=s:=by omega
      exact decide_eq_false (by omega)
  ·have hse:s=A.arcs.length:=by omega
   subst hse
   have ha:=none_all (f:=fun l:List Arc=>decide (30<l.length)) hall
   simp (disch:=omega) only [go_sem,f1,f3,b0,hla,hlt]
   refine wL_ind (fun (s:Nat) fr σ'=>s≤A.emp.length∧fr 1=.ptr 0 0∧fr 4=.d (.int .i64 s)∧σ'=σ∧∀ i,i<s→decide (30<(A.emp.getD i []).length)=false) (fun s=>A.emp.length - s) ?_ 0 ?_
   ·rintro s fr σ' ⟨hs,f1,f4,rfl,hall⟩ ih2
    by_cases hlt:s<A.emp.length
    ·have hgt:=erows_get A.emp s hlt
     by_cases c3:(30:Int)<(A.emp.getD s []).length
     ·have e:gtB A=true:=by unfold gtB;rw [any_at (f:=fun l:List Int=>decide (30<l.length)) (d:=[]) hlt (decide_eq_true (by omega))];simp
      simp (disch:=omega) only [go_sem,f1,f4,b0,hle,hlt,hgt,c3,e,List.length_map]
     ·simp (disch:=omega) only [go_sem,f1,f4,b0,hle,hlt,hgt,c3,List.length_map]
      refine ih2 (s+1) _ _ (by omega) ⟨by omega,?_,?_,rfl,fun i hi=>?_⟩
      ·simp (disch:=omega) only [go_sem,f1]
      ·simp (disch:=omega) only [go_sem]
      ·by_cases hi2:i<s
       ·exact hall i hi2
       ·obtain rfl:i=s:=by omega
        exact decide_eq_false (by omega)
    ·have hse:s=A.emp.length:=by omega
     subst hse
     have hb:=none_all (f:=fun l:List Int=>decide (30<l.length)) hall
     have e:gtB A=false:=by unfold gtB;rw [ha,hb,decide_eq_false (show ¬ 30<A.arcs.length by omega),decide_eq_false (show ¬ 30<A.emp.length by omega)];rfl
     simp (disch:=omega) only [go_sem,f1,f4,b0,hle,hlt,e]
   ·refine ⟨by omega,?_,?_,rfl,fun i hi=>by omega⟩
    ·simp (disch:=omega) only [go_sem,f1]
    ·simp (disch:=omega) only [go_sem]
 ·refine ⟨by omega,?_,?_,rfl,fun i hi=>by omega⟩
  ·simp (disch:=omega) only [go_sem]
  ·simp (disch:=omega) only [go_sem]
theorem closure9 (A:Au) (hf:Fit A) (ho:okA A=true) (l:List Int) (hl:l.length≤1000000000000000):PCall Tryd.prog 9 [auA A,.d (intsD l)] (.d (intsD (closM A l))):=by
 have hp:=okA_proper.1 ho
 have hc:=check17 A hf
 rw [if_pos ho] at hc
 refine fn9.pure noHint (Nat.le_refl _) (by simp only [go_sem,auA,auF,rowsD,intsD]) (by simp only [go_sem,intsD]) ?_
 simp (disch:=omega) only [go_sem,auA,auF,rowsD]
 refine hc.at ?_
 simp (disch:=omega) only [go_sem,auA,auF,rowsD]
 refine (closure33 A hp hf l hl).at ?_
 simp (disch:=omega) only [go_sem,intsD]
theorem step11 (A:Au) (hf:Fit A) (ho:okA A=true) (l:List Int) (hl:l.length≤1000000000000000) (c:Int):PCall Tryd.prog 11 [auA A,.d (intsD l),.d (.int .i32 c)] (.d (intsD (StepM A l c))):=by
 have hp:=okA_proper.1 ho
 have hc:=check17 A hf
 rw [if_pos ho] at hc
 refine fn11.pure noHint (Nat.le_refl _) (by simp only [go_sem,auA,auF,rowsD,intsD]) (by simp only [go_sem,intsD]) ?_
 simp (disch:=omega) only [go_sem,auA,auF,rowsD]
 refine hc.at ?_
 simp (disch:=omega) only [go_sem,auA,auF,rowsD]
 refine (closure33 A hp hf l hl).dat ?_
 simp (disch:=omega) only [go_sem]
 refine (step35 A hp hf (closM A l) ?_ (fun z hz=>from_inR hp ((mem_clos hp l z).1 hz)) c).dat ?_
 ·have:=clos_len A l;have:=hp.most;omega
 simp (disch:=omega) only [go_sem,intsD,StepM]
end Go.Proofs.YtngdkenddfdhaaaDoor
set_option linter.unusedVariables false
set_option linter.unusedSimpArgs false
set_option maxRecDepth 100000
namespace Go.Proofs.YtngdkenddfdhaaaDoor
open Go Nv Pat
/- The characters of two texts one after the other. -/
def shiftD (o:List Int) (k:Nat) (d:Dec):Dec:=⟨o++d.out,d.q,d.start+k⟩
theorem step_shift (o:List Int) (k i:Nat) (d:Dec) (b:Int):stepD (shiftD o k d) (i+k) b=shiftD o k (stepD d i b):=by
 unfold stepD
 by_cases h:goesOn d.q b
 ·rw [if_pos (show goesOn (shiftD o k d).q b from h),if_pos h]
  by_cases h0:d.q.missing - 1=0
  ·simp only [shiftD,h0,if_true,List.append_assoc]
  ·simp only [shiftD,h0,if_false]
 ·rw [if_neg (show ¬ goesOn (shiftD o k d).q b from h),if_neg h]
  simp only [shiftD]
  by_cases hm:0<d.q.missing <;> by_cases hb:b<128 <;> by_cases h0:(beginM b).missing=0 <;> simp only [hm,hb,h0,if_true,if_false,List.append_assoc]
theorem decL_shift (o:List Int) (k:Nat):∀ (l:List UInt8) (i:Nat) (d:Dec),decL l (i+k) (shiftD o k d)=shiftD o k (decL l i d)
 | [],_,_=>rfl
 | b::l,i,d=>by
  rw [decL,step_shift,show i+k+1=(i+1)+k by omega,decL_shift o k l (i+1),decL]
theorem decL_append:∀ (a b:List UInt8) (i:Nat) (d:Dec),decL (a++b) i d=decL b (i+a.length) (decL a i d)
 | [],b,i,d=>rfl
 | x::a,b,i,d=>by
  rw [List.cons_append,decL,decL_append a b (i+1),decL,List.length_cons,show i+1+a.length=i+(a.length+1) by omega]
def Closed (a:List UInt8):Prop:=(decM a).q.missing=0
theorem step_closed {d:Dec} (h:d.q.missing=0) (i:Nat) (b:Int):stepD d i b=shiftD d.out i (stepD dec0 0 b):=by
 have h1:¬ goesOn d.q b:=fun g=>by have:=g.1;omega
 have h2:¬ goesOn dec0.q b:=fun g=>by have:=g.1;simp [dec0] at this
 have h3:¬ (0<d.q.missing):=by omega
 have h4:¬ (0<dec0.q.missing):=by simp [dec0]
 unfold stepD
 rw [if_neg h1,if_neg h2]
 simp only [h3,h4,if_false,shiftD,dec0,List.nil_append,Nat.zero_add]
 split <;> (try split) <;> simp
theorem decM_append {a:List UInt8} (h:Closed a) (b:List UInt8) (hb:b≠[]):decM (a++b)=shiftD (decM a).out a.length (decM b):=by
 cases b with
 | nil=>exact absurd rfl hb
 | cons x b =>
  rw [decM,decL_append,decL,step_closed (show (decL a 0 dec0).q.missing=0 from h)]
  rw [show 0+a.length+1=(0+1)+a.length by omega,show 0+a.length=a.length by omega,decL_shift]
  rfl
theorem chars_nil:charsM []=[]:=rfl
theorem chars_closed {a:List UInt8} (ha:Closed a):charsM a=(decM a).out:=by
 have e:restM a=[]:=if_pos ha
 rw [charsM,e];simp [show finM []=[] from rfl]
theorem chars_append {a:List UInt8} (ha:Closed a) (b:List UInt8):charsM (a++b)=charsM a++charsM b:=by
 by_cases h:b=[]
 ·subst h;simp [chars_nil]
 ·have e:restM (a++b)=restM b:=by
   unfold restM
   rw [decM_append ha b h]
   simp only [shiftD]
   rw [show (decM b).start+a.length=a.length+(decM b).start by omega,← List.drop_drop,List.drop_left]
   rfl
  rw [charsM,e,decM_append ha b h,chars_closed ha,charsM]
  simp [shiftD]
end Go.Proofs.YtngdkenddfdhaaaDoor
set_option linter.unusedVariables false
set_option linter.unusedSimpArgs false
set_option maxRecDepth 100000
namespace Go.Proofs.YtngdkenddfdhaaaDoor
open Go Nv Pat
def low (b:UInt8):UInt8:=UInt8.ofNat (b.toNat % 128)
theorem low_nat (b:UInt8):(low b).toNat=b.toNat % 128:=by
 unfold low
 have:=b.toNat_lt
 simp [UInt8.toNat_ofNat]
 omega
theorem asc_one (b:UInt8) (h:b.toNat<128):Closed [b]∧charsM [b]=[bt b]:=by
 have h2:¬ goesOn dec0.q (bt b):=fun g=>by have:=g.1;simp [dec0] at this
 have hb:(bt b)<128:=by unfold bt;omega
 have hq:beginM (bt b)=⟨0,0,128,191⟩:=by
  unfold beginM
  rw [if_neg (by omega),if_neg (by omega),if_neg (by omega)]
 have hd:decM [b]=⟨[bt b],⟨0,0,128,191⟩,0⟩:=by
  show stepD dec0 0 (bt b)=_
  unfold stepD
  rw [if_neg h2,hq]
  simp only [dec0,hb,if_true,Int.lt_irrefl,if_false,List.nil_append]
 have hc:Closed [b]:=by unfold Closed;rw [hd]
 exact ⟨hc,by rw [chars_closed hc,hd]⟩
theorem asc_chars:∀ s:List UInt8,(∀ b,b∈s→b.toNat<128)→charsM s=s.map bt
 | [],_=>rfl
 | b::s,h=>by
  obtain ⟨h1,h2⟩:=asc_one b (h b (by simp))
  rw [show b::s=[b]++s from rfl,chars_append h1,h2,asc_chars s fun x hx=>h x (by simp [hx])]
  rfl
def txtD (l:List UInt8):DV:=.list 1 (l.map fun b=>DV.int .u8 (bt b))
theorem txt_get (l:List UInt8) (i:Nat) (h:i<l.length):(l.map fun b=>DV.int .u8 (bt b)).getD i default=.int .u8 (bt (l.getD i 0)):=by simp [List.getD_eq_getElem?_getD,h]
theorem step_run {A:Au} (hp:A.Proper) (w:List Int) (c:Int):StepM A (runM A w) c=runM A (w++[c]):=by
 rw [StepM,run_closed hp,run_snoc]
def hintsW:Nat→Hint:=fun i=>if i=29 then .freeze else .no
@[go_sem] theorem hintsW_at (i:Nat):hintsW i=if i=29 then .freeze else .no:=nrfl rfl
def wrd (l:List UInt8):List Int:=(l.map low).map bt
theorem law5 (A:Au) (l:List UInt8):PCall Tryd.prog 5 [auA A,.d (txtD l)] (.d (.bool true)):=by
 refine fn5.pure hintsW (Nat.le_refl _) (by simp only [go_sem,auA,auF,rowsD,txtD]) (by simp only [go_sem]) ?_
 have hll:(l.map fun b=>DV.int .u8 (bt b)).length=l.length:=by simp
 simp (disch:=omega) only [go_sem,auA,auF,rowsD,txtD]
 have hg:=great6 A
 cases hG:gtB A with
 | true =>
  rw [hG,if_pos rfl] at hg
  refine hg.at ?_
  simp (disch:=omega) only [go_sem]
  refine awake8.at ?_
  simp (disch:=omega) only [go_sem]
 | false =>
 have hf:=fit_of hG
 rw [hG,if_neg (by decide)] at hg
 refine hg.at ?_
 simp (disch:=omega) only [go_sem,auA,auF,rowsD]
 have hc:=check17 A hf
 cases ho:okA A with
 | false =>
  rw [ho,if_neg (by decide)] at hc
  refine hc.at ?_
  simp (disch:=omega) only [go_sem]
  refine awake8.at ?_
  simp (disch:=omega) only [go_sem]
 | true =>
 have hp:=okA_proper.1 ho
 rw [ho,if_pos rfl] at hc
 refine hc.at ?_
 by_cases cl:(20:Int)<l.length
 ·simp (disch:=omega) only [go_sem,hll,cl]
  refine awake8.at ?_
  simp (disch:=omega) only [go_sem]
 simp (disch:=omega) only [go_sem,hll,cl,auA,auF,rowsD]
 refine (closure9 A hf ho [A.start] (by simp)).at ?_
 obtain ⟨S,hS⟩:∃ S:Nv.ST,S=[Blk.box 25 [AV.d (.int .i64 A.start),AV.d (.int .i64 A.accept),AV.d (.list 1 ((arcsL A.arcs).map (DV.list 3))),AV.d (.list 1 ((intsL A.emp).map (DV.list 1)))]]:=⟨_,rfl⟩
 simp (disch:=omega) only [go_sem,hll]
 refine wL_ind (fun (i:Nat) fr σ=>i≤l.length∧fr 2=.ptr 0 0∧fr 5=.d (intsD (runM A (wrd (l.take i))))∧fr 6=.d (.str ((l.take i).map low))∧fr 31=.d (txtD l)∧fr 32=.d (.int .i64 l.length)∧fr 33=.d (.int .i64 i)∧∃ τ,σ=S++τ) (fun i=>l.length - i) ?_ 0 ?_
 ·rintro i fr σ ⟨hi,f2,f5,f6,f31,f32,f33,τ,rfl⟩ ih
  have b0:stGet (S++τ) 0=.box 25 [AV.d (.int .i64 A.start),AV.d (.int .i64 A.accept),AV.d (.list 1 ((arcsL A.arcs).map (DV.list 3))),AV.d (.list 1 ((intsL A.emp).map (DV.list 1)))]:=by rw [hS];rfl
  by_cases hlt:i<l.length
  ·have hgt:=txt_get l i hlt
   obtain ⟨b,hb⟩:∃ b,b=l.getD i 0:=⟨_,rfl⟩
   rw [← hb] at hgt
   have hbl:=b.toNat_lt
   have hlow:=low_nat b
   have hm8:(bt b).tmod 128=bt (low b):=by
    unfold bt
    rw [hlow,Int.tmod_eq_emod_of_nonneg (by omega)];omega
   have hw:IntKind.i32.wrap (bt (low b))=bt (low b):=wrap_i32 (by unfold bt;omega) (by unfold bt;omega)
   have htk:l.take (i+1)=l.take i++[b]:=by
    rw [List.take_succ_eq_append_getElem hlt,hb,List.getD_eq_getElem?_getD,List.getElem?_eq_getElem hlt];rfl
   have hwd:wrd (l.take (i+1))=wrd (l.take i)++[bt (low b)]:=by unfold wrd;rw [htk];simp
   have hsn:=step_run hp (wrd (l.take i)) (bt (low b))
   have hst:=step11 A hf ho (runM A (wrd (l.take i))) (by have:=run_len A (wrd (l.take i));have:=hp.most;omega) (bt (low b))
   rw [hsn,← hwd] at hst
   simp (disch:=omega) only [go_sem,f2,f5,f6,f31,f32,f33,hlt,b0,txtD,hll,hgt,hm8,hw]
   refine hst.at ?_
   have hl256:=(low b).toNat_lt
   have hby:bytesOf [DV.int .u8 (bt (low b))]=some [low b]:=by
    unfold bytesOf
    rw [decide_eq_true (show 0≤bt (low b) by unfold bt;omega),decide_eq_true (show bt (low b)<256 by unfold bt;omega)]
    simp [bytesOf,bt]
   have hs:(l.take i).map low++[low b]=(l.take (i+1)).map low:=by rw [htk];simp
   simp (disch:=omega) only [go_sem,f6,f33,hm8,hby,hs]
   refine ⟨by rw [List.length_take];omega,?_⟩
   refine ih (i+1) _ _ (by omega) ⟨by omega,?_,?_,?_,?_,?_,?_,?_⟩
   ·simp (disch:=omega) only [go_sem,f2]
   ·simp (disch:=omega) only [go_sem]
   ·simp (disch:=omega) only [go_sem]
   ·simp (disch:=omega) only [go_sem,f31]
   ·simp (disch:=omega) only [go_sem,f32]
   ·simp (disch:=omega) only [go_sem]
   ·exact ⟨_,List.append_assoc S τ _⟩
  ·have hie:i=l.length:=by omega
   subst hie
   rw [List.take_length] at f5 f6
   have hat:((runM A (wrd l)).map intD).length=(runM A (wrd l)).length:=by simp
   have hal:(runM A (wrd l)).length≤3000:=by have:=run_len A (wrd l);have:=hp.most;omega
   have hm:=match16 A hf (l.map low) (by simp;omega)
   have hnf:nfaB A (l.map low)=decide (A.accept∈runM A (wrd l)):=by
    unfold nfaB
    rw [asc_chars _ (fun x hx=>by
     obtain ⟨y,_,rfl⟩:=List.mem_map.1 hx
     rw [low_nat];omega),decide_eq_decide]
    exact ⟨fun h=>h.2,fun h=>⟨hp,h⟩⟩
   rw [hnf] at hm
   generalize hR:runM A (wrd l)=R at *
   simp (disch:=omega) only [go_sem,f5,f31,f32,f33,hlt,txtD,intsD,hat]
   refine wL_ind (fun (j:Nat) fr σ'=>j≤R.length∧fr 2=.ptr 0 0∧fr 6=.d (.str (l.map low))∧fr 9=.d (.bool (decide (A.accept∈R.take j)))∧fr 50=.d (.list 1 (R.map intD))∧fr 51=.d (.int .i64 R.length)∧fr 52=.d (.int .i64 j)∧σ'=S++τ) (fun j=>R.length - j) ?_ 0 ?_
   ·rintro j fr σ' ⟨hj,f2,f6,f9,f50,f51,f52,rfl⟩ ih2
    by_cases hlj:j<R.length
    ·have hgt:(R.map intD).getD j default=.int .i64 (R.getD j 0):=by simp [List.getD_eq_getElem?_getD,hlj,intD]
     have htk:R.take (j+1)=R.take j++[R.getD j 0]:=by
      rw [List.take_succ_eq_append_getElem hlj,List.getD_eq_getElem?_getD,List.getElem?_eq_getElem hlj];rfl
     cases hd:decide (A.accept∈R.take j) with
     | true =>
      rw [hd] at f9
      simp (disch:=omega) only [go_sem,f2,f9,f50,f51,f52,hlj,hat,hgt,b0]
      refine ih2 (j+1) _ _ (by omega) ⟨by omega,?_,?_,?_,?_,?_,?_,rfl⟩
      ·simp (disch:=omega) only [go_sem,f2]
      ·simp (disch:=omega) only [go_sem,f6]
      ·have:decide (A.accept∈R.take (j+1))=true:=by
        rw [htk,decide_eq_true_eq,List.mem_append];exact .inl (of_decide_eq_true hd)
       rw [this];simp (disch:=omega) only [go_sem]
      ·simp (disch:=omega) only [go_sem,f50]
      ·simp (disch:=omega) only [go_sem,f51]
      ·simp (disch:=omega) only [go_sem]
     | false =>
      rw [hd] at f9
      simp (disch:=omega) only [go_sem,f2,f9,f50,f51,f52,hlj,hat,hgt,b0]
      refine ih2 (j+1) _ _ (by omega) ⟨by omega,?_,?_,?_,?_,?_,?_,rfl⟩
      ·simp (disch:=omega) only [go_sem,f2]
      ·simp (disch:=omega) only [go_sem,f6]
      ·have:decide (A.accept∈R.take (j+1))=decide (R.getD j 0=A.accept):=by
        rw [htk,decide_eq_decide,List.mem_append,List.mem_singleton]
        constructor
        ·rintro (h | h)
         ·exact absurd h (of_decide_eq_false hd)
         ·exact h.symm
        ·exact fun h=>.inr h.symm
       rw [this];simp (disch:=omega) only [go_sem]
      ·simp (disch:=omega) only [go_sem,f50]
      ·simp (disch:=omega) only [go_sem,f51]
      ·simp (disch:=omega) only [go_sem]
    ·have hje:j=R.length:=by omega
     subst hje
     rw [List.take_length] at f9
     simp (disch:=omega) only [go_sem,f2,f6,f9,f50,f51,f52,hlj,b0]
     refine hm.at ?_
     simp (disch:=omega) only [go_sem,f9,beq_self_eq_true]
     refine awake8.at ?_
     simp (disch:=omega) only [go_sem]
   ·refine ⟨by omega,?_,?_,?_,?_,?_,?_,rfl⟩
    ·simp (disch:=omega) only [go_sem,f2]
    ·simp (disch:=omega) only [go_sem,f6]
    ·simp (disch:=omega) only [go_sem,List.take_zero,List.not_mem_nil]
    ·simp (disch:=omega) only [go_sem]
    ·simp (disch:=omega) only [go_sem]
    ·simp (disch:=omega) only [go_sem]
 ·refine ⟨by omega,?_,?_,?_,?_,?_,?_,_,by rw [hS];rfl⟩
  ·simp (disch:=omega) only [go_sem]
  ·simp (disch:=omega) only [go_sem];rfl
  ·simp (disch:=omega) only [go_sem,List.take_zero,List.map_nil]
  ·simp (disch:=omega) only [go_sem,txtD]
  ·simp (disch:=omega) only [go_sem]
  ·simp (disch:=omega) only [go_sem]
end Go.Proofs.YtngdkenddfdhaaaDoor
set_option linter.unusedVariables false
set_option linter.unusedSimpArgs false
set_option maxRecDepth 100000
namespace Go.Proofs.YtngdkenddfdhaaaDoor
open Go Nv Pat
/- What comes in,as trees. -/
theorem int_td {n:Nat} {t:TypeId} {k:IntKind} {ds:List DV} (ht:Tryd.prog.underlying t=some (.int k)) (h:TD Tryd.prog n t ds):∃ z,ds=[.int k z]∧(Lit.int k z).wf=true:=by
 cases n with
 | zero=>exact h.elim
 | succ n=>simp only [TD,ht] at h;exact h
theorem rows_of {α:Type} {Q:DV→Prop} {f:α→DV}:∀ {xs:List DV},(∀ x,x∈xs→∃ a,x=f a)→∃ l:List α,xs=l.map f
 | [],_=>⟨[],rfl⟩
 | x::xs,h=>by
  obtain ⟨a,rfl⟩:=h x (by simp)
  obtain ⟨l,rfl⟩:=rows_of (Q:=Q) (xs:=xs) fun y hy=>h y (by simp [hy])
  exact ⟨a::l,rfl⟩
theorem range_td {n:Nat} {cs:List DV} (h:TD Tryd.prog n 43 cs):∃ r:Int × Int,cs=[.int .i32 r.1,.int .i32 r.2]:=by
 cases n with
 | zero=>exact h.elim
 | succ n =>
  simp only [TD,go_sem,List.mem_cons,List.not_mem_nil,or_false,forall_eq_or_imp,forall_eq] at h
  obtain ⟨hl,h0,h1⟩:=h
  match cs,hl with
  | [a,b],_ =>
   simp only [List.drop,List.take] at h0 h1
   obtain ⟨z0,e0,_⟩:=int_td Tryd.underlying21 h0
   obtain ⟨z1,e1,_⟩:=int_td Tryd.underlying21 h1
   simp only [List.cons.injEq,and_true] at e0 e1
   exact ⟨(z0,z1),by rw [e0,e1]⟩
end Go.Proofs.YtngdkenddfdhaaaDoor
set_option linter.unusedVariables false
set_option linter.unusedSimpArgs false
set_option maxRecDepth 100000
namespace Go.Proofs.YtngdkenddfdhaaaDoor
open Go Nv Pat
/- What comes in,as automata,sets of states,texts. -/
theorem arc_td {n:Nat} {cs:List DV} (h:TD Tryd.prog n 45 cs):∃ x:Arc,cs=[.int .i32 x.1,.int .i32 x.2.1,.int .i64 x.2.2]:=by
 cases n with
 | zero=>exact h.elim
 | succ n =>
  unfold TD at h
  simp only [go_sem,List.mem_cons,List.not_mem_nil,or_false,forall_eq_or_imp,forall_eq] at h
  obtain ⟨hl,h0,h1⟩:=h
  match cs,hl with
  | [a,b,c],_ =>
   simp only [List.drop,List.take] at h0 h1
   obtain ⟨r,e0⟩:=range_td h0
   obtain ⟨z,e1,_⟩:=int_td Tryd.underlying3 h1
   simp only [List.cons.injEq,and_true] at e0 e1
   exact ⟨(r.1,r.2,z),by rw [e0.1,e0.2,e1]⟩
theorem arow_td {n:Nat} {ds:List DV} (h:TD Tryd.prog n 40 ds):∃ l:List Arc,ds=[.list 3 (l.map arcD)]:=by
 cases n with
 | zero=>exact h.elim
 | succ n =>
  unfold TD at h
  simp only [go_sem] at h
  obtain ⟨xs,rfl,_,hx⟩:=h
  obtain ⟨l,rfl⟩:=rows_of (Q:=fun _=>True) (f:=arcD) fun x hm=>by
   obtain ⟨cs,rfl,hc⟩:=hx x hm
   obtain ⟨r,rfl⟩:=arc_td hc
   exact ⟨r,by simp only [ofCells,go_sem,arcD]⟩
  exact ⟨l,rfl⟩
theorem arows_td {n:Nat} {ds:List DV} (h:TD Tryd.prog n 22 ds):∃ L:List (List Arc),ds=[rowsD 3 (arcsL L)]:=by
 cases n with
 | zero=>exact h.elim
 | succ n =>
  unfold TD at h
  simp only [go_sem] at h
  obtain ⟨xs,rfl,_,hx⟩:=h
  obtain ⟨l,rfl⟩:=rows_of (Q:=fun _=>True) (f:=fun l:List Arc=>DV.list 3 (l.map arcD)) fun x hm=>by
   obtain ⟨cs,rfl,hc⟩:=hx x hm
   obtain ⟨r,rfl⟩:=arow_td hc
   exact ⟨r,by simp only [ofCells,go_sem,List.headD_cons]⟩
  exact ⟨l,by simp [rowsD,arcsL]⟩
theorem ints_td {n:Nat} {ds:List DV} (h:TD Tryd.prog n 26 ds):∃ l:List Int,ds=[intsD l]:=by
 cases n with
 | zero=>exact h.elim
 | succ n =>
  unfold TD at h
  simp only [go_sem] at h
  obtain ⟨xs,rfl,_,hx⟩:=h
  obtain ⟨l,rfl⟩:=rows_of (Q:=fun _=>True) (f:=intD) fun x hm=>by
   obtain ⟨cs,rfl,hc⟩:=hx x hm
   obtain ⟨z,rfl,_⟩:=int_td Tryd.underlying3 hc
   exact ⟨z,by simp only [ofCells,go_sem,intD,List.headD_cons]⟩
  exact ⟨l,rfl⟩
theorem erows_td {n:Nat} {ds:List DV} (h:TD Tryd.prog n 23 ds):∃ L:List (List Int),ds=[rowsD 1 (intsL L)]:=by
 cases n with
 | zero=>exact h.elim
 | succ n =>
  unfold TD at h
  simp only [go_sem] at h
  obtain ⟨xs,rfl,_,hx⟩:=h
  obtain ⟨l,rfl⟩:=rows_of (Q:=fun _=>True) (f:=fun l:List Int=>intsD l) fun x hm=>by
   obtain ⟨cs,rfl,hc⟩:=hx x hm
   obtain ⟨r,rfl⟩:=ints_td hc
   exact ⟨r,by simp only [ofCells,go_sem,List.headD_cons]⟩
  exact ⟨l,by simp [rowsD,intsL,intsD]⟩
theorem txt_td {n:Nat} {ds:List DV} (h:TD Tryd.prog n 37 ds):∃ l:List UInt8,ds=[txtD l]:=by
 cases n with
 | zero=>exact h.elim
 | succ n =>
  unfold TD at h
  simp only [go_sem] at h
  obtain ⟨xs,rfl,_,hx⟩:=h
  obtain ⟨l,rfl⟩:=rows_of (Q:=fun _=>True) (f:=fun b:UInt8=>DV.int .u8 (bt b)) fun x hm=>by
   obtain ⟨cs,rfl,hc⟩:=hx x hm
   obtain ⟨z,rfl,hz⟩:=int_td Tryd.underlying5 hc
   have h0:0≤z∧z≤255:=by simpa [Lit.wf,IntKind.min,IntKind.max,IntKind.signed,IntKind.bits] using hz
   refine ⟨UInt8.ofNat z.toNat,?_⟩
   simp only [ofCells,go_sem,bt,List.headD_cons]
   rw [show ((UInt8.ofNat z.toNat).toNat:Int)=z by rw [UInt8.toNat_ofNat'];omega]
  exact ⟨l,rfl⟩
def auC (A:Au):List DV:=[.int .i64 A.start,.int .i64 A.accept,rowsD 3 (arcsL A.arcs),rowsD 1 (intsL A.emp)]
theorem au_td {n:Nat} {cs:List DV} (h:TD Tryd.prog n 25 cs):∃ A:Au,cs=auC A:=by
 cases n with
 | zero=>exact h.elim
 | succ n =>
  unfold TD at h
  simp only [go_sem,List.mem_cons,List.not_mem_nil,or_false,forall_eq_or_imp,forall_eq] at h
  obtain ⟨hl,h0,h1,h2,h3⟩:=h
  match cs,hl with
  | [a,b,c,d],_ =>
   simp only [List.drop,List.take] at h0 h1 h2 h3
   obtain ⟨z0,e0,_⟩:=int_td Tryd.underlying3 h0
   obtain ⟨z1,e1,_⟩:=int_td Tryd.underlying3 h1
   obtain ⟨L,e2⟩:=arows_td h2
   obtain ⟨E,e3⟩:=erows_td h3
   simp only [List.cons.injEq,and_true] at e0 e1 e2 e3
   exact ⟨⟨z0,z1,L,E⟩,by rw [e0,e1,e2,e3];rfl⟩
end Go.Proofs.YtngdkenddfdhaaaDoor
