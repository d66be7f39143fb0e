/- Part of a proof about the functions of this seat. -/
import Derived.Test.YtngdkenddfdhaaaGreatDoorG19S32
import Derived.Test.YtngdkenddfdhaaaGreatDoorG13Nfq
import Derived.Lib.ValidLaws
set_option linter.unusedVariables false
set_option linter.unusedSimpArgs false
set_option maxRecDepth 100000
namespace Go.Proofs.YtngdkenddfdhaaaGreatDoor
open Go Nv Pat
def hints2 (d e:Nat):Nat→Hint:=fun i=>if i=d then .freeze else if i=e then .freeze else .no
@[go_sem] theorem hints2_at (d e:Nat) (i:Nat):hints2 d e i=if i=d then .freeze else if i=e then .freeze else .no:=nrfl rfl
def boolsA (l:List Bool):AV:=.d (.list 1 (boolsD l))
def runesA (t:List Int):AV:=.d (.list 1 (t.map (DV.int .i32)))
theorem clone50 (b:Bool) (l:List Bool) (hl:l.length≤1000000):PCall Tryz.prog 63 [boolsA (b::l)] (boolsA (b::l)):=by
 refine fn63.pure (hints2 2 2) (Nat.le_refl _) (by simp only [go_sem,boolsA]) (by simp only [go_sem,boolsA]) ?_
 have e:boolsD (b::l)=.bool b::boolsD l:=rfl
 simp (disch:=omega) only [go_sem,boolsA,e]
 have e2:List.take (0+(l.length+1)) (DV.bool b::boolsD l)=DV.bool b::boolsD l:=List.take_of_length_le (by simp [boolsD])
 exact ⟨by omega,by omega,by rw [e2]⟩
theorem langJ_one (x:Tree) (w:List Int):LangJ [x] w↔Lang x w:=(langJ_cons x [] w).trans ((cat_congr (fun _=>Iff.rfl) langJ_nil w).trans (cat_eps _ w))
theorem places_join (t:List Int) (p:Nat→Prop) (l:List Tree) (x:Tree):places t (Pat.Post t (Lang x) (Pat.Post t (LangJ l) p))=places t (Pat.Post t (LangJ (l++[x])) p) :=
 places_congr fun j hj=>(post_cat t _ _ p hj).trans (post_congr (fun w=>((langJ_append l [x] w).trans (cat_congr (fun _=>Iff.rfl) (langJ_one x) w)).symm) p j)
theorem orL_places (t:List Int) (p q:Nat→Prop):orL (places t p) (places t q)=places t fun j=>p j∨q j:=by
 have h:∀ (l:List Nat) (f g:Nat→Bool),orL (l.map f) (l.map g)=l.map fun j=>f j || g j:=by
  intro l f g
  induction l with
  | nil=>rfl
  | cons y l ih=>simp only [List.map_cons,orL,ih]
 unfold Pat.places
 rw [h]
 refine List.map_congr_left fun j _=>?_
 rw [Bool.eq_iff_iff];simp
theorem places_none (t:List Int) (p:Nat→Prop) (h:∀ j,¬ p j):places t p=List.replicate (t.length+1) false:=by
 refine List.ext_getElem (by simp [places_length]) fun j h1 h2=>?_
 simp [Pat.places,h]
def falses:List Bool→Nat
 | []=>0
 | a::l=>(if a then 0 else 1)+falses l
theorem falses_le:∀ l:List Bool,falses l≤l.length
 | []=>Nat.le_refl _
 | a::l=>by have:=falses_le l;simp only [falses,List.length_cons];split <;> omega
theorem orL_falses:∀ A B:List Bool,falses (orL A B)≤falses A∧(grown A B=true→falses (orL A B)<falses A)
 | [],B=>by simp [orL,grown]
 | a::A,[]=>by simp [orL,grown]
 | a::A,b::B=>by
  obtain ⟨h1,h2⟩:=orL_falses A B
  cases a <;> cases b <;> simp only [orL,grown,falses,Bool.or_false,Bool.or_true,Bool.false_or,Bool.true_and,Bool.not_true,Bool.not_false,Bool.and_false,Bool.and_true,if_true,Bool.false_eq_true,if_false,Bool.true_or,Bool.or_self] <;> refine ⟨by omega,fun h=>?_⟩ <;> first | (have:=h2 h;omega) | omega
theorem grown_places (t:List Int) (q r:Nat→Prop) (h:grown (places t q) (places t r)=false):∀ j,j≤t.length→r j→q j:=by
 have key:∀ (l:List Nat) (f g:Nat→Bool),grown (l.map f) (l.map g)=false→∀ j,j∈l→g j=true→f j=true:=by
  intro l f g
  induction l with
  | nil=>intro _ j hj;cases hj
  | cons y l ih =>
   intro hh j hj hg
   simp only [List.map_cons,grown,Bool.or_eq_false_iff,Bool.and_eq_false_iff,Bool.not_eq_false'] at hh
   rcases List.mem_cons.1 hj with e | hj
   ·subst e
    rcases hh.1 with h | h
    ·rw [hg] at h;cases h
    ·exact h
   ·exact ih hh.2 j hj hg
 intro j hj hr
 have:=key (List.range (t.length+1)) _ _ h j (List.mem_range.2 (by omega)) (by simpa using hr)
 simpa using this
theorem places_pow (t:List Int) (p:Nat→Prop) (L:List Int→Prop) (i:Nat):places t (Pat.Post t L (Pat.Post t (Pow L i) p))=places t (Pat.Post t (Pow L (i+1)) p) :=
 places_congr fun j hj=>(post_cat t _ _ p hj).trans (post_congr (fun w=>(pow_snoc L i w).symm) p j)
theorem upto_succ (L:List Int→Prop) (a m:Nat) (h:a≤m+1) (w:List Int):Upto L a (m+1) w↔Upto L a m w∨Pow L (m+1) w:=by
 constructor
 ·rintro ⟨n,h1,h2,h3⟩
  rcases Nat.lt_or_ge n (m+1) with hn | hn
  ·exact .inl ⟨n,h1,by omega,h3⟩
  ·obtain rfl:n=m+1:=by omega
   exact .inr h3
 ·rintro (⟨n,h1,h2,h3⟩ | h3)
  ·exact ⟨n,h1,by omega,h3⟩
  ·exact ⟨m+1,h,Nat.le_refl _,h3⟩
theorem places_upto (t:List Int) (p:Nat→Prop) (L:List Int→Prop) (a m:Nat) (h:a≤m+1) :
  orL (places t (Pat.Post t (Upto L a m) p)) (places t (Pat.Post t (Pow L (m+1)) p))=places t (Pat.Post t (Upto L a (m+1)) p):=by
 rw [orL_places]
 refine places_congr fun j hj=>?_
 constructor
 ·rintro (⟨i,h1,h2,h3,h4⟩ | ⟨i,h1,h2,h3,h4⟩)
  ·exact ⟨i,h1,h2,h3,(upto_succ L a m h _).2 (.inl h4)⟩
  ·exact ⟨i,h1,h2,h3,(upto_succ L a m h _).2 (.inr h4)⟩
 ·rintro ⟨i,h1,h2,h3,h4⟩
  rcases (upto_succ L a m h _).1 h4 with h4 | h4
  ·exact .inl ⟨i,h1,h2,h3,h4⟩
  ·exact .inr ⟨i,h1,h2,h3,h4⟩
theorem upto_same (L:List Int→Prop) (a:Nat) (w:List Int):Upto L a a w↔Pow L a w:=by
 constructor
 ·rintro ⟨n,h1,h2,h3⟩;obtain rfl:n=a:=by omega
  exact h3
 ·intro h;exact ⟨a,Nat.le_refl _,Nat.le_refl _,h⟩
def Found (t:List Int) (out:List Bool) (fr:FR) (σ:Nv.ST):Prop :=
 fr 7=boolsA out∨∃ x g rest,fr 7=.own 1 g 0 (t.length+1)∧σ=x::.arr g ⟨1,4⟩ (boolsD out)::rest
theorem copy_all (l m:List DV) (n:Nat) (hl:l.length=n) (hm:m.length=n):List.take (min n n) l++List.drop (0+(List.take (min n n) l).length) m=l:=by
 rw [Nat.min_self,List.take_of_length_le (by omega),List.drop_of_length_le (by omega),List.append_nil]
theorem inS_iff (s:List (Int × Int)) (c:Int):inS s c=true↔InSet s c:=by
 simp only [inS,InSet,List.any_eq_true,inB,Bool.and_eq_true,decide_eq_true_eq,ge_iff_le]
theorem set_step (out:List Bool) (i n:Nat) (h:i<n) (hol:out.length=n+1) (v:Bool) (hv:out.getD (i+1) false=v) :
  (out.take (i+1)++List.replicate (n - i) false).set (i+1) v=out.take (i+1+1)++List.replicate (n - (i+1)) false:=by
 have hl:(out.take (i+1)).length=i+1:=by simp;omega
 rw [List.set_append_right _ _ (by omega),hl,Nat.sub_self,show n - i=(n - (i+1))+1 by omega,List.replicate_succ,List.set_cons_zero,take_snoc out (i+1) (by omega),hv,List.append_assoc]
 rfl
theorem reach33:∀ n:Tree,chk n=0→n.nodes≤1000000→Thin n→∀ (t:List Int) (p:Nat→Prop),t.length≤100000 →
  PCall Tryz.prog 39 [nodeA n,runesA t,boolsA (places t p)] (boolsA (places t (Post t (Lang n) p))):=by
 intro n
 induction n using Tree.ind with
 | h k s sub a b ih =>
  intro hchk hn hthin t p ht
  refine fn39.pure (hints2 6 64) (Nat.le_refl _) (by simp only [go_sem,nodeA,nodeF,setD,runesA,boolsA]) (by simp only [go_sem,boolsA]) ?_
  have hpl:=places_length t p
  refine wW_cut (fun fr σ=>fr 1=runesA t∧fr 2=boolsA (places t p)∧fr 3=.ptr 0 0∧σ=[.box 25 (boxF k s sub a b)]) ?_ ?_
  ·simp (disch:=omega) only [go_sem,nodeA,nodeF,Tree.kind,Tree.set,Tree.sub,Tree.min,Tree.max,boxF]
  rintro fr σ ⟨f1,f2,f3,rfl⟩
  refine wW_cut (fun fr σ=>fr 1=runesA t∧fr 2=boolsA (places t p)∧fr 3=.ptr 0 0∧fr 7=.own 1 0 0 (t.length+1)∧σ=[.box 25 (boxF k s sub a b),.arr 0 ⟨1,4⟩ (boolsD (List.replicate (t.length+1) false))]) ?_ ?_
  ·have hb:(t.length+1)≤140737488355328:=by omega
   simp (disch:=omega) only [go_sem,f1,f2,f3,boolsA,hpl,hb]
   exact ⟨⟨Nat.le_refl _,by omega⟩,by simp,by simp [boolsD]⟩
  rintro fr σ ⟨f1,f2,f3,f7,rfl⟩
  obtain ⟨hkB,hbad,hL⟩:=chk_ok hchk
  obtain ⟨out,hout⟩:∃ out,out=places t (Pat.Post t (Lang (.mk k s sub a b)) p):=⟨_,rfl⟩
  have hol:out.length=t.length+1:=by rw [hout,places_length]
  rw [← hout]
  refine wW_cut (fun fr σ=>Found t out fr σ) ?_ ?_
  ·by_cases k1:k=1
   ·have e:out=places t p:=hout.trans (places_congr fun j hj=>(post_congr (fun w=>by simp [Lang,k1,Eps]) p j).trans (post_eps t p hj))
    have ec:=copy_all (boolsD (places t p)) (boolsD (List.replicate (t.length+1) false)) (t.length+1) (by rw [boolsD_length,hpl]) (by rw [boolsD_length,List.length_replicate])
    have e3:0+(t.length+1)≤(List.replicate (t.length+1) false).length:=by rw [List.length_replicate];omega
    subst k1
    simp (disch:=omega) only [go_sem,f1,f2,f3,f7,boxF,boolsA,hpl,e3,ec]
    exact .inr ⟨_,0,[],by simp (disch:=omega) only [go_sem,f7],by rw [e]⟩
   by_cases k2:k=2
   ·have eo:∀ i,i<t.length→(out.getD (i+1) false=((places t p).getD i false && inS s (t.getD i 0))):=by
     intro i hi
     rw [Bool.eq_iff_iff,Bool.and_eq_true,hout,places_get (by omega),places_get (by omega),inS_iff]
     rw [post_congr (M:=fun w=>∃ c,w=[c]∧InSet s c) (fun w=>by simp [Lang,k2]),post_set]
     constructor
     ·rintro ⟨i',h1,_,h2,h3⟩
      obtain rfl:i=i':=by omega
      exact ⟨h2,h3⟩
     ·rintro ⟨h2,h3⟩;exact ⟨i,rfl,hi,h2,h3⟩
    have eo0:out.getD 0 false=false:=by
     rw [← Bool.not_eq_true,hout,places_get (by omega),post_congr (M:=fun w=>∃ c,w=[c]∧InSet s c) (fun w=>by simp [Lang,k2]),post_set]
     rintro ⟨i',h1,_⟩;omega
    clear ih
    subst k2
    have hs:s.length≤1000000:=hthin.1
    simp (disch:=omega) only [go_sem,f1,f2,f3,f7,boxF,runesA]
    refine wL_ind (fun (i:Nat) fr σ=>i≤t.length∧fr 2=boolsA (places t p)∧fr 3=.ptr 0 0∧fr 7=.own 1 0 0 (t.length+1)∧fr 28=.d (.list 1 (t.map (DV.int .i32)))∧fr 29=.d (.int .i64 t.length)∧fr 30=.d (.int .i64 i) ∧
     ∃ rest,σ=.box 25 (boxF 2 s sub a b)::.arr 0 ⟨1,4⟩ (boolsD (out.take (i+1)++List.replicate (t.length - i) false))::rest) (fun i=>t.length - i) ?_ 0 ?_
    ·rintro i fr σ ⟨hi,f2,f3,f7,f28,f29,f30,rest,rfl⟩ ih
     by_cases hlt:i<t.length
     ·have e1:=boolsD_get (places t p) i (by omega)
      have hlt2:i<t.length+1:=by omega
      have el:(out.take (i+1)++List.replicate (t.length - i) false).length=t.length+1:=by simp;omega
      simp (disch:=omega) only [go_sem,f2,f3,f7,f28,f29,f30,hlt,boolsA,hpl,e1,hlt2]
      have e2:=boolsD_get (out.take (i+1)++List.replicate (t.length - i) false) (i+1) (by rw [el];omega)
      have hlt3:i+1<t.length+1:=by omega
      have ev:=eo i hlt
      cases hp:(places t p).getD i false
      ·rw [hp,Bool.false_and] at ev
       have es:=set_step out i t.length hlt hol false ev
       simp (disch:=omega) only [go_sem,f7,el,Nat.zero_add,e2,boolsD_set,es,hlt3,f30]
       refine ih (i+1) _ _ (by omega) ⟨by omega,?_,?_,?_,?_,?_,?_,_,rfl⟩
       ·simp (disch:=omega) only [go_sem,f2,boolsA]
       ·simp (disch:=omega) only [go_sem,f3]
       ·simp (disch:=omega) only [go_sem,f7]
       ·simp (disch:=omega) only [go_sem,f28]
       ·simp (disch:=omega) only [go_sem,f29]
       ·simp (disch:=omega) only [go_sem]
      ·rw [hp,Bool.true_and] at ev
       have es:=set_step out i t.length hlt hol _ ev
       simp (disch:=omega) only [go_sem,f3,boxF]
       refine (contains47 s hs (t.getD i default) (rest.length+1+1) _ (by simp) ?_).at ?_
       ·simp (disch:=omega) only [go_sem]
       rintro v σ' ⟨rfl,τ,rfl⟩
       simp (disch:=omega) only [go_sem,f7,el,Nat.zero_add,e2,boolsD_set,es,hlt3,f30]
       refine ih (i+1) _ _ (by omega) ⟨by omega,?_,?_,?_,?_,?_,?_,?r,?_⟩
       rotate_right 1
       ·rw [← es];rfl
       ·simp (disch:=omega) only [go_sem,f2,boolsA]
       ·simp (disch:=omega) only [go_sem,f3]
       ·simp (disch:=omega) only [go_sem,f7]
       ·simp (disch:=omega) only [go_sem,f28]
       ·simp (disch:=omega) only [go_sem,f29]
       ·simp (disch:=omega) only [go_sem]
     ·have ek:out.take (i+1)=out:=List.take_of_length_le (by omega)
      have ek2:List.replicate (t.length - i) false=[]:=by rw [show t.length - i=0 by omega];rfl
      simp (disch:=omega) only [go_sem,f28,f29,f30,hlt,f7,ek,ek2]
      exact .inr ⟨_,_,_,by simp (disch:=omega) only [go_sem,f7],rfl⟩
    ·refine ⟨by omega,?_,?_,?_,?_,?_,?_,[],?_⟩
     ·simp (disch:=omega) only [go_sem,f2]
     ·simp (disch:=omega) only [go_sem,f3]
     ·simp (disch:=omega) only [go_sem,f7]
     ·simp (disch:=omega) only [go_sem]
     ·simp (disch:=omega) only [go_sem]
     ·simp (disch:=omega) only [go_sem]
     ·rw [take_snoc out 0 (by omega),eo0];rfl
   have hsub:sub.length≤1000000:=by
    have h1:=length_nodesL sub
    have h2:(Tree.mk k s sub a b).nodes=1+Tree.nodesL sub:=nodes_eq _
    omega
   have hih:∀ x,x∈sub→∀ q,PCall Tryz.prog 39 [nodeA x,runesA t,boolsA (places t q)] (boolsA (places t (Pat.Post t (Lang x) q))):=fun x hx q=>by
    have h1:=nodes_mem sub x hx
    have h2:(Tree.mk k s sub a b).nodes=1+Tree.nodesL sub:=nodes_eq _
    exact ih x hx (chkL_mem hL x hx) (by omega) (thinL_mem hthin.2 hx) t q ht
   clear ih
   by_cases k3:k=3
   ·have eo:out=places t (Pat.Post t (LangJ sub) p):=hout.trans (places_congr fun j hj=>post_congr (fun w=>by simp [Lang,k3]) p j)
    have ec:=copy_all (boolsD (places t p)) (boolsD (List.replicate (t.length+1) false)) (t.length+1) (by rw [boolsD_length,hpl]) (by rw [boolsD_length,List.length_replicate])
    have e3:0+(t.length+1)≤(List.replicate (t.length+1) false).length:=by rw [List.length_replicate];omega
    subst k3
    simp (disch:=omega) only [go_sem,f1,f2,f3,f7,boxF,boolsA,hpl,e3,ec]
    refine wL_ind (fun (j:Nat) fr σ=>j≤sub.length∧fr 1=runesA t∧fr 56=.d (.list 5 (sub.map nodeD))∧fr 57=.d (.int .i64 sub.length)∧fr 58=.d (.int .i64 j) ∧
     Found t (places t (Pat.Post t (LangJ (sub.take j)) p)) fr σ) (fun j=>sub.length - j) ?_ 0 ?_
    ·rintro j fr σ ⟨hj,f1,f56,f57,f58,hF⟩ ih
     obtain ⟨q,hq⟩:∃ q,q=Pat.Post t (LangJ (sub.take j)) p:=⟨_,rfl⟩
     rw [← hq] at hF
     by_cases hlt:j<sub.length
     ·obtain ⟨x,hx⟩:∃ x,x=sub.getD j default:=⟨_,rfl⟩
      have hxm:x∈sub:=by rw [hx];exact getD_mem sub j hlt
      have enext:places t (Pat.Post t (Lang x) q)=places t (Pat.Post t (LangJ (sub.take (j+1))) p):=by
       rw [hq,places_join,take_succ' sub j hlt,← hx]
      have hc:=hih x hxm q
      rw [enext] at hc
      have fin:∀ (fr':FR) (σ':Nv.ST),fr' 1=runesA t→fr' 56=.d (.list 5 (sub.map nodeD))→fr' 57=.d (.int .i64 sub.length)→fr' 58=.d (.int .i64 (j+1:Nat)) →
        fr' 7=boolsA (places t (Pat.Post t (LangJ (sub.take (j+1))) p))→_:=fun fr' σ' g1 g56 g57 g58 g7=>ih (j+1) fr' σ' (by omega) ⟨by omega,g1,g56,g57,g58,.inl g7⟩
      rcases hF with f7 | ⟨y,g,rest,f7,rfl⟩
      ·simp (disch:=omega) only [go_sem,f1,f7,f56,f57,f58,hlt,nodeD_eq,nodeC,← hx,boolsA]
       refine hc.at ?_
       simp (disch:=omega) only [go_sem,f58]
       refine fin _ _ ?_ ?_ ?_ ?_ ?_
       ·simp (disch:=omega) only [go_sem,f1]
       ·simp (disch:=omega) only [go_sem,f56]
       ·simp (disch:=omega) only [go_sem,f57]
       ·simp (disch:=omega) only [go_sem]
       ·simp (disch:=omega) only [go_sem]
      ·have e1:=take_all (boolsD (places t q)) (t.length+1) (by rw [boolsD_length,places_length])
       have e2:=places_length t q
       simp (disch:=omega) only [go_sem,f1,f7,f56,f57,f58,hlt,nodeD_eq,nodeC,← hx,Nat.zero_add,e1,e2,Nat.le_refl]
       refine hc.at ?_
       simp (disch:=omega) only [go_sem,f58]
       refine fin _ _ ?_ ?_ ?_ ?_ ?_
       ·simp (disch:=omega) only [go_sem,f1]
       ·simp (disch:=omega) only [go_sem,f56]
       ·simp (disch:=omega) only [go_sem,f57]
       ·simp (disch:=omega) only [go_sem]
       ·simp (disch:=omega) only [go_sem]
     ·rw [List.take_of_length_le (by omega)] at hq
      have e:places t q=out:=by rw [hq,eo]
      rw [e] at hF
      rcases hF with f7 | ⟨y,g,rest,f7,rfl⟩
      ·simp (disch:=omega) only [go_sem,f56,f57,f58,hlt]
       exact .inl (by simp (disch:=omega) only [go_sem,f7])
      ·simp (disch:=omega) only [go_sem,f56,f57,f58,hlt]
       exact .inr ⟨_,_,_,by simp (disch:=omega) only [go_sem,f7],rfl⟩
    ·have e0:places t (Pat.Post t (LangJ (sub.take 0)) p)=places t p:=places_congr fun j hj=>(post_congr (fun w=>langJ_nil w) p j).trans (post_eps t p hj)
     refine ⟨by omega,?_,?_,?_,?_,.inr ⟨?b3,0,[],?_,?_⟩⟩
     rotate_right 1
     ·rw [e0]
     ·simp (disch:=omega) only [go_sem,f1]
     ·simp (disch:=omega) only [go_sem]
     ·simp (disch:=omega) only [go_sem]
     ·simp (disch:=omega) only [go_sem]
     ·simp (disch:=omega) only [go_sem,f7]
   by_cases k4:k=4
   ·have eo:out=places t (Pat.Post t (LangC sub) p):=hout.trans (places_congr fun j hj=>post_congr (fun w=>by simp [Lang,k4]) p j)
    have e0:places t (Pat.Post t (LangC (sub.take 0)) p)=List.replicate (t.length+1) false:=places_none t _ fun j=>by
     rintro ⟨i,_,_,_,h⟩;simp [LangC] at h
    subst k4
    simp (disch:=omega) only [go_sem,f1,f2,f3,f7,boxF,boolsA,hpl]
    refine wL_ind (fun (j:Nat) fr σ=>j≤sub.length∧fr 1=runesA t∧fr 2=boolsA (places t p)∧fr 70=.d (.list 5 (sub.map nodeD))∧fr 71=.d (.int .i64 sub.length)∧fr 72=.d (.int .i64 j) ∧
     fr 7=.own 1 0 0 (t.length+1)∧∃ x rest,σ=x::.arr 0 ⟨1,4⟩ (boolsD (places t (Pat.Post t (LangC (sub.take j)) p)))::rest) (fun j=>sub.length - j) ?_ 0 ?_
    ·rintro j fr σ ⟨hj,f1,f2,f70,f71,f72,f7,y,rest,rfl⟩ ih
     obtain ⟨q,hq⟩:∃ q,q=Pat.Post t (LangC (sub.take j)) p:=⟨_,rfl⟩
     rw [← hq]
     by_cases hlt:j<sub.length
     ·obtain ⟨x,hx⟩:∃ x,x=sub.getD j default:=⟨_,rfl⟩
      have hxm:x∈sub:=by rw [hx];exact getD_mem sub j hlt
      have enext:orL (places t q) (places t (Pat.Post t (Lang x) p))=places t (Pat.Post t (LangC (sub.take (j+1))) p):=by
       rw [orL_places,hq,take_succ' sub j hlt,← hx]
       refine places_congr fun i hi=>?_
       constructor
       ·rintro (⟨i',h1,h2,h3,h4⟩ | ⟨i',h1,h2,h3,h4⟩)
        ·exact ⟨i',h1,h2,h3,by rw [langC_iff] at h4 ⊢;obtain ⟨z,hz,hl⟩:=h4;exact ⟨z,List.mem_append_left _ hz,hl⟩⟩
        ·exact ⟨i',h1,h2,h3,by rw [langC_iff];exact ⟨x,by simp,h4⟩⟩
       ·rintro ⟨i',h1,h2,h3,h4⟩
        rw [langC_iff] at h4
        obtain ⟨z,hz,hl⟩:=h4
        rcases List.mem_append.1 hz with hz | hz
        ·exact .inl ⟨i',h1,h2,h3,by rw [langC_iff];exact ⟨z,hz,hl⟩⟩
        ·rw [List.mem_singleton] at hz;subst hz;exact .inr ⟨i',h1,h2,h3,hl⟩
      have hc:=hih x hxm p
      simp (disch:=omega) only [go_sem,f1,f2,f7,f70,f71,f72,hlt,nodeD_eq,nodeC,← hx]
      refine hc.at ?_
      simp (disch:=omega) only [go_sem]
      refine (union49 (places t q) (places t (Pat.Post t (Lang x) p)) (by rw [places_length,places_length]) (by rw [places_length];omega) y 0 (t.length+1) (by rw [places_length]) _).at ?_
      rintro v σ' ⟨rfl,rfl⟩
      simp (disch:=omega) only [go_sem,f72]
      refine ih (j+1) _ _ (by omega) ⟨by omega,?_,?_,?_,?_,?_,?_,?b4,?r4,?_⟩
      rotate_right 1
      ·rw [enext]
      ·simp (disch:=omega) only [go_sem,f1]
      ·simp (disch:=omega) only [go_sem,f2]
      ·simp (disch:=omega) only [go_sem,f70]
      ·simp (disch:=omega) only [go_sem,f71]
      ·simp (disch:=omega) only [go_sem]
      ·simp (disch:=omega) only [go_sem,f7]
     ·rw [List.take_of_length_le (by omega)] at hq
      have e:places t q=out:=by rw [hq,eo]
      rw [e]
      simp (disch:=omega) only [go_sem,f70,f71,f72,hlt]
      exact .inr ⟨_,_,_,by simp (disch:=omega) only [go_sem,f7],rfl⟩
    ·refine ⟨by omega,?_,?_,?_,?_,?_,?_,?b5,[],?_⟩
     rotate_right 1
     ·rw [e0]
     ·simp (disch:=omega) only [go_sem,f1]
     ·simp (disch:=omega) only [go_sem,f2,boolsA]
     ·simp (disch:=omega) only [go_sem]
     ·simp (disch:=omega) only [go_sem]
     ·simp (disch:=omega) only [go_sem]
     ·simp (disch:=omega) only [go_sem,f7]
   have k5:k=5:=by simp [kindB,k1,k2,k3,k4] at hkB;exact hkB
   have hparts:(sub.length:Int)=1∧0≤a∧a≤20∧(b=-1∨(a≤b∧b≤20)):=by
    have:partsB k s sub.length a b=true:=by
     unfold badB at hbad
     cases hp:partsB k s sub.length a b
     ·rw [hp] at hbad;simp at hbad
     ·rfl
    rw [k5] at this
    simp [partsB] at this
    omega
   obtain ⟨h1,ha0,ha20,hab⟩:=hparts
   obtain ⟨x,rfl⟩:∃ x,sub=[x]:=by
    match sub,h1 with
    | [x],_=>exact ⟨x,rfl⟩
    | [],h=>simp at h
    | _::_::_,h=>simp at h;omega
   obtain ⟨an,rfl⟩:∃ an:Nat,a=an:=⟨a.toNat,by omega⟩
   have eL:∀ w,Lang (.mk k s [x] an b) w↔∃ n:Nat,an≤n∧(b<0∨(n:Int)≤b)∧Pow (Lang x) n w:=fun w=>by
    have e:(fun u=>Lang x u)=Lang x:=rfl
    simp [Lang,k5,LangP,e]
   have hc:=hih x (by simp)
   clear hih
   subst k5
   have z1:(0:Int)<((1:Nat):Int):=by decide
   obtain ⟨b0,l0,hpl0⟩:∃ b0 l0,places t p=b0::l0:=by
    cases hh:places t p with
    | nil=>rw [hh] at hpl;simp at hpl
    | cons b0 l0=>exact ⟨b0,l0,rfl⟩
   have hcl:=clone50 b0 l0 (by rw [hpl0] at hpl;simp at hpl;omega)
   rw [← hpl0] at hcl
   simp (disch:=omega) only [go_sem,f1,f2,f3,f7,boxF]
   refine hcl.at ?_
   simp (disch:=omega) only [go_sem,f3]
   refine wL_ind (fun (i:Nat) fr σ=>i≤an∧fr 1=runesA t∧fr 3=.ptr 0 0∧fr 7=.own 1 0 0 (t.length+1)∧fr 14=boolsA (places t (Pat.Post t (Pow (Lang x) i) p))∧fr 88=.d (.int .i64 an)∧fr 89=.d (.int .i64 i) ∧
    σ=[.box 25 (boxF 5 s [x] an b),.arr 0 ⟨1,4⟩ (boolsD (List.replicate (t.length+1) false))]) (fun i=>an - i) ?_ 0 ?_
   ·rintro i fr σ ⟨hi,f1,f3,f7,f14,f88,f89,rfl⟩ ih
    by_cases hlt:i<an
    ·have hc1:=hc (Pat.Post t (Pow (Lang x) i) p)
     rw [places_pow] at hc1
     simp (disch:=omega) only [go_sem,f1,f3,f7,f14,f88,f89,hlt,boxF,List.map_cons,List.map_nil,nodeD_eq,nodeC,z1]
     refine hc1.at ?_
     simp (disch:=omega) only [go_sem,f89]
     refine ih (i+1) _ _ (by omega) ⟨by omega,?_,?_,?_,?_,?_,?_,?_⟩
     ·simp (disch:=omega) only [go_sem,f1]
     ·simp (disch:=omega) only [go_sem,f3]
     ·simp (disch:=omega) only [go_sem,f7]
     ·simp (disch:=omega) only [go_sem]
     ·simp (disch:=omega) only [go_sem,f88]
     ·simp (disch:=omega) only [go_sem]
     ·simp (disch:=omega) only [go_sem,boxF,List.map_cons,List.map_nil,nodeD_eq,nodeC]
    ·obtain rfl:i=an:=by omega
     clear ih
     simp (disch:=omega) only [go_sem,f1,f3,f7,f14,f88,f89,hlt,boxF]
     refine (union49 (List.replicate (t.length+1) false) (places t (Pat.Post t (Pow (Lang x) i) p)) (by rw [List.length_replicate,places_length]) (by rw [List.length_replicate];omega) _ 0 (t.length+1) (by rw [List.length_replicate]) _).at ?_
     rintro v σ' ⟨rfl,rfl⟩
     have eu0:orL (List.replicate (t.length+1) false) (places t (Pat.Post t (Pow (Lang x) i) p))=places t (Pat.Post t (Upto (Lang x) i i) p):=by
      rw [← places_none t (fun _=>False) (fun _ h=>h),orL_places]
      refine places_congr fun j hj=>?_
      simp only [false_or]
      exact post_congr (fun w=>(upto_same _ _ w).symm) p j
     rw [eu0]
     simp (disch:=omega) only [go_sem,f3]
     refine wL_ind (fun (m:Nat) fr σ=>i≤m∧(0≤b→(m:Int)≤b)∧m+falses (places t (Pat.Post t (Upto (Lang x) i m) p))≤i+t.length+1∧fr 1=runesA t∧fr 3=.ptr 0 0∧fr 7=.own 1 0 0 (t.length+1) ∧
      fr 14=boolsA (places t (Pat.Post t (Pow (Lang x) m) p))∧fr 15=.d (.int .i64 m) ∧
      σ=[.box 25 (boxF 5 s [x] i b),.arr 0 ⟨1,4⟩ (boolsD (places t (Pat.Post t (Upto (Lang x) i m) p)))]) (fun m=>falses (places t (Pat.Post t (Upto (Lang x) i m) p))) ?_ i ?_
     ·rintro m fr σ ⟨him,hmb,hmf,f1,f3,f7,f14,f15,rfl⟩ ih
      have hc1:=hc (Pat.Post t (Pow (Lang x) m) p)
      rw [places_pow] at hc1
      have hgo:(b<0∨(m:Int)<b)∨¬ b<0∧(m:Int)=b:=by omega
      rcases hgo with hgo | ⟨hb0,hmb'⟩
      ·have hl1:=places_length t (Pat.Post t (Upto (Lang x) i m) p)
       have hl2:=places_length t (Pat.Post t (Pow (Lang x) (m+1)) p)
       obtain ⟨hf1,hf2⟩:=orL_falses (places t (Pat.Post t (Upto (Lang x) i m) p)) (places t (Pat.Post t (Pow (Lang x) (m+1)) p))
       have hu:=places_upto t p (Lang x) i m (by omega)
       rw [hu] at hf1 hf2
       have hun:=fun y:Blk=>union49 (places t (Pat.Post t (Upto (Lang x) i m) p)) (places t (Pat.Post t (Pow (Lang x) (m+1)) p)) (by rw [hl1,hl2]) (by rw [hl1];omega) y 0 (t.length+1) hl1.symm []
       simp only [hu] at hun
       have hfl:=falses_le (places t (Pat.Post t (Upto (Lang x) i m) p))
       have hm2:m+1≤1000000:=by omega
       by_cases hb0:b<0
       ·simp (disch:=omega) only [go_sem,f1,f3,f7,f14,f15,boxF,hb0,List.map_cons,List.map_nil,nodeD_eq,nodeC,z1]
        refine hc1.at ?_
        simp (disch:=omega) only [go_sem,f7]
        refine (hun _).at ?_
        rintro v σ' ⟨rfl,rfl⟩
        cases hg:grown (places t (Pat.Post t (Upto (Lang x) i m) p)) (places t (Pat.Post t (Pow (Lang x) (m+1)) p))
        ·have hst:=upto_stable t (Lang x) p i m him (fun j hj=>grown_places t _ _ hg j (post_le hj) hj)
         have e:places t (Pat.Post t (Upto (Lang x) i (m+1)) p)=out:=by
          rw [hout]
          refine places_congr fun j hj=>?_
          constructor
          ·rintro ⟨i',i1,i2,i3,n,n1,n2,n3⟩
           exact ⟨i',i1,i2,i3,(eL _).2 ⟨n,n1,by omega,n3⟩⟩
          ·rintro ⟨i',i1,i2,i3,h4⟩
           obtain ⟨n,n1,n2,n3⟩:=(eL _).1 h4
           obtain ⟨j1,j2,j3,j4,n',m1,m2,m3⟩:=hst (max m n) (Nat.le_max_left _ _) j ⟨i',i1,i2,i3,n,n1,Nat.le_max_right _ _,n3⟩
           exact ⟨j1,j2,j3,j4,n',m1,by omega,m3⟩
         simp (disch:=omega) only [go_sem,hg,e]
         exact .inr ⟨_,_,_,by simp (disch:=omega) only [go_sem,f7],rfl⟩
        ·have hlt2:=hf2 hg
         simp (disch:=omega) only [go_sem,hg,f15]
         refine ih (m+1) _ _ hlt2 ⟨by omega,fun _=>by omega,by omega,?_,?_,?_,?_,?_,?_⟩
         ·simp (disch:=omega) only [go_sem,f1]
         ·simp (disch:=omega) only [go_sem,f3]
         ·simp (disch:=omega) only [go_sem,f7]
         ·simp (disch:=omega) only [go_sem]
         ·simp (disch:=omega) only [go_sem]
         ·simp (disch:=omega) only [go_sem,boxF,List.map_cons,List.map_nil,nodeD_eq,nodeC]
       ·have hlt:(m:Int)<b:=by omega
        simp (disch:=omega) only [go_sem,f1,f3,f7,f14,f15,boxF,hb0,hlt,List.map_cons,List.map_nil,nodeD_eq,nodeC,z1]
        refine hc1.at ?_
        simp (disch:=omega) only [go_sem,f7]
        refine (hun _).at ?_
        rintro v σ' ⟨rfl,rfl⟩
        cases hg:grown (places t (Pat.Post t (Upto (Lang x) i m) p)) (places t (Pat.Post t (Pow (Lang x) (m+1)) p))
        ·have hst:=upto_stable t (Lang x) p i m him (fun j hj=>grown_places t _ _ hg j (post_le hj) hj)
         have e:places t (Pat.Post t (Upto (Lang x) i (m+1)) p)=out:=by
          rw [hout]
          refine places_congr fun j hj=>?_
          constructor
          ·rintro ⟨i',i1,i2,i3,n,n1,n2,n3⟩
           exact ⟨i',i1,i2,i3,(eL _).2 ⟨n,n1,by omega,n3⟩⟩
          ·rintro ⟨i',i1,i2,i3,h4⟩
           obtain ⟨n,n1,n2,n3⟩:=(eL _).1 h4
           obtain ⟨j1,j2,j3,j4,n',m1,m2,m3⟩:=hst (max m n) (Nat.le_max_left _ _) j ⟨i',i1,i2,i3,n,n1,Nat.le_max_right _ _,n3⟩
           exact ⟨j1,j2,j3,j4,n',m1,by omega,m3⟩
         simp (disch:=omega) only [go_sem,hg,e]
         exact .inr ⟨_,_,_,by simp (disch:=omega) only [go_sem,f7],rfl⟩
        ·have hlt2:=hf2 hg
         simp (disch:=omega) only [go_sem,hg,f15]
         refine ih (m+1) _ _ hlt2 ⟨by omega,fun _=>by omega,by omega,?_,?_,?_,?_,?_,?_⟩
         ·simp (disch:=omega) only [go_sem,f1]
         ·simp (disch:=omega) only [go_sem,f3]
         ·simp (disch:=omega) only [go_sem,f7]
         ·simp (disch:=omega) only [go_sem]
         ·simp (disch:=omega) only [go_sem]
         ·simp (disch:=omega) only [go_sem,boxF,List.map_cons,List.map_nil,nodeD_eq,nodeC]
      ·have e:places t (Pat.Post t (Upto (Lang x) i m) p)=out:=by
        rw [hout]
        refine places_congr fun j hj=>post_congr (fun w=>?_) p j
        rw [eL]
        constructor
        ·rintro ⟨n,n1,n2,n3⟩;exact ⟨n,n1,.inr (by omega),n3⟩
        ·rintro ⟨n,n1,n2,n3⟩;exact ⟨n,n1,by omega,n3⟩
       have hlt:¬ (m:Int)<b:=by omega
       rw [e]
       simp (disch:=omega) only [go_sem,f1,f3,f7,f14,f15,boxF,hb0,hlt]
       exact .inr ⟨_,_,_,by simp (disch:=omega) only [go_sem,f7],rfl⟩
     ·have hfl:=falses_le (places t (Pat.Post t (Upto (Lang x) i i) p))
      rw [places_length] at hfl
      refine ⟨Nat.le_refl _,fun h=>by omega,by omega,?_,?_,?_,?_,?_,rfl⟩
      ·simp (disch:=omega) only [go_sem,f1]
      ·simp (disch:=omega) only [go_sem,f3]
      ·simp (disch:=omega) only [go_sem,f7]
      ·simp (disch:=omega) only [go_sem,f14]
      ·simp (disch:=omega) only [go_sem]
   ·have ep0:places t p=places t (Pat.Post t (Pow (Lang x) 0) p):=places_congr fun j hj=>(post_eps t p hj).symm.trans (post_congr (fun w=>(pow_zero _ w).symm) p j)
    refine ⟨by omega,?_,?_,?_,?_,?_,?_,rfl⟩
    ·simp (disch:=omega) only [go_sem,f1]
    ·simp (disch:=omega) only [go_sem,f3]
    ·simp (disch:=omega) only [go_sem,f7]
    ·rw [← ep0];simp (disch:=omega) only [go_sem]
    ·simp (disch:=omega) only [go_sem]
    ·simp (disch:=omega) only [go_sem]
  rintro fr σ (f7 | ⟨x,g,rest,f7,rfl⟩)
  ·simp (disch:=omega) only [go_sem,f7,boolsA]
  ·have e1:=take_all (boolsD out) (t.length+1) (by rw [boolsD_length,hol])
   simp (disch:=omega) only [go_sem,f7,boolsA,Nat.zero_add,hol,e1,Nat.le_refl]
end Go.Proofs.YtngdkenddfdhaaaGreatDoor
set_option linter.unusedVariables false
set_option linter.unusedSimpArgs false
set_option maxRecDepth 100000
namespace Go.Proofs.YtngdkenddfdhaaaGreatDoor
open Go Nv Pat
structure Sq where
 value:Int
 missing:Int
 low:Int
 high:Int
 deriving Inhabited
def Sq.avs (s:Sq):List AV:=[.d (.int .i32 s.value),.d (.int .i64 s.missing),.d (.int .u8 s.low),.d (.int .u8 s.high)]
def Sq.av (s:Sq):AV:=.agg s.avs
def m8 (b m:Int):Int:=((BitVec.ofInt 8 b &&& BitVec.ofInt 8 m).toNat:Int)
def beginM (b:Int):Sq :=
 if 194≤b∧b≤223 then ⟨m8 b 31,1,128,191⟩
 else if 224≤b∧b≤239 then ⟨m8 b 15,2,if b=224 then 160 else 128,if b=237 then 159 else 191⟩
 else if 240≤b∧b≤244 then ⟨m8 b 7,3,if b=240 then 144 else 128,if b=244 then 143 else 191⟩
 else ⟨0,0,128,191⟩
inductive OkSeq:List UInt8→Prop
 | one {b:UInt8}:b.toNat<128→OkSeq [b]
 | two {b c:UInt8}:(beginM (bt b)).missing=1→(beginM (bt b)).low≤bt c→bt c≤(beginM (bt b)).high→OkSeq [b,c]
 | three {b c d:UInt8}:(beginM (bt b)).missing=2→(beginM (bt b)).low≤bt c→bt c≤(beginM (bt b)).high→128≤bt d→bt d≤191→OkSeq [b,c,d]
 | four {b c d e:UInt8}:(beginM (bt b)).missing=3→(beginM (bt b)).low≤bt c→bt c≤(beginM (bt b)).high→128≤bt d→bt d≤191→128≤bt e→bt e≤191→OkSeq [b,c,d,e]
theorem first_begin:∀ b:Fin 256,128≤b.val →
  ((beginM (b.val:Int)).missing=0∧Lib.firstT b.val % 8≠2∧Lib.firstT b.val % 8≠3∧Lib.firstT b.val % 8≠4) ∨
  ((beginM (b.val:Int)).missing+1=(Lib.firstT b.val % 8:Nat)∧(Lib.firstT b.val % 8=2∨Lib.firstT b.val % 8=3∨Lib.firstT b.val % 8=4) ∧
   (beginM (b.val:Int)).low=(Lib.accLo (Lib.firstT b.val / 16):Nat)∧(beginM (b.val:Int)).high=(Lib.accHi (Lib.firstT b.val / 16):Nat)):=by decide +kernel
theorem begin_first (b:UInt8) (h:128≤b.toNat) :
  ((beginM (bt b)).missing=0∧Lib.firstT b.toNat % 8≠2∧Lib.firstT b.toNat % 8≠3∧Lib.firstT b.toNat % 8≠4) ∨
  ((beginM (bt b)).missing+1=(Lib.firstT b.toNat % 8:Nat)∧(Lib.firstT b.toNat % 8=2∨Lib.firstT b.toNat % 8=3∨Lib.firstT b.toNat % 8=4) ∧
   (beginM (bt b)).low=(Lib.accLo (Lib.firstT b.toNat / 16):Nat)∧(beginM (bt b)).high=(Lib.accHi (Lib.firstT b.toNat / 16):Nat)) :=
 first_begin ⟨b.toNat,b.toNat_lt⟩ h
theorem valid_split {s:List UInt8} (h:Lib.validD s=true) (hne:s≠[]):∃ p r,s=p++r∧OkSeq p∧Lib.validD r=true:=by
 cases s with
 | nil=>exact absurd rfl hne
 | cons b t =>
  rcases Nat.lt_or_ge b.toNat 128 with hb | hb
  ·exact ⟨[b],t,rfl,.one hb,by rwa [Lib.validD_cons _ _ hb] at h⟩
  ·rw [Lib.validD_lead _ (by simp) (by simpa using hb)] at h
   simp only [List.getD_cons_zero,List.getD_cons_succ,List.length_cons] at h
   rcases begin_first b hb with ⟨k1,k2,k3,k4⟩ | ⟨k1,k2,k3,k4⟩
   ·simp only [Lib.checkN,k2,k3,k4,if_false] at h;exact absurd h (by simp)
   ·rcases k2 with e | e | e
    ·simp only [e,Lib.checkN,if_true] at h
     split at h
     ·exact absurd h (by simp)
     ·rename_i hk
      split at hk
      ·cases hk
      ·rename_i hc
       cases hk
       match t,hc with
       | [],hc=>simp at hc
       | c::t,hc =>
        simp only [List.getD_cons_zero,List.getD_cons_succ,List.length_cons] at hc
        refine ⟨[b,c],t,rfl,.two (by omega) ?_ ?_,by simpa using h⟩ <;> (unfold bt at *;omega)
    ·simp only [e,Lib.checkN,if_true,show ¬ (3:Nat)=2 by omega,if_false] at h
     split at h
     ·exact absurd h (by simp)
     ·rename_i hk
      split at hk
      ·cases hk
      ·rename_i hc
       cases hk
       match t,hc with
       | [],hc=>simp at hc
       | [c],hc=>simp at hc
       | c::d::t,hc =>
        simp only [List.getD_cons_zero,List.getD_cons_succ,List.length_cons] at hc
        refine ⟨[b,c,d],t,rfl,.three (by omega) ?_ ?_ ?_ ?_,by simpa using h⟩ <;> (unfold bt at *;omega)
    ·simp only [e,Lib.checkN,if_true,show ¬ (4:Nat)=2 by omega,show ¬ (4:Nat)=3 by omega,if_false] at h
     split at h
     ·exact absurd h (by simp)
     ·rename_i hk
      split at hk
      ·cases hk
      ·rename_i hc
       cases hk
       match t,hc with
       | [],hc=>simp at hc
       | [c],hc=>simp at hc
       | [c,d],hc=>simp at hc
       | c::d::f::t,hc =>
        simp only [List.getD_cons_zero,List.getD_cons_succ,List.length_cons] at hc
        refine ⟨[b,c,d,f],t,rfl,.four (by omega) ?_ ?_ ?_ ?_ ?_ ?_,by simpa using h⟩ <;> (unfold bt at *;omega)
theorem valid_ind {P:List UInt8→Prop} (h0:P []) (h1:∀ p r,OkSeq p→Lib.validD r=true→P r→P (p++r)):∀ (n:Nat) (s:List UInt8),s.length≤n→Lib.validD s=true→P s
 | 0,s,hn,_=>by rw [List.eq_nil_of_length_eq_zero (l:=s) (by omega)];exact h0
 | n+1,s,hn,hv=>by
  by_cases hne:s=[]
  ·rw [hne];exact h0
  ·obtain ⟨p,r,rfl,hp,hr⟩:=valid_split hv hne
   have hl:0<p.length:=by cases hp <;> simp
   rw [List.length_append] at hn
   exact h1 p r hp hr (valid_ind h0 h1 n r (by omega) hr)
end Go.Proofs.YtngdkenddfdhaaaGreatDoor
set_option linter.unusedVariables false
set_option linter.unusedSimpArgs false
set_option maxRecDepth 100000
namespace Go.Proofs.YtngdkenddfdhaaaGreatDoor
open Go Nv Pat
theorem begin46 (b:Int):PCall Tryz.prog 57 [.d (.int .u8 b)] (beginM b).av:=by
 refine fn57.pure noHint (Nat.le_refl _) (by simp only [go_sem]) (by simp only [go_sem,Sq.av,Sq.avs]) ?_
 simp (disch:=omega) only [go_sem]
 have n224:b<224→¬ b=224∧¬ b=237∧¬ b=240∧¬ b=244:=fun _=>by omega
 by_cases h1:194≤b∧b≤223
 ·have e:beginM b=⟨m8 b 31,1,128,191⟩:=if_pos h1
  have h1a:b ≥ 194:=h1.1
  have h1b:=h1.2
  obtain ⟨q1,q2,q3,q4⟩:=n224 (by omega)
  simp (disch:=omega) only [go_sem,h1a,h1b,q1,q2,q3,q4,e,Sq.av,Sq.avs,m8]
  rfl
 by_cases h2:224≤b∧b≤239
 ·have e:beginM b=⟨m8 b 15,2,if b=224 then 160 else 128,if b=237 then 159 else 191⟩:=by rw [beginM,if_neg h1,if_pos h2]
  have h2a:b ≥ 224:=h2.1
  have h2b:=h2.2
  have h1a:b ≥ 194:=by omega
  have h1b:¬ b≤223:=by omega
  have q3:¬ b=240:=by omega
  have q4:¬ b=244:=by omega
  by_cases q1:b=224
  ·have q2:¬ b=237:=by omega
   rw [if_pos q1,if_neg q2] at e
   simp (disch:=omega) only [go_sem,h1a,h1b,h2a,h2b,e,Sq.av,Sq.avs,m8]
   simp (disch:=omega) only [go_sem,q1]
   rfl
  ·by_cases q2:b=237
   ·rw [if_neg q1,if_pos q2] at e
    simp (disch:=omega) only [go_sem,h1a,h1b,h2a,h2b,e,Sq.av,Sq.avs,m8]
    simp (disch:=omega) only [go_sem,q1]
    simp (disch:=omega) only [go_sem,q2]
    rfl
   ·rw [if_neg q1,if_neg q2] at e
    simp (disch:=omega) only [go_sem,h1a,h1b,h2a,h2b,e,Sq.av,Sq.avs,m8,q1,q2,q3,q4]
    rfl
 by_cases h3:240≤b∧b≤244
 ·have e:beginM b=⟨m8 b 7,3,if b=240 then 144 else 128,if b=244 then 143 else 191⟩:=by rw [beginM,if_neg h1,if_neg h2,if_pos h3]
  have h3a:b ≥ 240:=h3.1
  have h3b:=h3.2
  have h1a:b ≥ 194:=by omega
  have h1b:¬ b≤223:=by omega
  have h2a:b ≥ 224:=by omega
  have h2b:¬ b≤239:=by omega
  have q1:¬ b=224:=by omega
  have q2:¬ b=237:=by omega
  by_cases q3:b=240
  ·have q4:¬ b=244:=by omega
   rw [if_pos q3,if_neg q4] at e
   simp (disch:=omega) only [go_sem,h1a,h1b,h2a,h2b,h3a,h3b,e,Sq.av,Sq.avs,m8,q1,q2]
   simp (disch:=omega) only [go_sem,q3]
   rfl
  ·by_cases q4:b=244
   ·rw [if_neg q3,if_pos q4] at e
    simp (disch:=omega) only [go_sem,h1a,h1b,h2a,h2b,h3a,h3b,e,Sq.av,Sq.avs,m8,q1,q2,q3]
    simp (disch:=omega) only [go_sem,q4]
    rfl
   ·rw [if_neg q3,if_neg q4] at e
    simp (disch:=omega) only [go_sem,h1a,h1b,h2a,h2b,h3a,h3b,e,Sq.av,Sq.avs,m8,q1,q2,q3,q4]
    rfl
 ·have e:beginM b=⟨0,0,128,191⟩:=by rw [beginM,if_neg h1,if_neg h2,if_neg h3]
  have q1:¬ b=224:=by omega
  have q2:¬ b=237:=by omega
  have q3:¬ b=240:=by omega
  have q4:¬ b=244:=by omega
  by_cases h1a:b ≥ 194
  ·have h1b:¬ b≤223:=by omega
   have h2a:b ≥ 224:=by omega
   have h2b:¬ b≤239:=by omega
   have h3a:b ≥ 240:=by omega
   have h3b:¬ b≤244:=by omega
   simp (disch:=omega) only [go_sem,h1a,h1b,h2a,h2b,h3a,h3b,e,Sq.av,Sq.avs,q1,q2,q3,q4]
  ·have h2a:¬ b ≥ 224:=by omega
   have h3a:¬ b ≥ 240:=by omega
   simp (disch:=omega) only [go_sem,h1a,h2a,h3a,e,Sq.av,Sq.avs,q1,q2,q3,q4]
end Go.Proofs.YtngdkenddfdhaaaGreatDoor
set_option linter.unusedVariables false
set_option linter.unusedSimpArgs false
set_option maxRecDepth 100000
namespace Go.Proofs.YtngdkenddfdhaaaGreatDoor
open Go Nv Pat
def hintD:Nat→Hint:=fun i=>if i=7 then .own ⟨1,21⟩ else .no
@[go_sem] theorem hintD_at (i:Nat):hintD i=if i=7 then .own ⟨1,21⟩ else .no:=nrfl rfl
def valM (v b:Int):Int:=IntKind.i32.wrap ((BitVec.ofInt 32 (IntKind.i32.wrap (v * 2 ^ min 6 32)) ||| BitVec.ofInt 32 (m8 b 63)).toNat:Int)
def goesOn (q:Sq) (b:Int):Prop:=0<q.missing∧q.low≤b∧b≤q.high
instance (q:Sq) (b:Int):Decidable (goesOn q b):=inferInstanceAs (Decidable (_∧_∧_))
structure Dec where
 out:List Int
 q:Sq
 start:Nat
def more (q:Sq) (b:Int):Sq:=⟨valM q.value b,q.missing - 1,128,191⟩
def stepD (d:Dec) (i:Nat) (b:Int):Dec :=
 if goesOn d.q b then
  ⟨if d.q.missing - 1=0 then d.out++[valM d.q.value b] else d.out,more d.q b,d.start⟩
 else
  let out:=if 0<d.q.missing then d.out++[65533] else d.out
  ⟨if b<128 then out++[b] else if (beginM b).missing=0 then out++[65533] else out,beginM b,i⟩
def decL:List UInt8→Nat→Dec→Dec
 | [],_,d=>d
 | b::l,i,d=>decL l (i+1) (stepD d i (bt b))
def dec0:Dec:=⟨[],⟨0,0,0,0⟩,0⟩
def decM (s:List UInt8):Dec:=decL s 0 dec0
def restM (s:List UInt8):List UInt8:=if (decM s).q.missing=0 then [] else s.drop (decM s).start
theorem begin_miss (b:Int):0≤(beginM b).missing∧(beginM b).missing≤3:=by
 unfold beginM;split
 ·simp
 ·split
  ·simp
  ·split <;> simp
theorem step_ok (d:Dec) (i:Nat) (b:Int) (hm:0≤d.q.missing∧d.q.missing≤3) (hs:d.start≤i) (ho:d.out.length≤2 * i) :
  (0≤(stepD d i b).q.missing∧(stepD d i b).q.missing≤3)∧(stepD d i b).start≤i+1∧(stepD d i b).out.length≤2 * (i+1):=by
 unfold stepD
 split
 ·rename_i h
  obtain ⟨h1,_,_⟩:=h
  refine ⟨⟨by simp only [more];omega,by simp only [more];omega⟩,by first | omega | (dsimp only;omega),?_⟩
  try dsimp only
  split <;> (try simp) <;> omega
 ·refine ⟨begin_miss b,by first | omega | (dsimp only;omega),?_⟩
  try dsimp only
  split <;> split <;> (try split) <;> (try simp) <;> omega
theorem decode31 (s:List UInt8) (hs:s.length≤100000) (σ:Nv.ST):RCall Tryz.prog 32 [.d (.str []),.d (.str s)] σ fun v σ' =>
  ∃ g n τ,n=(decM s).out.length∧v=.tuple [.own σ.length g 0 n,.d (.str (restM s))]∧σ'=σ++.arr g ⟨1,21⟩ (runesD (decM s).out)::τ:=by
 refine fn32.rel hintD (Nat.le_refl _) ?_
 have e0:0+s.length≤9223372036854775807:=by omega
 simp (disch:=omega) only [go_sem,e0]
 refine wL_ind (fun (i:Nat) fr σ'=>i≤s.length∧fr 6=.d (.str s)∧fr 8=.ptr (σ.length+1) 0∧fr 16=.d (.int .i64 s.length)∧fr 17=.d (.int .i64 i) ∧
  ∃ (d:Dec) (g n:Nat) (τ:Nv.ST),decL (s.drop i) i d=decM s∧(0≤d.q.missing∧d.q.missing≤3)∧d.start≤i∧d.out.length≤2 * i∧n=d.out.length∧fr 7=.own σ.length g 0 n∧fr 9=.d (.int .i64 d.start) ∧
   σ'=σ++.arr g ⟨1,21⟩ (runesD d.out)::.box 97 d.q.avs::τ) (fun i=>s.length - i) ?_ 0 ?_
 ·rintro i fr σ' ⟨hi,f6,f8,f16,f17,⟨out,q,start⟩,g,n,τ,hd,hm,hst,hol,hn,f7,f9,rfl⟩ ih
  simp only at hm hst hol hn f9
  by_cases hlt:i<s.length
  ·obtain ⟨b,hb⟩:∃ b,b=s.getD i 0:=⟨_,rfl⟩
   have hdr:s.drop i=b::s.drop (i+1):=by
    rw [hb,List.drop_eq_getElem_cons hlt,List.getD_eq_getElem?_getD,List.getElem?_eq_getElem hlt];rfl
   rw [hdr,decL] at hd
   obtain ⟨k1,k2,k3⟩:=step_ok ⟨out,q,start⟩ i (bt b) hm hst hol
   have hn2:(n+1) * 4≤140737488355328:=by omega
   have hn3:(n+1+1) * 4≤140737488355328:=by omega
   have hta:=take_all (runesD out) n (by rw [runesD_length,hn])
   simp (disch:=omega) only [go_sem,f6,f8,f16,f17,hlt,Sq.avs,← hb,List.append_assoc,List.cons_append,List.nil_append,List.length_append,apR]
   by_cases hg:goesOn q (bt b)
   ·obtain ⟨g1,g2,g3⟩:=hg
    have es:stepD ⟨out,q,start⟩ i (bt b)=⟨if q.missing - 1=0 then out++[valM q.value (bt b)] else out,more q (bt b),start⟩:=if_pos ⟨g1,g2,g3⟩
    rw [es] at hd k1 k2 k3
    simp only [bt] at g2 g3
    have hw:IntKind.i64.wrap (q.missing - 1)=q.missing - 1:=wrap_id (by omega) (by omega)
    simp (disch:=omega) only [go_sem,g1,g2,g3,f8,Sq.avs,hw,List.append_assoc,List.cons_append,List.nil_append,List.length_append,apR]
    by_cases c4:q.missing - 1=0
    ·rw [if_pos c4] at hd k3
     simp (disch:=omega) only [go_sem,c4,f7,f8,hn2,hta,runesD_length,← hn,Nat.zero_add,Nat.le_refl,f17,List.append_assoc,List.cons_append,List.nil_append,List.length_append,apR]
     refine ih (i+1) _ _ (by omega) ⟨by omega,?_,?_,?_,?_,_,g+1,n+1,τ++[.arr 0 ⟨1,21⟩ [.int .i32 (valM q.value (bt b))]],hd,k1,k2,k3,?_,?_,?_,?_⟩
     ·simp (disch:=omega) only [go_sem,f6]
     ·simp (disch:=omega) only [go_sem,f8]
     ·simp (disch:=omega) only [go_sem,f16]
     ·simp (disch:=omega) only [go_sem]
     ·simp [hn]
     ·simp (disch:=omega) only [go_sem]
     ·simp (disch:=omega) only [go_sem,f9]
     ·simp only [Sq.avs,more,c4,runesD,List.map_append,List.append_assoc,List.cons_append];rfl
    ·rw [if_neg c4] at hd k3
     simp (disch:=omega) only [go_sem,c4,f17,f8,List.append_assoc,List.cons_append,List.nil_append,List.length_append,apR]
     refine ih (i+1) _ _ (by omega) ⟨by omega,?_,?_,?_,?_,_,g,n,τ,hd,k1,k2,k3,hn,?_,?_,?_⟩
     ·simp (disch:=omega) only [go_sem,f6]
     ·simp (disch:=omega) only [go_sem,f8]
     ·simp (disch:=omega) only [go_sem,f16]
     ·simp (disch:=omega) only [go_sem]
     ·simp (disch:=omega) only [go_sem,f7]
     ·simp (disch:=omega) only [go_sem,f9]
     ·rfl
   ·have h256:(b.toNat:Int)<256:=by have:=b.toNat_lt;omega
    have es1:stepD ⟨out,q,start⟩ i (bt b)=⟨if bt b<128 then (if 0<q.missing then out++[65533] else out)++[bt b] else if (beginM (bt b)).missing=0 then (if 0<q.missing then out++[65533] else out)++[65533] else (if 0<q.missing then out++[65533] else out),beginM (bt b),i⟩:=if_neg hg
    have hn4:n+1=(out++[65533]).length:=by simp [hn]
    have hta2:=take_all (runesD out++[DV.int .i32 65533]) (n+1) (by simp [runesD_length,hn])
    by_cases c1:0<q.missing
    ·simp only [if_pos c1] at es1
     have es0:=es1
     by_cases c2:q.low≤(b.toNat:Int)
     ·have c3:¬ (b.toNat:Int)≤q.high:=fun h=>hg ⟨c1,c2,h⟩
      simp (disch:=omega) only [go_sem,c1,c2,c3,f8,Sq.avs,hn2,hta,runesD_length,← hn,Nat.zero_add,Nat.le_refl,f7,List.append_assoc,List.cons_append,List.nil_append,List.length_append,apR]
      refine (begin46 (bt b)).at ?_
      simp (disch:=omega) only [go_sem,Sq.av,Sq.avs,f8,bt,List.append_assoc,List.cons_append,List.nil_append,List.length_append,apR]
      by_cases c5:(b.toNat:Int)<128
      ·have es:stepD ⟨out,q,start⟩ i (bt b)=⟨(out++[65533])++[bt b],beginM (bt b),i⟩:=by rw [es0,if_pos (show bt b<128 from c5)]
       rw [es] at hd k1 k2 k3
       simp (disch:=omega) only [go_sem,c5,hn2,hn3,hta,hta2,runesD_length,← hn,Nat.zero_add,Nat.le_refl,f17,f7,List.append_assoc,List.cons_append,List.nil_append,List.length_append,apR]
       refine ih (i+1) _ _ (by omega) ⟨by omega,?_,?_,?_,?_,_,g+1+1,n+1+1,τ++[.arr 0 ⟨1,21⟩ [.int .i32 65533],.arr 0 ⟨1,21⟩ [.int .i32 (bt b)]],hd,k1,k2,k3,?_,?_,?_,?_⟩
       ·simp (disch:=omega) only [go_sem,f6]
       ·simp (disch:=omega) only [go_sem,f8]
       ·simp (disch:=omega) only [go_sem,f16]
       ·simp (disch:=omega) only [go_sem]
       ·simp [hn]
       ·simp (disch:=omega) only [go_sem,f7]
       ·simp (disch:=omega) only [go_sem]
       ·simp only [runesD,List.map_append,List.append_assoc,List.cons_append,List.nil_append];rfl
      ·by_cases c6:(beginM (b.toNat:Int)).missing=0
       ·have es:stepD ⟨out,q,start⟩ i (bt b)=⟨(out++[65533])++[65533],beginM (bt b),i⟩:=by rw [es0,if_neg (show ¬ bt b<128 from c5),if_pos (show (beginM (bt b)).missing=0 from c6)]
        rw [es] at hd k1 k2 k3
        simp (disch:=omega) only [go_sem,c5,c6,f8,Sq.avs,hn2,hn3,hta,hta2,runesD_length,← hn,Nat.zero_add,Nat.le_refl,f17,f7,List.append_assoc,List.cons_append,List.nil_append,List.length_append,apR]
        refine ih (i+1) _ _ (by omega) ⟨by omega,?_,?_,?_,?_,_,g+1+1,n+1+1,τ++[.arr 0 ⟨1,21⟩ [.int .i32 65533],.arr 0 ⟨1,21⟩ [.int .i32 65533]],hd,k1,k2,k3,?_,?_,?_,?_⟩
        ·simp (disch:=omega) only [go_sem,f6]
        ·simp (disch:=omega) only [go_sem,f8]
        ·simp (disch:=omega) only [go_sem,f16]
        ·simp (disch:=omega) only [go_sem]
        ·simp [hn]
        ·simp (disch:=omega) only [go_sem,f7]
        ·simp (disch:=omega) only [go_sem]
        ·simp only [runesD,Sq.avs,bt,c6,List.map_append,List.append_assoc,List.cons_append,List.nil_append];rfl
       ·have es:stepD ⟨out,q,start⟩ i (bt b)=⟨out++[65533],beginM (bt b),i⟩:=by rw [es0,if_neg (show ¬ bt b<128 from c5),if_neg (show ¬ (beginM (bt b)).missing=0 from c6)]
        rw [es] at hd k1 k2 k3
        simp (disch:=omega) only [go_sem,c5,c6,f8,Sq.avs,hn2,hn3,hta,hta2,runesD_length,← hn,Nat.zero_add,Nat.le_refl,f17,f7,List.append_assoc,List.cons_append,List.nil_append,List.length_append,apR]
        refine ih (i+1) _ _ (by omega) ⟨by omega,?_,?_,?_,?_,_,g+1,n+1,τ++[.arr 0 ⟨1,21⟩ [.int .i32 65533]],hd,k1,k2,k3,?_,?_,?_,?_⟩
        ·simp (disch:=omega) only [go_sem,f6]
        ·simp (disch:=omega) only [go_sem,f8]
        ·simp (disch:=omega) only [go_sem,f16]
        ·simp (disch:=omega) only [go_sem]
        ·simp [hn]
        ·simp (disch:=omega) only [go_sem,f7]
        ·simp (disch:=omega) only [go_sem]
        ·simp only [runesD,List.map_append,List.append_assoc,List.cons_append,List.nil_append];rfl
     ·simp (disch:=omega) only [go_sem,c1,c2,f8,Sq.avs,hn2,hta,runesD_length,← hn,Nat.zero_add,Nat.le_refl,f7,List.append_assoc,List.cons_append,List.nil_append,List.length_append,apR]
      refine (begin46 (bt b)).at ?_
      simp (disch:=omega) only [go_sem,Sq.av,Sq.avs,f8,bt,List.append_assoc,List.cons_append,List.nil_append,List.length_append,apR]
      by_cases c5:(b.toNat:Int)<128
      ·have es:stepD ⟨out,q,start⟩ i (bt b)=⟨(out++[65533])++[bt b],beginM (bt b),i⟩:=by rw [es0,if_pos (show bt b<128 from c5)]
       rw [es] at hd k1 k2 k3
       simp (disch:=omega) only [go_sem,c5,hn2,hn3,hta,hta2,runesD_length,← hn,Nat.zero_add,Nat.le_refl,f17,f7,List.append_assoc,List.cons_append,List.nil_append,List.length_append,apR]
       refine ih (i+1) _ _ (by omega) ⟨by omega,?_,?_,?_,?_,_,g+1+1,n+1+1,τ++[.arr 0 ⟨1,21⟩ [.int .i32 65533],.arr 0 ⟨1,21⟩ [.int .i32 (bt b)]],hd,k1,k2,k3,?_,?_,?_,?_⟩
       ·simp (disch:=omega) only [go_sem,f6]
       ·simp (disch:=omega) only [go_sem,f8]
       ·simp (disch:=omega) only [go_sem,f16]
       ·simp (disch:=omega) only [go_sem]
       ·simp [hn]
       ·simp (disch:=omega) only [go_sem,f7]
       ·simp (disch:=omega) only [go_sem]
       ·simp only [runesD,List.map_append,List.append_assoc,List.cons_append,List.nil_append];rfl
      ·by_cases c6:(beginM (b.toNat:Int)).missing=0
       ·have es:stepD ⟨out,q,start⟩ i (bt b)=⟨(out++[65533])++[65533],beginM (bt b),i⟩:=by rw [es0,if_neg (show ¬ bt b<128 from c5),if_pos (show (beginM (bt b)).missing=0 from c6)]
        rw [es] at hd k1 k2 k3
        simp (disch:=omega) only [go_sem,c5,c6,f8,Sq.avs,hn2,hn3,hta,hta2,runesD_length,← hn,Nat.zero_add,Nat.le_refl,f17,f7,List.append_assoc,List.cons_append,List.nil_append,List.length_append,apR]
        refine ih (i+1) _ _ (by omega) ⟨by omega,?_,?_,?_,?_,_,g+1+1,n+1+1,τ++[.arr 0 ⟨1,21⟩ [.int .i32 65533],.arr 0 ⟨1,21⟩ [.int .i32 65533]],hd,k1,k2,k3,?_,?_,?_,?_⟩
        ·simp (disch:=omega) only [go_sem,f6]
        ·simp (disch:=omega) only [go_sem,f8]
        ·simp (disch:=omega) only [go_sem,f16]
        ·simp (disch:=omega) only [go_sem]
        ·simp [hn]
        ·simp (disch:=omega) only [go_sem,f7]
        ·simp (disch:=omega) only [go_sem]
        ·simp only [runesD,Sq.avs,bt,c6,List.map_append,List.append_assoc,List.cons_append,List.nil_append];rfl
       ·have es:stepD ⟨out,q,start⟩ i (bt b)=⟨out++[65533],beginM (bt b),i⟩:=by rw [es0,if_neg (show ¬ bt b<128 from c5),if_neg (show ¬ (beginM (bt b)).missing=0 from c6)]
        rw [es] at hd k1 k2 k3
        simp (disch:=omega) only [go_sem,c5,c6,f8,Sq.avs,hn2,hn3,hta,hta2,runesD_length,← hn,Nat.zero_add,Nat.le_refl,f17,f7,List.append_assoc,List.cons_append,List.nil_append,List.length_append,apR]
        refine ih (i+1) _ _ (by omega) ⟨by omega,?_,?_,?_,?_,_,g+1,n+1,τ++[.arr 0 ⟨1,21⟩ [.int .i32 65533]],hd,k1,k2,k3,?_,?_,?_,?_⟩
        ·simp (disch:=omega) only [go_sem,f6]
        ·simp (disch:=omega) only [go_sem,f8]
        ·simp (disch:=omega) only [go_sem,f16]
        ·simp (disch:=omega) only [go_sem]
        ·simp [hn]
        ·simp (disch:=omega) only [go_sem,f7]
        ·simp (disch:=omega) only [go_sem]
        ·simp only [runesD,List.map_append,List.append_assoc,List.cons_append,List.nil_append];rfl
    ·simp only [if_neg c1] at es1
     have es0:=es1
     simp (disch:=omega) only [go_sem,c1,f8,Sq.avs,f7,List.append_assoc,List.cons_append,List.nil_append,List.length_append,apR]
     refine (begin46 (bt b)).at ?_
     simp (disch:=omega) only [go_sem,Sq.av,Sq.avs,f8,bt,List.append_assoc,List.cons_append,List.nil_append,List.length_append,apR]
     by_cases c5:(b.toNat:Int)<128
     ·have es:stepD ⟨out,q,start⟩ i (bt b)=⟨out++[bt b],beginM (bt b),i⟩:=by rw [es0,if_pos (show bt b<128 from c5)]
      rw [es] at hd k1 k2 k3
      simp (disch:=omega) only [go_sem,c5,hn2,hn3,hta,hta2,runesD_length,← hn,Nat.zero_add,Nat.le_refl,f17,f7,List.append_assoc,List.cons_append,List.nil_append,List.length_append,apR]
      refine ih (i+1) _ _ (by omega) ⟨by omega,?_,?_,?_,?_,_,g+1,n+1,τ++[.arr 0 ⟨1,21⟩ [.int .i32 (bt b)]],hd,k1,k2,k3,?_,?_,?_,?_⟩
      ·simp (disch:=omega) only [go_sem,f6]
      ·simp (disch:=omega) only [go_sem,f8]
      ·simp (disch:=omega) only [go_sem,f16]
      ·simp (disch:=omega) only [go_sem]
      ·simp [hn]
      ·simp (disch:=omega) only [go_sem,f7]
      ·simp (disch:=omega) only [go_sem]
      ·simp only [runesD,List.map_append,List.append_assoc,List.cons_append,List.nil_append];rfl
     ·by_cases c6:(beginM (b.toNat:Int)).missing=0
      ·have es:stepD ⟨out,q,start⟩ i (bt b)=⟨out++[65533],beginM (bt b),i⟩:=by rw [es0,if_neg (show ¬ bt b<128 from c5),if_pos (show (beginM (bt b)).missing=0 from c6)]
       rw [es] at hd k1 k2 k3
       simp (disch:=omega) only [go_sem,c5,c6,f8,Sq.avs,hn2,hn3,hta,hta2,runesD_length,← hn,Nat.zero_add,Nat.le_refl,f17,f7,List.append_assoc,List.cons_append,List.nil_append,List.length_append,apR]
       refine ih (i+1) _ _ (by omega) ⟨by omega,?_,?_,?_,?_,_,g+1,n+1,τ++[.arr 0 ⟨1,21⟩ [.int .i32 65533]],hd,k1,k2,k3,?_,?_,?_,?_⟩
       ·simp (disch:=omega) only [go_sem,f6]
       ·simp (disch:=omega) only [go_sem,f8]
       ·simp (disch:=omega) only [go_sem,f16]
       ·simp (disch:=omega) only [go_sem]
       ·simp [hn]
       ·simp (disch:=omega) only [go_sem,f7]
       ·simp (disch:=omega) only [go_sem]
       ·simp only [runesD,Sq.avs,bt,c6,List.map_append,List.append_assoc,List.cons_append,List.nil_append];rfl
      ·have es:stepD ⟨out,q,start⟩ i (bt b)=⟨out,beginM (bt b),i⟩:=by rw [es0,if_neg (show ¬ bt b<128 from c5),if_neg (show ¬ (beginM (bt b)).missing=0 from c6)]
       rw [es] at hd k1 k2 k3
       simp (disch:=omega) only [go_sem,c5,c6,f8,Sq.avs,hn2,hn3,hta,hta2,runesD_length,← hn,Nat.zero_add,Nat.le_refl,f17,f7,List.append_assoc,List.cons_append,List.nil_append,List.length_append,apR]
       refine ih (i+1) _ _ (by omega) ⟨by omega,?_,?_,?_,?_,_,g,n,τ,hd,k1,k2,k3,?_,?_,?_,?_⟩
       ·simp (disch:=omega) only [go_sem,f6]
       ·simp (disch:=omega) only [go_sem,f8]
       ·simp (disch:=omega) only [go_sem,f16]
       ·simp (disch:=omega) only [go_sem]
       ·simp [hn]
       ·simp (disch:=omega) only [go_sem,f7]
       ·simp (disch:=omega) only [go_sem]
       ·simp only [runesD,List.map_append,List.append_assoc,List.cons_append,List.nil_append];rfl
  ·rw [List.drop_of_length_le (by omega),decL] at hd
   clear ih
   by_cases c1:q.missing=0
   ·have er:restM s=[]:=by rw [restM,← hd,if_pos c1]
    simp (disch:=omega) only [go_sem,f6,f8,f16,f17,f7,hlt,Sq.avs,c1,List.append_assoc,List.cons_append,List.nil_append,List.length_append,apR]
    exact ⟨_,rfl,g,n,_,by rw [← hd,hn],by rw [er],by rw [← hd]⟩
   ·have er:restM s=s.drop start:=by rw [restM,← hd,if_neg c1]
    have hsl:(0:Int)≤start∧(start:Int)≤s.length∧(s.length:Int)≤s.length:=by omega
    have hsl2:start≤s.length:=by omega
    have htk:List.drop start (List.take s.length s)=s.drop start:=by rw [List.take_of_length_le (Nat.le_refl _)]
    simp (disch:=omega) only [go_sem,f6,f8,f16,f17,f7,f9,hlt,Sq.avs,c1,hsl,hsl2,htk,Nat.le_refl,List.append_assoc,List.cons_append,List.nil_append,List.length_append,apR]
    exact ⟨_,rfl,g,n,_,by rw [← hd,hn],by rw [er],by rw [← hd]⟩
 ·refine ⟨by omega,?_,?_,?_,?_,dec0,0,0,[],rfl,by simp [dec0],Nat.le_refl _,Nat.le_refl _,rfl,?_,?_,?_⟩
  ·simp (disch:=omega) only [go_sem]
  ·simp (disch:=omega) only [go_sem,apR]
  ·simp (disch:=omega) only [go_sem]
  ·simp (disch:=omega) only [go_sem]
  ·simp (disch:=omega) only [go_sem]
  ·simp (disch:=omega) only [go_sem,dec0];try rfl
  ·simp (disch:=omega) only [go_sem,apR];rfl
end Go.Proofs.YtngdkenddfdhaaaGreatDoor
