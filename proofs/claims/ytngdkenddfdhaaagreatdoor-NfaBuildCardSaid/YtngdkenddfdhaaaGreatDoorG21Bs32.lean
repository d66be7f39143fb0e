/- Part of a proof about the functions of this seat. -/
import Derived.Test.YtngdkenddfdhaaaGreatDoorG20U32
import Derived.Test.YtngdkenddfdhaaaGreatDoorG19Nfd
import Derived.Test.YtngdkenddfdhaaaGreatDoorG09Base32
set_option linter.unusedVariables false
set_option linter.unusedSimpArgs false
set_option maxRecDepth 100000
namespace Go.Proofs.YtngdkenddfdhaaaGreatDoor
open Go Nv Pat
def hintD:Nat→Hint:=fun i=>if i=7 then .own ⟨1,21⟩ else .no
@[go_sem] theorem hintD_at (i:Nat):hintD i=if i=7 then .own ⟨1,21⟩ else .no:=nrfl rfl
def valM (v b:Int):Int:=IntKind.i32.wrap ((BitVec.ofInt 32 (IntKind.i32.wrap (v * 2 ^ min 6 32)) ||| BitVec.ofInt 32 (m8 b 63)).toNat:Int)
def goesOn (q:Sq) (b:Int):Prop:=0<q.missing∧q.low≤b∧b≤q.high
instance (q:Sq) (b:Int):Decidable (goesOn q b):=inferInstanceAs (Decidable (_∧_∧_))
structure Dec where
 out:List Int
 q:Sq
 start:Nat
def more (q:Sq) (b:Int):Sq:=⟨valM q.value b,q.missing - 1,128,191⟩
def stepD (d:Dec) (i:Nat) (b:Int):Dec :=
 if goesOn d.q b then
  ⟨if d.q.missing - 1=0 then d.out++[valM d.q.value b] else d.out,more d.q b,d.start⟩
 else
  let out:=if 0<d.q.missing then d.out++[65533] else d.out
  ⟨if b<128 then out++[b] else if (beginM b).missing=0 then out++[65533] else out,beginM b,i⟩
def decL:List UInt8→Nat→Dec→Dec
 | [],_,d=>d
 | b::l,i,d=>decL l (i+1) (stepD d i (bt b))
def dec0:Dec:=⟨[],⟨0,0,0,0⟩,0⟩
def decM (s:List UInt8):Dec:=decL s 0 dec0
def restM (s:List UInt8):List UInt8:=if (decM s).q.missing=0 then [] else s.drop (decM s).start
theorem begin_miss (b:Int):0≤(beginM b).missing∧(beginM b).missing≤3:=by
 unfold beginM;split
 ·simp
 ·split
  ·simp
  ·split <;> simp
theorem step_ok (d:Dec) (i:Nat) (b:Int) (hm:0≤d.q.missing∧d.q.missing≤3) (hs:d.start≤i) (ho:d.out.length≤2 * i) :
  (0≤(stepD d i b).q.missing∧(stepD d i b).q.missing≤3)∧(stepD d i b).start≤i+1∧(stepD d i b).out.length≤2 * (i+1):=by
 unfold stepD
 split
 ·rename_i h
  obtain ⟨h1,_,_⟩:=h
  refine ⟨⟨by simp only [more];omega,by simp only [more];omega⟩,by first | omega | (dsimp only;omega),?_⟩
  try dsimp only
  split <;> (try simp) <;> omega
 ·refine ⟨begin_miss b,by first | omega | (dsimp only;omega),?_⟩
  try dsimp only
  split <;> split <;> (try split) <;> (try simp) <;> omega
theorem decode31 (s:List UInt8) (hs:s.length≤100000) (σ:Nv.ST):RCall Tryz.prog 32 [.d (.str []),.d (.str s)] σ fun v σ' =>
  ∃ g n τ,n=(decM s).out.length∧v=.tuple [.own σ.length g 0 n,.d (.str (restM s))]∧σ'=σ++.arr g ⟨1,21⟩ (runesD (decM s).out)::τ:=by
 refine fn32.rel hintD (Nat.le_refl _) ?_
 have e0:0+s.length≤9223372036854775807:=by omega
 simp (disch:=omega) only [go_sem,e0]
 refine wL_ind (fun (i:Nat) fr σ'=>i≤s.length∧fr 6=.d (.str s)∧fr 8=.ptr (σ.length+1) 0∧fr 16=.d (.int .i64 s.length)∧fr 17=.d (.int .i64 i) ∧
  ∃ (d:Dec) (g n:Nat) (τ:Nv.ST),decL (s.drop i) i d=decM s∧(0≤d.q.missing∧d.q.missing≤3)∧d.start≤i∧d.out.length≤2 * i∧n=d.out.length∧fr 7=.own σ.length g 0 n∧fr 9=.d (.int .i64 d.start) ∧
   σ'=σ++.arr g ⟨1,21⟩ (runesD d.out)::.box 97 d.q.avs::τ) (fun i=>s.length - i) ?_ 0 ?_
 ·rintro i fr σ' ⟨hi,f6,f8,f16,f17,⟨out,q,start⟩,g,n,τ,hd,hm,hst,hol,hn,f7,f9,rfl⟩ ih
  simp only at hm hst hol hn f9
  by_cases hlt:i<s.length
  ·obtain ⟨b,hb⟩:∃ b,b=s.getD i 0:=⟨_,rfl⟩
   have hdr:s.drop i=b::s.drop (i+1):=by
    rw [hb,List.drop_eq_getElem_cons hlt,List.getD_eq_getElem?_getD,List.getElem?_eq_getElem hlt];rfl
   rw [hdr,decL] at hd
   obtain ⟨k1,k2,k3⟩:=step_ok ⟨out,q,start⟩ i (bt b) hm hst hol
   have hn2:(n+1) * 4≤140737488355328:=by omega
   have hn3:(n+1+1) * 4≤140737488355328:=by omega
   have hta:=take_all (runesD out) n (by rw [runesD_length,hn])
   simp (disch:=omega) only [go_sem,f6,f8,f16,f17,hlt,Sq.avs,← hb,List.append_assoc,List.cons_append,List.nil_append,List.length_append,apR]
   by_cases hg:goesOn q (bt b)
   ·obtain ⟨g1,g2,g3⟩:=hg
    have es:stepD ⟨out,q,start⟩ i (bt b)=⟨if q.missing - 1=0 then out++[valM q.value (bt b)] else out,more q (bt b),start⟩:=if_pos ⟨g1,g2,g3⟩
    rw [es] at hd k1 k2 k3
    simp only [bt] at g2 g3
    have hw:IntKind.i64.wrap (q.missing - 1)=q.missing - 1:=wrap_id (by omega) (by omega)
    simp (disch:=omega) only [go_sem,g1,g2,g3,f8,Sq.avs,hw,List.append_assoc,List.cons_append,List.nil_append,List.length_append,apR]
    by_cases c4:q.missing - 1=0
    ·rw [if_pos c4] at hd k3
     simp (disch:=omega) only [go_sem,c4,f7,f8,hn2,hta,runesD_length,← hn,Nat.zero_add,Nat.le_refl,f17,List.append_assoc,List.cons_append,List.nil_append,List.length_append,apR]
     refine ih (i+1) _ _ (by omega) ⟨by omega,?_,?_,?_,?_,_,g+1,n+1,τ++[.arr 0 ⟨1,21⟩ [.int .i32 (valM q.value (bt b))]],hd,k1,k2,k3,?_,?_,?_,?_⟩
     ·simp (disch:=omega) only [go_sem,f6]
     ·simp (disch:=omega) only [go_sem,f8]
     ·simp (disch:=omega) only [go_sem,f16]
     ·simp (disch:=omega) only [go_sem]
     ·simp [hn]
     ·simp (disch:=omega) only [go_sem]
     ·simp (disch:=omega) only [go_sem,f9]
     ·simp only [Sq.avs,more,c4,runesD,List.map_append,List.append_assoc,List.cons_append];rfl
    ·rw [if_neg c4] at hd k3
     simp (disch:=omega) only [go_sem,c4,f17,f8,List.append_assoc,List.cons_append,List.nil_append,List.length_append,apR]
     refine ih (i+1) _ _ (by omega) ⟨by omega,?_,?_,?_,?_,_,g,n,τ,hd,k1,k2,k3,hn,?_,?_,?_⟩
     ·simp (disch:=omega) only [go_sem,f6]
     ·simp (disch:=omega) only [go_sem,f8]
     ·simp (disch:=omega) only [go_sem,f16]
     ·simp (disch:=omega) only [go_sem]
     ·simp (disch:=omega) only [go_sem,f7]
     ·simp (disch:=omega) only [go_sem,f9]
     ·rfl
   ·have h256:(b.toNat:Int)<256:=by have:=b.toNat_lt;omega
    have es1:stepD ⟨out,q,start⟩ i (bt b)=⟨if bt b<128 then (if 0<q.missing then out++[65533] else out)++[bt b] else if (beginM (bt b)).missing=0 then (if 0<q.missing then out++[65533] else out)++[65533] else (if 0<q.missing then out++[65533] else out),beginM (bt b),i⟩:=if_neg hg
    have hn4:n+1=(out++[65533]).length:=by simp [hn]
    have hta2:=take_all (runesD out++[DV.int .i32 65533]) (n+1) (by simp [runesD_length,hn])
    by_cases c1:0<q.missing
    ·simp only [if_pos c1] at es1
     have es0:=es1
     by_cases c2:q.low≤(b.toNat:Int)
     ·have c3:¬ (b.toNat:Int)≤q.high:=fun h=>hg ⟨c1,c2,h⟩
      simp (disch:=omega) only [go_sem,c1,c2,c3,f8,Sq.avs,hn2,hta,runesD_length,← hn,Nat.zero_add,Nat.le_refl,f7,List.append_assoc,List.cons_append,List.nil_append,List.length_append,apR]
      refine (begin46 (bt b)).at ?_
      simp (disch:=omega) only [go_sem,Sq.av,Sq.avs,f8,bt,List.append_assoc,List.cons_append,List.nil_append,List.length_append,apR]
      by_cases c5:(b.toNat:Int)<128
      ·have es:stepD ⟨out,q,start⟩ i (bt b)=⟨(out++[65533])++[bt b],beginM (bt b),i⟩:=by rw [es0,if_pos (show bt b<128 from c5)]
       rw [es] at hd k1 k2 k3
       simp (disch:=omega) only [go_sem,c5,hn2,hn3,hta,hta2,runesD_length,← hn,Nat.zero_add,Nat.le_refl,f17,f7,List.append_assoc,List.cons_append,List.nil_append,List.length_append,apR]
       refine ih (i+1) _ _ (by omega) ⟨by omega,?_,?_,?_,?_,_,g+1+1,n+1+1,τ++[.arr 0 ⟨1,21⟩ [.int .i32 65533],.arr 0 ⟨1,21⟩ [.int .i32 (bt b)]],hd,k1,k2,k3,?_,?_,?_,?_⟩
       ·simp (disch:=omega) only [go_sem,f6]
       ·simp (disch:=omega) only [go_sem,f8]
       ·simp (disch:=omega) only [go_sem,f16]
       ·simp (disch:=omega) only [go_sem]
       ·simp [hn]
       ·simp (disch:=omega) only [go_sem,f7]
       ·simp (disch:=omega) only [go_sem]
       ·simp only [runesD,List.map_append,List.append_assoc,List.cons_append,List.nil_append];rfl
      ·by_cases c6:(beginM (b.toNat:Int)).missing=0
       ·have es:stepD ⟨out,q,start⟩ i (bt b)=⟨(out++[65533])++[65533],beginM (bt b),i⟩:=by rw [es0,if_neg (show ¬ bt b<128 from c5),if_pos (show (beginM (bt b)).missing=0 from c6)]
        rw [es] at hd k1 k2 k3
        simp (disch:=omega) only [go_sem,c5,c6,f8,Sq.avs,hn2,hn3,hta,hta2,runesD_length,← hn,Nat.zero_add,Nat.le_refl,f17,f7,List.append_assoc,List.cons_append,List.nil_append,List.length_append,apR]
        refine ih (i+1) _ _ (by omega) ⟨by omega,?_,?_,?_,?_,_,g+1+1,n+1+1,τ++[.arr 0 ⟨1,21⟩ [.int .i32 65533],.arr 0 ⟨1,21⟩ [.int .i32 65533]],hd,k1,k2,k3,?_,?_,?_,?_⟩
        ·simp (disch:=omega) only [go_sem,f6]
        ·simp (disch:=omega) only [go_sem,f8]
        ·simp (disch:=omega) only [go_sem,f16]
        ·simp (disch:=omega) only [go_sem]
        ·simp [hn]
        ·simp (disch:=omega) only [go_sem,f7]
        ·simp (disch:=omega) only [go_sem]
        ·simp only [runesD,Sq.avs,bt,c6,List.map_append,List.append_assoc,List.cons_append,List.nil_append];rfl
       ·have es:stepD ⟨out,q,start⟩ i (bt b)=⟨out++[65533],beginM (bt b),i⟩:=by rw [es0,if_neg (show ¬ bt b<128 from c5),if_neg (show ¬ (beginM (bt b)).missing=0 from c6)]
        rw [es] at hd k1 k2 k3
        simp (disch:=omega) only [go_sem,c5,c6,f8,Sq.avs,hn2,hn3,hta,hta2,runesD_length,← hn,Nat.zero_add,Nat.le_refl,f17,f7,List.append_assoc,List.cons_append,List.nil_append,List.length_append,apR]
        refine ih (i+1) _ _ (by omega) ⟨by omega,?_,?_,?_,?_,_,g+1,n+1,τ++[.arr 0 ⟨1,21⟩ [.int .i32 65533]],hd,k1,k2,k3,?_,?_,?_,?_⟩
        ·simp (disch:=omega) only [go_sem,f6]
        ·simp (disch:=omega) only [go_sem,f8]
        ·simp (disch:=omega) only [go_sem,f16]
        ·simp (disch:=omega) only [go_sem]
        ·simp [hn]
        ·simp (disch:=omega) only [go_sem,f7]
        ·simp (disch:=omega) only [go_sem]
        ·simp only [runesD,List.map_append,List.append_assoc,List.cons_append,List.nil_append];rfl
     ·simp (disch:=omega) only [go_sem,c1,c2,f8,Sq.avs,hn2,hta,runesD_length,← hn,Nat.zero_add,Nat.le_refl,f7,List.append_assoc,List.cons_append,List.nil_append,List.length_append,apR]
      refine (begin46 (bt b)).at ?_
      simp (disch:=omega) only [go_sem,Sq.av,Sq.avs,f8,bt,List.append_assoc,List.cons_append,List.nil_append,List.length_append,apR]
      by_cases c5:(b.toNat:Int)<128
      ·have es:stepD ⟨out,q,start⟩ i (bt b)=⟨(out++[65533])++[bt b],beginM (bt b),i⟩:=by rw [es0,if_pos (show bt b<128 from c5)]
       rw [es] at hd k1 k2 k3
       simp (disch:=omega) only [go_sem,c5,hn2,hn3,hta,hta2,runesD_length,← hn,Nat.zero_add,Nat.le_refl,f17,f7,List.append_assoc,List.cons_append,List.nil_append,List.length_append,apR]
       refine ih (i+1) _ _ (by omega) ⟨by omega,?_,?_,?_,?_,_,g+1+1,n+1+1,τ++[.arr 0 ⟨1,21⟩ [.int .i32 65533],.arr 0 ⟨1,21⟩ [.int .i32 (bt b)]],hd,k1,k2,k3,?_,?_,?_,?_⟩
       ·simp (disch:=omega) only [go_sem,f6]
       ·simp (disch:=omega) only [go_sem,f8]
       ·simp (disch:=omega) only [go_sem,f16]
       ·simp (disch:=omega) only [go_sem]
       ·simp [hn]
       ·simp (disch:=omega) only [go_sem,f7]
       ·simp (disch:=omega) only [go_sem]
       ·simp only [runesD,List.map_append,List.append_assoc,List.cons_append,List.nil_append];rfl
      ·by_cases c6:(beginM (b.toNat:Int)).missing=0
       ·have es:stepD ⟨out,q,start⟩ i (bt b)=⟨(out++[65533])++[65533],beginM (bt b),i⟩:=by rw [es0,if_neg (show ¬ bt b<128 from c5),if_pos (show (beginM (bt b)).missing=0 from c6)]
        rw [es] at hd k1 k2 k3
        simp (disch:=omega) only [go_sem,c5,c6,f8,Sq.avs,hn2,hn3,hta,hta2,runesD_length,← hn,Nat.zero_add,Nat.le_refl,f17,f7,List.append_assoc,List.cons_append,List.nil_append,List.length_append,apR]
        refine ih (i+1) _ _ (by omega) ⟨by omega,?_,?_,?_,?_,_,g+1+1,n+1+1,τ++[.arr 0 ⟨1,21⟩ [.int .i32 65533],.arr 0 ⟨1,21⟩ [.int .i32 65533]],hd,k1,k2,k3,?_,?_,?_,?_⟩
        ·simp (disch:=omega) only [go_sem,f6]
        ·simp (disch:=omega) only [go_sem,f8]
        ·simp (disch:=omega) only [go_sem,f16]
        ·simp (disch:=omega) only [go_sem]
        ·simp [hn]
        ·simp (disch:=omega) only [go_sem,f7]
        ·simp (disch:=omega) only [go_sem]
        ·simp only [runesD,Sq.avs,bt,c6,List.map_append,List.append_assoc,List.cons_append,List.nil_append];rfl
       ·have es:stepD ⟨out,q,start⟩ i (bt b)=⟨out++[65533],beginM (bt b),i⟩:=by rw [es0,if_neg (show ¬ bt b<128 from c5),if_neg (show ¬ (beginM (bt b)).missing=0 from c6)]
        rw [es] at hd k1 k2 k3
        simp (disch:=omega) only [go_sem,c5,c6,f8,Sq.avs,hn2,hn3,hta,hta2,runesD_length,← hn,Nat.zero_add,Nat.le_refl,f17,f7,List.append_assoc,List.cons_append,List.nil_append,List.length_append,apR]
        refine ih (i+1) _ _ (by omega) ⟨by omega,?_,?_,?_,?_,_,g+1,n+1,τ++[.arr 0 ⟨1,21⟩ [.int .i32 65533]],hd,k1,k2,k3,?_,?_,?_,?_⟩
        ·simp (disch:=omega) only [go_sem,f6]
        ·simp (disch:=omega) only [go_sem,f8]
        ·simp (disch:=omega) only [go_sem,f16]
        ·simp (disch:=omega) only [go_sem]
        ·simp [hn]
        ·simp (disch:=omega) only [go_sem,f7]
        ·simp (disch:=omega) only [go_sem]
        ·simp only [runesD,List.map_append,List.append_assoc,List.cons_append,List.nil_append];rfl
    ·simp only [if_neg c1] at es1
     have es0:=es1
     simp (disch:=omega) only [go_sem,c1,f8,Sq.avs,f7,List.append_assoc,List.cons_append,List.nil_append,List.length_append,apR]
     refine (begin46 (bt b)).at ?_
     simp (disch:=omega) only [go_sem,Sq.av,Sq.avs,f8,bt,List.append_assoc,List.cons_append,List.nil_append,List.length_append,apR]
     by_cases c5:(b.toNat:Int)<128
     ·have es:stepD ⟨out,q,start⟩ i (bt b)=⟨out++[bt b],beginM (bt b),i⟩:=by rw [es0,if_pos (show bt b<128 from c5)]
      rw [es] at hd k1 k2 k3
      simp (disch:=omega) only [go_sem,c5,hn2,hn3,hta,hta2,runesD_length,← hn,Nat.zero_add,Nat.le_refl,f17,f7,List.append_assoc,List.cons_append,List.nil_append,List.length_append,apR]
      refine ih (i+1) _ _ (by omega) ⟨by omega,?_,?_,?_,?_,_,g+1,n+1,τ++[.arr 0 ⟨1,21⟩ [.int .i32 (bt b)]],hd,k1,k2,k3,?_,?_,?_,?_⟩
      ·simp (disch:=omega) only [go_sem,f6]
      ·simp (disch:=omega) only [go_sem,f8]
      ·simp (disch:=omega) only [go_sem,f16]
      ·simp (disch:=omega) only [go_sem]
      ·simp [hn]
      ·simp (disch:=omega) only [go_sem,f7]
      ·simp (disch:=omega) only [go_sem]
      ·simp only [runesD,List.map_append,List.append_assoc,List.cons_append,List.nil_append];rfl
     ·by_cases c6:(beginM (b.toNat:Int)).missing=0
      ·have es:stepD ⟨out,q,start⟩ i (bt b)=⟨out++[65533],beginM (bt b),i⟩:=by rw [es0,if_neg (show ¬ bt b<128 from c5),if_pos (show (beginM (bt b)).missing=0 from c6)]
       rw [es] at hd k1 k2 k3
       simp (disch:=omega) only [go_sem,c5,c6,f8,Sq.avs,hn2,hn3,hta,hta2,runesD_length,← hn,Nat.zero_add,Nat.le_refl,f17,f7,List.append_assoc,List.cons_append,List.nil_append,List.length_append,apR]
       refine ih (i+1) _ _ (by omega) ⟨by omega,?_,?_,?_,?_,_,g+1,n+1,τ++[.arr 0 ⟨1,21⟩ [.int .i32 65533]],hd,k1,k2,k3,?_,?_,?_,?_⟩
       ·simp (disch:=omega) only [go_sem,f6]
       ·simp (disch:=omega) only [go_sem,f8]
       ·simp (disch:=omega) only [go_sem,f16]
       ·simp (disch:=omega) only [go_sem]
       ·simp [hn]
       ·simp (disch:=omega) only [go_sem,f7]
       ·simp (disch:=omega) only [go_sem]
       ·simp only [runesD,Sq.avs,bt,c6,List.map_append,List.append_assoc,List.cons_append,List.nil_append];rfl
      ·have es:stepD ⟨out,q,start⟩ i (bt b)=⟨out,beginM (bt b),i⟩:=by rw [es0,if_neg (show ¬ bt b<128 from c5),if_neg (show ¬ (beginM (bt b)).missing=0 from c6)]
       rw [es] at hd k1 k2 k3
       simp (disch:=omega) only [go_sem,c5,c6,f8,Sq.avs,hn2,hn3,hta,hta2,runesD_length,← hn,Nat.zero_add,Nat.le_refl,f17,f7,List.append_assoc,List.cons_append,List.nil_append,List.length_append,apR]
       refine ih (i+1) _ _ (by omega) ⟨by omega,?_,?_,?_,?_,_,g,n,τ,hd,k1,k2,k3,?_,?_,?_,?_⟩
       ·simp (disch:=omega) only [go_sem,f6]
       ·simp (disch:=omega) only [go_sem,f8]
       ·simp (disch:=omega) only [go_sem,f16]
       ·simp (disch:=omega) only [go_sem]
       ·simp [hn]
       ·simp (disch:=omega) only [go_sem,f7]
       ·simp (disch:=omega) only [go_sem]
       ·simp only [runesD,List.map_append,List.append_assoc,List.cons_append,List.nil_append];rfl
  ·rw [List.drop_of_length_le (by omega),decL] at hd
   clear ih
   by_cases c1:q.missing=0
   ·have er:restM s=[]:=by rw [restM,← hd,if_pos c1]
    simp (disch:=omega) only [go_sem,f6,f8,f16,f17,f7,hlt,Sq.avs,c1,List.append_assoc,List.cons_append,List.nil_append,List.length_append,apR]
    exact ⟨_,rfl,g,n,_,by rw [← hd,hn],by rw [er],by rw [← hd]⟩
   ·have er:restM s=s.drop start:=by rw [restM,← hd,if_neg c1]
    have hsl:(0:Int)≤start∧(start:Int)≤s.length∧(s.length:Int)≤s.length:=by omega
    have hsl2:start≤s.length:=by omega
    have htk:List.drop start (List.take s.length s)=s.drop start:=by rw [List.take_of_length_le (Nat.le_refl _)]
    simp (disch:=omega) only [go_sem,f6,f8,f16,f17,f7,f9,hlt,Sq.avs,c1,hsl,hsl2,htk,Nat.le_refl,List.append_assoc,List.cons_append,List.nil_append,List.length_append,apR]
    exact ⟨_,rfl,g,n,_,by rw [← hd,hn],by rw [er],by rw [← hd]⟩
 ·refine ⟨by omega,?_,?_,?_,?_,dec0,0,0,[],rfl,by simp [dec0],Nat.le_refl _,Nat.le_refl _,rfl,?_,?_,?_⟩
  ·simp (disch:=omega) only [go_sem]
  ·simp (disch:=omega) only [go_sem,apR]
  ·simp (disch:=omega) only [go_sem]
  ·simp (disch:=omega) only [go_sem]
  ·simp (disch:=omega) only [go_sem]
  ·simp (disch:=omega) only [go_sem,dec0];try rfl
  ·simp (disch:=omega) only [go_sem,apR];rfl
end Go.Proofs.YtngdkenddfdhaaaGreatDoor
set_option linter.unusedVariables false
set_option linter.unusedSimpArgs false
set_option maxRecDepth 100000
namespace Go.Proofs.YtngdkenddfdhaaaGreatDoor
open Go Nv Pat
def finM (s:List UInt8):List Int:=(decM s).out++if restM s=[] then [] else [65533]
def charsM (s:List UInt8):List Int:=(decM s).out++finM (restM s)
theorem decL_ok:∀ (l:List UInt8) (i:Nat) (d:Dec),(0≤d.q.missing∧d.q.missing≤3)→d.start≤i→d.out.length≤2 * i→(decL l i d).out.length≤2 * (i+l.length)
 | [],i,d,_,_,h=>by simpa [decL] using h
 | b::l,i,d,h1,h2,h3=>by
  obtain ⟨k1,k2,k3⟩:=step_ok d i (bt b) h1 h2 h3
  have:=decL_ok l (i+1) _ k1 k2 k3
  rw [decL,List.length_cons];omega
theorem dec_len (s:List UInt8):(decM s).out.length≤2 * s.length:=by
 have:=decL_ok s 0 dec0 (by simp [dec0]) (Nat.le_refl _) (by simp [dec0])
 simpa [decM] using this
theorem rest_len (s:List UInt8):(restM s).length≤s.length:=by unfold restM;split <;> simp
theorem fin_len (s:List UInt8):(finM s).length≤2 * s.length+1:=by
 have:=dec_len s
 unfold finM;split <;> simp <;> omega
theorem finish32 (s:List UInt8) (hs:s.length≤100000) (σ:Nv.ST):RCall Tryz.prog 34 [.d (.str s)] σ fun v σ' =>
  ∃ g n τ,n=(finM s).length∧v=.own σ.length g 0 n∧σ'=σ++.arr g ⟨1,21⟩ (runesD (finM s))::τ:=by
 refine fn34.rel noHint (Nat.le_refl _) ?_
 simp (disch:=omega) only [go_sem]
 refine (decode31 s hs σ).at ?_
 rintro v σ' ⟨g,n,τ,hn,rfl,rfl⟩
 have hl:=dec_len s
 have hn2:(n+1) * 4≤140737488355328:=by omega
 have hta:=take_all (runesD (decM s).out) n (by rw [runesD_length,hn])
 by_cases h:restM s=[]
 ·have e:finM s=(decM s).out:=by rw [finM,if_pos h,List.append_nil]
  simp (disch:=omega) only [go_sem,h]
  exact ⟨_,rfl,g,n,τ,by rw [e,hn],rfl,by rw [e]⟩
 ·have e:finM s=(decM s).out++[65533]:=by rw [finM,if_neg h]
  simp (disch:=omega) only [go_sem,h,hn2,hta,runesD_length,← hn,Nat.zero_add,Nat.le_refl,List.append_assoc,List.cons_append,List.nil_append,List.length_append,apR]
  exact ⟨_,rfl,g+1,n+1,_,by rw [e,hn];simp,rfl,by rw [e];simp only [runesD,List.map_append];rfl⟩
open Classical in
noncomputable def matchB (n:Tree) (s:List UInt8):Bool:=decide (chkE n=0∧Lang n (charsM s))
theorem matchB_iff (n:Tree) (s:List UInt8):matchB n s=true↔chkE n=0∧Lang n (charsM s):=by simp [matchB]
end Go.Proofs.YtngdkenddfdhaaaGreatDoor
set_option linter.unusedVariables false
set_option linter.unusedSimpArgs false
set_option maxRecDepth 100000
namespace Go.Proofs.YtngdkenddfdhaaaGreatDoor
open Go Nv Pat
open Classical in
noncomputable def nfaB (A:Au) (s:List UInt8):Bool:=decide (A.Proper∧acceptM A (charsM s))
theorem nfaB_iff (A:Au) (s:List UInt8):nfaB A s=true↔A.Proper∧acceptM A (charsM s):=by simp [nfaB]
def hintsN:Nat→Hint:=fun i=>if i=21 then .freeze else if i=26 then .freeze else .no
@[go_sem] theorem hintsN_at (i:Nat):hintsN i=if i=21 then .freeze else if i=26 then .freeze else .no:=nrfl rfl
theorem clos_len (A:Au) (l:List Int):(closM A l).length≤A.arcs.length:=by
 unfold closM
 rw [List.length_map]
 exact Nat.le_trans (List.length_filter_le _ _) (by simp)
theorem run_take (A:Au) {t:List Int} {j:Nat} (h:j<t.length):runM A (t.take (j+1))=stepM A (runM A (t.take j)) (t.getD j default):=by
 rw [take_succ' t j h,run_snoc]
theorem run_len (A:Au) (t:List Int):(runM A t).length≤A.arcs.length:=by
 unfold runM
 have:∀ (t:List Int) (l:List Int),l.length≤A.arcs.length→(t.foldl (stepM A) l).length≤A.arcs.length:=by
  intro t
  induction t with
  | nil=>intro l h;exact h
  | cons c t ih=>intro l h;exact ih _ (clos_len A _)
 exact this t _ (clos_len A _)
theorem run_inR {A:Au} (hp:A.Proper) (t:List Int):∀ z,z∈runM A t→inR A.arcs.length z:=by
 intro z hz
 rw [← run_closed hp t] at hz
 exact from_inR hp ((mem_clos hp _ _).1 hz)
theorem match16 (A:Au) (hf:Fit A) (s:List UInt8) (hs:s.length≤10000):PCall Tryz.prog 16 [auA A,.d (.str s)] (.d (.bool (nfaB A s))):=by
 refine fn16.pure hintsN (Nat.le_refl _) (by simp only [go_sem,auA,auF,rowsD]) (by simp only [go_sem]) ?_
 simp (disch:=omega) only [go_sem,auA,auF,rowsD]
 refine (check17 A hf).at ?_
 cases hok:okA A with
 | false =>
  have e:nfaB A s=false:=by
   unfold nfaB
   simp only [decide_eq_false_iff_not]
   rintro ⟨h,_⟩
   rw [okA_proper.2 h] at hok;cases hok
  simp (disch:=omega) only [go_sem,e,Bool.false_eq_true]
 | true =>
  have hp:=okA_proper.1 hok
  simp (disch:=omega) only [go_sem,apR]
  refine (decode31 s (by omega) _).at ?_
  rintro v σ' ⟨g,m,τ,hm,rfl,rfl⟩
  simp (disch:=omega) only [go_sem,apR]
  refine (closure33 A hp hf [A.start] (by simp)).at ?_
  simp (disch:=omega) only [go_sem,apR]
  have hrl:=rest_len s
  refine (finish32 (restM s) (by omega) _).at ?_
  rintro v σ' ⟨g',m',τ',hm',rfl,rfl⟩
  have hl:=dec_len s
  have hl2:=fin_len (restM s)
  have hta:=take_all (runesD (decM s).out) m (by rw [runesD_length,hm])
  have hta':=take_all (runesD (finM (restM s))) m' (by rw [runesD_length,hm'])
  have hmm:(m+m') * 4≤140737488355328:=by omega
  obtain ⟨t,ht⟩:∃ t,t=charsM s:=⟨_,rfl⟩
  have htl:t.length=m+m':=by rw [ht,charsM,List.length_append,hm,hm']
  have hcat:List.take (m+m') (runesD (decM s).out++runesD (finM (restM s)))=runesD t:=by
   rw [ht,charsM,List.take_of_length_le (by rw [List.length_append,runesD_length,runesD_length];omega)]
   simp only [runesD,List.map_append]
  have hcat2:runesD (decM s).out++runesD (finM (restM s))=runesD t:=by
   rw [ht,charsM];simp only [runesD,List.map_append]
  have htt:List.take (m+m') (runesD t)=runesD t:=List.take_of_length_le (by rw [runesD_length];omega)
  have hres:nfaB A s=decide (A.accept∈runM A t):=by
   unfold nfaB
   rw [← ht]
   simp only [acceptM]
   exact decide_eq_decide.2 ⟨fun h=>h.2,fun h=>⟨hp,h⟩⟩
  simp (disch:=omega) only [go_sem,hta,hta',hmm,runesD_length,← hm,← hm',Nat.zero_add,Nat.le_refl,hcat,hcat2,List.append_assoc,List.cons_append,List.nil_append,List.length_append,apR]
  refine ⟨by omega,?_⟩
  refine wL_ind (fun (j:Nat) fr σ=>j≤t.length∧fr 2=.ptr 0 0∧fr 7=.d (intsD (runM A (t.take j)))∧fr 26=.d (.list 1 (runesD t))∧fr 27=.d (.int .i64 t.length)∧fr 28=.d (.int .i64 j) ∧
   ∃ τ,σ=.box 31 [AV.d (.int .i64 A.start),AV.d (.int .i64 A.accept),AV.d (.list 1 ((arcsL A.arcs).map (DV.list 3))),AV.d (.list 1 ((intsL A.emp).map (DV.list 1)))]::τ) (fun j=>t.length - j) ?_ 0 ?_
  ·rintro j fr σ ⟨hj,f2,f7,f26,f27,f28,τ,rfl⟩ ih
   by_cases hlt:j<t.length
   ·have hg:(runesD t).getD j default=.int .i32 (t.getD j default):=by
     simp [runesD,List.getD_eq_getElem?_getD,hlt]
    have hrl2:=run_len A (t.take j)
    have hmost:=hp.most
    simp (disch:=omega) only [go_sem,f2,f7,f26,f27,f28,hlt,hg]
    refine (step35 A hp hf (runM A (t.take j)) (by omega) (run_inR hp _) (t.getD j default)).at ?_
    simp (disch:=omega) only [go_sem,f28]
    refine ih (j+1) _ _ (by omega) ⟨by omega,?_,?_,?_,?_,?_,_,rfl⟩
    ·simp (disch:=omega) only [go_sem,f2]
    ·rw [run_take A hlt];simp (disch:=omega) only [go_sem]
    ·simp (disch:=omega) only [go_sem,f26]
    ·simp (disch:=omega) only [go_sem,f27]
    ·simp (disch:=omega) only [go_sem]
   ·have hje:j=t.length:=by omega
    subst hje
    rw [List.take_length] at f7
    have hrl2:=run_len A t
    have hmost:=hp.most
    simp (disch:=omega) only [go_sem,f2,f7,f26,f27,f28,hlt]
    refine (contains36 (runM A t) A.accept (by omega)).at ?_
    rw [hres]
    simp (disch:=omega) only [go_sem]
  ·refine ⟨by omega,?_,?_,?_,?_,?_,_,rfl⟩
   ·simp (disch:=omega) only [go_sem]
   ·simp (disch:=omega) only [go_sem];rfl
   ·simp (disch:=omega) only [go_sem,htt]
   ·simp (disch:=omega) only [go_sem,htt]
   ·simp (disch:=omega) only [go_sem]
end Go.Proofs.YtngdkenddfdhaaaGreatDoor
set_option linter.unusedVariables false
set_option linter.unusedSimpArgs false
set_option maxRecDepth 100000
namespace Go.Proofs.YtngdkenddfdhaaaGreatDoor
open Go Nv Pat
theorem proper_mem:∀ (s:List (Int × Int)) (p:Option Int),properFrom p s=true→∀ r,r∈s→rgB r=true
 | [],_,_,r,hr=>by cases hr
 | x::s,none,h,r,hr=>by
  simp only [properFrom,Bool.and_eq_true] at h
  rcases List.mem_cons.1 hr with rfl | hr
  ·exact h.1
  ·exact proper_mem s _ h.2 r hr
 | x::s,some q,h,r,hr=>by
  simp only [properFrom,Bool.and_eq_true] at h
  rcases List.mem_cons.1 hr with rfl | hr
  ·exact h.1.1
  ·exact proper_mem s _ h.2 r hr
theorem rgB_ok {r:Int × Int} (h:rgB r=true):scalar r.1∧scalar r.2∧r.1≤r.2:=by
 unfold rgB at h
 simp only [Bool.and_eq_true,decide_eq_true_eq] at h
 exact ⟨(charB_iff2 _).1 h.1.1.1,(charB_iff2 _).1 h.1.1.2,h.1.2⟩
theorem chk_set {k:Int} {s:List (Int × Int)} {l:List Tree} {a b:Int} (h:chk (.mk k s l a b)=0) (hk:k=2):∀ r,r∈s→rgB r=true:=by
 obtain ⟨h1,h2,h3⟩:=chk_ok h
 subst hk
 unfold badB at h2
 simp only [Bool.or_eq_false_iff,Bool.not_eq_false'] at h2
 have hp:=h2.1.1
 unfold partsB at hp
 rw [if_neg (by omega),if_pos rfl] at hp
 simp only [Bool.and_eq_true] at hp
 exact proper_mem s none hp.2
theorem catA_mem:∀ (xs:List Tree) (o:Nat),(∀ x,x∈xs→WF x)→∀ l,l∈catA (xs.map fun x o=>rowsA x o) o→∃ (x:Tree) (o':Nat),x∈xs∧o≤o'∧o'+sz x≤o+(xs.map sz).sum∧l∈rowsA x o'
 | [],o,_,l,h=>by simp [catA] at h
 | x::xs,o,hw,l,h=>by
  simp only [List.map_cons,catA,List.mem_append] at h
  have hx:=rowsA_len (hw x (by simp)) o
  rcases h with h | h
  ·exact ⟨x,o,by simp,Nat.le_refl _,by simp only [List.map_cons,List.sum_cons];omega,h⟩
  ·rw [hx] at h
   obtain ⟨y,o',h1,h2,h3,h4⟩:=catA_mem xs _ (fun y hy=>hw y (by simp [hy])) l h
   exact ⟨y,o',by simp [h1],by omega,by simp only [List.map_cons,List.sum_cons];omega,h4⟩
theorem rows_ok:∀ n:Tree,chk n=0→∀ (o:Nat) l,l∈rowsA n o→∀ x,x∈l→scalar x.1∧scalar x.2.1∧x.1≤x.2.1∧0≤x.2.2∧x.2.2<((o+sz n:Nat):Int):=by
 intro n
 induction n using Tree.ind with
 | h k s sub a b ih =>
  intro hc o l hl x hx
  obtain ⟨h1,h2,h3,h4⟩:=chk_kinds hc
  have hwf:=chk_wf _ hc
  have h2s:=sz_two hwf
  by_cases hk:k=2
  ·rw [rowsA,if_pos hk] at hl
   simp only [List.mem_cons,List.not_mem_nil,or_false] at hl
   rcases hl with rfl | rfl
   ·obtain ⟨r,hr,rfl⟩:=List.mem_map.1 hx
    obtain ⟨q1,q2,q3⟩:=rgB_ok (chk_set hc hk r hr)
    exact ⟨q1,q2,q3,by dsimp only;omega,by dsimp only;omega⟩
   ·cases hx
  ·rw [rowsA_items k s sub a b o hk (fun h5=>by obtain ⟨y,rfl,_⟩:=h3 h5;simp)] at hl
   rw [sz_eq hwf]
   simp only [List.mem_cons,List.mem_append,List.not_mem_nil,or_false] at hl
   have hit:∀ y,y∈items (.mk k s sub a b)→y∈sub:=by
    intro y hy
    by_cases h5:k=5
    ·obtain ⟨z,rfl,_⟩:=h3 h5
     simp only [items,h5,if_true,List.headD_cons] at hy
     rw [(List.mem_replicate.1 hy).2];simp
    ·simpa [items,h5] using hy
   rcases hl with rfl | hl | rfl
   ·cases hx
   ·obtain ⟨y,o',q1,q2,q3,q4⟩:=catA_mem _ _ (items_wf hwf) l hl
    obtain ⟨r1,r2,r3,r4,r5⟩:=ih y (hit y q1) (h4 y (hit y q1)) o' l q4 x hx
    exact ⟨r1,r2,r3,r4,by omega⟩
   ·cases hx
theorem st0_is:st0.Is [] (fun _ _=>False):=⟨rfl,rfl,fun r z=>by simp [Mem,st0]⟩
structure Built (n:Tree) (A:Au):Prop where
 arcs:A.arcs=rowsA n 0
 len:A.emp.length=sz n
 emp:∀ r z,z∈A.emp.getD r []↔∃ t:Nat,z=t∧Ed n 0 r t
 start:A.start=0
 accept:A.accept=(sz n:Int) - 1
theorem build_is {n:Tree} (hn:WF n):Built n (buildM n):=by
 obtain ⟨h1,h2⟩:=part_spec hn st0 [] _ st0_is
 simp only [List.nil_append,List.length_nil,Nat.zero_add,false_or] at h1 h2
 refine ⟨h1.a,?_,fun r z=>?_,rfl,?_⟩
 ·simp only [buildM,List.length_map]
  rw [h1.e,rowsA_len hn]
 ·rw [← h1.m r z]
  unfold Mem
  simp only [buildM]
  rw [List.getD_eq_getElem?_getD,List.getD_eq_getElem?_getD,List.getElem?_map]
  cases (partB n st0).1.E[r]? with
  | none=>simp
  | some l=>simp [sortI]
 ·simp only [buildM];omega
theorem built_proper {n:Tree} {A:Au} (hb:Built n A) (hc:chk n=0) (hs:sz n≤3000):A.Proper:=by
 have hwf:=chk_wf n hc
 have h2:=sz_two hwf
 have hl:A.arcs.length=sz n:=by rw [hb.arcs,rowsA_len hwf]
 refine ⟨by omega,by omega,by rw [hb.len,hl],?_,?_,fun l hl' x hx=>?_,fun l hl' z hz=>?_⟩
 ·rw [hl,hb.start];exact ⟨Int.le_refl _,by omega⟩
 ·rw [hl,hb.accept];exact ⟨by omega,by omega⟩
 ·rw [hb.arcs] at hl'
  obtain ⟨q1,q2,q3,q4,q5⟩:=rows_ok n hc 0 l hl' x hx
  rw [hl]
  exact ⟨q1,q2,q3,q4,by simpa using q5⟩
 ·obtain ⟨r,hr,rfl⟩:=List.mem_iff_getElem.1 hl'
  obtain ⟨t,rfl,he⟩:=(hb.emp r z).1 (by rw [List.getD_eq_getElem?_getD,List.getElem?_eq_getElem hr];exact hz)
  have:=ed_region hwf 0 r t he
  rw [hl];exact ⟨by omega,by omega⟩
theorem built_accept {n:Tree} {A:Au} (hb:Built n A) (hc:chk n=0) (hs:sz n≤3000) (w:List Int):acceptM A w↔Lang n w:=by
 have hwf:=chk_wf n hc
 have h2:=sz_two hwf
 have hp:=built_proper hb hc hs
 rw [accept_iff hp w,hb.start,hb.accept]
 have e:((sz n:Int) - 1).toNat=sz n - 1:=by omega
 rw [e]
 have hE:∀ x t,EpA A x t↔Ed n 0 x t:=fun x t=>by
  unfold EpA
  rw [hb.emp]
  constructor
  ·rintro ⟨t',h,he⟩
   have:t=t':=by omega
   rw [this];exact he
  ·exact fun he=>⟨t,rfl,he⟩
 refine reads_all hwf (fun r h0 h1=>⟨fun t=>hE r t,fun c t=>?_⟩) (fun t h=>?_) (fun c t h=>?_) w
 ·unfold ArA;rw [hb.arcs,Nat.sub_zero]
 ·have:=ed_region hwf 0 _ t ((hE _ t).1 h)
  omega
 ·unfold ArA at h
  rw [hb.arcs] at h
  obtain ⟨lo,hi,hm,_⟩:=h
  rw [rowsA_last hwf] at hm;cases hm
theorem built_match {n:Tree} {A:Au} (hb:Built n A) (hc:chkE n=0) (hs:sz n≤3000) (s:List UInt8):nfaB A s=matchB n s:=by
 have hc0:=(chkE_ok hc).2
 rw [Bool.eq_iff_iff,matchB_iff,nfaB_iff,built_accept hb hc0 hs]
 exact ⟨fun h=>⟨hc,h.2⟩,fun h=>⟨built_proper hb hc0 hs,h.2⟩⟩
end Go.Proofs.YtngdkenddfdhaaaGreatDoor
set_option linter.unusedVariables false
set_option linter.unusedSimpArgs false
set_option maxRecDepth 100000
namespace Go.Proofs.YtngdkenddfdhaaaGreatDoor
open Go Nv Pat
end Go.Proofs.YtngdkenddfdhaaaGreatDoor
/- The prepared code of further functions. Written by a program of mine (gen.py) out of what the loaded dump prints. -/

set_option linter.unusedVariables false
set_option maxRecDepth 100000
namespace Go.Proofs.YtngdkenddfdhaaaGreatDoor
open Go Nv
theorem fn12:FnIs Tryz.prog 12 1 [Go.ResultVar.tmp 2] (.seq (.region [⟨some 1,Go.Op.box 25 (Go.Operand.tmp 0),0,none⟩,
   ⟨some 2,Go.Op.assign (Go.Operand.const (Go.Value.int Go.IntKind.i64 0)),3,none⟩])
  (.seq (.seq (.region [⟨some 3,Go.Op.load 25 (Go.Operand.tmp 1),25,none⟩,
   ⟨some 4,Go.Op.call { callee:=Go.Callee.value (Go.Operand.func 29),args:=#[Go.Operand.tmp 3,Go.Operand.const (Go.Value.int Go.IntKind.i64 121)],argTypes:=#[25,3] },3,none⟩,
   ⟨some 5,Go.Op.binOp Go.BinOp.gtr 3 (Go.Operand.tmp 4) (Go.Operand.const (Go.Value.int Go.IntKind.i64 120)) 3,4,none⟩])
  (.cond (Go.Operand.tmp 5)
   (.seq (.region [⟨some 2,Go.Op.assign (Go.Operand.const (Go.Value.int Go.IntKind.i64 5)),3,none⟩])
   .ret)
   .skip))
  (.seq (.region [⟨some 6,Go.Op.load 25 (Go.Operand.tmp 1),25,none⟩,
   ⟨some 7,Go.Op.call { callee:=Go.Callee.value (Go.Operand.func 30),args:=#[Go.Operand.tmp 6],argTypes:=#[25] },3,none⟩,
   ⟨some 2,Go.Op.assign (Go.Operand.tmp 7),3,none⟩])
  .ret))) :=
 ⟨foll,Tryz.f12,Tryz.func12,by kernel_rfl,by kernel_rfl,by kernel_rfl,by rw [Tryz.ntmps12];decide⟩
theorem fn30:FnIs Tryz.prog 30 1 [Go.ResultVar.tmp 2] (.seq (.region [⟨some 1,Go.Op.box 25 (Go.Operand.tmp 0),0,none⟩,
   ⟨some 2,Go.Op.assign (Go.Operand.const (Go.Value.int Go.IntKind.i64 0)),3,none⟩])
  (.seq (.seq (.region [⟨some 6,Go.Op.fieldAddr 25 (Go.Operand.tmp 1) 0,0,none⟩,
   ⟨some 7,Go.Op.load 3 (Go.Operand.tmp 6),3,none⟩,
   ⟨some 8,Go.Op.binOp Go.BinOp.lss 3 (Go.Operand.tmp 7) (Go.Operand.const (Go.Value.int Go.IntKind.i64 1)) 3,4,none⟩,
   ⟨some 9,Go.Op.move (Go.Operand.tmp 8),4,none⟩,
   ⟨some 10,Go.Op.fieldAddr 25 (Go.Operand.tmp 1) 0,0,(some (9,false))⟩,
   ⟨some 11,Go.Op.load 3 (Go.Operand.tmp 10),3,(some (9,false))⟩,
   ⟨some 12,Go.Op.binOp Go.BinOp.gtr 3 (Go.Operand.tmp 11) (Go.Operand.const (Go.Value.int Go.IntKind.i64 5)) 3,4,(some (9,false))⟩,
   ⟨some 13,Go.Op.pick (Go.Operand.tmp 9) (Go.Operand.const (Go.Value.bool true)) (Go.Operand.tmp 12),4,none⟩])
  (.cond (Go.Operand.tmp 13)
   (.seq (.region [⟨some 2,Go.Op.assign (Go.Operand.const (Go.Value.int Go.IntKind.i64 9)),3,none⟩])
   .ret)
   .skip))
  (.seq (.region [⟨some 14,Go.Op.fieldAddr 25 (Go.Operand.tmp 1) 0,0,none⟩,
   ⟨some 15,Go.Op.load 3 (Go.Operand.tmp 14),3,none⟩,
   ⟨some 16,Go.Op.binOp Go.BinOp.eql 3 (Go.Operand.tmp 15) (Go.Operand.const (Go.Value.int Go.IntKind.i64 2)) 3,4,none⟩,
   ⟨some 17,Go.Op.move (Go.Operand.tmp 16),4,none⟩,
   ⟨some 18,Go.Op.fieldAddr 25 (Go.Operand.tmp 1) 1,0,(some (17,false))⟩,
   ⟨some 19,Go.Op.load 22 (Go.Operand.tmp 18),22,(some (17,false))⟩,
   ⟨some 20,Go.Op.call { callee:=Go.Callee.builtin Go.Builtin.len,args:=#[Go.Operand.tmp 19],argTypes:=#[22] },3,(some (17,false))⟩,
   ⟨some 21,Go.Op.binOp Go.BinOp.eql 3 (Go.Operand.tmp 20) (Go.Operand.const (Go.Value.int Go.IntKind.i64 0)) 3,4,(some (17,false))⟩,
   ⟨some 22,Go.Op.pick (Go.Operand.tmp 17) (Go.Operand.const (Go.Value.bool true)) (Go.Operand.tmp 21),4,none⟩,
   ⟨some 3,Go.Op.assign (Go.Operand.tmp 22),4,none⟩])
  (.seq (.region [⟨some 23,Go.Op.move (Go.Operand.tmp 3),4,none⟩,
   ⟨some 24,Go.Op.move (Go.Operand.tmp 23),4,none⟩,
   ⟨some 25,Go.Op.fieldAddr 25 (Go.Operand.tmp 1) 0,0,(some (24,true))⟩,
   ⟨some 26,Go.Op.load 3 (Go.Operand.tmp 25),3,(some (24,true))⟩,
   ⟨some 27,Go.Op.binOp Go.BinOp.eql 3 (Go.Operand.tmp 26) (Go.Operand.const (Go.Value.int Go.IntKind.i64 5)) 3,4,(some (24,true))⟩,
   ⟨some 28,Go.Op.move (Go.Operand.tmp 27),4,(some (24,true))⟩,
   ⟨some 29,Go.Op.fieldAddr 25 (Go.Operand.tmp 1) 3,0,(some (28,false))⟩,
   ⟨some 30,Go.Op.load 3 (Go.Operand.tmp 29),3,(some (28,false))⟩,
   ⟨some 31,Go.Op.binOp Go.BinOp.eql 3 (Go.Operand.tmp 30) (Go.Operand.const (Go.Value.int Go.IntKind.i64 0)) 3,4,(some (28,false))⟩,
   ⟨some 32,Go.Op.move (Go.Operand.tmp 31),4,(some (28,false))⟩,
   ⟨some 33,Go.Op.fieldAddr 25 (Go.Operand.tmp 1) 4,0,(some (32,true))⟩,
   ⟨some 34,Go.Op.load 3 (Go.Operand.tmp 33),3,(some (32,true))⟩,
   ⟨some 35,Go.Op.binOp Go.BinOp.eql 3 (Go.Operand.tmp 34) (Go.Operand.const (Go.Value.int Go.IntKind.i64 0)) 3,4,(some (32,true))⟩,
   ⟨some 36,Go.Op.pick (Go.Operand.tmp 32) (Go.Operand.tmp 35) (Go.Operand.const (Go.Value.bool false)),4,(some (28,false))⟩,
   ⟨some 37,Go.Op.pick (Go.Operand.tmp 28) (Go.Operand.const (Go.Value.bool true)) (Go.Operand.tmp 36),4,(some (24,true))⟩,
   ⟨some 38,Go.Op.pick (Go.Operand.tmp 24) (Go.Operand.tmp 37) (Go.Operand.const (Go.Value.bool false)),4,none⟩,
   ⟨some 3,Go.Op.assign (Go.Operand.tmp 38),4,none⟩])
  (.seq (.seq (.region [⟨some 39,Go.Op.fieldAddr 25 (Go.Operand.tmp 1) 0,0,none⟩,
   ⟨some 40,Go.Op.load 3 (Go.Operand.tmp 39),3,none⟩])
  (.block 0
   (.seq (.seq (.region [⟨some 42,Go.Op.binOp Go.BinOp.eql 3 (Go.Operand.tmp 40) (Go.Operand.const (Go.Value.int Go.IntKind.i64 1)) 3,4,none⟩,
    ⟨some 41,Go.Op.assign (Go.Operand.tmp 42),4,none⟩])
   (.cond (Go.Operand.tmp 41)
    .skip
    (.region [⟨some 43,Go.Op.binOp Go.BinOp.eql 3 (Go.Operand.tmp 40) (Go.Operand.const (Go.Value.int Go.IntKind.i64 2)) 3,4,none⟩,
     ⟨some 41,Go.Op.assign (Go.Operand.tmp 43),4,none⟩])))
   (.cond (Go.Operand.tmp 41)
    (.region [⟨some 44,Go.Op.move (Go.Operand.tmp 3),4,none⟩,
     ⟨some 45,Go.Op.move (Go.Operand.tmp 44),4,none⟩,
     ⟨some 46,Go.Op.fieldAddr 25 (Go.Operand.tmp 1) 2,0,(some (45,true))⟩,
     ⟨some 47,Go.Op.load 23 (Go.Operand.tmp 46),23,(some (45,true))⟩,
     ⟨some 48,Go.Op.call { callee:=Go.Callee.builtin Go.Builtin.len,args:=#[Go.Operand.tmp 47],argTypes:=#[23] },3,(some (45,true))⟩,
     ⟨some 49,Go.Op.binOp Go.BinOp.eql 3 (Go.Operand.tmp 48) (Go.Operand.const (Go.Value.int Go.IntKind.i64 0)) 3,4,(some (45,true))⟩,
     ⟨some 50,Go.Op.pick (Go.Operand.tmp 45) (Go.Operand.tmp 49) (Go.Operand.const (Go.Value.bool false)),4,none⟩,
     ⟨some 51,Go.Op.move (Go.Operand.tmp 50),4,none⟩,
     ⟨some 52,Go.Op.fieldAddr 25 (Go.Operand.tmp 1) 1,0,(some (51,true))⟩,
     ⟨some 53,Go.Op.load 22 (Go.Operand.tmp 52),22,(some (51,true))⟩,
     ⟨some 54,Go.Op.call { callee:=Go.Callee.value (Go.Operand.func 55),args:=#[Go.Operand.tmp 53],argTypes:=#[22] },4,(some (51,true))⟩,
     ⟨some 55,Go.Op.pick (Go.Operand.tmp 51) (Go.Operand.tmp 54) (Go.Operand.const (Go.Value.bool false)),4,none⟩,
     ⟨some 3,Go.Op.assign (Go.Operand.tmp 55),4,none⟩])
    (.seq (.seq (.region [⟨some 57,Go.Op.binOp Go.BinOp.eql 3 (Go.Operand.tmp 40) (Go.Operand.const (Go.Value.int Go.IntKind.i64 3)) 3,4,none⟩,
     ⟨some 56,Go.Op.assign (Go.Operand.tmp 57),4,none⟩])
    (.cond (Go.Operand.tmp 56)
     .skip
     (.region [⟨some 58,Go.Op.binOp Go.BinOp.eql 3 (Go.Operand.tmp 40) (Go.Operand.const (Go.Value.int Go.IntKind.i64 4)) 3,4,none⟩,
      ⟨some 56,Go.Op.assign (Go.Operand.tmp 58),4,none⟩])))
    (.cond (Go.Operand.tmp 56)
     (.region [⟨some 59,Go.Op.move (Go.Operand.tmp 3),4,none⟩,
      ⟨some 60,Go.Op.move (Go.Operand.tmp 59),4,none⟩,
      ⟨some 61,Go.Op.fieldAddr 25 (Go.Operand.tmp 1) 2,0,(some (60,true))⟩,
      ⟨some 62,Go.Op.load 23 (Go.Operand.tmp 61),23,(some (60,true))⟩,
      ⟨some 63,Go.Op.call { callee:=Go.Callee.builtin Go.Builtin.len,args:=#[Go.Operand.tmp 62],argTypes:=#[23] },3,(some (60,true))⟩,
      ⟨some 64,Go.Op.binOp Go.BinOp.gtr 3 (Go.Operand.tmp 63) (Go.Operand.const (Go.Value.int Go.IntKind.i64 1)) 3,4,(some (60,true))⟩,
      ⟨some 65,Go.Op.pick (Go.Operand.tmp 60) (Go.Operand.tmp 64) (Go.Operand.const (Go.Value.bool false)),4,none⟩,
      ⟨some 3,Go.Op.assign (Go.Operand.tmp 65),4,none⟩])
     (.seq (.region [⟨some 67,Go.Op.binOp Go.BinOp.eql 3 (Go.Operand.tmp 40) (Go.Operand.const (Go.Value.int Go.IntKind.i64 5)) 3,4,none⟩,
      ⟨some 66,Go.Op.assign (Go.Operand.tmp 67),4,none⟩])
     (.cond (Go.Operand.tmp 66)
      (.region [⟨some 68,Go.Op.move (Go.Operand.tmp 3),4,none⟩,
       ⟨some 69,Go.Op.move (Go.Operand.tmp 68),4,none⟩,
       ⟨some 70,Go.Op.fieldAddr 25 (Go.Operand.tmp 1) 2,0,(some (69,true))⟩,
       ⟨some 71,Go.Op.load 23 (Go.Operand.tmp 70),23,(some (69,true))⟩,
       ⟨some 72,Go.Op.call { callee:=Go.Callee.builtin Go.Builtin.len,args:=#[Go.Operand.tmp 71],argTypes:=#[23] },3,(some (69,true))⟩,
       ⟨some 73,Go.Op.binOp Go.BinOp.eql 3 (Go.Operand.tmp 72) (Go.Operand.const (Go.Value.int Go.IntKind.i64 1)) 3,4,(some (69,true))⟩,
       ⟨some 74,Go.Op.pick (Go.Operand.tmp 69) (Go.Operand.tmp 73) (Go.Operand.const (Go.Value.bool false)),4,none⟩,
       ⟨some 75,Go.Op.move (Go.Operand.tmp 74),4,none⟩,
       ⟨some 76,Go.Op.fieldAddr 25 (Go.Operand.tmp 1) 3,0,(some (75,true))⟩,
       ⟨some 77,Go.Op.load 3 (Go.Operand.tmp 76),3,(some (75,true))⟩,
       ⟨some 78,Go.Op.binOp Go.BinOp.geq 3 (Go.Operand.tmp 77) (Go.Operand.const (Go.Value.int Go.IntKind.i64 0)) 3,4,(some (75,true))⟩,
       ⟨some 79,Go.Op.pick (Go.Operand.tmp 75) (Go.Operand.tmp 78) (Go.Operand.const (Go.Value.bool false)),4,none⟩,
       ⟨some 80,Go.Op.move (Go.Operand.tmp 79),4,none⟩,
       ⟨some 81,Go.Op.fieldAddr 25 (Go.Operand.tmp 1) 3,0,(some (80,true))⟩,
       ⟨some 82,Go.Op.load 3 (Go.Operand.tmp 81),3,(some (80,true))⟩,
       ⟨some 83,Go.Op.binOp Go.BinOp.leq 3 (Go.Operand.tmp 82) (Go.Operand.const (Go.Value.int Go.IntKind.i64 20)) 3,4,(some (80,true))⟩,
       ⟨some 84,Go.Op.pick (Go.Operand.tmp 80) (Go.Operand.tmp 83) (Go.Operand.const (Go.Value.bool false)),4,none⟩,
       ⟨some 85,Go.Op.move (Go.Operand.tmp 84),4,none⟩,
       ⟨some 86,Go.Op.fieldAddr 25 (Go.Operand.tmp 1) 4,0,(some (85,true))⟩,
       ⟨some 87,Go.Op.load 3 (Go.Operand.tmp 86),3,(some (85,true))⟩,
       ⟨some 88,Go.Op.binOp Go.BinOp.eql 3 (Go.Operand.tmp 87) (Go.Operand.const (Go.Value.int Go.IntKind.i64 (-1))) 3,4,(some (85,true))⟩,
       ⟨some 89,Go.Op.move (Go.Operand.tmp 88),4,(some (85,true))⟩,
       ⟨some 90,Go.Op.fieldAddr 25 (Go.Operand.tmp 1) 4,0,(some (89,false))⟩,
       ⟨some 91,Go.Op.load 3 (Go.Operand.tmp 90),3,(some (89,false))⟩,
       ⟨some 92,Go.Op.fieldAddr 25 (Go.Operand.tmp 1) 3,0,(some (89,false))⟩,
       ⟨some 93,Go.Op.load 3 (Go.Operand.tmp 92),3,(some (89,false))⟩,
       ⟨some 94,Go.Op.binOp Go.BinOp.geq 3 (Go.Operand.tmp 91) (Go.Operand.tmp 93) 3,4,(some (89,false))⟩,
       ⟨some 95,Go.Op.move (Go.Operand.tmp 94),4,(some (89,false))⟩,
       ⟨some 96,Go.Op.fieldAddr 25 (Go.Operand.tmp 1) 4,0,(some (95,true))⟩,
       ⟨some 97,Go.Op.load 3 (Go.Operand.tmp 96),3,(some (95,true))⟩,
       ⟨some 98,Go.Op.binOp Go.BinOp.leq 3 (Go.Operand.tmp 97) (Go.Operand.const (Go.Value.int Go.IntKind.i64 20)) 3,4,(some (95,true))⟩,
       ⟨some 99,Go.Op.pick (Go.Operand.tmp 95) (Go.Operand.tmp 98) (Go.Operand.const (Go.Value.bool false)),4,(some (89,false))⟩,
       ⟨some 100,Go.Op.pick (Go.Operand.tmp 89) (Go.Operand.const (Go.Value.bool true)) (Go.Operand.tmp 99),4,(some (85,true))⟩,
       ⟨some 101,Go.Op.pick (Go.Operand.tmp 85) (Go.Operand.tmp 100) (Go.Operand.const (Go.Value.bool false)),4,none⟩,
       ⟨some 3,Go.Op.assign (Go.Operand.tmp 101),4,none⟩])
      .skip))))))))
  (.seq (.seq (.region [⟨some 102,Go.Op.move (Go.Operand.tmp 3),4,none⟩,
   ⟨some 103,Go.Op.unOp Go.UnOp.not 4 (Go.Operand.tmp 102),4,none⟩])
  (.cond (Go.Operand.tmp 103)
   (.seq (.region [⟨some 2,Go.Op.assign (Go.Operand.const (Go.Value.int Go.IntKind.i64 1)),3,none⟩])
   .ret)
   .skip))
  (.seq (.seq (.region [⟨some 4,Go.Op.assign (Go.Operand.const (Go.Value.int Go.IntKind.i64 0)),3,none⟩])
  (.block 1
   (.loop
    (.seq (.seq (.region [⟨some 104,Go.Op.move (Go.Operand.tmp 4),3,none⟩,
     ⟨some 105,Go.Op.fieldAddr 25 (Go.Operand.tmp 1) 2,0,none⟩,
     ⟨some 106,Go.Op.load 23 (Go.Operand.tmp 105),23,none⟩,
     ⟨some 107,Go.Op.call { callee:=Go.Callee.builtin Go.Builtin.len,args:=#[Go.Operand.tmp 106],argTypes:=#[23] },3,none⟩,
     ⟨some 108,Go.Op.binOp Go.BinOp.lss 3 (Go.Operand.tmp 104) (Go.Operand.tmp 107) 3,4,none⟩])
    (.cond (Go.Operand.tmp 108)
     .skip
     (.exit 1)))
    (.seq (.block 2
     (.seq (.region [⟨some 111,Go.Op.fieldAddr 25 (Go.Operand.tmp 1) 2,0,none⟩,
      ⟨some 112,Go.Op.load 23 (Go.Operand.tmp 111),23,none⟩,
      ⟨some 113,Go.Op.move (Go.Operand.tmp 4),3,none⟩,
      ⟨some 114,Go.Op.indexAddr 23 (Go.Operand.tmp 112) (Go.Operand.tmp 113),0,none⟩,
      ⟨some 115,Go.Op.load 25 (Go.Operand.tmp 114),25,none⟩,
      ⟨some 116,Go.Op.call { callee:=Go.Callee.value (Go.Operand.func 30),args:=#[Go.Operand.tmp 115],argTypes:=#[25] },3,none⟩,
      ⟨some 5,Go.Op.assign (Go.Operand.tmp 116),3,none⟩])
     (.seq (.region [⟨some 117,Go.Op.move (Go.Operand.tmp 5),3,none⟩,
      ⟨some 118,Go.Op.binOp Go.BinOp.neq 3 (Go.Operand.tmp 117) (Go.Operand.const (Go.Value.int Go.IntKind.i64 0)) 3,4,none⟩])
     (.cond (Go.Operand.tmp 118)
      (.seq (.region [⟨some 119,Go.Op.move (Go.Operand.tmp 5),3,none⟩,
       ⟨some 2,Go.Op.assign (Go.Operand.tmp 119),3,none⟩])
      .ret)
      .skip))))
    (.region [⟨some 109,Go.Op.move (Go.Operand.tmp 4),3,none⟩,
     ⟨some 110,Go.Op.binOp Go.BinOp.add 3 (Go.Operand.tmp 109) (Go.Operand.const (Go.Value.int Go.IntKind.i64 1)) 3,3,none⟩,
     ⟨some 4,Go.Op.assign (Go.Operand.tmp 110),3,none⟩]))))))
  (.seq (.region [⟨some 2,Go.Op.assign (Go.Operand.const (Go.Value.int Go.IntKind.i64 0)),3,none⟩])
  .ret)))))))) :=
 ⟨foll,Tryz.f30,Tryz.func30,by kernel_rfl,by kernel_rfl,by kernel_rfl,by rw [Tryz.ntmps30];decide⟩
theorem fn55:FnIs Tryz.prog 55 1 [Go.ResultVar.tmp 2] (.seq (.region [⟨some 2,Go.Op.assign (Go.Operand.const (Go.Value.bool false)),4,none⟩])
  (.seq (.seq (.region [⟨some 3,Go.Op.assign (Go.Operand.const (Go.Value.int Go.IntKind.i64 0)),3,none⟩])
  (.block 0
   (.loop
    (.seq (.seq (.region [⟨some 5,Go.Op.move (Go.Operand.tmp 3),3,none⟩,
     ⟨some 6,Go.Op.move (Go.Operand.tmp 0),22,none⟩,
     ⟨some 7,Go.Op.call { callee:=Go.Callee.builtin Go.Builtin.len,args:=#[Go.Operand.tmp 6],argTypes:=#[22] },3,none⟩,
     ⟨some 8,Go.Op.binOp Go.BinOp.lss 3 (Go.Operand.tmp 5) (Go.Operand.tmp 7) 3,4,none⟩])
    (.cond (Go.Operand.tmp 8)
     .skip
     (.exit 0)))
    (.seq (.block 1
     (.seq (.region [⟨some 11,Go.Op.move (Go.Operand.tmp 0),22,none⟩,
      ⟨some 12,Go.Op.move (Go.Operand.tmp 3),3,none⟩,
      ⟨some 13,Go.Op.indexAddr 22 (Go.Operand.tmp 11) (Go.Operand.tmp 12),0,none⟩,
      ⟨some 14,Go.Op.load 57 (Go.Operand.tmp 13),57,none⟩,
      ⟨some 4,Go.Op.alloc 57,0,none⟩,
      ⟨none,Go.Op.store 57 (Go.Operand.tmp 4) (Go.Operand.tmp 14),0,none⟩])
     (.seq (.draw true [⟨⟨some 15,Go.Op.fieldAddr 57 (Go.Operand.tmp 4) 0,0,none⟩,false,false,false⟩,
      ⟨⟨some 16,Go.Op.load 21 (Go.Operand.tmp 15),21,none⟩,false,false,false⟩,
      ⟨⟨some 17,Go.Op.call { callee:=Go.Callee.value (Go.Operand.func 78),args:=#[Go.Operand.tmp 16],argTypes:=#[21] },4,none⟩,false,false,false⟩,
      ⟨⟨some 18,Go.Op.unOp Go.UnOp.not 4 (Go.Operand.tmp 17),4,none⟩,false,false,false⟩,
      ⟨⟨some 19,Go.Op.move (Go.Operand.tmp 18),4,none⟩,false,false,false⟩,
      ⟨⟨some 20,Go.Op.fieldAddr 57 (Go.Operand.tmp 4) 1,0,(some (19,false))⟩,false,false,false⟩,
      ⟨⟨some 21,Go.Op.load 21 (Go.Operand.tmp 20),21,(some (19,false))⟩,false,false,false⟩,
      ⟨⟨some 22,Go.Op.call { callee:=Go.Callee.value (Go.Operand.func 78),args:=#[Go.Operand.tmp 21],argTypes:=#[21] },4,(some (19,false))⟩,false,false,false⟩,
      ⟨⟨some 23,Go.Op.unOp Go.UnOp.not 4 (Go.Operand.tmp 22),4,(some (19,false))⟩,false,false,false⟩,
      ⟨⟨some 24,Go.Op.pick (Go.Operand.tmp 19) (Go.Operand.const (Go.Value.bool true)) (Go.Operand.tmp 23),4,none⟩,false,false,false⟩,
      ⟨⟨some 25,Go.Op.move (Go.Operand.tmp 24),4,none⟩,false,false,false⟩,
      ⟨⟨some 26,Go.Op.fieldAddr 57 (Go.Operand.tmp 4) 0,0,(some (25,false))⟩,false,false,false⟩,
      ⟨⟨some 27,Go.Op.load 21 (Go.Operand.tmp 26),21,(some (25,false))⟩,false,false,false⟩,
      ⟨⟨some 28,Go.Op.fieldAddr 57 (Go.Operand.tmp 4) 1,0,(some (25,false))⟩,false,false,false⟩,
      ⟨⟨some 29,Go.Op.load 21 (Go.Operand.tmp 28),21,(some (25,false))⟩,false,false,false⟩,
      ⟨⟨some 30,Go.Op.binOp Go.BinOp.gtr 21 (Go.Operand.tmp 27) (Go.Operand.tmp 29) 21,4,(some (25,false))⟩,false,false,false⟩,
      ⟨⟨some 31,Go.Op.pick (Go.Operand.tmp 25) (Go.Operand.const (Go.Value.bool true)) (Go.Operand.tmp 30),4,none⟩,false,false,false⟩,
      ⟨⟨some 32,Go.Op.move (Go.Operand.tmp 31),4,none⟩,false,false,false⟩,
      ⟨⟨some 33,Go.Op.fieldAddr 57 (Go.Operand.tmp 4) 0,0,(some (32,false))⟩,false,false,false⟩,
      ⟨⟨some 34,Go.Op.load 21 (Go.Operand.tmp 33),21,(some (32,false))⟩,false,false,false⟩,
      ⟨⟨some 35,Go.Op.binOp Go.BinOp.lss 21 (Go.Operand.tmp 34) (Go.Operand.const (Go.Value.int Go.IntKind.i32 55296)) 21,4,(some (32,false))⟩,false,false,false⟩,
      ⟨⟨some 36,Go.Op.move (Go.Operand.tmp 35),4,(some (32,false))⟩,false,false,false⟩,
      ⟨⟨some 37,Go.Op.fieldAddr 57 (Go.Operand.tmp 4) 1,0,(some (36,true))⟩,false,false,false⟩,
      ⟨⟨some 38,Go.Op.load 21 (Go.Operand.tmp 37),21,(some (36,true))⟩,false,false,false⟩,
      ⟨⟨some 39,Go.Op.binOp Go.BinOp.gtr 21 (Go.Operand.tmp 38) (Go.Operand.const (Go.Value.int Go.IntKind.i32 57343)) 21,4,(some (36,true))⟩,false,false,false⟩,
      ⟨⟨some 40,Go.Op.pick (Go.Operand.tmp 36) (Go.Operand.tmp 39) (Go.Operand.const (Go.Value.bool false)),4,(some (32,false))⟩,false,false,false⟩,
      ⟨⟨some 41,Go.Op.pick (Go.Operand.tmp 32) (Go.Operand.const (Go.Value.bool true)) (Go.Operand.tmp 40),4,none⟩,false,false,false⟩,
      ⟨⟨some 42,Go.Op.move (Go.Operand.tmp 41),4,none⟩,false,false,false⟩,
      ⟨⟨some 43,Go.Op.move (Go.Operand.tmp 3),3,(some (42,false))⟩,false,false,false⟩,
      ⟨⟨some 44,Go.Op.binOp Go.BinOp.gtr 3 (Go.Operand.tmp 43) (Go.Operand.const (Go.Value.int Go.IntKind.i64 0)) 3,4,(some (42,false))⟩,false,false,false⟩,
      ⟨⟨some 45,Go.Op.move (Go.Operand.tmp 44),4,(some (42,false))⟩,false,false,false⟩,
      ⟨⟨some 46,Go.Op.fieldAddr 57 (Go.Operand.tmp 4) 0,0,(some (45,true))⟩,false,false,false⟩,
      ⟨⟨some 47,Go.Op.load 21 (Go.Operand.tmp 46),21,(some (45,true))⟩,false,false,false⟩,
      ⟨⟨some 48,Go.Op.move (Go.Operand.tmp 0),22,(some (45,true))⟩,false,false,false⟩,
      ⟨⟨some 49,Go.Op.move (Go.Operand.tmp 3),3,(some (45,true))⟩,false,false,false⟩,
      ⟨⟨some 50,Go.Op.binOp Go.BinOp.sub 3 (Go.Operand.tmp 49) (Go.Operand.const (Go.Value.int Go.IntKind.i64 1)) 3,3,(some (45,true))⟩,false,false,false⟩,
      ⟨⟨some 51,Go.Op.indexAddr 22 (Go.Operand.tmp 48) (Go.Operand.tmp 50),0,(some (45,true))⟩,false,false,false⟩,
      ⟨⟨some 52,Go.Op.fieldAddr 57 (Go.Operand.tmp 51) 1,0,(some (45,true))⟩,false,false,false⟩,
      ⟨⟨some 53,Go.Op.load 21 (Go.Operand.tmp 52),21,(some (45,true))⟩,false,false,false⟩,
      ⟨⟨some 54,Go.Op.binOp Go.BinOp.add 21 (Go.Operand.tmp 53) (Go.Operand.const (Go.Value.int Go.IntKind.i32 2)) 21,21,(some (45,true))⟩,false,false,false⟩,
      ⟨⟨some 55,Go.Op.binOp Go.BinOp.lss 21 (Go.Operand.tmp 47) (Go.Operand.tmp 54) 21,4,(some (45,true))⟩,false,false,false⟩,
      ⟨⟨some 56,Go.Op.pick (Go.Operand.tmp 45) (Go.Operand.tmp 55) (Go.Operand.const (Go.Value.bool false)),4,(some (42,false))⟩,false,false,false⟩,
      ⟨⟨some 57,Go.Op.pick (Go.Operand.tmp 42) (Go.Operand.const (Go.Value.bool true)) (Go.Operand.tmp 56),4,none⟩,false,false,false⟩] [[],[0],[0,1],[0,1,2],[0,1,2,3],[0,1,2,3,4],[0,1,2,3,4,5],[0,1,2,3,4,5,6],[0,1,2,3,4,5,6,7],[0,1,2,3,4,5,6,7,8],[0,1,2,3,4,5,6,7,8,9],[0,1,2,3,4,5,6,7,8,9,10],[0,1,2,3,4,5,6,7,8,9,10,11],[0,1,2,3,4,5,6,7,8,9,10],[0,1,2,3,4,5,6,7,8,9,10,13],[0,1,2,3,4,5,6,7,8,9,10,11,12,13,14],[0,1,2,3,4,5,6,7,8,9,10,11,12,13,14,15],[0,1,2,3,4,5,6,7,8,9,10,11,12,13,14,15,16],[0,1,2,3,4,5,6,7,8,9,10,11,12,13,14,15,16,17],[0,1,2,3,4,5,6,7,8,9,10,11,12,13,14,15,16,17,18],[0,1,2,3,4,5,6,7,8,9,10,11,12,13,14,15,16,17,18,19],[0,1,2,3,4,5,6,7,8,9,10,11,12,13,14,15,16,17,18,19,20],[0,1,2,3,4,5,6,7,8,9,10,11,12,13,14,15,16,17,18,19,20,21],[0,1,2,3,4,5,6,7,8,9,10,11,12,13,14,15,16,17,18,19,20,21,22],[0,1,2,3,4,5,6,7,8,9,10,11,12,13,14,15,16,17,18,19,20,21,22,23],[0,1,2,3,4,5,6,7,8,9,10,11,12,13,14,15,16,17,18,19,20,21,22,23,24],[0,1,2,3,4,5,6,7,8,9,10,11,12,13,14,15,16,17,18,19,20,21,22,23,24,25],[0,1,2,3,4,5,6,7,8,9,10,11,12,13,14,15,16,17,18,19,20,21,22,23,24,25,26],[0,1,2,3,4,5,6,7,8,9,10,11,12,13,14,15,16,17,18,19,20,21,22,23,24,25,26,27],[0,1,2,3,4,5,6,7,8,9,10,11,12,13,14,15,16,17,18,19,20,21,22,23,24,25,26,27,28],[0,1,2,3,4,5,6,7,8,9,10,11,12,13,14,15,16,17,18,19,20,21,22,23,24,25,26,27,28,29],[0,1,2,3,4,5,6,7,8,9,10,11,12,13,14,15,16,17,18,19,20,21,22,23,24,25,26,27,28,29,30],[0,1,2,3,4,5,6,7,8,9,10,11,12,13,14,15,16,17,18,19,20,21,22,23,24,25,26,27,28,29,30,31],[0,1,2,3,4,5,6,7,8,9,10,11,12,13,14,15,16,17,18,19,20,21,22,23,24,25,26,27,28,29,30],[0,1,2,3,4,5,6,7,8,9,10,11,12,13,14,15,16,17,18,19,20,21,22,23,24,25,26,27,28,29,30],[0,1,2,3,4,5,6,7,8,9,10,11,12,13,14,15,16,17,18,19,20,21,22,23,24,25,26,27,28,29,30,34],[0,1,2,3,4,5,6,7,8,9,10,11,12,13,14,15,16,17,18,19,20,21,22,23,24,25,26,27,28,29,30,33,34,35],[0,1,2,3,4,5,6,7,8,9,10,11,12,13,14,15,16,17,18,19,20,21,22,23,24,25,26,27,28,29,30,33,34,35,36],[0,1,2,3,4,5,6,7,8,9,10,11,12,13,14,15,16,17,18,19,20,21,22,23,24,25,26,27,28,29,30,33,34,35,36,37],[0,1,2,3,4,5,6,7,8,9,10,11,12,13,14,15,16,17,18,19,20,21,22,23,24,25,26,27,28,29,30,33,34,35,36,37,38],[0,1,2,3,4,5,6,7,8,9,10,11,12,13,14,15,16,17,18,19,20,21,22,23,24,25,26,27,28,29,30,31,32,33,34,35,36,37,38,39],[0,1,2,3,4,5,6,7,8,9,10,11,12,13,14,15,16,17,18,19,20,21,22,23,24,25,26,27,28,29,30,31,32,33,34,35,36,37,38,39,40],[0,1,2,3,4,5,6,7,8,9,10,11,12,13,14,15,16,17,18,19,20,21,22,23,24,25,26,27,28,29,30,31,32,33,34,35,36,37,38,39,40,41]])
     (.cond (Go.Operand.tmp 57)
      (.seq (.region [⟨some 2,Go.Op.assign (Go.Operand.const (Go.Value.bool false)),4,none⟩])
      .ret)
      .skip))))
    (.region [⟨some 9,Go.Op.move (Go.Operand.tmp 3),3,none⟩,
     ⟨some 10,Go.Op.binOp Go.BinOp.add 3 (Go.Operand.tmp 9) (Go.Operand.const (Go.Value.int Go.IntKind.i64 1)) 3,3,none⟩,
     ⟨some 3,Go.Op.assign (Go.Operand.tmp 10),3,none⟩]))))))
  (.seq (.region [⟨some 2,Go.Op.assign (Go.Operand.const (Go.Value.bool true)),4,none⟩])
  .ret))) :=
 ⟨foll,Tryz.f55,Tryz.func55,by kernel_rfl,by kernel_rfl,by kernel_rfl,by rw [Tryz.ntmps55];decide⟩
theorem fn78:FnIs Tryz.prog 78 1 [Go.ResultVar.tmp 2] (.seq (.region [⟨some 2,Go.Op.assign (Go.Operand.const (Go.Value.bool false)),4,none⟩])
  (.seq (.region [⟨some 3,Go.Op.move (Go.Operand.tmp 0),21,none⟩,
   ⟨some 4,Go.Op.binOp Go.BinOp.geq 21 (Go.Operand.tmp 3) (Go.Operand.const (Go.Value.int Go.IntKind.i32 0)) 21,4,none⟩,
   ⟨some 5,Go.Op.move (Go.Operand.tmp 4),4,none⟩,
   ⟨some 6,Go.Op.move (Go.Operand.tmp 0),21,(some (5,true))⟩,
   ⟨some 7,Go.Op.binOp Go.BinOp.leq 21 (Go.Operand.tmp 6) (Go.Operand.const (Go.Value.int Go.IntKind.i32 1114111)) 21,4,(some (5,true))⟩,
   ⟨some 8,Go.Op.pick (Go.Operand.tmp 5) (Go.Operand.tmp 7) (Go.Operand.const (Go.Value.bool false)),4,none⟩,
   ⟨some 9,Go.Op.move (Go.Operand.tmp 8),4,none⟩,
   ⟨some 10,Go.Op.move (Go.Operand.tmp 0),21,(some (9,true))⟩,
   ⟨some 11,Go.Op.binOp Go.BinOp.lss 21 (Go.Operand.tmp 10) (Go.Operand.const (Go.Value.int Go.IntKind.i32 55296)) 21,4,(some (9,true))⟩,
   ⟨some 12,Go.Op.move (Go.Operand.tmp 11),4,(some (9,true))⟩,
   ⟨some 13,Go.Op.move (Go.Operand.tmp 0),21,(some (12,false))⟩,
   ⟨some 14,Go.Op.binOp Go.BinOp.gtr 21 (Go.Operand.tmp 13) (Go.Operand.const (Go.Value.int Go.IntKind.i32 57343)) 21,4,(some (12,false))⟩,
   ⟨some 15,Go.Op.pick (Go.Operand.tmp 12) (Go.Operand.const (Go.Value.bool true)) (Go.Operand.tmp 14),4,(some (9,true))⟩,
   ⟨some 16,Go.Op.pick (Go.Operand.tmp 9) (Go.Operand.tmp 15) (Go.Operand.const (Go.Value.bool false)),4,none⟩,
   ⟨some 2,Go.Op.assign (Go.Operand.tmp 16),4,none⟩])
  .ret)) :=
 ⟨foll,Tryz.f78,Tryz.func78,by kernel_rfl,by kernel_rfl,by kernel_rfl,by rw [Tryz.ntmps78];decide⟩
end Go.Proofs.YtngdkenddfdhaaaGreatDoor
