/- Part of a proof about the functions of this seat. -/
import Derived.Test.YtngdkenddfdhaaaGreatDoorG22Fq32
import Derived.Test.YtngdkenddfdhaaaGreatDoorG23Fp32
import Derived.Test.YtngdkenddfdhaaaGreatDoorG17Fm32
import Derived.Lib.ValidLaws
import Derived.Test.YtngdkenddfdhaaaGreatDoorG11O32
set_option linter.unusedVariables false
set_option linter.unusedSimpArgs false
set_option maxRecDepth 100000
namespace Go.Proofs.YtngdkenddfdhaaaGreatDoor
open Go Nv Pat
theorem large_small {n:Tree} (h:largeB n=false):n.nodes≤200:=by
 unfold largeB grB at h
 simp only [Bool.or_eq_false_iff,decide_eq_false_iff_not] at h
 omega
theorem large_thin {n:Tree} (h:largeB n=false):Thin n:=by
 unfold largeB grB at h
 simp only [Bool.or_eq_false_iff,decide_eq_false_iff_not] at h
 exact thin_of n h.1.2
end Go.Proofs.YtngdkenddfdhaaaGreatDoor
set_option linter.unusedVariables false
set_option linter.unusedSimpArgs false
set_option maxRecDepth 100000
namespace Go.Proofs.YtngdkenddfdhaaaGreatDoor
open Go Nv Pat
/- The characters of two texts one after the other. -/
def shiftD (o:List Int) (k:Nat) (d:Dec):Dec:=⟨o++d.out,d.q,d.start+k⟩
theorem step_shift (o:List Int) (k i:Nat) (d:Dec) (b:Int):stepD (shiftD o k d) (i+k) b=shiftD o k (stepD d i b):=by
 unfold stepD
 by_cases h:goesOn d.q b
 ·rw [if_pos (show goesOn (shiftD o k d).q b from h),if_pos h]
  by_cases h0:d.q.missing - 1=0
  ·simp only [shiftD,h0,if_true,List.append_assoc]
  ·simp only [shiftD,h0,if_false]
 ·rw [if_neg (show ¬ goesOn (shiftD o k d).q b from h),if_neg h]
  simp only [shiftD]
  by_cases hm:0<d.q.missing <;> by_cases hb:b<128 <;> by_cases h0:(beginM b).missing=0 <;> simp only [hm,hb,h0,if_true,if_false,List.append_assoc]
theorem decL_shift (o:List Int) (k:Nat):∀ (l:List UInt8) (i:Nat) (d:Dec),decL l (i+k) (shiftD o k d)=shiftD o k (decL l i d)
 | [],_,_=>rfl
 | b::l,i,d=>by
  rw [decL,step_shift,show i+k+1=(i+1)+k by omega,decL_shift o k l (i+1),decL]
theorem decL_append:∀ (a b:List UInt8) (i:Nat) (d:Dec),decL (a++b) i d=decL b (i+a.length) (decL a i d)
 | [],b,i,d=>rfl
 | x::a,b,i,d=>by
  rw [List.cons_append,decL,decL_append a b (i+1),decL,List.length_cons,show i+1+a.length=i+(a.length+1) by omega]
def Closed (a:List UInt8):Prop:=(decM a).q.missing=0
theorem closed_nil:Closed []:=rfl
theorem step_closed {d:Dec} (h:d.q.missing=0) (i:Nat) (b:Int):stepD d i b=shiftD d.out i (stepD dec0 0 b):=by
 have h1:¬ goesOn d.q b:=fun g=>by have:=g.1;omega
 have h2:¬ goesOn dec0.q b:=fun g=>by have:=g.1;simp [dec0] at this
 have h3:¬ (0<d.q.missing):=by omega
 have h4:¬ (0<dec0.q.missing):=by simp [dec0]
 unfold stepD
 rw [if_neg h1,if_neg h2]
 simp only [h3,h4,if_false,shiftD,dec0,List.nil_append,Nat.zero_add]
 split <;> (try split) <;> simp
theorem decM_append {a:List UInt8} (h:Closed a) (b:List UInt8) (hb:b≠[]):decM (a++b)=shiftD (decM a).out a.length (decM b):=by
 cases b with
 | nil=>exact absurd rfl hb
 | cons x b =>
  rw [decM,decL_append,decL,step_closed (show (decL a 0 dec0).q.missing=0 from h)]
  rw [show 0+a.length+1=(0+1)+a.length by omega,show 0+a.length=a.length by omega,decL_shift]
  rfl
theorem closed_append {a b:List UInt8} (ha:Closed a) (hb:Closed b):Closed (a++b):=by
 by_cases h:b=[]
 ·subst h;simpa using ha
 ·unfold Closed;rw [decM_append ha b h];exact hb
theorem chars_nil:charsM []=[]:=rfl
theorem chars_closed {a:List UInt8} (ha:Closed a):charsM a=(decM a).out:=by
 have e:restM a=[]:=if_pos ha
 rw [charsM,e];simp [show finM []=[] from rfl]
theorem chars_append {a:List UInt8} (ha:Closed a) (b:List UInt8):charsM (a++b)=charsM a++charsM b:=by
 by_cases h:b=[]
 ·subst h;simp [chars_nil]
 ·have e:restM (a++b)=restM b:=by
   unfold restM
   rw [decM_append ha b h]
   simp only [shiftD]
   rw [show (decM b).start+a.length=a.length+(decM b).start by omega,← List.drop_drop,List.drop_left]
   rfl
  rw [charsM,e,decM_append ha b h,chars_closed ha,charsM]
  simp [shiftD]
theorem step0 (b:UInt8) (h:(beginM (bt b)).missing≠0):stepD dec0 0 (bt b)=⟨[],beginM (bt b),0⟩:=by
 have hb:=begin_big h
 unfold stepD
 rw [if_neg (fun g=>by have:=g.1;simp [dec0] at this)]
 simp only [dec0,show ¬ (0:Int)<0 by omega,if_false,show ¬ bt b<128 by unfold bt;omega,h]
theorem seq_dec {p:List UInt8} (hp:OkSeq p):Closed p∧∃ c,(decM p).out=[c]:=by
 cases hp with
 | @one b h =>
  have h1:¬ goesOn dec0.q (bt b):=fun g=>by have:=g.1;simp [dec0] at this
  have e:stepD dec0 0 (bt b)=⟨[bt b],beginM (bt b),0⟩:=by
   unfold stepD;rw [if_neg h1]
   simp only [dec0,show ¬ (0:Int)<0 by omega,if_false,show bt b<128 by unfold bt;omega,if_true,List.nil_append]
  have e0:(beginM (bt b)).missing=0:=by unfold beginM bt;rw [if_neg (by omega),if_neg (by omega),if_neg (by omega)]
  refine ⟨?_,bt b,?_⟩
  ·show (stepD dec0 0 (bt b)).q.missing=0
   rw [e];exact e0
  ·show (stepD dec0 0 (bt b)).out=_
   rw [e]
 | @two b c h1 h2 h3 =>
  have e:decM [b,c]=stepD (stepD dec0 0 (bt b)) 1 (bt c):=rfl
  rw [step0 b (by omega),stepD,if_pos (show goesOn (beginM (bt b)) (bt c) from ⟨by omega,h2,h3⟩)] at e
  simp only [h1,show (1:Int) - 1=0 by omega,if_true] at e
  exact ⟨by show (decM [b,c]).q.missing=0;rw [e];simp only [more];omega,_,by rw [e];rfl⟩
 | @three b c d h1 h2 h3 h4 h5 =>
  have e:decM [b,c,d]=stepD (stepD (stepD dec0 0 (bt b)) 1 (bt c)) 2 (bt d):=rfl
  rw [step0 b (by omega),stepD,stepD,if_pos (show goesOn (beginM (bt b)) (bt c) from ⟨by omega,h2,h3⟩)] at e
  simp only [h1,show ¬ (2:Int) - 1=0 by omega,if_false] at e
  rw [if_pos (show goesOn (more (beginM (bt b)) (bt c)) (bt d) from ⟨by simp only [more];omega,h4,h5⟩)] at e
  simp only [more,h1,show (2:Int) - 1 - 1=0 by omega,if_true] at e
  exact ⟨by show (decM [b,c,d]).q.missing=0;rw [e],_,by rw [e];rfl⟩
 | @four b c d f h1 h2 h3 h4 h5 h6 h7 =>
  have e:decM [b,c,d,f]=stepD (stepD (stepD (stepD dec0 0 (bt b)) 1 (bt c)) 2 (bt d)) 3 (bt f):=rfl
  rw [step0 b (by omega),stepD,stepD,stepD,if_pos (show goesOn (beginM (bt b)) (bt c) from ⟨by omega,h2,h3⟩)] at e
  simp only [h1,show ¬ (3:Int) - 1=0 by omega,if_false] at e
  rw [if_pos (show goesOn (more (beginM (bt b)) (bt c)) (bt d) from ⟨by simp only [more];omega,h4,h5⟩)] at e
  simp only [more,h1,show ¬ (3:Int) - 1 - 1=0 by omega,if_false] at e
  rw [if_pos (show goesOn ⟨_,3 - 1 - 1,128,191⟩ (bt f) from ⟨by simp,h6,h7⟩)] at e
  simp only [show (3:Int) - 1 - 1 - 1=0 by omega,if_true] at e
  exact ⟨by show (decM [b,c,d,f]).q.missing=0;rw [e],_,by rw [e];rfl⟩
theorem valid_closed {s:List UInt8} (h:Lib.validD s=true):Closed s :=
 valid_ind (P:=Closed) closed_nil (fun p r hp _ ih=>closed_append (seq_dec hp).1 ih) s.length s (Nat.le_refl _) h
def join (a b:Tree):Tree:=.mk 3 [] [a,b] 0 0
theorem lang_join (a b:Tree) (w:List Int):Lang (join a b) w↔∃ u v,w=u++v∧Lang a u∧Lang b v:=by
 have e1:Lang (join a b) w↔LangJ [a,b] w:=by simp [join,Lang]
 rw [e1,langJ_cons]
 constructor
 ·rintro ⟨u,v,rfl,hu,hv⟩
  obtain ⟨x,y,rfl,hx,hy⟩:=(langJ_cons b [] v).1 hv
  obtain rfl:y=[]:=(langJ_nil y).1 hy
  exact ⟨u,x,by simp,hu,hx⟩
 ·rintro ⟨u,v,rfl,hu,hv⟩
  exact ⟨u,v,rfl,hu,(langJ_cons b [] v).2 ⟨v,[],by simp,hv,(langJ_nil []).2 rfl⟩⟩
end Go.Proofs.YtngdkenddfdhaaaGreatDoor
set_option linter.unusedVariables false
set_option linter.unusedSimpArgs false
set_option maxRecDepth 100000
namespace Go.Proofs.YtngdkenddfdhaaaGreatDoor
open Go Nv Pat
def nodeN (k:Int) (l:List Tree) (a b:Int):AV:=.agg [.d (.int .i64 k),.d .nilslice,.d (.list 5 (l.map nodeD)),.d (.int .i64 a),.d (.int .i64 b)]
theorem wk_node (k:Int) (l:List Tree) (a b:Int):WkA (nodeN k l a b) (nodeA (.mk k [] l a b)):=by
 refine .agg rfl fun i hi=>?_
 match i,hi with
 | 0,_=>exact .refl _
 | 1,_=>exact .nil 2
 | 2,_=>exact .refl _
 | 3,_=>exact .refl _
 | 4,_=>exact .refl _
 | i+5,hi=>simp at hi;omega
theorem wk_one {f:FuncId} {k:Int} {l:List Tree} {a b:Int} {r:AV} (h:PCall Tryz.prog f [nodeA (.mk k [] l a b)] r):PCall Tryz.prog f [nodeN k l a b] r:=by
 refine h.wk rfl fun i hi=>?_
 match i,hi with
 | 0,_=>exact wk_node k l a b
def choice (l:List Tree):Tree:=.mk 4 [] l 0 0
theorem match_choice {l:List Tree} {s:List UInt8} (hc:chkE (choice l)=0) (h:∀ x,x∈l→chkE x=0):matchB (choice l) s=l.any fun x=>matchB x s:=by
 rw [Bool.eq_iff_iff,matchB_iff,List.any_eq_true]
 have e:∀ w,Lang (choice l) w↔LangC l w:=fun w=>by simp [choice,Lang]
 rw [e,langC_iff]
 constructor
 ·rintro ⟨_,x,hx,hl⟩;exact ⟨x,hx,(matchB_iff x s).2 ⟨h x hx,hl⟩⟩
 ·rintro ⟨x,hx,hm⟩;exact ⟨hc,x,hx,((matchB_iff x s).1 hm).2⟩
end Go.Proofs.YtngdkenddfdhaaaGreatDoor
set_option linter.unusedVariables false
set_option linter.unusedSimpArgs false
set_option maxRecDepth 100000
namespace Go.Proofs.YtngdkenddfdhaaaGreatDoor
open Go Nv Pat
/- What choices and joins accept. -/
theorem buildE_ok {n:Tree} (h:buildE n=0):chkE n=0∧sz n≤3000:=by
 unfold buildE szP at h
 by_cases hc:chkE n=0
 ·rw [if_pos hc] at h
  refine ⟨hc,?_⟩
  split at h <;> omega
 ·rw [if_neg hc] at h;exact absurd h hc
theorem build_cells (n:Tree):∃ a b c d:DV,buildA n=.agg [.d a,.d b,.d c,.d d]∧((AV.d a).one=true∧(AV.d b).one=true∧(AV.d c).one=true∧(AV.d d).one=true):=by
 unfold buildA
 split
 ·exact ⟨_,_,_,_,rfl,rfl,rfl,rfl,rfl⟩
 ·exact ⟨_,_,_,_,rfl,rfl,rfl,rfl,rfl⟩
theorem build_nfa {n:Tree} (ht:Thin n) (h:buildE n=0) {a b c d:DV} (hA:buildA n=.agg [.d a,.d b,.d c,.d d]) (s:List UInt8) (hs:s.length≤10000) :
  PCall Tryz.prog 16 [.agg [.d a,.d b,.d c,.d d],.d (.str s)] (.d (.bool (matchB n s))):=by
 obtain ⟨hc,hz⟩:=buildE_ok h
 have hc0:=(chkE_ok hc).2
 rw [← hA,(kbuild hc hz).2,← built_match (build_is (chk_wf n hc0)) hc hz s]
 exact match16 _ (build_fit hc0 ht hz) s hs
theorem join_append {m n:Tree} {s t:List UInt8} (hv:Lib.validD s=true) (hj:chkE (join m n)=0) (h1:matchB m s=true) (h2:matchB n t=true):matchB (join m n) (s++t)=true:=by
 rw [matchB_iff] at *
 refine ⟨hj,?_⟩
 rw [lang_join,chars_append (valid_closed hv)]
 exact ⟨_,_,rfl,h1.2,h2.2⟩
/- The region that lays out both trees. -/
def datL (m n:Tree):List (Nat × Nat × AV):=[(0,59,nodeA m),(1,60,nodeA n),(2,61,.d (.list 5 [nodeD m,nodeD n])),(3,62,nodeN 4 [m,n] 0 0),(4,63,nodeA m),(5,64,nodeA n),(6,65,.d (.list 5 [nodeD m,nodeD n])),(7,66,nodeN 3 [m,n] 0 0)]
def Dat (m n:Tree) (S:Nat→Bool) (fr:FR):Prop:=∀ i d v,(i,d,v)∈datL m n→S i=true→fr d=v
def zeroB:Blk:=.box 25 [.d (.int .i64 0),.d .nilslice,.d .nilslice,.d (.int .i64 0),.d (.int .i64 0)]
def treeB (k:Int) (m n:Tree):Blk:=.box 25 [.d (.int .i64 k),.d .nilslice,.d (.list 5 [nodeD m,nodeD n]),.d (.int .i64 0),.d (.int .i64 0)]
structure Two2 (m n:Tree) (S:Nat→Bool) (fr:FR) (σ:Nv.ST):Prop where
 b0:stGet σ 0=.box 25 (nodeF m)
 b1:stGet σ 1=.box 25 (nodeF n)
 c8:S 10=true→S 8=true
 c9:S 11=true→S 9=true
 b8:S 8=true→∃ b,fr 9=.ptr b 0∧2≤b∧stGet σ b=if S 10=true then treeB 4 m n else zeroB
 b9:S 9=true→∃ b,fr 10=.ptr b 0∧2≤b∧stGet σ b=if S 11=true then treeB 3 m n else zeroB
 ne:S 8=true→S 9=true→fr 9≠fr 10
def JJ (m n:Tree) (s t:List UInt8) (S:Nat→Bool) (fr:FR) (σ:Nv.ST):Prop :=
 fr 2=.d (.str s)∧fr 3=.d (.str t)∧fr 4=.ptr 0 0∧fr 5=.ptr 1 0∧Dat m n S fr∧Two2 m n S fr σ
theorem dat_inj {m n:Tree} {i d d':Nat} {v v':AV} (h:(i,d,v)∈datL m n) (h':(i,d',v')∈datL m n):d=d'∧v=v':=by
 simp only [datL,List.mem_cons,List.not_mem_nil,or_false,Prod.mk.injEq] at h h'
 rcases h with ⟨rfl,rfl,rfl⟩ | ⟨rfl,rfl,rfl⟩ | ⟨rfl,rfl,rfl⟩ | ⟨rfl,rfl,rfl⟩ | ⟨rfl,rfl,rfl⟩ | ⟨rfl,rfl,rfl⟩ | ⟨rfl,rfl,rfl⟩ | ⟨rfl,rfl,rfl⟩ <;> (simp at h';exact ⟨h'.1.symm,h'.2.symm⟩)
theorem dat_slot {m n:Tree} {i i' d:Nat} {v v':AV} (h:(i,d,v)∈datL m n) (h':(i',d,v')∈datL m n):i=i':=by
 simp only [datL,List.mem_cons,List.not_mem_nil,or_false,Prod.mk.injEq] at h h'
 omega
theorem put_ne {fr:FR} {d k:Nat} {v:AV} (h:k≠d):put fr (some d) v k=fr k:=by
 rw [put_some];have:(k == d)=false:=by simp [h]
 rw [this];rfl
theorem Dat.step {m n:Tree} {S:Nat→Bool} {fr:FR} (h:Dat m n S fr) {i d:Nat} {v:AV} (hm:(i,d,v)∈datL m n):Dat m n (fun k=>S k || k == i) (put fr (some d) v):=by
 intro j e u hj hS
 have hS:(S j || j == i)=true:=hS
 by_cases hji:j=i
 ·subst hji
  obtain ⟨rfl,rfl⟩:=dat_inj hm hj
  rw [put_some];simp
 ·have:(j == i)=false:=by simp [hji]
  rw [this,Bool.or_false] at hS
  have hed:e≠d:=fun e'=>hji (by subst e';exact dat_slot hj hm)
  rw [put_ne hed];exact h j e u hj hS
theorem dat_low {m n:Tree} {i d:Nat} {v:AV} (h:(i,d,v)∈datL m n):i<8∧59≤d:=by
 simp only [datL,List.mem_cons,List.not_mem_nil,or_false,Prod.mk.injEq] at h
 omega
theorem Dat.keep {m n:Tree} {S:Nat→Bool} {fr fr':FR} (h:Dat m n S fr) {i:Nat} (hi:8≤i) (hf:∀ d,59≤d→fr' d=fr d):Dat m n (fun k=>S k || k == i) fr':=by
 intro j e u hj hS
 have hS:(S j || j == i)=true:=hS
 obtain ⟨h1,h2⟩:=dat_low hj
 have:(j == i)=false:=by simp;omega
 rw [this,Bool.or_false] at hS
 rw [hf e h2];exact h j e u hj hS
theorem Two2.keep {m n:Tree} {S:Nat→Bool} {fr fr':FR} {σ:Nv.ST} (h:Two2 m n S fr σ) {i:Nat} (hi:i<8) (h9:fr' 9=fr 9) (h10:fr' 10=fr 10) (τ:Nv.ST):Two2 m n (fun k=>S k || k == i) fr' (σ++τ):=by
 have e:∀ k,8≤k→(S k || k == i)=S k:=fun k hk=>by
  have:(k == i)=false:=by simp;omega
  rw [this,Bool.or_false]
 have nd:∀ k x,stGet σ k=x→x≠.dead→stGet (σ++τ) k=x:=fun k x h1 h2=>(stGet_old σ τ (lt_of_get h1 h2)).trans h1
 refine ⟨nd _ _ h.b0 (by simp),nd _ _ h.b1 (by simp),?_,?_,?_,?_,?_⟩
 ·simp only [e 8 (by omega),e 10 (by omega)];exact h.c8
 ·simp only [e 9 (by omega),e 11 (by omega)];exact h.c9
 ·simp only [e 8 (by omega),e 10 (by omega),h9]
  intro h1
  obtain ⟨b,q1,q2,q3⟩:=h.b8 h1
  exact ⟨b,q1,q2,nd _ _ q3 (by split <;> simp [treeB,zeroB])⟩
 ·simp only [e 9 (by omega),e 11 (by omega),h10]
  intro h1
  obtain ⟨b,q1,q2,q3⟩:=h.b9 h1
  exact ⟨b,q1,q2,nd _ _ q3 (by split <;> simp [treeB,zeroB])⟩
 ·simp only [e 8 (by omega),e 9 (by omega),h9,h10];exact h.ne
theorem Two2.len {m n:Tree} {S:Nat→Bool} {fr:FR} {σ:Nv.ST} (h:Two2 m n S fr σ):2≤σ.length:=by
 have:=lt_of_get h.b1 (by simp);omega
theorem or_ne {S:Nat→Bool} {k i:Nat} (h:k≠i):(S k || k == i)=S k:=by
 have:(k == i)=false:=by simp [h]
 rw [this,Bool.or_false]
theorem or_eq (S:Nat→Bool) (i:Nat):(S i || i == i)=true:=by simp
theorem Two2.alloc8 {m n:Tree} {S:Nat→Bool} {fr:FR} {σ:Nv.ST} (h:Two2 m n S fr σ) (h8:S 8=false):Two2 m n (fun k=>S k || k == 8) (put fr (some 9) (.ptr σ.length 0)) (σ++[zeroB]):=by
 have h10:S 10=false:=by
  cases e:S 10
  ·rfl
  ·rw [h.c8 e] at h8;cases h8
 have nd:∀ k x,stGet σ k=x→x≠.dead→stGet (σ++[zeroB]) k=x:=fun k x h1 h2=>(stGet_old σ _ (lt_of_get h1 h2)).trans h1
 have p9:put fr (some 9) (.ptr σ.length 0) 9=.ptr σ.length 0:=by rw [put_some];rfl
 have p10:put fr (some 9) (.ptr σ.length 0) 10=fr 10:=put_ne (by decide)
 have e9:(S 9 || 9 == 8)=S 9:=or_ne (by decide)
 have e10:(S 10 || 10 == 8)=S 10:=or_ne (by decide)
 have e11:(S 11 || 11 == 8)=S 11:=or_ne (by decide)
 refine ⟨nd _ _ h.b0 (by simp),nd _ _ h.b1 (by simp),fun _=>or_eq S 8,?_,fun _=>⟨σ.length,p9,h.len,?_⟩,?_,?_⟩
 ·simp only [e9,e11];exact h.c9
 ·simp only [e10,h10,Bool.false_eq_true,if_false];exact stGet_add 0 rfl
 ·simp only [e9,e11,p10]
  intro h1
  obtain ⟨b,q1,q2,q3⟩:=h.b9 h1
  exact ⟨b,q1,q2,nd _ _ q3 (by split <;> simp [treeB,zeroB])⟩
 ·simp only [e9,p9,p10]
  intro _ h1 he
  obtain ⟨b,q1,q2,q3⟩:=h.b9 h1
  have:=lt_of_get q3 (by split <;> simp [treeB,zeroB])
  rw [q1] at he
  simp only [AV.ptr.injEq] at he
  omega
theorem Two2.alloc9 {m n:Tree} {S:Nat→Bool} {fr:FR} {σ:Nv.ST} (h:Two2 m n S fr σ) (h9:S 9=false):Two2 m n (fun k=>S k || k == 9) (put fr (some 10) (.ptr σ.length 0)) (σ++[zeroB]):=by
 have h11:S 11=false:=by
  cases e:S 11
  ·rfl
  ·rw [h.c9 e] at h9;cases h9
 have nd:∀ k x,stGet σ k=x→x≠.dead→stGet (σ++[zeroB]) k=x:=fun k x h1 h2=>(stGet_old σ _ (lt_of_get h1 h2)).trans h1
 have p10:put fr (some 10) (.ptr σ.length 0) 10=.ptr σ.length 0:=by rw [put_some];rfl
 have p9:put fr (some 10) (.ptr σ.length 0) 9=fr 9:=put_ne (by decide)
 have e8:(S 8 || 8 == 9)=S 8:=or_ne (by decide)
 have e10:(S 10 || 10 == 9)=S 10:=or_ne (by decide)
 have e11:(S 11 || 11 == 9)=S 11:=or_ne (by decide)
 refine ⟨nd _ _ h.b0 (by simp),nd _ _ h.b1 (by simp),?_,fun _=>or_eq S 9,?_,fun _=>⟨σ.length,p10,h.len,?_⟩,?_⟩
 ·simp only [e8,e10];exact h.c8
 ·simp only [e8,e10,p9]
  intro h1
  obtain ⟨b,q1,q2,q3⟩:=h.b8 h1
  exact ⟨b,q1,q2,nd _ _ q3 (by split <;> simp [treeB,zeroB])⟩
 ·simp only [e11,h11,Bool.false_eq_true,if_false];exact stGet_add 0 rfl
 ·simp only [e8,p9,p10]
  intro h1 _ he
  obtain ⟨b,q1,q2,q3⟩:=h.b8 h1
  have:=lt_of_get q3 (by split <;> simp [treeB,zeroB])
  rw [q1] at he
  simp only [AV.ptr.injEq] at he
  omega
theorem Two2.store10 {m n:Tree} {S:Nat→Bool} {fr:FR} {σ:Nv.ST} (h:Two2 m n S fr σ) (h8:S 8=true) {b:Nat} (hb:fr 9=.ptr b 0) (hb2:2≤b) (hl:b<σ.length):Two2 m n (fun k=>S k || k == 10) fr (stSet σ b (treeB 4 m n)):=by
 have e8:(S 8 || 8 == 10)=S 8:=or_ne (by decide)
 have e9:(S 9 || 9 == 10)=S 9:=or_ne (by decide)
 have e11:(S 11 || 11 == 10)=S 11:=or_ne (by decide)
 refine ⟨(stGet_set_ne (by omega)).trans h.b0,(stGet_set_ne (by omega)).trans h.b1,?_,?_,?_,?_,?_⟩
 ·simp only [e8];exact fun _=>h8
 ·simp only [e9,e11];exact h.c9
 ·exact fun _=>⟨b,hb,hb2,by rw [stGet_set_eq hl];simp⟩
 ·simp only [e9,e11]
  intro h1
  obtain ⟨b',q1,q2,q3⟩:=h.b9 h1
  refine ⟨b',q1,q2,(stGet_set_ne ?_).trans q3⟩
  rintro rfl
  exact h.ne h8 h1 (by rw [hb,q1])
 ·simp only [e8,e9];exact h.ne
theorem Two2.store11 {m n:Tree} {S:Nat→Bool} {fr:FR} {σ:Nv.ST} (h:Two2 m n S fr σ) (h9:S 9=true) {b:Nat} (hb:fr 10=.ptr b 0) (hb2:2≤b) (hl:b<σ.length):Two2 m n (fun k=>S k || k == 11) fr (stSet σ b (treeB 3 m n)):=by
 have e8:(S 8 || 8 == 11)=S 8:=or_ne (by decide)
 have e9:(S 9 || 9 == 11)=S 9:=or_ne (by decide)
 have e10:(S 10 || 10 == 11)=S 10:=or_ne (by decide)
 refine ⟨(stGet_set_ne (by omega)).trans h.b0,(stGet_set_ne (by omega)).trans h.b1,?_,?_,?_,?_,?_⟩
 ·simp only [e8,e10];exact h.c8
 ·simp only [e9];exact fun _=>h9
 ·simp only [e8,e10]
  intro h1
  obtain ⟨b',q1,q2,q3⟩:=h.b8 h1
  refine ⟨b',q1,q2,(stGet_set_ne ?_).trans q3⟩
  rintro rfl
  exact h.ne h1 h9 (by rw [hb,q1])
 ·exact fun _=>⟨b,hb,hb2,by rw [stGet_set_eq hl];simp⟩
 ·simp only [e8,e9];exact h.ne
theorem JJ.data {m n:Tree} {s t:List UInt8} {S:Nat→Bool} {fr:FR} {σ:Nv.ST} (h:JJ m n s t S fr σ) {i d:Nat} {v:AV} (hm:(i,d,v)∈datL m n) (τ:Nv.ST):JJ m n s t (fun k=>S k || k == i) (put fr (some d) v) (σ++τ):=by
 obtain ⟨f2,f3,f4,f5,hD,hT⟩:=h
 obtain ⟨l1,l2⟩:=dat_low hm
 have p:∀ k,k<59→put fr (some d) v k=fr k:=fun k hk=>put_ne (by omega)
 exact ⟨(p 2 (by omega)).trans f2,(p 3 (by omega)).trans f3,(p 4 (by omega)).trans f4,(p 5 (by omega)).trans f5,hD.step hm,hT.keep l1 (p 9 (by omega)) (p 10 (by omega)) τ⟩
theorem JJ.data0 {m n:Tree} {s t:List UInt8} {S:Nat→Bool} {fr:FR} {σ:Nv.ST} (h:JJ m n s t S fr σ) {i d:Nat} {v:AV} (hm:(i,d,v)∈datL m n):JJ m n s t (fun k=>S k || k == i) (put fr (some d) v) σ:=by
 have:=h.data hm []
 rwa [List.append_nil] at this
def hintsA5:Nat→Hint:=fun i=>if i=61 then .freeze else if i=65 then .freeze else if i=100059 then .rows else .no
@[go_sem] theorem hintsA5_at (i:Nat):hintsA5 i=if i=61 then .freeze else if i=65 then .freeze else if i=100059 then .rows else .no:=nrfl rfl
set_option maxHeartbeats 2000000 in
theorem law5 (m n:Tree) (s t:List UInt8) (hs:s.length≤140737488355328) (ht:t.length≤140737488355328):PCall Tryz.prog 5 [nodeA m,nodeA n,.d (.str s),.d (.str t)] (.d (.bool true)):=by
 refine fn5.pure hintsA5 (Nat.le_refl _) (by simp only [go_sem,nodeA,nodeF,setD]) (by simp only [go_sem]) ?_
 simp (disch:=omega) only [go_sem,nodeA,nodeF]
 refine (large7 m).dat ?_
 cases hM:largeB m with
 | true =>
  simp (disch:=omega) only [go_sem]
  refine awake8.at ?_
  simp (disch:=omega) only [go_sem]
 | false =>
 simp (disch:=omega) only [go_sem,nodeA,nodeF]
 refine (large7 n).dat ?_
 cases hN:largeB n with
 | true =>
  simp (disch:=omega) only [go_sem]
  refine awake8.at ?_
  simp (disch:=omega) only [go_sem]
 | false =>
 have hmt:=large_thin hM
 have hnt:=large_thin hN
 have hms:=large_small hM
 have hns:=large_small hN
 simp (disch:=omega) only [go_sem,nodeA,nodeF]
 refine (check35 m hmt).dat ?_
 by_cases cm:¬ chkE m=0
 ·simp (disch:=omega) only [go_sem,cm]
  refine awake8.at ?_
  simp (disch:=omega) only [go_sem]
 have cm:chkE m=0:=by omega
 simp (disch:=omega) only [go_sem,cm,nodeA,nodeF]
 refine (check35 n hnt).dat ?_
 by_cases cn:¬ chkE n=0
 ·simp (disch:=omega) only [go_sem,cn]
  refine awake8.at ?_
  simp (disch:=omega) only [go_sem]
 have cn:chkE n=0:=by omega
 by_cases c10:(10:Int)<s.length
 ·simp (disch:=omega) only [go_sem,cn,c10]
  refine awake8.at ?_
  simp (disch:=omega) only [go_sem]
 by_cases d10:(10:Int)<t.length
 ·simp (disch:=omega) only [go_sem,cn,c10,d10]
  refine awake8.at ?_
  simp (disch:=omega) only [go_sem]
 simp (disch:=omega) only [go_sem,cn,c10,d10]
 refine (validU s (by omega)).dat ?_
 cases hV:Lib.validD s with
 | false =>
  simp (disch:=omega) only [go_sem]
  refine awake8.at ?_
  simp (disch:=omega) only [go_sem]
 | true =>
 simp (disch:=omega) only [go_sem,nodeA,nodeF]
 refine (weight30 m (by omega)).dat ?_
 simp (disch:=omega) only [go_sem,nodeA,nodeF]
 refine (weight30 n (by omega)).dat ?_
 have wm:=wt_bound m
 have wn:=wt_bound n
 by_cases cw:2000<wt m+wt n
 ·simp (disch:=omega) only [go_sem,cw]
  refine awake8.at ?_
  simp (disch:=omega) only [go_sem]
 simp (disch:=omega) only [go_sem,cw]
 refine wInv_of (JJ m n s t) (by
  intro o ho
  simp only [List.mem_cons,List.not_mem_nil,or_false] at ho
  rcases ho with rfl | rfl | rfl | rfl | rfl | rfl | rfl | rfl | rfl | rfl | rfl | rfl <;> rfl) ?_ ?_ ?_
 ·refine ⟨by simp (disch:=omega) only [go_sem],by simp (disch:=omega) only [go_sem],by simp (disch:=omega) only [go_sem],by simp (disch:=omega) only [go_sem],fun i d v _ h=>by simp at h,⟨rfl,rfl,fun h=>by simp at h,fun h=>by simp at h,fun h=>by simp at h,fun h=>by simp at h,fun h=>by simp at h⟩⟩
 ·intro S i o ho hSi hpre fr σ hJ
  have hJ0:=hJ
  have hnd:∀ x:Tree,DV.agg [DV.int .i64 x.kind,setD x.set,DV.list 5 (x.sub.map nodeD),DV.int .i64 x.min,DV.int .i64 x.max]=nodeD x:=fun x=>by rw [nodeD_eq];rfl
  obtain ⟨f2,f3,f4,f5,hD,hT⟩:=hJ
  have b0:=hT.b0
  have b1:=hT.b1
  simp only [nodeF] at b0 b1
  match i,ho with
  | 0,ho =>
   obtain rfl:=Option.some.inj ho
   simp (disch:=omega) only [go_sem,f4,b0]
   exact hJ0.data0 (v:=nodeA m) (by simp [datL])
  | 1,ho =>
   obtain rfl:=Option.some.inj ho
   simp (disch:=omega) only [go_sem,f5,b1]
   exact hJ0.data0 (v:=nodeA n) (by simp [datL])
  | 2,ho =>
   obtain rfl:=Option.some.inj ho
   have h59:=hD 0 59 (nodeA m) (by simp [datL]) (hpre 0 (by decide) (by rfl))
   have h60:=hD 1 60 (nodeA n) (by simp [datL]) (hpre 1 (by decide) (by rfl))
   simp (disch:=omega) only [go_sem,h59,h60,nodeA,nodeF]
   rw [hnd m,hnd n]
   exact hJ0.data (v:=.d (.list 5 [nodeD m,nodeD n])) (by simp [datL]) _
  | 3,ho =>
   obtain rfl:=Option.some.inj ho
   have h61:=hD 2 61 (.d (.list 5 [nodeD m,nodeD n])) (by simp [datL]) (hpre 2 (by decide) (by rfl))
   simp (disch:=omega) only [go_sem,h61]
   exact hJ0.data0 (v:=nodeN 4 [m,n] 0 0) (by simp [datL])
  | 4,ho =>
   obtain rfl:=Option.some.inj ho
   simp (disch:=omega) only [go_sem,f4,b0]
   exact hJ0.data0 (v:=nodeA m) (by simp [datL])
  | 5,ho =>
   obtain rfl:=Option.some.inj ho
   simp (disch:=omega) only [go_sem,f5,b1]
   exact hJ0.data0 (v:=nodeA n) (by simp [datL])
  | 6,ho =>
   obtain rfl:=Option.some.inj ho
   have h59:=hD 4 63 (nodeA m) (by simp [datL]) (hpre 4 (by decide) (by rfl))
   have h60:=hD 5 64 (nodeA n) (by simp [datL]) (hpre 5 (by decide) (by rfl))
   simp (disch:=omega) only [go_sem,h59,h60,nodeA,nodeF]
   rw [hnd m,hnd n]
   exact hJ0.data (v:=.d (.list 5 [nodeD m,nodeD n])) (by simp [datL]) _
  | 7,ho =>
   obtain rfl:=Option.some.inj ho
   have h61:=hD 6 65 (.d (.list 5 [nodeD m,nodeD n])) (by simp [datL]) (hpre 6 (by decide) (by rfl))
   simp (disch:=omega) only [go_sem,h61]
   exact hJ0.data0 (v:=nodeN 3 [m,n] 0 0) (by simp [datL])
  | 8,ho =>
   obtain rfl:=Option.some.inj ho
   simp (disch:=omega) only [go_sem]
   exact ⟨(put_ne (by decide)).trans f2,(put_ne (by decide)).trans f3,(put_ne (by decide)).trans f4,(put_ne (by decide)).trans f5,hD.keep (by omega) fun d hd=>put_ne (by omega),hT.alloc8 hSi⟩
  | 9,ho =>
   obtain rfl:=Option.some.inj ho
   simp (disch:=omega) only [go_sem]
   exact ⟨(put_ne (by decide)).trans f2,(put_ne (by decide)).trans f3,(put_ne (by decide)).trans f4,(put_ne (by decide)).trans f5,hD.keep (by omega) fun d hd=>put_ne (by omega),hT.alloc9 hSi⟩
  | 10,ho =>
   obtain rfl:=Option.some.inj ho
   have h8:=hpre 8 (by decide) (by rfl)
   have h62:=hD 3 62 (nodeN 4 [m,n] 0 0) (by simp [datL]) (hpre 3 (by decide) (by rfl))
   obtain ⟨b,q1,q2,q3⟩:=hT.b8 h8
   rw [if_neg (by rw [hSi];decide)] at q3
   have hl:=lt_of_get q3 (by simp [zeroB])
   simp only [zeroB] at q3
   simp (disch:=omega) only [go_sem,h62,nodeN,q1,q3]
   exact ⟨f2,f3,f4,f5,hD.keep (by omega) fun d hd=>rfl,hT.store10 h8 q1 q2 hl⟩
  | 11,ho =>
   obtain rfl:=Option.some.inj ho
   have h9:=hpre 9 (by decide) (by rfl)
   have h66:=hD 7 66 (nodeN 3 [m,n] 0 0) (by simp [datL]) (hpre 7 (by decide) (by rfl))
   obtain ⟨b,q1,q2,q3⟩:=hT.b9 h9
   rw [if_neg (by rw [hSi];decide)] at q3
   have hl:=lt_of_get q3 (by simp [zeroB])
   simp only [zeroB] at q3
   simp (disch:=omega) only [go_sem,h66,nodeN,q1,q3]
   exact ⟨f2,f3,f4,f5,hD.keep (by omega) fun d hd=>rfl,hT.store11 h9 q1 q2 hl⟩
  | i+12,ho=>simp at ho
 ·intro S fr σ hJ hall
  obtain ⟨f2,f3,f4,f5,hD,hT⟩:=hJ
  have b0:=hT.b0
  have b1:=hT.b1
  have hl2:=hT.len
  obtain ⟨b,q1,q2,q3⟩:=hT.b8 (hall 8 (by decide))
  obtain ⟨b',r1,r2,r3⟩:=hT.b9 (hall 9 (by decide))
  rw [if_pos (hall 10 (by decide))] at q3
  rw [if_pos (hall 11 (by decide))] at r3
  have hbl:=lt_of_get q3 (by simp [treeB])
  have hbl':=lt_of_get r3 (by simp [treeB])
  simp only [nodeF] at b0 b1
  simp only [treeB] at q3 r3
  clear hD hT hall
  have tc:Thin (choice [m,n]):=⟨by simp,hmt,hnt,trivial⟩
  have tj:Thin (join m n):=⟨by simp,hmt,hnt,trivial⟩
  have nc:(choice [m,n]).nodes≤1000000:=by show 1+(m.nodes+(n.nodes+0))≤_;omega
  have nj:(join m n).nodes≤1000000:=by show 1+(m.nodes+(n.nodes+0))≤_;omega
  have B1:=build9 m hmt (by omega)
  have B2:=build9 n hnt (by omega)
  have B3:=wk_one (build9 (choice [m,n]) tc nc)
  have B4:=wk_one (build9 (join m n) tj nj)
  obtain ⟨a1,b1',c1,d1,A1,o1,p1,u1,v1⟩:=build_cells m
  obtain ⟨a2,b2',c2,d2,A2,o2,p2,u2,v2⟩:=build_cells n
  obtain ⟨a3,b3',c3,d3,A3,o3,p3,u3,v3⟩:=build_cells (choice [m,n])
  obtain ⟨a4,b4',c4,d4,A4,o4,p4,u4,v4⟩:=build_cells (join m n)
  rw [A1] at B1
  rw [A2] at B2
  rw [A3] at B3
  rw [A4] at B4
  simp only [nodeN] at B3 B4
  simp only [List.map_cons,List.map_nil] at B3 B4
  simp (disch:=omega) only [go_sem,f4,b0,apR]
  refine B1.at ?_
  simp (disch:=omega) only [go_sem,f5,b1,hl2,o1,p1,u1,v1,stGet_left,apR]
  refine B2.at ?_
  simp (disch:=omega) only [go_sem,q1,q3,hbl,o2,p2,u2,v2,stGet_left,apR]
  refine B3.at ?_
  simp (disch:=omega) only [go_sem,r1,r3,hbl',o3,p3,u3,v3,stGet_left,apR]
  refine B4.at ?_
  by_cases e1:buildE m=0
  ·by_cases e2:buildE n=0
   ·by_cases e3:buildE (choice [m,n])=0
    ·by_cases e4:buildE (join m n)=0
     ·have M1:=build_nfa hmt e1 A1 s (by omega)
      have M2:=build_nfa hnt e2 A2 s (by omega)
      have M2t:=build_nfa hnt e2 A2 t (by omega)
      have M3:=build_nfa tc e3 A3 s (by omega)
      have M4:=build_nfa tj e4 A4 (s++t) (by rw [List.length_append];omega)
      have hch:matchB (choice [m,n]) s=(matchB m s || matchB n s):=by
       rw [match_choice (buildE_ok e3).1 (by simp [cm,cn])];simp
      have hjo:=join_append (t:=t) hV (buildE_ok e4).1
      rw [hch] at M3
      simp (disch:=omega) only [go_sem,o4,p4,u4,v4,e1,e2,e3,e4,f2,f3,apR]
      refine M3.dat ?_
      simp (disch:=omega) only [go_sem,f2,apR]
      refine M1.dat ?_
      cases w1:matchB m s with
      | true =>
       rw [w1] at M1 hjo
       simp (disch:=omega) only [go_sem,f2,f3,Bool.true_or,beq_self_eq_true,apR]
       refine M1.dat ?_
       simp (disch:=omega) only [go_sem,f2,f3,apR]
       refine M2t.dat ?_
       cases w3:matchB n t with
       | true =>
        rw [hjo rfl w3] at M4
        simp (disch:=omega) only [go_sem,f2,f3,apR]
        refine ⟨by omega,?_⟩
        refine M4.dat ?_
        simp (disch:=omega) only [go_sem]
        refine awake8.dat ?_
        simp (disch:=omega) only [go_sem]
       | false =>
        simp (disch:=omega) only [go_sem]
        refine awake8.dat ?_
        simp (disch:=omega) only [go_sem]
      | false =>
       rw [w1] at M1
       simp (disch:=omega) only [go_sem,f2,f3,apR]
       refine M2.dat ?_
       simp (disch:=omega) only [go_sem,f2,f3,beq_self_eq_true,Bool.false_or,apR]
       refine M1.dat ?_
       simp (disch:=omega) only [go_sem]
       refine awake8.dat ?_
       simp (disch:=omega) only [go_sem]
     ·simp (disch:=omega) only [go_sem,o4,p4,u4,v4,e1,e2,e3,e4,apR]
      refine awake8.at ?_
      simp (disch:=omega) only [go_sem]
    ·simp (disch:=omega) only [go_sem,o4,p4,u4,v4,e1,e2,e3,apR]
     refine awake8.at ?_
     simp (disch:=omega) only [go_sem]
   ·simp (disch:=omega) only [go_sem,o4,p4,u4,v4,e1,e2,apR]
    refine awake8.at ?_
    simp (disch:=omega) only [go_sem]
  ·simp (disch:=omega) only [go_sem,o4,p4,u4,v4,e1,apR]
   refine awake8.at ?_
   simp (disch:=omega) only [go_sem]
end Go.Proofs.YtngdkenddfdhaaaGreatDoor
set_option linter.unusedVariables false
set_option linter.unusedSimpArgs false
set_option maxRecDepth 100000
namespace Go.Proofs.YtngdkenddfdhaaaGreatDoor
open Go Nv Pat
/- What comes in,as trees. -/
theorem int_td {n:Nat} {t:TypeId} {k:IntKind} {ds:List DV} (ht:Tryz.prog.underlying t=some (.int k)) (h:TD Tryz.prog n t ds):∃ z,ds=[.int k z]∧(Lit.int k z).wf=true:=by
 cases n with
 | zero=>exact h.elim
 | succ n=>simp only [TD,ht] at h;exact h
theorem str_td {n:Nat} {t:TypeId} {ds:List DV} (ht:Tryz.prog.underlying t=some .string) (h:TD Tryz.prog n t ds):∃ s,ds=[.str s]:=by
 cases n with
 | zero=>exact h.elim
 | succ n=>simp only [TD,ht] at h;obtain ⟨s,h,_⟩:=h;exact ⟨s,h⟩
theorem rows_of {α:Type} {Q:DV→Prop} {f:α→DV}:∀ {xs:List DV},(∀ x,x∈xs→∃ a,x=f a)→∃ l:List α,xs=l.map f
 | [],_=>⟨[],rfl⟩
 | x::xs,h=>by
  obtain ⟨a,rfl⟩:=h x (by simp)
  obtain ⟨l,rfl⟩:=rows_of (Q:=Q) (xs:=xs) fun y hy=>h y (by simp [hy])
  exact ⟨a::l,rfl⟩
theorem range_td {n:Nat} {cs:List DV} (h:TD Tryz.prog n 57 cs):∃ r:Int × Int,cs=[.int .i32 r.1,.int .i32 r.2]:=by
 cases n with
 | zero=>exact h.elim
 | succ n =>
  simp only [TD,go_sem,List.mem_cons,List.not_mem_nil,or_false,forall_eq_or_imp,forall_eq] at h
  obtain ⟨hl,h0,h1⟩:=h
  match cs,hl with
  | [a,b],_ =>
   simp only [List.drop,List.take] at h0 h1
   obtain ⟨z0,e0,_⟩:=int_td Tryz.underlying21 h0
   obtain ⟨z1,e1,_⟩:=int_td Tryz.underlying21 h1
   simp only [List.cons.injEq,and_true] at e0 e1
   exact ⟨(z0,z1),by rw [e0,e1]⟩
theorem set_td {n:Nat} {ds:List DV} (h:TD Tryz.prog n 22 ds):∃ s,ds=[setD s]:=by
 cases n with
 | zero=>exact h.elim
 | succ n =>
  simp only [TD,go_sem] at h
  obtain ⟨xs,rfl,_,hx⟩:=h
  obtain ⟨l,rfl⟩:=rows_of (Q:=fun _=>True) (f:=rgD) fun x hm=>by
   obtain ⟨cs,rfl,hc⟩:=hx x hm
   obtain ⟨r,rfl⟩:=range_td hc
   exact ⟨r,by simp only [ofCells,go_sem,rgD]⟩
  exact ⟨l,rfl⟩
theorem node_td:∀ (n:Nat) {cs:List DV},TD Tryz.prog n 25 cs→∃ t:Tree,cs=nodeC t
 | 0,_,h=>h.elim
 | 1,_,h=>by
  simp only [TD,go_sem,List.mem_cons,List.not_mem_nil,or_false,forall_eq_or_imp,forall_eq] at h
 | n+2,cs,h=>by
  unfold TD at h
  simp only [go_sem,List.mem_cons,List.not_mem_nil,or_false,forall_eq_or_imp,forall_eq] at h
  obtain ⟨hl,h0,h1,h2,h3,h4⟩:=h
  match cs,hl with
  | [a,b,c,d,e],_ =>
   simp only [List.drop,List.take] at h0 h1 h2 h3 h4
   obtain ⟨z0,e0,_⟩:=int_td Tryz.underlying3 h0
   obtain ⟨s,e1⟩:=set_td h1
   obtain ⟨z3,e3,_⟩:=int_td Tryz.underlying3 h3
   obtain ⟨z4,e4,_⟩:=int_td Tryz.underlying3 h4
   unfold TD at h2
   simp only [go_sem] at h2
   obtain ⟨xs,e2,_,hx⟩:=h2
   obtain ⟨l,rfl⟩:=rows_of (Q:=fun _=>True) (f:=nodeD) fun x hm=>by
    obtain ⟨cs,rfl,hc⟩:=hx x hm
    obtain ⟨t,rfl⟩:=node_td n hc
    exact ⟨t,by simp only [ofCells,go_sem,nodeD_eq]⟩
   simp only [List.cons.injEq,and_true] at e0 e1 e2 e3 e4
   exact ⟨.mk z0 s l z3 z4,by rw [e0,e1,e2,e3,e4];simp only [nodeC,Tree.kind,Tree.set,Tree.sub,Tree.min,Tree.max]⟩
end Go.Proofs.YtngdkenddfdhaaaGreatDoor
