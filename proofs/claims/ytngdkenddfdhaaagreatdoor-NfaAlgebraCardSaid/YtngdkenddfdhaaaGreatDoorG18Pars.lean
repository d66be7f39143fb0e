/- Part of a proof about the functions of this seat. -/
import Derived.Test.YtngdkenddfdhaaaGreatDoorG17Fm32
import Derived.Test.YtngdkenddfdhaaaGreatDoorG15Nfm
import Derived.Test.YtngdkenddfdhaaaGreatDoorG09Base32
import Derived.Test.YtngdkenddfdhaaaGreatDoorG11O32
set_option linter.unusedVariables false
set_option linter.unusedSimpArgs false
set_option maxRecDepth 100000
namespace Go.Proofs.YtngdkenddfdhaaaGreatDoor
open Go Nv Pat
theorem proper_mem:∀ (s:List (Int × Int)) (p:Option Int),properFrom p s=true→∀ r,r∈s→rgB r=true
 | [],_,_,r,hr=>by cases hr
 | x::s,none,h,r,hr=>by
  simp only [properFrom,Bool.and_eq_true] at h
  rcases List.mem_cons.1 hr with rfl | hr
  ·exact h.1
  ·exact proper_mem s _ h.2 r hr
 | x::s,some q,h,r,hr=>by
  simp only [properFrom,Bool.and_eq_true] at h
  rcases List.mem_cons.1 hr with rfl | hr
  ·exact h.1.1
  ·exact proper_mem s _ h.2 r hr
theorem rgB_ok {r:Int × Int} (h:rgB r=true):scalar r.1∧scalar r.2∧r.1≤r.2:=by
 unfold rgB at h
 simp only [Bool.and_eq_true,decide_eq_true_eq] at h
 exact ⟨(charB_iff2 _).1 h.1.1.1,(charB_iff2 _).1 h.1.1.2,h.1.2⟩
theorem chk_set {k:Int} {s:List (Int × Int)} {l:List Tree} {a b:Int} (h:chk (.mk k s l a b)=0) (hk:k=2):∀ r,r∈s→rgB r=true:=by
 obtain ⟨h1,h2,h3⟩:=chk_ok h
 subst hk
 unfold badB at h2
 simp only [Bool.or_eq_false_iff,Bool.not_eq_false'] at h2
 have hp:=h2.1.1
 unfold partsB at hp
 rw [if_neg (by omega),if_pos rfl] at hp
 simp only [Bool.and_eq_true] at hp
 exact proper_mem s none hp.2
theorem catA_mem:∀ (xs:List Tree) (o:Nat),(∀ x,x∈xs→WF x)→∀ l,l∈catA (xs.map fun x o=>rowsA x o) o→∃ (x:Tree) (o':Nat),x∈xs∧o≤o'∧o'+sz x≤o+(xs.map sz).sum∧l∈rowsA x o'
 | [],o,_,l,h=>by simp [catA] at h
 | x::xs,o,hw,l,h=>by
  simp only [List.map_cons,catA,List.mem_append] at h
  have hx:=rowsA_len (hw x (by simp)) o
  rcases h with h | h
  ·exact ⟨x,o,by simp,Nat.le_refl _,by simp only [List.map_cons,List.sum_cons];omega,h⟩
  ·rw [hx] at h
   obtain ⟨y,o',h1,h2,h3,h4⟩:=catA_mem xs _ (fun y hy=>hw y (by simp [hy])) l h
   exact ⟨y,o',by simp [h1],by omega,by simp only [List.map_cons,List.sum_cons];omega,h4⟩
theorem rows_ok:∀ n:Tree,chk n=0→∀ (o:Nat) l,l∈rowsA n o→∀ x,x∈l→scalar x.1∧scalar x.2.1∧x.1≤x.2.1∧0≤x.2.2∧x.2.2<((o+sz n:Nat):Int):=by
 intro n
 induction n using Tree.ind with
 | h k s sub a b ih =>
  intro hc o l hl x hx
  obtain ⟨h1,h2,h3,h4⟩:=chk_kinds hc
  have hwf:=chk_wf _ hc
  have h2s:=sz_two hwf
  by_cases hk:k=2
  ·rw [rowsA,if_pos hk] at hl
   simp only [List.mem_cons,List.not_mem_nil,or_false] at hl
   rcases hl with rfl | rfl
   ·obtain ⟨r,hr,rfl⟩:=List.mem_map.1 hx
    obtain ⟨q1,q2,q3⟩:=rgB_ok (chk_set hc hk r hr)
    exact ⟨q1,q2,q3,by dsimp only;omega,by dsimp only;omega⟩
   ·cases hx
  ·rw [rowsA_items k s sub a b o hk (fun h5=>by obtain ⟨y,rfl,_⟩:=h3 h5;simp)] at hl
   rw [sz_eq hwf]
   simp only [List.mem_cons,List.mem_append,List.not_mem_nil,or_false] at hl
   have hit:∀ y,y∈items (.mk k s sub a b)→y∈sub:=by
    intro y hy
    by_cases h5:k=5
    ·obtain ⟨z,rfl,_⟩:=h3 h5
     simp only [items,h5,if_true,List.headD_cons] at hy
     rw [(List.mem_replicate.1 hy).2];simp
    ·simpa [items,h5] using hy
   rcases hl with rfl | hl | rfl
   ·cases hx
   ·obtain ⟨y,o',q1,q2,q3,q4⟩:=catA_mem _ _ (items_wf hwf) l hl
    obtain ⟨r1,r2,r3,r4,r5⟩:=ih y (hit y q1) (h4 y (hit y q1)) o' l q4 x hx
    exact ⟨r1,r2,r3,r4,by omega⟩
   ·cases hx
theorem st0_is:st0.Is [] (fun _ _=>False):=⟨rfl,rfl,fun r z=>by simp [Mem,st0]⟩
structure Built (n:Tree) (A:Au):Prop where
 arcs:A.arcs=rowsA n 0
 len:A.emp.length=sz n
 emp:∀ r z,z∈A.emp.getD r []↔∃ t:Nat,z=t∧Ed n 0 r t
 start:A.start=0
 accept:A.accept=(sz n:Int) - 1
theorem build_is {n:Tree} (hn:WF n):Built n (buildM n):=by
 obtain ⟨h1,h2⟩:=part_spec hn st0 [] _ st0_is
 simp only [List.nil_append,List.length_nil,Nat.zero_add,false_or] at h1 h2
 refine ⟨h1.a,?_,fun r z=>?_,rfl,?_⟩
 ·simp only [buildM,List.length_map]
  rw [h1.e,rowsA_len hn]
 ·rw [← h1.m r z]
  unfold Mem
  simp only [buildM]
  rw [List.getD_eq_getElem?_getD,List.getD_eq_getElem?_getD,List.getElem?_map]
  cases (partB n st0).1.E[r]? with
  | none=>simp
  | some l=>simp [sortI]
 ·simp only [buildM];omega
theorem built_proper {n:Tree} {A:Au} (hb:Built n A) (hc:chk n=0) (hs:sz n≤3000):A.Proper:=by
 have hwf:=chk_wf n hc
 have h2:=sz_two hwf
 have hl:A.arcs.length=sz n:=by rw [hb.arcs,rowsA_len hwf]
 refine ⟨by omega,by omega,by rw [hb.len,hl],?_,?_,fun l hl' x hx=>?_,fun l hl' z hz=>?_⟩
 ·rw [hl,hb.start];exact ⟨Int.le_refl _,by omega⟩
 ·rw [hl,hb.accept];exact ⟨by omega,by omega⟩
 ·rw [hb.arcs] at hl'
  obtain ⟨q1,q2,q3,q4,q5⟩:=rows_ok n hc 0 l hl' x hx
  rw [hl]
  exact ⟨q1,q2,q3,q4,by simpa using q5⟩
 ·obtain ⟨r,hr,rfl⟩:=List.mem_iff_getElem.1 hl'
  obtain ⟨t,rfl,he⟩:=(hb.emp r z).1 (by rw [List.getD_eq_getElem?_getD,List.getElem?_eq_getElem hr];exact hz)
  have:=ed_region hwf 0 r t he
  rw [hl];exact ⟨by omega,by omega⟩
theorem built_accept {n:Tree} {A:Au} (hb:Built n A) (hc:chk n=0) (hs:sz n≤3000) (w:List Int):acceptM A w↔Lang n w:=by
 have hwf:=chk_wf n hc
 have h2:=sz_two hwf
 have hp:=built_proper hb hc hs
 rw [accept_iff hp w,hb.start,hb.accept]
 have e:((sz n:Int) - 1).toNat=sz n - 1:=by omega
 rw [e]
 have hE:∀ x t,EpA A x t↔Ed n 0 x t:=fun x t=>by
  unfold EpA
  rw [hb.emp]
  constructor
  ·rintro ⟨t',h,he⟩
   have:t=t':=by omega
   rw [this];exact he
  ·exact fun he=>⟨t,rfl,he⟩
 refine reads_all hwf (fun r h0 h1=>⟨fun t=>hE r t,fun c t=>?_⟩) (fun t h=>?_) (fun c t h=>?_) w
 ·unfold ArA;rw [hb.arcs,Nat.sub_zero]
 ·have:=ed_region hwf 0 _ t ((hE _ t).1 h)
  omega
 ·unfold ArA at h
  rw [hb.arcs] at h
  obtain ⟨lo,hi,hm,_⟩:=h
  rw [rowsA_last hwf] at hm;cases hm
theorem built_match {n:Tree} {A:Au} (hb:Built n A) (hc:chkE n=0) (hs:sz n≤3000) (s:List UInt8):nfaB A s=matchB n s:=by
 have hc0:=(chkE_ok hc).2
 rw [Bool.eq_iff_iff,matchB_iff,nfaB_iff,built_accept hb hc0 hs]
 exact ⟨fun h=>⟨hc,h.2⟩,fun h=>⟨built_proper hb hc0 hs,h.2⟩⟩
end Go.Proofs.YtngdkenddfdhaaaGreatDoor
set_option linter.unusedVariables false
set_option linter.unusedSimpArgs false
set_option maxRecDepth 100000
namespace Go.Proofs.YtngdkenddfdhaaaGreatDoor
open Go Nv Pat
theorem rows_short:∀ n:Tree,chk n=0→Thin n→∀ (o:Nat) l,l∈rowsA n o→l.length≤1000000:=by
 intro n
 induction n using Tree.ind with
 | h k s sub a b ih =>
  intro hc ht o l hl
  obtain ⟨h1,h2,h3,h4⟩:=chk_kinds hc
  have hwf:=chk_wf _ hc
  simp only [Thin] at ht
  by_cases hk:k=2
  ·rw [rowsA,if_pos hk] at hl
   simp only [List.mem_cons,List.not_mem_nil,or_false] at hl
   rcases hl with rfl | rfl
   ·rw [List.length_map];exact ht.1
   ·simp
  ·rw [rowsA_items k s sub a b o hk (fun h5=>by obtain ⟨y,rfl,_⟩:=h3 h5;simp)] at hl
   simp only [List.mem_cons,List.mem_append,List.not_mem_nil,or_false] at hl
   have hit:∀ y,y∈items (.mk k s sub a b)→y∈sub:=by
    intro y hy
    by_cases h5:k=5
    ·obtain ⟨z,rfl,_⟩:=h3 h5
     simp only [items,h5,if_true,List.headD_cons] at hy
     rw [(List.mem_replicate.1 hy).2];simp
    ·simpa [items,h5] using hy
   rcases hl with rfl | hl | rfl
   ·simp
   ·obtain ⟨y,o',q1,_,_,q4⟩:=catA_mem _ _ (items_wf hwf) l hl
    exact ih y (hit y q1) (h4 y (hit y q1)) (thinL_mem ht.2 (hit y q1)) o' l q4
   ·simp
theorem build_fit {n:Tree} (hc:chk n=0) (ht:Thin n) (hs:sz n≤3000):Fit (buildM n):=by
 have hwf:=chk_wf n hc
 have hb:=build_is hwf
 have hl:(buildM n).arcs.length=sz n:=by rw [hb.arcs,rowsA_len hwf]
 have hO0:Okb st0:=⟨rfl,fun f=>by simp [st0],fun f z hz=>by simp [st0] at hz⟩
 have hOk:Okb (partB n st0).1:=(part_ok hwf st0 hO0).1
 have hpl:=(part_len hwf hO0).1
 refine ⟨by omega,by rw [hb.len];omega,fun l hl'=>?_,fun l hl'=>?_⟩
 ·rw [hb.arcs] at hl'
  have:=rows_short n hc ht 0 l hl'
  omega
 ·simp only [buildM,List.mem_map] at hl'
  obtain ⟨l0,h0,rfl⟩:=hl'
  obtain ⟨r,hr,rfl⟩:=List.mem_iff_getElem.1 h0
  have:=hOk.row r
  rw [List.getD_eq_getElem?_getD,List.getElem?_eq_getElem hr] at this
  rw [sortI_len]
  have h00:st0.A.length=0:=rfl
  simp only [Option.getD_some] at this
  omega
end Go.Proofs.YtngdkenddfdhaaaGreatDoor
/- The prepared code of further functions. Written by a program of mine (gen.py) out of what the loaded dump prints. -/

set_option linter.unusedVariables false
set_option maxRecDepth 100000
namespace Go.Proofs.YtngdkenddfdhaaaGreatDoor
open Go Nv
theorem fn5:FnIs Tryz.prog 5 4 [Go.ResultVar.tmp 8] (.seq (.region [⟨some 4,Go.Op.box 25 (Go.Operand.tmp 0),0,none⟩,
   ⟨some 5,Go.Op.box 25 (Go.Operand.tmp 1),0,none⟩,
   ⟨some 8,Go.Op.assign (Go.Operand.const (Go.Value.bool false)),4,none⟩])
  (.seq (.seq (.draw true [⟨⟨some 19,Go.Op.load 25 (Go.Operand.tmp 4),25,none⟩,false,false,false⟩,
   ⟨⟨some 20,Go.Op.call { callee:=Go.Callee.value (Go.Operand.func 7),args:=#[Go.Operand.tmp 19],argTypes:=#[25] },4,none⟩,false,false,false⟩,
   ⟨⟨some 21,Go.Op.move (Go.Operand.tmp 20),4,none⟩,false,false,false⟩,
   ⟨⟨some 22,Go.Op.load 25 (Go.Operand.tmp 5),25,(some (21,false))⟩,false,false,false⟩,
   ⟨⟨some 23,Go.Op.call { callee:=Go.Callee.value (Go.Operand.func 7),args:=#[Go.Operand.tmp 22],argTypes:=#[25] },4,(some (21,false))⟩,false,false,false⟩,
   ⟨⟨some 24,Go.Op.pick (Go.Operand.tmp 21) (Go.Operand.const (Go.Value.bool true)) (Go.Operand.tmp 23),4,none⟩,false,false,false⟩,
   ⟨⟨some 25,Go.Op.move (Go.Operand.tmp 24),4,none⟩,false,false,false⟩,
   ⟨⟨some 26,Go.Op.load 25 (Go.Operand.tmp 4),25,(some (25,false))⟩,false,false,false⟩,
   ⟨⟨some 27,Go.Op.call { callee:=Go.Callee.value (Go.Operand.func 12),args:=#[Go.Operand.tmp 26],argTypes:=#[25] },3,(some (25,false))⟩,false,false,false⟩,
   ⟨⟨some 28,Go.Op.binOp Go.BinOp.neq 3 (Go.Operand.tmp 27) (Go.Operand.const (Go.Value.int Go.IntKind.i64 0)) 3,4,(some (25,false))⟩,false,false,false⟩,
   ⟨⟨some 29,Go.Op.pick (Go.Operand.tmp 25) (Go.Operand.const (Go.Value.bool true)) (Go.Operand.tmp 28),4,none⟩,false,false,false⟩,
   ⟨⟨some 30,Go.Op.move (Go.Operand.tmp 29),4,none⟩,false,false,false⟩,
   ⟨⟨some 31,Go.Op.load 25 (Go.Operand.tmp 5),25,(some (30,false))⟩,false,false,false⟩,
   ⟨⟨some 32,Go.Op.call { callee:=Go.Callee.value (Go.Operand.func 12),args:=#[Go.Operand.tmp 31],argTypes:=#[25] },3,(some (30,false))⟩,false,false,false⟩,
   ⟨⟨some 33,Go.Op.binOp Go.BinOp.neq 3 (Go.Operand.tmp 32) (Go.Operand.const (Go.Value.int Go.IntKind.i64 0)) 3,4,(some (30,false))⟩,false,false,false⟩,
   ⟨⟨some 34,Go.Op.pick (Go.Operand.tmp 30) (Go.Operand.const (Go.Value.bool true)) (Go.Operand.tmp 33),4,none⟩,false,false,false⟩,
   ⟨⟨some 35,Go.Op.move (Go.Operand.tmp 34),4,none⟩,false,false,false⟩,
   ⟨⟨some 36,Go.Op.move (Go.Operand.tmp 2),9,(some (35,false))⟩,false,false,false⟩,
   ⟨⟨some 37,Go.Op.call { callee:=Go.Callee.builtin Go.Builtin.len,args:=#[Go.Operand.tmp 36],argTypes:=#[9] },3,(some (35,false))⟩,false,false,false⟩,
   ⟨⟨some 38,Go.Op.binOp Go.BinOp.gtr 3 (Go.Operand.tmp 37) (Go.Operand.const (Go.Value.int Go.IntKind.i64 10)) 3,4,(some (35,false))⟩,false,false,false⟩,
   ⟨⟨some 39,Go.Op.pick (Go.Operand.tmp 35) (Go.Operand.const (Go.Value.bool true)) (Go.Operand.tmp 38),4,none⟩,false,false,false⟩,
   ⟨⟨some 40,Go.Op.move (Go.Operand.tmp 39),4,none⟩,false,false,false⟩,
   ⟨⟨some 41,Go.Op.move (Go.Operand.tmp 3),9,(some (40,false))⟩,false,false,false⟩,
   ⟨⟨some 42,Go.Op.call { callee:=Go.Callee.builtin Go.Builtin.len,args:=#[Go.Operand.tmp 41],argTypes:=#[9] },3,(some (40,false))⟩,false,false,false⟩,
   ⟨⟨some 43,Go.Op.binOp Go.BinOp.gtr 3 (Go.Operand.tmp 42) (Go.Operand.const (Go.Value.int Go.IntKind.i64 10)) 3,4,(some (40,false))⟩,false,false,false⟩,
   ⟨⟨some 44,Go.Op.pick (Go.Operand.tmp 40) (Go.Operand.const (Go.Value.bool true)) (Go.Operand.tmp 43),4,none⟩,false,false,false⟩,
   ⟨⟨some 45,Go.Op.move (Go.Operand.tmp 44),4,none⟩,false,false,false⟩,
   ⟨⟨some 46,Go.Op.move (Go.Operand.tmp 2),9,(some (45,false))⟩,false,false,false⟩,
   ⟨⟨some 47,Go.Op.call { callee:=Go.Callee.value (Go.Operand.func 14),args:=#[Go.Operand.tmp 46],argTypes:=#[9] },4,(some (45,false))⟩,false,false,false⟩,
   ⟨⟨some 48,Go.Op.unOp Go.UnOp.not 4 (Go.Operand.tmp 47),4,(some (45,false))⟩,false,false,false⟩,
   ⟨⟨some 49,Go.Op.pick (Go.Operand.tmp 45) (Go.Operand.const (Go.Value.bool true)) (Go.Operand.tmp 48),4,none⟩,false,false,false⟩,
   ⟨⟨some 50,Go.Op.move (Go.Operand.tmp 49),4,none⟩,false,false,false⟩,
   ⟨⟨some 51,Go.Op.load 25 (Go.Operand.tmp 4),25,(some (50,false))⟩,false,false,false⟩,
   ⟨⟨some 52,Go.Op.call { callee:=Go.Callee.value (Go.Operand.func 15),args:=#[Go.Operand.tmp 51],argTypes:=#[25] },3,(some (50,false))⟩,false,false,false⟩,
   ⟨⟨some 53,Go.Op.load 25 (Go.Operand.tmp 5),25,(some (50,false))⟩,false,false,false⟩,
   ⟨⟨some 54,Go.Op.call { callee:=Go.Callee.value (Go.Operand.func 15),args:=#[Go.Operand.tmp 53],argTypes:=#[25] },3,(some (50,false))⟩,false,false,false⟩,
   ⟨⟨some 55,Go.Op.binOp Go.BinOp.add 3 (Go.Operand.tmp 52) (Go.Operand.tmp 54) 3,3,(some (50,false))⟩,false,false,false⟩,
   ⟨⟨some 56,Go.Op.binOp Go.BinOp.gtr 3 (Go.Operand.tmp 55) (Go.Operand.const (Go.Value.int Go.IntKind.i64 2000)) 3,4,(some (50,false))⟩,false,false,false⟩,
   ⟨⟨some 57,Go.Op.pick (Go.Operand.tmp 50) (Go.Operand.const (Go.Value.bool true)) (Go.Operand.tmp 56),4,none⟩,false,false,false⟩] [[],[0],[0,1],[0,1,2],[0,1,2,3],[0,1,2,3,4],[0,1,2,3,4,5],[0,1,2,3,4,5,6],[0,1,2,3,4,5,6,7],[0,1,2,3,4,5,6,7,8],[0,1,2,3,4,5,6,7,8,9],[0,1,2,3,4,5,6,7,8,9,10],[0,1,2,3,4,5,6,7,8,9,10,11],[0,1,2,3,4,5,6,7,8,9,10,11,12],[0,1,2,3,4,5,6,7,8,9,10,11,12,13],[0,1,2,3,4,5,6,7,8,9,10,11,12,13,14],[0,1,2,3,4,5,6,7,8,9,10,11,12,13,14,15],[0,1,2,3,4,5,6,7,8,9,10,11,12,13,14,15,16],[0,1,2,3,4,5,6,7,8,9,10,11,12,13,14,15,16,17],[0,1,2,3,4,5,6,7,8,9,10,11,12,13,14,15,16,17,18],[0,1,2,3,4,5,6,7,8,9,10,11,12,13,14,15,16,17,18,19],[0,1,2,3,4,5,6,7,8,9,10,11,12,13,14,15,16,17,18,19,20],[0,1,2,3,4,5,6,7,8,9,10,11,12,13,14,15,16,17,18,19,20,21],[0,1,2,3,4,5,6,7,8,9,10,11,12,13,14,15,16,17,18,19,20,21,22],[0,1,2,3,4,5,6,7,8,9,10,11,12,13,14,15,16,17,18,19,20,21,22,23],[0,1,2,3,4,5,6,7,8,9,10,11,12,13,14,15,16,17,18,19,20,21,22,23,24],[0,1,2,3,4,5,6,7,8,9,10,11,12,13,14,15,16,17,18,19,20,21,22,23,24,25],[0,1,2,3,4,5,6,7,8,9,10,11,12,13,14,15,16,17,18,19,20,21,22,23,24,25,26],[0,1,2,3,4,5,6,7,8,9,10,11,12,13,14,15,16,17,18,19,20,21,22,23,24,25,26,27],[0,1,2,3,4,5,6,7,8,9,10,11,12,13,14,15,16,17,18,19,20,21,22,23,24,25,26,27,28],[0,1,2,3,4,5,6,7,8,9,10,11,12,13,14,15,16,17,18,19,20,21,22,23,24,25,26,27,28,29],[0,1,2,3,4,5,6,7,8,9,10,11,12,13,14,15,16,17,18,19,20,21,22,23,24,25,26,27,28,29,30],[0,1,2,3,4,5,6,7,8,9,10,11,12,13,14,15,16,17,18,19,20,21,22,23,24,25,26,27,28,29,30,31],[0,1,2,3,4,5,6,7,8,9,10,11,12,13,14,15,16,17,18,19,20,21,22,23,24,25,26,27,28,29,30,31,32],[0,1,2,3,4,5,6,7,8,9,10,11,12,13,14,15,16,17,18,19,20,21,22,23,24,25,26,27,28,29,30,31],[0,1,2,3,4,5,6,7,8,9,10,11,12,13,14,15,16,17,18,19,20,21,22,23,24,25,26,27,28,29,30,31,32,33,34],[0,1,2,3,4,5,6,7,8,9,10,11,12,13,14,15,16,17,18,19,20,21,22,23,24,25,26,27,28,29,30,31,32,33,34,35],[0,1,2,3,4,5,6,7,8,9,10,11,12,13,14,15,16,17,18,19,20,21,22,23,24,25,26,27,28,29,30,31,32,33,34,35,36],[0,1,2,3,4,5,6,7,8,9,10,11,12,13,14,15,16,17,18,19,20,21,22,23,24,25,26,27,28,29,30,31,32,33,34,35,36,37]])
  (.cond (Go.Operand.tmp 57)
   (.seq (.region [⟨some 58,Go.Op.call { callee:=Go.Callee.value (Go.Operand.func 8),args:=#[],argTypes:=#[] },4,none⟩,
    ⟨some 8,Go.Op.assign (Go.Operand.tmp 58),4,none⟩])
   .ret)
   .skip))
  (.seq (.draw false [⟨⟨some 59,Go.Op.load 25 (Go.Operand.tmp 4),25,none⟩,false,false,true⟩,
   ⟨⟨some 60,Go.Op.load 25 (Go.Operand.tmp 5),25,none⟩,false,false,true⟩,
   ⟨⟨some 61,Go.Op.buildSlice 23 2 #[(0,Go.Operand.tmp 59),(1,Go.Operand.tmp 60)],23,none⟩,true,false,true⟩,
   ⟨⟨some 62,Go.Op.build 25 #[(0,Go.Operand.const (Go.Value.int Go.IntKind.i64 4)),(2,Go.Operand.tmp 61)],25,none⟩,false,false,true⟩,
   ⟨⟨some 63,Go.Op.load 25 (Go.Operand.tmp 4),25,none⟩,false,true,true⟩,
   ⟨⟨some 64,Go.Op.load 25 (Go.Operand.tmp 5),25,none⟩,false,true,true⟩,
   ⟨⟨some 65,Go.Op.buildSlice 23 2 #[(0,Go.Operand.tmp 63),(1,Go.Operand.tmp 64)],23,none⟩,true,true,true⟩,
   ⟨⟨some 66,Go.Op.build 25 #[(0,Go.Operand.const (Go.Value.int Go.IntKind.i64 3)),(2,Go.Operand.tmp 65)],25,none⟩,false,true,true⟩,
   ⟨⟨some 9,Go.Op.alloc 25,0,none⟩,true,true,true⟩,
   ⟨⟨some 10,Go.Op.alloc 25,0,none⟩,true,true,false⟩,
   ⟨⟨none,Go.Op.store 25 (Go.Operand.tmp 9) (Go.Operand.tmp 62),0,none⟩,true,true,false⟩,
   ⟨⟨none,Go.Op.store 25 (Go.Operand.tmp 10) (Go.Operand.tmp 66),0,none⟩,true,false,false⟩] [[],[],[0,1],[0,1,2],[],[],[4,5],[4,5,6],[],[],[0,1,2,3,8,9],[0,1,2,3,4,5,6,7,8,9,10]])
  (.seq (.region [⟨some 68,Go.Op.load 25 (Go.Operand.tmp 4),25,none⟩,
   ⟨some 69,Go.Op.call { callee:=Go.Callee.value (Go.Operand.func 9),args:=#[Go.Operand.tmp 68],argTypes:=#[25] },33,none⟩,
   ⟨some 67,Go.Op.move (Go.Operand.tmp 69),33,none⟩,
   ⟨some 70,Go.Op.extract (Go.Operand.tmp 67) 0,31,none⟩,
   ⟨some 71,Go.Op.extract (Go.Operand.tmp 67) 1,32,none⟩,
   ⟨some 11,Go.Op.alloc 31,0,none⟩,
   ⟨none,Go.Op.store 31 (Go.Operand.tmp 11) (Go.Operand.tmp 70),0,none⟩,
   ⟨some 12,Go.Op.assign (Go.Operand.tmp 71),32,none⟩])
  (.seq (.region [⟨some 73,Go.Op.load 25 (Go.Operand.tmp 5),25,none⟩,
   ⟨some 74,Go.Op.call { callee:=Go.Callee.value (Go.Operand.func 9),args:=#[Go.Operand.tmp 73],argTypes:=#[25] },33,none⟩,
   ⟨some 72,Go.Op.move (Go.Operand.tmp 74),33,none⟩,
   ⟨some 75,Go.Op.extract (Go.Operand.tmp 72) 0,31,none⟩,
   ⟨some 76,Go.Op.extract (Go.Operand.tmp 72) 1,32,none⟩,
   ⟨some 13,Go.Op.alloc 31,0,none⟩,
   ⟨none,Go.Op.store 31 (Go.Operand.tmp 13) (Go.Operand.tmp 75),0,none⟩,
   ⟨some 14,Go.Op.assign (Go.Operand.tmp 76),32,none⟩])
  (.seq (.region [⟨some 78,Go.Op.load 25 (Go.Operand.tmp 9),25,none⟩,
   ⟨some 79,Go.Op.call { callee:=Go.Callee.value (Go.Operand.func 9),args:=#[Go.Operand.tmp 78],argTypes:=#[25] },33,none⟩,
   ⟨some 77,Go.Op.move (Go.Operand.tmp 79),33,none⟩,
   ⟨some 80,Go.Op.extract (Go.Operand.tmp 77) 0,31,none⟩,
   ⟨some 81,Go.Op.extract (Go.Operand.tmp 77) 1,32,none⟩,
   ⟨some 15,Go.Op.alloc 31,0,none⟩,
   ⟨none,Go.Op.store 31 (Go.Operand.tmp 15) (Go.Operand.tmp 80),0,none⟩,
   ⟨some 16,Go.Op.assign (Go.Operand.tmp 81),32,none⟩])
  (.seq (.region [⟨some 83,Go.Op.load 25 (Go.Operand.tmp 10),25,none⟩,
   ⟨some 84,Go.Op.call { callee:=Go.Callee.value (Go.Operand.func 9),args:=#[Go.Operand.tmp 83],argTypes:=#[25] },33,none⟩,
   ⟨some 82,Go.Op.move (Go.Operand.tmp 84),33,none⟩,
   ⟨some 85,Go.Op.extract (Go.Operand.tmp 82) 0,31,none⟩,
   ⟨some 86,Go.Op.extract (Go.Operand.tmp 82) 1,32,none⟩,
   ⟨some 17,Go.Op.alloc 31,0,none⟩,
   ⟨none,Go.Op.store 31 (Go.Operand.tmp 17) (Go.Operand.tmp 85),0,none⟩,
   ⟨some 18,Go.Op.assign (Go.Operand.tmp 86),32,none⟩])
  (.seq (.seq (.region [⟨some 87,Go.Op.move (Go.Operand.tmp 12),32,none⟩,
   ⟨some 88,Go.Op.binOp Go.BinOp.neq 32 (Go.Operand.tmp 87) (Go.Operand.const (Go.Value.int Go.IntKind.i64 0)) 32,4,none⟩,
   ⟨some 89,Go.Op.move (Go.Operand.tmp 88),4,none⟩,
   ⟨some 90,Go.Op.move (Go.Operand.tmp 14),32,(some (89,false))⟩,
   ⟨some 91,Go.Op.binOp Go.BinOp.neq 32 (Go.Operand.tmp 90) (Go.Operand.const (Go.Value.int Go.IntKind.i64 0)) 32,4,(some (89,false))⟩,
   ⟨some 92,Go.Op.pick (Go.Operand.tmp 89) (Go.Operand.const (Go.Value.bool true)) (Go.Operand.tmp 91),4,none⟩,
   ⟨some 93,Go.Op.move (Go.Operand.tmp 92),4,none⟩,
   ⟨some 94,Go.Op.move (Go.Operand.tmp 16),32,(some (93,false))⟩,
   ⟨some 95,Go.Op.binOp Go.BinOp.neq 32 (Go.Operand.tmp 94) (Go.Operand.const (Go.Value.int Go.IntKind.i64 0)) 32,4,(some (93,false))⟩,
   ⟨some 96,Go.Op.pick (Go.Operand.tmp 93) (Go.Operand.const (Go.Value.bool true)) (Go.Operand.tmp 95),4,none⟩,
   ⟨some 97,Go.Op.move (Go.Operand.tmp 96),4,none⟩,
   ⟨some 98,Go.Op.move (Go.Operand.tmp 18),32,(some (97,false))⟩,
   ⟨some 99,Go.Op.binOp Go.BinOp.neq 32 (Go.Operand.tmp 98) (Go.Operand.const (Go.Value.int Go.IntKind.i64 0)) 32,4,(some (97,false))⟩,
   ⟨some 100,Go.Op.pick (Go.Operand.tmp 97) (Go.Operand.const (Go.Value.bool true)) (Go.Operand.tmp 99),4,none⟩])
  (.cond (Go.Operand.tmp 100)
   (.seq (.region [⟨some 101,Go.Op.call { callee:=Go.Callee.value (Go.Operand.func 8),args:=#[],argTypes:=#[] },4,none⟩,
    ⟨some 8,Go.Op.assign (Go.Operand.tmp 101),4,none⟩])
   .ret)
   .skip))
  (.seq (.draw true [⟨⟨some 102,Go.Op.load 31 (Go.Operand.tmp 15),31,none⟩,false,false,false⟩,
   ⟨⟨some 103,Go.Op.move (Go.Operand.tmp 2),9,none⟩,false,false,false⟩,
   ⟨⟨some 104,Go.Op.call { callee:=Go.Callee.value (Go.Operand.func 16),args:=#[Go.Operand.tmp 102,Go.Operand.tmp 103],argTypes:=#[31,9] },4,none⟩,false,false,false⟩,
   ⟨⟨some 105,Go.Op.load 31 (Go.Operand.tmp 11),31,none⟩,false,false,false⟩,
   ⟨⟨some 106,Go.Op.move (Go.Operand.tmp 2),9,none⟩,false,false,false⟩,
   ⟨⟨some 107,Go.Op.call { callee:=Go.Callee.value (Go.Operand.func 16),args:=#[Go.Operand.tmp 105,Go.Operand.tmp 106],argTypes:=#[31,9] },4,none⟩,false,false,false⟩,
   ⟨⟨some 108,Go.Op.move (Go.Operand.tmp 107),4,none⟩,false,false,false⟩,
   ⟨⟨some 109,Go.Op.load 31 (Go.Operand.tmp 13),31,(some (108,false))⟩,false,false,false⟩,
   ⟨⟨some 110,Go.Op.move (Go.Operand.tmp 2),9,(some (108,false))⟩,false,false,false⟩,
   ⟨⟨some 111,Go.Op.call { callee:=Go.Callee.value (Go.Operand.func 16),args:=#[Go.Operand.tmp 109,Go.Operand.tmp 110],argTypes:=#[31,9] },4,(some (108,false))⟩,false,false,false⟩,
   ⟨⟨some 112,Go.Op.pick (Go.Operand.tmp 108) (Go.Operand.const (Go.Value.bool true)) (Go.Operand.tmp 111),4,none⟩,false,false,false⟩,
   ⟨⟨some 113,Go.Op.binOp Go.BinOp.eql 4 (Go.Operand.tmp 104) (Go.Operand.tmp 112) 4,4,none⟩,false,false,false⟩,
   ⟨⟨some 114,Go.Op.move (Go.Operand.tmp 113),4,none⟩,false,false,false⟩,
   ⟨⟨some 115,Go.Op.load 31 (Go.Operand.tmp 11),31,(some (114,true))⟩,false,false,false⟩,
   ⟨⟨some 116,Go.Op.move (Go.Operand.tmp 2),9,(some (114,true))⟩,false,false,false⟩,
   ⟨⟨some 117,Go.Op.call { callee:=Go.Callee.value (Go.Operand.func 16),args:=#[Go.Operand.tmp 115,Go.Operand.tmp 116],argTypes:=#[31,9] },4,(some (114,true))⟩,false,false,false⟩,
   ⟨⟨some 118,Go.Op.unOp Go.UnOp.not 4 (Go.Operand.tmp 117),4,(some (114,true))⟩,false,false,false⟩,
   ⟨⟨some 119,Go.Op.move (Go.Operand.tmp 118),4,(some (114,true))⟩,false,false,false⟩,
   ⟨⟨some 120,Go.Op.load 31 (Go.Operand.tmp 13),31,(some (119,false))⟩,false,false,false⟩,
   ⟨⟨some 121,Go.Op.move (Go.Operand.tmp 3),9,(some (119,false))⟩,false,false,false⟩,
   ⟨⟨some 122,Go.Op.call { callee:=Go.Callee.value (Go.Operand.func 16),args:=#[Go.Operand.tmp 120,Go.Operand.tmp 121],argTypes:=#[31,9] },4,(some (119,false))⟩,false,false,false⟩,
   ⟨⟨some 123,Go.Op.unOp Go.UnOp.not 4 (Go.Operand.tmp 122),4,(some (119,false))⟩,false,false,false⟩,
   ⟨⟨some 124,Go.Op.pick (Go.Operand.tmp 119) (Go.Operand.const (Go.Value.bool true)) (Go.Operand.tmp 123),4,(some (114,true))⟩,false,false,false⟩,
   ⟨⟨some 125,Go.Op.move (Go.Operand.tmp 124),4,(some (114,true))⟩,false,false,false⟩,
   ⟨⟨some 126,Go.Op.load 31 (Go.Operand.tmp 17),31,(some (125,false))⟩,false,false,false⟩,
   ⟨⟨some 127,Go.Op.move (Go.Operand.tmp 2),9,(some (125,false))⟩,false,false,false⟩,
   ⟨⟨some 128,Go.Op.move (Go.Operand.tmp 3),9,(some (125,false))⟩,false,false,false⟩,
   ⟨⟨some 129,Go.Op.binOp Go.BinOp.add 9 (Go.Operand.tmp 127) (Go.Operand.tmp 128) 9,9,(some (125,false))⟩,false,false,false⟩,
   ⟨⟨some 130,Go.Op.call { callee:=Go.Callee.value (Go.Operand.func 16),args:=#[Go.Operand.tmp 126,Go.Operand.tmp 129],argTypes:=#[31,9] },4,(some (125,false))⟩,false,false,false⟩,
   ⟨⟨some 131,Go.Op.pick (Go.Operand.tmp 125) (Go.Operand.const (Go.Value.bool true)) (Go.Operand.tmp 130),4,(some (114,true))⟩,false,false,false⟩,
   ⟨⟨some 132,Go.Op.pick (Go.Operand.tmp 114) (Go.Operand.tmp 131) (Go.Operand.const (Go.Value.bool false)),4,none⟩,false,false,false⟩,
   ⟨⟨some 133,Go.Op.move (Go.Operand.tmp 132),4,none⟩,false,false,false⟩,
   ⟨⟨some 134,Go.Op.call { callee:=Go.Callee.value (Go.Operand.func 8),args:=#[],argTypes:=#[] },4,(some (133,true))⟩,false,false,false⟩,
   ⟨⟨some 135,Go.Op.pick (Go.Operand.tmp 133) (Go.Operand.tmp 134) (Go.Operand.const (Go.Value.bool false)),4,none⟩,false,false,false⟩,
   ⟨⟨some 8,Go.Op.assign (Go.Operand.tmp 135),4,none⟩,false,false,false⟩] [[],[],[0,1],[],[],[0,1,2,3,4],[0,1,2,3,4,5],[0,1,2,3,4,5,6],[0,1,2,3,4,5,6],[0,1,2,3,4,5,6,7,8],[0,1,2,3,4,5,6,7,8,9],[0,1,2,3,4,5,6,7,8,9,10],[0,1,2,3,4,5,6,7,8,9,10,11],[0,1,2,3,4,5,6,7,8,9,10,11,12],[0,1,2,3,4,5,6,7,8,9,10,11,12],[0,1,2,3,4,5,6,7,8,9,10,11,12,13,14],[0,1,2,3,4,5,6,7,8,9,10,11,12,13,14,15],[0,1,2,3,4,5,6,7,8,9,10,11,12,13,14,15,16],[0,1,2,3,4,5,6,7,8,9,10,11,12,13,14,15,16,17],[0,1,2,3,4,5,6,7,8,9,10,11,12,13,14,15,16,17],[0,1,2,3,4,5,6,7,8,9,10,11,12,13,14,15,16,17,18,19],[0,1,2,3,4,5,6,7,8,9,10,11,12,13,14,15,16,17,18,19,20],[0,1,2,3,4,5,6,7,8,9,10,11,12,13,14,15,16,17,18,19,20,21],[0,1,2,3,4,5,6,7,8,9,10,11,12,13,14,15,16,17,18,19,20,21,22],[0,1,2,3,4,5,6,7,8,9,10,11,12,13,14,15,16,17,18,19,20,21,22,23],[0,1,2,3,4,5,6,7,8,9,10,11,12,13,14,15,16,17,18,19,20,21,22,23],[0,1,2,3,4,5,6,7,8,9,10,11,12,13,14,15,16,17,18,19,20,21,22,23],[0,1,2,3,4,5,6,7,8,9,10,11,12,13,14,15,16,17,18,19,20,21,22,23,25,26],[0,1,2,3,4,5,6,7,8,9,10,11,12,13,14,15,16,17,18,19,20,21,22,23,24,25,26,27],[0,1,2,3,4,5,6,7,8,9,10,11,12,13,14,15,16,17,18,19,20,21,22,23,24,25,26,27,28],[0,1,2,3,4,5,6,7,8,9,10,11,12,13,14,15,16,17,18,19,20,21,22,23,24,25,26,27,28,29],[0,1,2,3,4,5,6,7,8,9,10,11,12,13,14,15,16,17,18,19,20,21,22,23,24,25,26,27,28,29,30],[0,1,2,3,4,5,6,7,8,9,10,11,12,13,14,15,16,17,18,19,20,21,22,23,24,25,26,27,28,29,30,31],[0,1,2,3,4,5,6,7,8,9,10,11,12,13,14,15,16,17,18,19,20,21,22,23,24,25,26,27,28,29,30,31,32],[0,1,2,3,4,5,6,7,8,9,10,11,12,13,14,15,16,17,18,19,20,21,22,23,24,25,26,27,28,29,30,31,32,33]])
  .ret))))))))) :=
 ⟨foll,Tryz.f5,Tryz.func5,by kernel_rfl,by kernel_rfl,by kernel_rfl,by rw [Tryz.ntmps5];decide⟩
theorem fn7:FnIs Tryz.prog 7 1 [Go.ResultVar.tmp 2] (.seq (.region [⟨some 1,Go.Op.box 25 (Go.Operand.tmp 0),0,none⟩,
   ⟨some 2,Go.Op.assign (Go.Operand.const (Go.Value.bool false)),4,none⟩])
  (.seq (.region [⟨some 3,Go.Op.load 25 (Go.Operand.tmp 1),25,none⟩,
   ⟨some 4,Go.Op.call { callee:=Go.Callee.value (Go.Operand.func 19),args:=#[Go.Operand.tmp 3],argTypes:=#[25] },4,none⟩,
   ⟨some 5,Go.Op.move (Go.Operand.tmp 4),4,none⟩,
   ⟨some 6,Go.Op.load 25 (Go.Operand.tmp 1),25,(some (5,false))⟩,
   ⟨some 7,Go.Op.call { callee:=Go.Callee.value (Go.Operand.func 12),args:=#[Go.Operand.tmp 6],argTypes:=#[25] },3,(some (5,false))⟩,
   ⟨some 8,Go.Op.binOp Go.BinOp.eql 3 (Go.Operand.tmp 7) (Go.Operand.const (Go.Value.int Go.IntKind.i64 0)) 3,4,(some (5,false))⟩,
   ⟨some 9,Go.Op.move (Go.Operand.tmp 8),4,(some (5,false))⟩,
   ⟨some 10,Go.Op.load 25 (Go.Operand.tmp 1),25,(some (9,true))⟩,
   ⟨some 11,Go.Op.call { callee:=Go.Callee.value (Go.Operand.func 20),args:=#[Go.Operand.tmp 10],argTypes:=#[25] },3,(some (9,true))⟩,
   ⟨some 12,Go.Op.binOp Go.BinOp.gtr 3 (Go.Operand.tmp 11) (Go.Operand.const (Go.Value.int Go.IntKind.i64 500)) 3,4,(some (9,true))⟩,
   ⟨some 13,Go.Op.pick (Go.Operand.tmp 9) (Go.Operand.tmp 12) (Go.Operand.const (Go.Value.bool false)),4,(some (5,false))⟩,
   ⟨some 14,Go.Op.move (Go.Operand.tmp 13),4,(some (5,false))⟩,
   ⟨some 15,Go.Op.load 25 (Go.Operand.tmp 1),25,(some (14,true))⟩,
   ⟨some 16,Go.Op.call { callee:=Go.Callee.value (Go.Operand.func 20),args:=#[Go.Operand.tmp 15],argTypes:=#[25] },3,(some (14,true))⟩,
   ⟨some 17,Go.Op.binOp Go.BinOp.leq 3 (Go.Operand.tmp 16) (Go.Operand.const (Go.Value.int Go.IntKind.i64 3000)) 3,4,(some (14,true))⟩,
   ⟨some 18,Go.Op.pick (Go.Operand.tmp 14) (Go.Operand.tmp 17) (Go.Operand.const (Go.Value.bool false)),4,(some (5,false))⟩,
   ⟨some 19,Go.Op.pick (Go.Operand.tmp 5) (Go.Operand.const (Go.Value.bool true)) (Go.Operand.tmp 18),4,none⟩,
   ⟨some 2,Go.Op.assign (Go.Operand.tmp 19),4,none⟩])
  .ret)) :=
 ⟨foll,Tryz.f7,Tryz.func7,by kernel_rfl,by kernel_rfl,by kernel_rfl,by rw [Tryz.ntmps7];decide⟩
theorem fn8:FnIs Tryz.prog 8 0 [Go.ResultVar.tmp 0] (.seq (.region [⟨some 0,Go.Op.assign (Go.Operand.const (Go.Value.bool false)),4,none⟩])
  (.seq (.region [⟨some 8,Go.Op.call { callee:=Go.Callee.value (Go.Operand.func 21),args:=#[Go.Operand.const (Go.Value.int Go.IntKind.i32 97)],argTypes:=#[21] },25,none⟩,
   ⟨some 9,Go.Op.call { callee:=Go.Callee.value (Go.Operand.func 9),args:=#[Go.Operand.tmp 8],argTypes:=#[25] },33,none⟩,
   ⟨some 7,Go.Op.move (Go.Operand.tmp 9),33,none⟩,
   ⟨some 10,Go.Op.extract (Go.Operand.tmp 7) 0,31,none⟩,
   ⟨some 11,Go.Op.extract (Go.Operand.tmp 7) 1,32,none⟩,
   ⟨some 1,Go.Op.alloc 31,0,none⟩,
   ⟨none,Go.Op.store 31 (Go.Operand.tmp 1) (Go.Operand.tmp 10),0,none⟩,
   ⟨some 2,Go.Op.assign (Go.Operand.tmp 11),32,none⟩])
  (.seq (.region [⟨some 13,Go.Op.call { callee:=Go.Callee.value (Go.Operand.func 22),args:=#[Go.Operand.const (Go.Value.string { data:=#[97,123,50,44,125] })],argTypes:=#[9] },43,none⟩,
   ⟨some 12,Go.Op.move (Go.Operand.tmp 13),43,none⟩,
   ⟨some 14,Go.Op.extract (Go.Operand.tmp 12) 0,25,none⟩,
   ⟨some 15,Go.Op.extract (Go.Operand.tmp 12) 1,32,none⟩,
   ⟨some 3,Go.Op.alloc 25,0,none⟩,
   ⟨none,Go.Op.store 25 (Go.Operand.tmp 3) (Go.Operand.tmp 14),0,none⟩,
   ⟨some 4,Go.Op.assign (Go.Operand.tmp 15),32,none⟩])
  (.seq (.region [⟨some 17,Go.Op.load 25 (Go.Operand.tmp 3),25,none⟩,
   ⟨some 18,Go.Op.call { callee:=Go.Callee.value (Go.Operand.func 9),args:=#[Go.Operand.tmp 17],argTypes:=#[25] },33,none⟩,
   ⟨some 16,Go.Op.move (Go.Operand.tmp 18),33,none⟩,
   ⟨some 19,Go.Op.extract (Go.Operand.tmp 16) 0,31,none⟩,
   ⟨some 20,Go.Op.extract (Go.Operand.tmp 16) 1,32,none⟩,
   ⟨some 5,Go.Op.alloc 31,0,none⟩,
   ⟨none,Go.Op.store 31 (Go.Operand.tmp 5) (Go.Operand.tmp 19),0,none⟩,
   ⟨some 6,Go.Op.assign (Go.Operand.tmp 20),32,none⟩])
  (.seq (.region [⟨some 21,Go.Op.move (Go.Operand.tmp 2),32,none⟩,
   ⟨some 22,Go.Op.binOp Go.BinOp.eql 32 (Go.Operand.tmp 21) (Go.Operand.const (Go.Value.int Go.IntKind.i64 0)) 32,4,none⟩,
   ⟨some 23,Go.Op.move (Go.Operand.tmp 22),4,none⟩,
   ⟨some 24,Go.Op.move (Go.Operand.tmp 4),32,(some (23,true))⟩,
   ⟨some 25,Go.Op.binOp Go.BinOp.eql 32 (Go.Operand.tmp 24) (Go.Operand.const (Go.Value.int Go.IntKind.i64 0)) 32,4,(some (23,true))⟩,
   ⟨some 26,Go.Op.pick (Go.Operand.tmp 23) (Go.Operand.tmp 25) (Go.Operand.const (Go.Value.bool false)),4,none⟩,
   ⟨some 27,Go.Op.move (Go.Operand.tmp 26),4,none⟩,
   ⟨some 28,Go.Op.move (Go.Operand.tmp 6),32,(some (27,true))⟩,
   ⟨some 29,Go.Op.binOp Go.BinOp.eql 32 (Go.Operand.tmp 28) (Go.Operand.const (Go.Value.int Go.IntKind.i64 0)) 32,4,(some (27,true))⟩,
   ⟨some 30,Go.Op.pick (Go.Operand.tmp 27) (Go.Operand.tmp 29) (Go.Operand.const (Go.Value.bool false)),4,none⟩,
   ⟨some 31,Go.Op.move (Go.Operand.tmp 30),4,none⟩,
   ⟨some 32,Go.Op.fieldAddr 31 (Go.Operand.tmp 1) 2,0,(some (31,true))⟩,
   ⟨some 33,Go.Op.load 28 (Go.Operand.tmp 32),28,(some (31,true))⟩,
   ⟨some 34,Go.Op.call { callee:=Go.Callee.builtin Go.Builtin.len,args:=#[Go.Operand.tmp 33],argTypes:=#[28] },3,(some (31,true))⟩,
   ⟨some 35,Go.Op.binOp Go.BinOp.eql 3 (Go.Operand.tmp 34) (Go.Operand.const (Go.Value.int Go.IntKind.i64 2)) 3,4,(some (31,true))⟩,
   ⟨some 36,Go.Op.pick (Go.Operand.tmp 31) (Go.Operand.tmp 35) (Go.Operand.const (Go.Value.bool false)),4,none⟩,
   ⟨some 37,Go.Op.move (Go.Operand.tmp 36),4,none⟩,
   ⟨some 38,Go.Op.load 31 (Go.Operand.tmp 1),31,(some (37,true))⟩,
   ⟨some 39,Go.Op.call { callee:=Go.Callee.value (Go.Operand.func 16),args:=#[Go.Operand.tmp 38,Go.Operand.const (Go.Value.string { data:=#[97] })],argTypes:=#[31,9] },4,(some (37,true))⟩,
   ⟨some 40,Go.Op.pick (Go.Operand.tmp 37) (Go.Operand.tmp 39) (Go.Operand.const (Go.Value.bool false)),4,none⟩,
   ⟨some 41,Go.Op.move (Go.Operand.tmp 40),4,none⟩,
   ⟨some 42,Go.Op.load 31 (Go.Operand.tmp 1),31,(some (41,true))⟩,
   ⟨some 43,Go.Op.call { callee:=Go.Callee.value (Go.Operand.func 16),args:=#[Go.Operand.tmp 42,Go.Operand.const (Go.Value.string { data:=#[] })],argTypes:=#[31,9] },4,(some (41,true))⟩,
   ⟨some 44,Go.Op.unOp Go.UnOp.not 4 (Go.Operand.tmp 43),4,(some (41,true))⟩,
   ⟨some 45,Go.Op.pick (Go.Operand.tmp 41) (Go.Operand.tmp 44) (Go.Operand.const (Go.Value.bool false)),4,none⟩,
   ⟨some 46,Go.Op.move (Go.Operand.tmp 45),4,none⟩,
   ⟨some 47,Go.Op.fieldAddr 31 (Go.Operand.tmp 5) 2,0,(some (46,true))⟩,
   ⟨some 48,Go.Op.load 28 (Go.Operand.tmp 47),28,(some (46,true))⟩,
   ⟨some 49,Go.Op.call { callee:=Go.Callee.builtin Go.Builtin.len,args:=#[Go.Operand.tmp 48],argTypes:=#[28] },3,(some (46,true))⟩,
   ⟨some 50,Go.Op.binOp Go.BinOp.eql 3 (Go.Operand.tmp 49) (Go.Operand.const (Go.Value.int Go.IntKind.i64 8)) 3,4,(some (46,true))⟩,
   ⟨some 51,Go.Op.pick (Go.Operand.tmp 46) (Go.Operand.tmp 50) (Go.Operand.const (Go.Value.bool false)),4,none⟩,
   ⟨some 52,Go.Op.move (Go.Operand.tmp 51),4,none⟩,
   ⟨some 53,Go.Op.load 31 (Go.Operand.tmp 5),31,(some (52,true))⟩,
   ⟨some 54,Go.Op.call { callee:=Go.Callee.value (Go.Operand.func 16),args:=#[Go.Operand.tmp 53,Go.Operand.const (Go.Value.string { data:=#[97,97,97] })],argTypes:=#[31,9] },4,(some (52,true))⟩,
   ⟨some 55,Go.Op.pick (Go.Operand.tmp 52) (Go.Operand.tmp 54) (Go.Operand.const (Go.Value.bool false)),4,none⟩,
   ⟨some 56,Go.Op.move (Go.Operand.tmp 55),4,none⟩,
   ⟨some 57,Go.Op.load 31 (Go.Operand.tmp 5),31,(some (56,true))⟩,
   ⟨some 58,Go.Op.call { callee:=Go.Callee.value (Go.Operand.func 16),args:=#[Go.Operand.tmp 57,Go.Operand.const (Go.Value.string { data:=#[97] })],argTypes:=#[31,9] },4,(some (56,true))⟩,
   ⟨some 59,Go.Op.unOp Go.UnOp.not 4 (Go.Operand.tmp 58),4,(some (56,true))⟩,
   ⟨some 60,Go.Op.pick (Go.Operand.tmp 56) (Go.Operand.tmp 59) (Go.Operand.const (Go.Value.bool false)),4,none⟩,
   ⟨some 0,Go.Op.assign (Go.Operand.tmp 60),4,none⟩])
  .ret))))) :=
 ⟨foll,Tryz.f8,Tryz.func8,by kernel_rfl,by kernel_rfl,by kernel_rfl,by rw [Tryz.ntmps8];decide⟩
theorem fn21:FnIs Tryz.prog 21 1 [Go.ResultVar.cell 2 25] (.seq (.region [⟨some 2,Go.Op.alloc 25,0,none⟩])
  (.seq (.region [⟨some 3,Go.Op.move (Go.Operand.tmp 0),21,none⟩,
   ⟨some 4,Go.Op.move (Go.Operand.tmp 0),21,none⟩,
   ⟨some 5,Go.Op.build 57 #[(0,Go.Operand.tmp 3),(1,Go.Operand.tmp 4)],57,none⟩,
   ⟨some 6,Go.Op.buildSlice 22 1 #[(0,Go.Operand.tmp 5)],22,none⟩,
   ⟨some 7,Go.Op.build 25 #[(0,Go.Operand.const (Go.Value.int Go.IntKind.i64 2)),(1,Go.Operand.tmp 6)],25,none⟩,
   ⟨none,Go.Op.store 25 (Go.Operand.tmp 2) (Go.Operand.tmp 7),0,none⟩])
  .ret)) :=
 ⟨foll,Tryz.f21,Tryz.func21,by kernel_rfl,by kernel_rfl,by kernel_rfl,by rw [Tryz.ntmps21];decide⟩
end Go.Proofs.YtngdkenddfdhaaaGreatDoor
/- Patterns as texts of characters: how they are read,and how they are written. Plain: no program. -/

set_option linter.unusedVariables false
set_option linter.unusedSimpArgs false
namespace Pat
def allS:List (Int × Int):=[(0,55295),(57344,1114111)]
def clip1 (a b:Int) (q:Int × Int):List (Int × Int):=if max a q.1≤min b q.2 then [(max a q.1,min b q.2)] else []
def clipS (a b:Int):List (Int × Int):=clip1 a b (0,55295)++clip1 a b (57344,1114111)
def joinR (out:List (Int × Int)) (r:Int × Int):List (Int × Int) :=
 if 0<out.length∧r.1≤(out.getD (out.length - 1) default).2+1 then out.set (out.length - 1) ((out.getD (out.length - 1) default).1,max (out.getD (out.length - 1) default).2 r.2)
 else out++[r]
def compL:Int→List (Int × Int)→List (Int × Int)
 | low,[]=>clipS low 1114111
 | low,r::l=>clipS low (r.1 - 1)++compL (r.2+1) l
def compS (l:List (Int × Int)):List (Int × Int):=compL 0 l
def spec:List Int:=[92,40,41,91,93,123,125,124,42,43,63,46]
def digit (c:Int):Bool:=decide (48≤c) && decide (c≤57)
def numL:List Int→Int→Int × List Int
 | [],n=>(n,[])
 | c::t,n=>if digit c then numL t (min (10 * n+(c - 48)) 1000) else (n,c::t)
def numP (l:List Int):Option (Int × List Int) :=
 if (numL l 0).2.length=l.length∨(l.headD 0=48∧(numL l 0).2.length+1<l.length)∨20<(numL l 0).1 then none else some (numL l 0)
def oneP:List Int→Option (Int × List Int)
 | []=>none
 | c::t=>some (c,t)
def letP:List Int→Option (Int × List Int)
 | []=>none
 | c::t=>if c=92 then oneP t else if c=93∨c=94∨c=45 then none else some (c,t)
def itemP (l:List Int):Option ((Int × Int) × List Int) :=
 match letP l with
 | none=>none
 | some x=>if x.2.headD (-1)=45 then (letP x.2.tail).map fun y=>((x.1,y.1),y.2) else some ((x.1,x.1),x.2)
def clsP:Nat→List (Int × Int)→List Int→Option (List (Int × Int) × List Int)
 | 0,_,_=>none
 | f+1,acc,l =>
  if acc≠[]∧l.headD (-1)=93 then some (acc,l.tail)
  else match itemP l with
   | none=>none
   | some (q,r)=>if q.2<q.1 then none else clsP f (acc++clipS q.1 q.2) r
section
variable (sort:List (Int × Int)→List (Int × Int))
def normS (l:List (Int × Int)):List (Int × Int):=(sort l).foldl joinR []
def classP (l:List Int):Option (List (Int × Int) × List Int) :=
 if l.headD (-1)=94 then (clsP (l.length+1) [] l.tail).map fun x=>(compS (normS sort x.1),x.2)
 else (clsP (l.length+1) [] l).map fun x=>(normS sort x.1,x.2)
def setT (s:List (Int × Int)):Tree:=.mk 2 s [] 0 0
def rep5 (x:Tree) (a b:Int):Tree:=.mk 5 [] [x] a b
def mkJoin:List Tree→Tree
 | []=>.mk 1 [] [] 0 0
 | [x]=>x
 | l=>.mk 3 [] l 0 0
def mkChoice:List Tree→Tree
 | [x]=>x
 | l=>.mk 4 [] l 0 0
variable (ch:List Int→Option (Tree × List Int))
def atomP:List Int→Option (Tree × List Int)
 | []=>none
 | c::t =>
  if c=40 then (match ch t with
   | none=>none
   | some (n,r)=>if r.headD (-1)=41 then some (n,r.tail) else none)
  else if c=46 then some (setT allS,t)
  else if c=91 then (classP sort t).map fun x=>(setT x.1,x.2)
  else if c=92 then (match t with | []=>none | d::t=>some (setT [(d,d)],t))
  else if c∈spec then none
  else some (setT [(c,c)],t)
def bndP (l:List Int):Option ((Int × Int) × List Int) :=
 match numP l with
 | none=>none
 | some (a,r) =>
  match (if r.headD (-1)=44 then (if r.tail.headD (-1)=125 then some (-1,r.tail) else numP r.tail) else some (a,r)) with
  | none=>none
  | some (b,r)=>if r.headD (-1)=125∧¬ (0≤b∧b<a) then some ((a,b),r.tail) else none
def repP (l:List Int):Option (Tree × List Int) :=
 match atomP sort ch l with
 | none=>none
 | some (x,r) =>
  if r.headD (-1)=42 then some (rep5 x 0 (-1),r.tail)
  else if r.headD (-1)=43 then some (rep5 x 1 (-1),r.tail)
  else if r.headD (-1)=63 then some (rep5 x 0 1,r.tail)
  else if r.headD (-1)=123 then (bndP r.tail).map fun y=>(rep5 x y.1.1 y.1.2,y.2)
  else some (x,r)
def joinL:Nat→List Int→Option (List Tree × List Int)
 | 0,_=>none
 | f+1,l =>
  if l.headD (-1)<0∨l.headD (-1)=124∨l.headD (-1)=41 then some ([],l)
  else match repP sort ch l with
   | none=>none
   | some (x,r)=>(joinL f r).map fun y=>(x::y.1,y.2)
def joinP (l:List Int):Option (Tree × List Int):=(joinL sort ch (l.length+1) l).map fun y=>(mkJoin y.1,y.2)
def choiceL:Nat→List Int→Option (List Tree × List Int)
 | 0,_=>none
 | f+1,l =>
  match joinP sort ch l with
  | none=>none
  | some (x,r)=>if r.headD (-1)=124 then (choiceL f r.tail).map fun y=>(x::y.1,y.2) else some ([x],r)
def choiceP (l:List Int):Option (Tree × List Int):=(choiceL sort ch (l.length+1) l).map fun y=>(mkChoice y.1,y.2)
end
def chP (sort:List (Int × Int)→List (Int × Int)):Nat→List Int→Option (Tree × List Int)
 | 0=>fun _=>none
 | f+1=>choiceP sort (chP sort f)
def parseC (sort:List (Int × Int)→List (Int × Int)) (l:List Int):Option Tree :=
 match chP sort (l.length+1) l with
 | some (n,[])=>some n
 | _=>none
/- writing -/
end Pat
