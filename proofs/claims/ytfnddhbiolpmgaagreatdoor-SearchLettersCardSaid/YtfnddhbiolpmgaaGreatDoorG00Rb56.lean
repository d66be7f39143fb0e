/- Part of a proof about the functions of this seat. -/
import Derived.RangeFuncNested
import Derived.RangeFuncBound
import Derived.RangeFuncCalls
import Derived.RangeFuncLeaves
import Derived.Shelf.Abstract
import Derived.Shelf.RegionOpen
import Derived.WalkKit
import Derived.OwnWalkIn
import Derived.TacticsInMore
import Derived.LoopNIn
import Derived.LoopIn
import Derived.Maps.AppendAt
import Derived.Test.YtfnddhbiolpmgaaGreatDoorProg
set_option linter.unusedVariables false
set_option linter.unusedSimpArgs false
set_option maxRecDepth 100000
namespace Go.Proofs.YtfnddhbiolpmgaaGreatDoor
open Go Go.RowKit Go.Shelf
attribute [local go_sem] Oper.semAt_some
/- The iterator over the spans of a row,over worlds,for whatever lengths the matcher finds. -/
def spG (len:Nat) (m:Nat→Nat):Nat→Nat→List (Nat × Nat)
 | 0,_=>[]
 | f+1,i=>if len≤i then [] else if m i=0 then spG len m f (i+1) else (i,i+m i)::spG len m f (i+m i)
theorem abides_below {β:Type} {B:Nat} {J:β→World→Prop} (h:AbidesFrom B J) {s:β} {W W':World} (hj:J s W) (hb:Below W.heap.size W W'):J s W' :=
 h s W W' none hj ⟨hb.os,hb.tape,hb.output,hb.size,fun k hk _=>hb.block k hk⟩ (fun r e=>by cases e)
abbrev Fw:Fence:=Fence.wide
def spanE (x:Nat × Nat):Value:=.agg #[.int .i64 (x.1:Nat),.int .i64 (x.2:Nat)]
set_option maxHeartbeats 2000000 in
theorem spans21_in (n:Nat) (hn:1≤n) (l Bl Bm n₀ len cap:Nat) (p:Option Addr) (us:Nat→Value) (m:Nat→Nat) (hm:∀ k,m k≤len - k) (R:World→Prop) (hkeep:∀ W W',R W→Below n₀ W W'→R W')
  (hle:∀ W,R W→n₀≤W.heap.size) (hlen:len≤1000) (hlc:len≤cap) (hcl:∀ W,R W→W.cell? ⟨Bl,0,none⟩=some (.slice p len cap)) (hcm:∀ W,R W→∀ j,j<10→W.cell? ⟨Bm,j,none⟩=some (us j))
  (hp:0<len→∃ b off,p=some ⟨b,off,none⟩)
  (hcall:∀ W k b off,R W→k<len→p=some ⟨b,off,none⟩→Calls Tryz.prog 22 #[.agg #[us 0,us 1,us 2,us 3,us 4,us 5,us 6,us 7,us 8,us 9],.slice (some ⟨b,off+k * 3,none⟩) (len - k) (cap - k)] W fun e w' =>
   e=.returned (.int .i64 (m k))∧Below W.heap.size W w')
  (J Jx:List (Nat × Nat)→World→Prop)
  (hY:∀ pre x W,J pre W→pre.length<len→YieldAt Fw (n - 1) Tryz.prog l #[spanE x] W fun e W' =>
   (e=.returned (.bool true)∧J (pre++[x]) W'∧Below n₀ W W')∨(e=.returned (.bool false)∧Jx (pre++[x]) W'))
  (W:World) (hJ:AbidesFrom W.heap.size J) (hrow:R W) (h0:J [] W) :
  CallsIn Fw n Tryz.prog 21 #[.func (.yield l) #[] #[],.pointer (some ⟨Bl,0,none⟩),.pointer (some ⟨Bm,0,none⟩)] W fun e W'=>(∃ v,e=.returned v) ∧
   ((∃ ys,ys=spG len m (len+1) 0∧J ys W')∨(∃ pre,pre <+: spG len m (len+1) 0∧Jx pre W')):=by
 have hro:Fw.round=none:=rfl
 have hmx:Tryz.prog.follows .mixedOrders=true:=by kernel_rfl
 obtain ⟨all,hall⟩:∃ all,all=spG len m (len+1) 0:=⟨_,rfl⟩
 rw [← hall]
 refine callsIn_of_wp Tryz.func21 rfl trivial ?_ hro
 simp only [Tryz.ntmps21,List.size_toArray,List.length_cons,List.length_nil,Nat.reduceAdd,Nat.reduceSub,Array.replicate_succ,Array.replicate_zero,List.push_toArray,List.append_toArray,List.nil_append,List.cons_append]
 gi_wp2
 gi_loopw [4] (fun i wr=>∃ (k f:Nat) (pre:List (Nat × Nat)),k≤len∧len - k<f∧i=.int .i64 k∧all=pre++spG len m f k∧pre.length≤k∧J pre wr∧Below n₀ W wr∧W.heap.size≤wr.heap.size)
  (fun i _=>len - (intOf i).toNat)
 case atStart=>exact ⟨0,len+1,[],Nat.zero_le _,by omega,rfl,hall,Nat.le_refl _,h0,Below.refl _ _,Nat.le_refl _⟩
 case round =>
  clear hall
  obtain ⟨k,f,pre,hk,hkf,rfl,hsp,hpk,hJs,hnx,hsz⟩:=hrel
  have hRw:=hkeep _ _ hrow hnx
  have hl1:=hcl _ hRw
  have m0:=hcm _ hRw 0 (by omega)
  have m1:=hcm _ hRw 1 (by omega)
  have m2:=hcm _ hRw 2 (by omega)
  have m3:=hcm _ hRw 3 (by omega)
  have m4:=hcm _ hRw 4 (by omega)
  have m5:=hcm _ hRw 5 (by omega)
  have m6:=hcm _ hRw 6 (by omega)
  have m7:=hcm _ hRw 7 (by omega)
  have m8:=hcm _ hRw 8 (by omega)
  have m9:=hcm _ hRw 9 (by omega)
  by_cases hlt:k<len
  ·obtain ⟨b,off,rfl⟩:=hp (by omega)
   have hck:¬ cap=k:=by omega
   have hdr:Below n₀ wr wr.drew:=⟨rfl,rfl,rfl,Nat.le_refl _,fun _ _=>rfl⟩
   have hRd:=hkeep _ _ hRw hdr
   have hca:=hcall wr.drew k b off hRd hlt rfl
   have hJd:=abides_below (B:=W.heap.size) hJ hJs (W':=wr.drew) ⟨rfl,rfl,rfl,Nat.le_refl _,fun _ _=>rfl⟩
   have hle3:=hle _ hRd
   have hmk:=hm k
   obtain ⟨f,rfl⟩:∃ f',f=f'+1:=⟨f - 1,by omega⟩
   rw [spG,if_neg (by omega)] at hsp
   have hlt2:Hid (k<len):=hlt
   clear hRw hRd hkeep hcl hcm hp hcall hle hm
   gi_wp2
   gi_region_with_o (refine ⟨trivial,?_⟩;gi_at_call 22;refine (callsIn_wide.2 hca).mono ?_;rintro e w' ⟨rfl,hbw⟩)
   all_goals
    have hbw2:Below n₀ wr w':=hdr.trans ⟨hbw.os,hbw.tape,hbw.output,hbw.size,fun q hq=>hbw.block q (Nat.lt_of_lt_of_le hq hle3)⟩
    have hJ2:J pre w':=abides_below hJ hJd hbw
    have hsz2:wr.heap.size≤w'.heap.size:=hbw.size
    clear hbw hca hdr hJd hJs m0 m1 m2 m3 m4 m5 m6 m7 m8 m9 hl1
    generalize hmm:m k=mk at *
    by_cases hz:mk=0
    ·have hz1:((mk:Int) == 0)=true:=by simp [hz]
     rw [if_pos hz] at hsp
     clear hmm
     gi_wp2
     go_roundw
     case rel=>exact ⟨k+1,f,pre,by omega,by omega,by simp,hsp,by omega,hJ2,hnx.trans hbw2,by omega⟩
     case measure =>
      have hq:k<len:=hlt2.out
      simp [intOf]
      exact Nat.sub_lt_sub_left hq (Nat.lt_succ_self k)
    ·rw [if_neg hz] at hsp
     have hz1:((mk:Int) == 0)=false:=by simp [hz]
     obtain ⟨fn,tmps,assign,body,hy,hR⟩:=hY pre (k,k+mk) w' hJ2 (by omega)
     simp only [spanE,Int.natCast_add] at hy
     clear hmm
     gi_wp2
     refine hR.mono ?_
     rintro e W3 (⟨rfl,hJ3,hk3⟩ | ⟨rfl,hJx3⟩)
     ·gi_wp2
      go_roundw
      case rel=>exact ⟨k+mk,f,pre++[(k,k+mk)],by omega,by omega,by simp,by rw [List.append_assoc];exact hsp,by simp;omega,hJ3,(hnx.trans hbw2).trans hk3,by have:=hk3.size;omega⟩
      case measure =>
       have hq:k<len:=hlt2.out
       simp [intOf]
       rw [show ((k:Int)+(mk:Int)).toNat=k+mk by omega]
       exact Nat.sub_lt_sub_left hq (by omega)
     ·gi_wp2
      refine bodyPost_ret (results_none rfl _ _ _) rfl ?_
      exact ⟨⟨_,rfl⟩,.inr ⟨pre++[(k,k+mk)],⟨_,by rw [List.append_assoc];exact hsp.symm⟩,hJx3⟩⟩
  ·obtain rfl:k=len:=by omega
   obtain ⟨f,rfl⟩:∃ f',f=f'+1:=⟨f - 1,by omega⟩
   rw [spG,if_pos (Nat.le_refl _),List.append_nil] at hsp
   gi_wp2
   go_end0
   exact ⟨⟨_,rfl⟩,.inl ⟨pre,hsp.symm,hJs⟩⟩
end Go.Proofs.YtfnddhbiolpmgaaGreatDoor
set_option linter.unusedVariables false
set_option linter.unusedSimpArgs false
set_option maxRecDepth 100000
namespace Go.Proofs.YtfnddhbiolpmgaaGreatDoor
open Go Go.RowKit Go.Shelf
attribute [local go_sem] Oper.semAt_some
/- A list of spans,collected from an iterator,over worlds. -/
def cellsE (l:List (Nat × Nat)):List Value:=l.flatMap fun x=>[.int .i64 (x.1:Nat),.int .i64 (x.2:Nat)]
theorem cellsE_snoc (l:List (Nat × Nat)) (x:Nat × Nat):cellsE (l++[x])=cellsE l++[.int .i64 (x.1:Nat),.int .i64 (x.2:Nat)]:=by simp [cellsE]
theorem info28:(Tryz.prog.info? 28).map (fun i=>(i.zero,i.size,i.bytes))=some (some (.agg #[.int .i64 0,.int .i64 0]),2,16):=by kernel_rfl
theorem cell_two_new (w:World) (x y:Value) (t:TypeId):∀ j u,[x,y][j]? = some u→(w.alloc (.cells #[x,y] t)).cell? ((⟨w.heap.size,0,none⟩:Addr).add j)=some u:=by
 intro j u hj
 match j,hj with
 | 0,hj =>
  simp at hj
  subst hj
  simp [Addr.add]
 | 1,hj =>
  simp at hj
  subst hj
  simp [Addr.add]
def Pair (W:World) (B:Nat) (t:TypeId) (a b:Value):Prop:=W.heap[B]? = some (.cells #[a,b] t (0,0))
theorem pair_own {β:Type} (B:Nat) (t:TypeId) (f g:β→Value):Own (fun s W=>Pair W B t (f s) (g s)):=fun s X Y row hs hg hrow=>by
 have hs':X.heap[B]? = some (.cells #[f s,g s] t (0,0)):=hs
 refine (hg.block B (Array.getElem?_eq_some_iff.1 hs').1 fun e'=>?_).trans hs'
 obtain ⟨o,ho,hc⟩:=hrow B e'.symm;rw [hs'] at ho;cases ho;cases hc
set_option maxHeartbeats 2000000 in
theorem append20_in (n:Nat) (hn:3≤n) (lb:Array Value) (zs:List (Nat × Nat)) (w:World)
  (hseq:∀ W,Below w.heap.size w W→SeqStopsK Fw (n - 1) Tryz.prog 21 lb (fun x:Nat × Nat=>#[spanE x]) (Below w.heap.size) (fun ys=>ys=zs) (fun pre=>pre <+: zs) 1000 W) :
  CallsIn Fw n Tryz.prog 20 #[.slice none 0 0,.func (.func 21) #[] lb] w fun e W' =>
   ∃ v,e=.returned v∧W'.ownsRow w.heap.size 28 2 v zs.length (cellsE zs)∧(v=.slice none 0 0↔zs=[])∧Below w.heap.size w W':=by
 have h1:1≤n:=by omega
 have hro:Fw.round=none:=rfl
 obtain ⟨i0,hi,hz0,hz1,hz2⟩:=info_parts info28
 refine callsIn_of_wp_marks Tryz.func20 rfl trivial ?_ hro
 simp only [Tryz.ntmps20,List.size_toArray,List.length_cons,List.length_nil,Nat.reduceAdd,Nat.reduceSub,Array.replicate_succ,Array.replicate_zero,List.push_toArray,List.append_toArray,List.nil_append,List.cons_append]
 gi_wp2
 have bO:=Boxed.new w 25 (.slice none 0 0)
 have hB0:Below w.heap.size w (w.alloc (.cells #[.slice none 0 0] 25)):=(Below.refl _ w).alloc (Nat.le_refl _) _
 have hs0:=hseq _ hB0
 clear hseq
 refine wpIn_rangeFunc_ownH hro h1 (gf:=21) (lb:=lb) rfl trivial (enters_of Tryz.func21 (by kernel_rfl) rfl) hs0 belowK_t (belowK_b (by simp)) (Below.refl _ _) (fun _=>rfl)
  (fun pre W=>(∃ v,Boxed W w.heap.size 25 v∧W.ownsRow w.heap.size 28 2 v pre.length (cellsE pre)∧(v=.slice none 0 0↔pre=[]))∧Below w.heap.size w W)
  (fun _ _ _=>False)
  (OwnFrom.and (Own.from (holdsRow_own w.heap.size w.heap.size 25 28 2 (fun pre=>pre.length) cellsE (fun pre v=>v=.slice none 0 0↔pre=[])) _) (ownFrom_below (Nat.le_refl _) (by simp)))
  (fun _ _ _ _ _ hs _ _=>hs)
  ⟨⟨_,bO,World.ownsRow_nil _ _ _ _,by simp⟩,hB0⟩
  (fun x a' W=>∃ Bx,w.heap.size<Bx∧Pair W Bx 28 (.int .i64 (x.1:Nat)) (.int .i64 (x.2:Nat))∧a'={ tmps:=#[.slice none 0 0,.func (.func 21) #[] lb,.pointer (some ⟨w.heap.size,0,none⟩),undef,.slice none 0 0,.pointer (some ⟨Bx,0,none⟩),.func (.func 21) #[] lb,spanE x,undef,undef,undef,undef,undef],defers:=[] })
  (fun x a' _ X Y row hs hg hr=>by obtain ⟨Bx,h1,h2,h3⟩:=hs;exact ⟨Bx,h1,pair_own Bx 28 (fun (_:Unit)=>Value.int .i64 (x.1:Nat)) (fun (_:Unit)=>Value.int .i64 (x.2:Nat)) () X Y row h2 hg (fun r e=>(hr r e).2),h3⟩)
  ?assign ?body ?done ?stop
 case assign =>
  rintro l pre x W K ⟨⟨v,hv,hrow,hnil⟩,hB⟩ hK
  unfold spanE at *
  gi_wp2
  exact hK _ _ ((KeepsOthers.alloc _ _).from _) ((Below.refl _ W).alloc hB.size _) ⟨⟨v,hv.alloc _,hrow.alloc _,hnil⟩,hB.alloc hB.size _⟩ ⟨W.heap.size,hv.lt,World.alloc_heap_new W _,rfl⟩
 case body =>
  rintro l pre x a' W hl ⟨r,hr⟩ ⟨⟨v,hv,hrow,hnil⟩,hB⟩ ⟨Bx,hBx,bX,rfl⟩ hlt
  have hc:=hv.cell
  have hx0:W.cell? ⟨Bx,0,none⟩=some (.int .i64 (x.1:Nat)):=by simp [World.cell?,show W.heap[Bx]? = _ from bX]
  have hx1:W.cell? ⟨Bx,1,none⟩=some (.int .i64 (x.2:Nat)):=by simp [World.cell?,show W.heap[Bx]? = _ from bX]
  gi_wp2_with (gi_at_builtin;refine wpListIn_append_own _ rfl _ _ 25 rfl w.heap.size 28 i0 (.agg #[.int .i64 0,.int .i64 0]) 2 16 Tryz.underlying25 hi hz0 hz1 hz2 rfl (by decide) _ _ _ rfl (hrow.alloc _) ⟨W.heap.size,0,none⟩ 1 1 [.int .i64 (x.1:Nat),.int .i64 (x.2:Nat)] rfl rfl (cell_two_new _ _ _ _) (by simp [Value.oneCell']) (by have:=hlt;simp only [maxLen];omega) (by omega) (by have:=hB.size;simp;omega) ?_;intro v' w1 hown' hgrow _;obtain ⟨g',cap',rfl⟩:=ownsRow_succ hown';obtain ⟨hv1,hv2,hr2,hk2,hb2⟩:=hv.appended (by decide) hrow hB.size (Nat.le_refl _) hown' hgrow;have hc1:=hv1.cell;have hf1:=hv1.frozen)
  exact ⟨hk2.from _,hb2,⟨_,hv2,by rw [cellsE_snoc];simpa using hr2,by simp⟩,hB.trans hb2⟩
 case done =>
  rintro D ys W hD rfl ⟨⟨v,hv,hrow,hnil⟩,hB⟩ hK
  have hc:=hv.cell
  gi_wp2
  refine ⟨by simp,.inl ⟨_,_,rfl,run_takeDeferred hK,?_⟩⟩
  exact ⟨_,results_tmp rfl _ _ _,v,rfl,ownsRow_putObj hrow _ hK rfl,hnil,hB.trans (belowK_b (w:=w) (Nat.le_refl _) W D _ _ (by simp at hD;omega) hK rfl rfl)⟩
 case stop =>
  rintro D c pre W _ _ h _
  exact h.elim
set_option maxHeartbeats 1000000 in
theorem collect12_in (n:Nat) (hn:4≤n) (lb:Array Value) (zs:List (Nat × Nat)) (w:World)
  (hseq:∀ W,Below w.heap.size w W→SeqStopsK Fw (n - 1 - 1) Tryz.prog 21 lb (fun x:Nat × Nat=>#[spanE x]) (Below w.heap.size) (fun ys=>ys=zs) (fun pre=>pre <+: zs) 1000 W) :
  CallsIn Fw n Tryz.prog 12 #[.func (.func 21) #[] lb] w fun e W' =>
   ∃ v,e=.returned v∧W'.ownsRow w.heap.size 28 2 v zs.length (cellsE zs)∧(v=.slice none 0 0↔zs=[])∧Below w.heap.size w W':=by
 have hro:Fw.round=none:=rfl
 have hap:=append20_in (n - 1) (by omega) lb zs w hseq
 clear hseq
 refine callsIn_of_wp Tryz.func12 rfl trivial ?_ hro
 simp only [Tryz.ntmps12,List.size_toArray,List.length_cons,List.length_nil,Nat.reduceAdd,Nat.reduceSub,Array.replicate_succ,Array.replicate_zero,List.push_toArray,List.append_toArray,List.nil_append,List.cons_append]
 gi_wp2_with (refine ⟨trivial,(fun h=>by cases h),?_⟩;gi_at_call 20;refine hap.mono ?_;clear hap;rintro e w' ⟨v,rfl,hrow,hnil,hb⟩)
 refine bodyPost_ret (results_tmp rfl _ _ _) rfl ?_
 exact ⟨v,rfl,hrow,hnil,hb⟩
end Go.Proofs.YtfnddhbiolpmgaaGreatDoor
