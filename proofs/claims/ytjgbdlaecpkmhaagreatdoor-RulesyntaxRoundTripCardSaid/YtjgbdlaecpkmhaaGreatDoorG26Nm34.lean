/- Part of a proof about the functions of this seat. -/
import Derived.Test.YtjgbdlaecpkmhaaGreatDoorG12NvY
import Derived.Test.YtjgbdlaecpkmhaaGreatDoorG25Nh34
import Derived.Test.YtjgbdlaecpkmhaaGreatDoorProg
import Derived.Test.YtjgbdlaecpkmhaaGreatDoorG05NvJ9
import Derived.Tactics
import Derived.Tactics2
import Derived.StillTactics
import Derived.LoopTactic
import Derived.LoopN
import Derived.Laws.IdiomRangeMap
import Derived.Laws.Entries
import Derived.Carry
import Derived.KernelRfl
import Derived.Maps.RangeRun
import Derived.Test.YtjgbdlaecpkmhaaGreatDoorG14Sl34
import Derived.Test.YtjgbdlaecpkmhaaGreatDoorG13Rsf
import Derived.Shelf.Strconv.Itoa3
import Derived.Test.YtjgbdlaecpkmhaaGreatDoorG11Base34
set_option linter.unusedVariables false
set_option linter.unusedSimpArgs false
set_option maxRecDepth 100000
namespace Go.Proofs.YtjgbdlaecpkmhaaGreatDoor
open Go Nv Rul

/- strings.Builder: a text that grows. -/
@[go_sem] theorem liesB54 : liesB Tryz.prog 54 2 0 54 = true := nrfl (by kernel_rfl)
def byD (s : List UInt8) : List DV := s.map fun b => .int .u8 (b.toNat : Nat)
def BSt (s : List UInt8) (σ : Nv.ST) : Prop := (s = [] ∧ ∃ x, σ = [.box 54 [.d .nilptr, .d .nilslice], x]) ∨ ∃ g x rest n, n = s.length ∧ σ = .box 54 [.ptr 0 0, .own 2 g 0 n] :: x :: .arr g ⟨1, 5⟩ (byD s) :: rest

theorem copy47a (buf : AV) (rest : Nv.ST) : SCall Tryz.prog 47 [.ptr 0 0] (.box 54 [.d .nilptr, buf] :: rest) (.tuple []) (.box 54 [.ptr 0 0, buf] :: rest) := by
  refine fn47.st noHint (Nat.le_refl _) ?_
  simp (disch := omega) only [go_sem, reduceIte, reduceDIte, reduceCtorEq, Nat.reduceBEq, Nat.reduceEqDiff, Nat.reduceAdd, Nat.reduceSub, Nat.reduceMul, Nat.reduceLT, Nat.reduceLeDiff, Nat.reduceBNe, Int.reduceNeg, Int.reduceAdd, Int.reduceSub, Int.reduceMul, Int.reduceLT, Int.reduceLE, Int.reduceGT, Int.reduceGE, Int.reduceEq, Int.reduceNe, Int.reduceToNat, Int.reduceTMod, Int.reduceTDiv]
theorem copy47b (buf : AV) (rest : Nv.ST) : SCall Tryz.prog 47 [.ptr 0 0] (.box 54 [.ptr 0 0, buf] :: rest) (.tuple []) (.box 54 [.ptr 0 0, buf] :: rest) := by
  refine fn47.st noHint (Nat.le_refl _) ?_
  simp (disch := omega) only [go_sem, reduceIte, reduceDIte, reduceCtorEq, Nat.reduceBEq, Nat.reduceEqDiff, Nat.reduceAdd, Nat.reduceSub, Nat.reduceMul, Nat.reduceLT, Nat.reduceLeDiff, Nat.reduceBNe, Int.reduceNeg, Int.reduceAdd, Int.reduceSub, Int.reduceMul, Int.reduceLT, Int.reduceLE, Int.reduceGT, Int.reduceGE, Int.reduceEq, Int.reduceNe, Int.reduceToNat, Int.reduceTMod, Int.reduceTDiv]
theorem write28a (s : List UInt8) (hs : s.length ≤ 1048576) (x : Blk) : SCall Tryz.prog 28 [.ptr 0 0, .d (.str s)] [.box 54 [.d .nilptr, .d .nilslice], x] (.tuple [.d (.int .i64 s.length), .d .niliface])
    [.box 54 [.ptr 0 0, .own 2 0 0 s.length], x, .arr 0 ⟨1, 5⟩ (byD s)] := by
  refine fn28.st noHint (Nat.le_refl _) ?_
  simp (disch := omega) only [go_sem, reduceIte, reduceDIte, reduceCtorEq, Nat.reduceBEq, Nat.reduceEqDiff, Nat.reduceAdd, Nat.reduceSub, Nat.reduceMul, Nat.reduceLT, Nat.reduceLeDiff, Nat.reduceBNe, Int.reduceNeg, Int.reduceAdd, Int.reduceSub, Int.reduceMul, Int.reduceLT, Int.reduceLE, Int.reduceGT, Int.reduceGE, Int.reduceEq, Int.reduceNe, Int.reduceToNat, Int.reduceTMod, Int.reduceTDiv]
  refine (copy47a _ _).at ?_
  have e : (0 + s.length) * 1 ≤ 140737488355328 := by omega
  simp (disch := omega) only [go_sem, reduceIte, reduceDIte, reduceCtorEq, Nat.reduceBEq, Nat.reduceEqDiff, Nat.reduceAdd, Nat.reduceSub, Nat.reduceMul, Nat.reduceLT, Nat.reduceLeDiff, Nat.reduceBNe, Int.reduceNeg, Int.reduceAdd, Int.reduceSub, Int.reduceMul, Int.reduceLT, Int.reduceLE, Int.reduceGT, Int.reduceGE, Int.reduceEq, Int.reduceNe, Int.reduceToNat, Int.reduceTMod, Int.reduceTDiv, byD, e]
theorem write28b (s : List UInt8) (g n : Nat) (x : Blk) (bs : List DV) (hs : s.length ≤ 1048576) (hb : bs.length ≤ 1048576) (hn : n = bs.length) (rest : Nv.ST) :
    SCall Tryz.prog 28 [.ptr 0 0, .d (.str s)] (.box 54 [.ptr 0 0, .own 2 g 0 n] :: x :: .arr g ⟨1, 5⟩ bs :: rest) (.tuple [.d (.int .i64 s.length), .d .niliface])
    (.box 54 [.ptr 0 0, .own 2 (g + 1) 0 (n + s.length)] :: x :: .arr (g + 1) ⟨1, 5⟩ (bs ++ byD s) :: rest) := by
  subst hn
  refine fn28.st noHint (Nat.le_refl _) ?_
  simp (disch := omega) only [go_sem, reduceIte, reduceDIte, reduceCtorEq, Nat.reduceBEq, Nat.reduceEqDiff, Nat.reduceAdd, Nat.reduceSub, Nat.reduceMul, Nat.reduceLT, Nat.reduceLeDiff, Nat.reduceBNe, Int.reduceNeg, Int.reduceAdd, Int.reduceSub, Int.reduceMul, Int.reduceLT, Int.reduceLE, Int.reduceGT, Int.reduceGE, Int.reduceEq, Int.reduceNe, Int.reduceToNat, Int.reduceTMod, Int.reduceTDiv]
  refine (copy47b _ _).at ?_
  have e : (bs.length + s.length) * 1 ≤ 140737488355328 := by omega
  simp (disch := omega) only [go_sem, reduceIte, reduceDIte, reduceCtorEq, Nat.reduceBEq, Nat.reduceEqDiff, Nat.reduceAdd, Nat.reduceSub, Nat.reduceMul, Nat.reduceLT, Nat.reduceLeDiff, Nat.reduceBNe, Int.reduceNeg, Int.reduceAdd, Int.reduceSub, Int.reduceMul, Int.reduceLT, Int.reduceLE, Int.reduceGT, Int.reduceGE, Int.reduceEq, Int.reduceNe, Int.reduceToNat, Int.reduceTMod, Int.reduceTDiv, byD, e, Nat.zero_add, Nat.le_refl, List.take_length, List.length_map]
theorem write28 {t s : List UInt8} {σ : Nv.ST} (h : BSt t σ) (ht : t.length ≤ 1048576) (hs : s.length ≤ 1048576) :
    ∃ σ', BSt (t ++ s) σ' ∧ σ.length ≤ σ'.length ∧ (∀ k, k ≠ 0 → k ≠ 2 → k < σ.length → stGet σ' k = stGet σ k) ∧ SCall Tryz.prog 28 [.ptr 0 0, .d (.str s)] σ (.tuple [.d (.int .i64 s.length), .d .niliface]) σ' := by
  rcases h with ⟨rfl, x, rfl⟩ | ⟨g, x, rest, n, hn, rfl⟩
  · refine ⟨_, .inr ⟨0, x, [], s.length, rfl, rfl⟩, by simp, fun k h0 h2 hk => ?_, write28a s hs x⟩
    simp only [List.length_cons, List.length_nil] at hk
    obtain rfl : k = 1 := by omega
    rfl
  · refine ⟨.box 54 [.ptr 0 0, .own 2 (g + 1) 0 (n + s.length)] :: x :: .arr (g + 1) ⟨1, 5⟩ (byD t ++ byD s) :: rest, .inr ⟨g + 1, x, rest, n + s.length, by simp [hn], by simp only [byD, List.map_append]⟩, by simp, fun k h0 h2 hk => ?_, ?_⟩
    · match k, h0, h2 with
      | 1, _, _ => rfl
      | k + 3, _, _ => rfl
    · have := write28b s g n x (byD t) hs (by simpa [byD] using ht) (by simpa [byD] using hn) rest
      exact this
theorem text31a (x : Blk) : SCall Tryz.prog 31 [.ptr 0 0] [.box 54 [.d .nilptr, .d .nilslice]] (.d (.str [])) [.box 54 [.d .nilptr, .d .nilslice]] := by
  refine fn31.st noHint (Nat.le_refl _) ?_
  simp (disch := omega) only [go_sem, reduceIte, reduceDIte, reduceCtorEq, Nat.reduceBEq, Nat.reduceEqDiff, Nat.reduceAdd, Nat.reduceSub, Nat.reduceMul, Nat.reduceLT, Nat.reduceLeDiff, Nat.reduceBNe, Int.reduceNeg, Int.reduceAdd, Int.reduceSub, Int.reduceMul, Int.reduceLT, Int.reduceLE, Int.reduceGT, Int.reduceGE, Int.reduceEq, Int.reduceNe, Int.reduceToNat, Int.reduceTMod, Int.reduceTDiv]
theorem text31b (s : List UInt8) (g n : Nat) (x : Blk) (hs : s.length ≤ 1048576) (hn : n = s.length) (rest : Nv.ST) :
    ∃ σ', SCall Tryz.prog 31 [.ptr 0 0] (.box 54 [.ptr 0 0, .own 2 g 0 n] :: x :: .arr g ⟨1, 5⟩ (byD s) :: rest) (.d (.str s)) σ' := by
  subst hn
  by_cases h0 : s.length = 0
  · refine ⟨.box 54 [.ptr 0 0, .own 2 g 0 s.length] :: x :: .arr g ⟨1, 5⟩ (byD s) :: rest, fn31.st noHint (Nat.le_refl _) ?_⟩
    obtain rfl : s = [] := List.length_eq_zero_iff.1 h0
    have hb : Nat.beq 0 0 = true := rfl
    simp (disch := omega) only [go_sem, reduceIte, reduceDIte, reduceCtorEq, Nat.reduceBEq, Nat.reduceEqDiff, Nat.reduceAdd, Nat.reduceSub, Nat.reduceMul, Nat.reduceLT, Nat.reduceLeDiff, Nat.reduceBNe, Int.reduceNeg, Int.reduceAdd, Int.reduceSub, Int.reduceMul, Int.reduceLT, Int.reduceLE, Int.reduceGT, Int.reduceGE, Int.reduceEq, Int.reduceNe, Int.reduceToNat, Int.reduceTMod, Int.reduceTDiv, hb, List.length_nil]
  · refine ⟨.box 54 [.ptr 0 0, .own 2 g 0 s.length] :: x :: .dead :: rest, fn31.st noHint (Nat.le_refl _) ?_⟩
    have hb : Nat.beq s.length 0 = false := by
      cases h : Nat.beq s.length 0
      · rfl
      · exact absurd (Nat.eq_of_beq_eq_true h) h0
    have e1 : (byD s).length = s.length := by simp [byD]
    have e2 : List.take s.length (byD s) = byD s := by rw [← e1, List.take_length]
    have e3 : (byD s).all isB = true := by simp [byD, go_sem]
    have e4 : (byD s).map ofB = s := by
      simp only [byD, List.map_map]
      have : (ofB ∘ fun b : UInt8 => DV.int .u8 (b.toNat : Nat)) = id := by funext b; simp only [Function.comp_apply, ofB_u8, id]
      rw [this, List.map_id]
    have e5 : 0 < (s.length : Int) ∧ 0 + s.length ≤ s.length ∧ (s.length : Int) ≤ 9223372036854775807 := by omega
    simp (disch := omega) only [go_sem, reduceIte, reduceDIte, reduceCtorEq, Nat.reduceBEq, Nat.reduceEqDiff, Nat.reduceAdd, Nat.reduceSub, Nat.reduceMul, Nat.reduceLT, Nat.reduceLeDiff, Nat.reduceBNe, Int.reduceNeg, Int.reduceAdd, Int.reduceSub, Int.reduceMul, Int.reduceLT, Int.reduceLE, Int.reduceGT, Int.reduceGE, Int.reduceEq, Int.reduceNe, Int.reduceToNat, Int.reduceTMod, Int.reduceTDiv, hb, e1, e2, e3, e4, e5]
end Go.Proofs.YtjgbdlaecpkmhaaGreatDoor
set_option maxRecDepth 1000000
namespace Go.Proofs.YtjgbdlaecpkmhaaGreatDoor
open Go
def kB1 : ByteArray := ⟨#[117, 114, 103, 101, 110, 116]⟩
def kB2 : ByteArray := ⟨#[110, 111, 114, 109, 97, 108]⟩
def kB3 : ByteArray := ⟨#[108, 97, 116, 101, 114]⟩
def cls1 : Array MapEntry := #[{ key := .string kB1, val := .int .i64 1, born := 0 }]
def cls2 : Array MapEntry := #[{ key := .string kB1, val := .int .i64 1, born := 0 }, { key := .string kB2, val := .int .i64 2, born := 1 }]
def cls3 : Array MapEntry := #[{ key := .string kB1, val := .int .i64 1, born := 0 }, { key := .string kB2, val := .int .i64 2, born := 1 }, { key := .string kB3, val := .int .i64 3, born := 2 }]
theorem get_last (P : Program) (w : World) (es : Array MapEntry) (c : Nat) : (getObj w.heap.size).run P (w.alloc (.map es c)) = .ok (.map es c) (w.alloc (.map es c)) := by
  have h := (MapKept.heap_alloc w (.map es c)).1
  unfold getObj
  simp only [Sem.run, h]
theorem set_last (P : Program) (w : World) (es es' : Array MapEntry) (c c' : Nat) : (setObj w.heap.size (.map es' c')).run P (w.alloc (.map es c)) = .ok () (w.alloc (.map es' c')) := by
  have h := (MapKept.heap_alloc w (.map es c)).1
  have e : (w.alloc (.map es c)).heap.setIfInBounds w.heap.size (.map es' c') = w.heap.push (.map es' c') := by
    show (w.heap.push _).setIfInBounds _ _ = _
    apply Array.ext'
    simp
  unfold setObj
  simp only [Sem.run, h]
  rw [e]; rfl
theorem upd_run {P : Program} {t kt et : TypeId} (ht : P.underlying t = some (.map kt et)) (hkt : P.underlying kt = some .string) (w : World) (es : Array MapEntry) (clock : Nat) (s : ByteArray) (x : Value)
    (hf : Instr.findNow .string (.string s) es.toList 0 = some none) :
    (Instr.mapUpdate t (.map (some w.heap.size)) (.string s) x).run P (w.alloc (.map es clock)) = .ok () (w.alloc (.map (es.push { key := .string s, val := x, born := clock }) (clock + 1))) := by
  have hg := get_last P w es clock
  have hck := MapKept.run_checkKey (P := P) (w := w.alloc (.map es clock)) (k := .string s) hkt (by trivial) false 9999
  have hff := MapKept.run_findKey (P := P) (w := w.alloc (.map es clock)) hkt hf
  have hset := set_last P w es (es.push { key := .string s, val := x, born := clock }) clock (clock + 1)
  simp only [Instr.mapUpdate, Sem.run_bind, run_underlying ht, Result.andThen_ok, hg, hck, hff, hset]
theorem classes_run (w : World) : Calls Tryz.prog 40 #[] w fun e w' => e = .returned (.map (some w.heap.size)) ∧ w' = w.alloc (.map cls3 3) := by
  have hmm := @RowKit.run_makeMap Tryz.prog
  have h1 : (Instr.mapUpdate 69 (.map (some w.heap.size)) (.string ⟨#[117, 114, 103, 101, 110, 116]⟩) (.int .i64 1)).run Tryz.prog (w.alloc (.map #[] 0)) = .ok () (w.alloc (.map cls1 1)) := upd_run Tryz.underlying69 Tryz.underlying9 w #[] 0 kB1 _ (by kernel_rfl)
  have h2 : (Instr.mapUpdate 69 (.map (some w.heap.size)) (.string ⟨#[110, 111, 114, 109, 97, 108]⟩) (.int .i64 2)).run Tryz.prog (w.alloc (.map cls1 1)) = .ok () (w.alloc (.map cls2 2)) := upd_run Tryz.underlying69 Tryz.underlying9 w cls1 1 kB2 _ (by kernel_rfl)
  have h3 : (Instr.mapUpdate 69 (.map (some w.heap.size)) (.string ⟨#[108, 97, 116, 101, 114]⟩) (.int .i64 3)).run Tryz.prog (w.alloc (.map cls2 2)) = .ok () (w.alloc (.map cls3 3)) := upd_run Tryz.underlying69 Tryz.underlying9 w cls2 2 kB3 _ (by kernel_rfl)
  go_enter Tryz.func40, Tryz.ntmps40
  go_wp2
  go_ret
  exact ⟨rfl, rfl⟩
def wordOf (n : Int) : ByteArray := if n = 1 then kB1 else if n = 2 then kB2 else if n = 3 then kB3 else ⟨#[]⟩
theorem cls_hit {e : MapEntry} (h : e ∈ cls3.toList) : ∃ v, e.val = .int .i64 v ∧ e.key = .string (wordOf v) ∧ 1 ≤ v ∧ v ≤ 3 := by
  simp only [cls3, List.mem_cons, List.not_mem_nil, or_false] at h
  rcases h with rfl | rfl | rfl
  · exact ⟨1, rfl, rfl, by decide, by decide⟩
  · exact ⟨2, rfl, rfl, by decide, by decide⟩
  · exact ⟨3, rfl, rfl, by decide, by decide⟩
theorem cls_miss {n : Int} (h : ∀ x ∈ cls3.toList, ¬ x.val = .int .i64 n) : wordOf n = ⟨#[]⟩ := by
  simp only [cls3, List.mem_cons, List.not_mem_nil, or_false, forall_eq_or_imp, forall_eq, Value.int.injEq, true_and] at h
  unfold wordOf
  rw [if_neg (fun e => h.1 e.symm), if_neg (fun e => h.2.1 e.symm), if_neg (fun e => h.2.2 e.symm)]
end Go.Proofs.YtjgbdlaecpkmhaaGreatDoor
set_option maxRecDepth 1000000
namespace Go.Proofs.YtjgbdlaecpkmhaaGreatDoor
open Go
theorem set_alloc (w : World) (o o' : Obj) : ChangeMaps.setBlock (w.alloc o) w.heap.size o' = w.alloc o' := by
  have e : (w.alloc o).heap.setIfInBounds w.heap.size o' = w.heap.push o' := by
    show (w.heap.push _).setIfInBounds _ _ = _
    apply Array.ext'
    simp
  unfold ChangeMaps.setBlock
  rw [e]; rfl
theorem next_alloc {P : Program} (w : World) (ty : TypeId) (bm since c0 : Nat) (seen : Array Nat) (es : Array MapEntry) (clock : Nat) (hb : w.heap[bm]? = some (.map es clock)) (hold : ∀ x ∈ es.toList, x.born < since) (hsc : since ≤ c0) :
    ((leftOf es seen).size = 0 ∧ (Instr.next (.pointer (some ⟨w.heap.size, 0, none⟩)) false ty).run P (w.alloc (.mapIter (some bm) since seen c0)) = .ok (.tuple #[.bool false]) (w.alloc (.mapIter (some bm) since seen c0))) ∨
    ∃ e ∈ (leftOf es seen).toList, ∃ w1 : World, (w1 = w ∨ w1 = w.drew) ∧ (Instr.next (.pointer (some ⟨w.heap.size, 0, none⟩)) false ty).run P (w.alloc (.mapIter (some bm) since seen c0)) = .ok (.tuple #[.bool true, e.key, e.val]) (w1.alloc (.mapIter (some bm) since (seen.push e.born) clock)) := by
  have hr := (MapKept.heap_alloc w (.mapIter (some bm) since seen c0)).1
  have hlt : bm < w.heap.size := (Array.getElem?_eq_some_iff.1 hb).1
  have hb' : (w.alloc (.mapIter (some bm) since seen c0)).heap[bm]? = some (.map es clock) := by
    rw [(MapKept.heap_alloc w (.mapIter (some bm) since seen c0)).2 bm (by omega)]; exact hb
  rcases run_next_at (P := P) (w.alloc (.mapIter (some bm) since seen c0)) ty w.heap.size bm since c0 seen es clock hr hb' hold hsc with h | ⟨e, he, w1, h1, h2⟩
  · exact .inl h
  · refine .inr ⟨e, he, ?_⟩
    rcases h1 with rfl | rfl
    · exact ⟨w, .inl rfl, by rw [h2, set_alloc]⟩
    · exact ⟨w.drew, .inr rfl, by rw [h2]; exact congrArg (Result.ok _) (set_alloc w.drew _ _)⟩
set_option maxHeartbeats 1000000 in
theorem word_walk (n : Int) (w : World) : Calls Tryz.prog 29 #[.int .i64 n] w fun e w' => e = .returned (.string (wordOf n)) ∧ ∃ (w1 : World) (seen : Array Nat), (w1.Alike (w.alloc (.map cls3 3)) ∧ w1.tape = w.tape) ∧ w' = w1.alloc (.mapIter (some w.heap.size) 3 seen 3) := by
  have hb : (w.alloc (.map cls3 3)).heap[w.heap.size]? = some (.map cls3 3) := (MapKept.heap_alloc w _).1
  have hrg := run_range_map (P := Tryz.prog) (w.alloc (.map cls3 3)) 69 9 3 w.heap.size cls3 3 Tryz.underlying69 hb
  have hborn : ∀ x ∈ cls3.toList, x.born < 3 := by
    simp only [cls3, List.mem_cons, List.not_mem_nil, or_false, forall_eq_or_imp, forall_eq]; decide
  have hnd : (cls3.toList.map (·.born)).Nodup := by decide
  go_enter Tryz.func29, Tryz.ntmps29
  have e40 : ∀ args w, (callFunc 40 args).run Tryz.prog w = .ok (.enter 40 args) w := enters_of Tryz.func40 (by kernel_rfl) rfl
  go_wp2_with (go_at_fn 40; refine (classes_run w).mono ?_; rintro e w' ⟨rfl, rfl⟩)
  go_loopw [] (fun w' => ∃ (w1 : World) (seen : Array Nat), (w1.Alike (w.alloc (.map cls3 3)) ∧ w1.tape = w.tape) ∧ w' = w1.alloc (.mapIter (some w.heap.size) 3 seen 3) ∧ ∀ x ∈ cls3.toList, seen.contains x.born = true → ¬ x.val = .int .i64 n) (fun w' => (leftOf cls3 (w'.iterSeen (w.alloc (.map cls3 3)).heap.size)).size)
  case atStart => exact ⟨w.alloc (.map cls3 3), #[], ⟨⟨rfl, rfl, rfl⟩, rfl⟩, rfl, fun x _ h => by simp at h⟩
  case round =>
    obtain ⟨w1, seen, ⟨hal, htp⟩, rfl, hno⟩ := hrel
    have hsz : w1.heap.size = (w.alloc (.map cls3 3)).heap.size := by rw [hal.1]
    have hb1 : w1.heap[w.heap.size]? = some (.map cls3 3) := by rw [hal.1]; exact hb
    have law := next_alloc (P := Tryz.prog) w1 0 w.heap.size 3 3 seen cls3 3 hb1 hborn (Nat.le_refl _)
    have hsa : (w.alloc (.map cls3 3)).heap.size = w.heap.size + 1 := Array.size_push _
    rw [hsz, hsa] at law
    rcases law with ⟨h0, hrun⟩ | ⟨e, he, w2, hw2, hrun⟩
    · have hnx : ∀ ty, (Instr.next (.pointer (some ⟨w.heap.size + 1, 0, none⟩)) false ty).run Tryz.prog (w1.alloc (.mapIter (some w.heap.size) 3 seen 3)) = _ := fun _ => hrun
      go_wp2
      go_ret
      rw [cls_miss (n := n) fun x hx => hno x hx (all_seen cls3 seen h0 x hx)]
      exact ⟨rfl, w1, seen, ⟨hal, htp⟩, rfl⟩
    · have hal2 : w2.Alike w1 := by rcases hw2 with rfl | rfl <;> exact ⟨rfl, rfl, rfl⟩
      have htp2 : w2.tape = w.tape := by rcases hw2 with rfl | rfl <;> exact htp
      obtain ⟨v, hval, hkey, _⟩ := cls_hit (mem_left he).1
      rw [hval, hkey] at hrun
      have hnx : ∀ ty, (Instr.next (.pointer (some ⟨w.heap.size + 1, 0, none⟩)) false ty).run Tryz.prog (w1.alloc (.mapIter (some w.heap.size) 3 seen 3)) = _ := fun _ => hrun
      have hsz2 : w2.heap.size = (w.alloc (.map cls3 3)).heap.size := by rw [hal2.1, hal.1]
      have hb2 : w2.heap[w.heap.size]? = some (.map cls3 3) := by rw [hal2.1]; exact hb1
      have hen := run_entry_map (P := Tryz.prog) w2 w.heap.size 3 seen cls3 3 e hb2 (mem_left he).1 hnd
      rw [hsz2, hsa, hval, hkey] at hen
      have hal3 : w2.Alike (w.alloc (.map cls3 3)) := ⟨hal2.1.trans hal.1, hal2.2.1.trans hal.2.1, hal2.2.2.trans hal.2.2⟩
      go_wp2
      · rename_i heq
        go_ret
        have hv : v = n := by simpa using heq
        subst hv
        exact ⟨rfl, w2, _, ⟨hal3, htp2⟩, rfl⟩
      · rename_i hne
        go_roundw
        case rel =>
          refine ⟨w2, seen.push e.born, ⟨hal3, htp2⟩, rfl, fun x hx hc => ?_⟩
          rw [contains_push] at hc
          rcases Bool.or_eq_true _ _ ▸ hc with h1 | h1
          · exact hno x hx h1
          · have : x = e := born_inj hnd hx (mem_left he).1 (beq_iff_eq.1 h1)
            subst this
            rw [hval]
            intro e; simp only [Value.int.injEq, true_and] at e; simp [e] at hne
        case measure =>
          rw [← hsz2, World.iterSeen_alloc, hsz2, ← hsz, World.iterSeen_alloc]
          exact left_shrinks cls3 seen e he
end Go.Proofs.YtjgbdlaecpkmhaaGreatDoor
set_option maxRecDepth 100000
namespace Go.Proofs.YtjgbdlaecpkmhaaGreatDoor
open Go Nv Go.RowKit Go.Lib
theorem wordOf_eq (n : Int) : wordOf n = ⟨(Rul.wordC n).toArray⟩ := by
  unfold wordOf Rul.wordC
  split
  · rfl
  · split
    · rfl
    · split <;> rfl
theorem word29 (n : Int) : PCall Tryz.prog 29 [.d (.int .i64 n)] (.d (.str (Rul.wordC n))) := by
  refine PCall.of_callsT (by rfl) (by rfl) fun w I hT => ?_
  refine (word_walk n w).mono ?_
  rintro e w' ⟨rfl, w1, seen, ⟨hal, htp⟩, rfl⟩
  refine ⟨?_, ?_⟩
  · rw [wordOf_eq]; rfl
  · have h1 := below_alloc w (.map cls3 3)
    have h2 := below_alloc w1 (.mapIter (some w.heap.size) 3 seen 3)
    have hs : w1.heap.size = w.heap.size + 1 := by rw [hal.1]; exact Array.size_push _
    refine ⟨hal.2.1, htp, hal.2.2, by have := h2.size; omega, fun k hk => ?_⟩
    rw [h2.block k (by omega), hal.1]
    exact h1.block k hk
end Go.Proofs.YtjgbdlaecpkmhaaGreatDoor
set_option linter.unusedVariables false
set_option linter.unusedSimpArgs false
set_option maxRecDepth 100000
namespace Go.Proofs.YtjgbdlaecpkmhaaGreatDoor
open Go.Shelf
def Tryz.laysm171_ren : Go.Shelf.Ren := ⟨fun | 171 => 30 | 243 => 48 | 246 => 68 | 283 => 85 | 284 => 86 | 285 => 87 | 286 => 88 | 129 => 99 | 317 => 98 | 318 => 100 | 319 => 101 | 320 => 102 | 337 => 111 | 338 => 112 | n => n, fun | 3 => 3 | 9 => 9 | 2 => 2 | 4 => 4 | 171 => 116 | 0 => 0 | 53 => 117 | 37 => 38 | 5 => 5 | 173 => 120 | 212 => 135 | 51 => 113 | 20 => 20 | 213 => 136 | 46 => 96 | 232 => 155 | 233 => 156 | n => n, fun | 17 => 3 | 18 => 6 | 19 => 7 | n => n⟩
theorem Tryz.laysm171 : Go.Proofs.LaysM.n171 Tryz.prog Tryz.laysm171_ren where
  mixed := by kernel_rfl
  f129 := Tryz.func99.trans (congrArg some (by kernel_rfl))
  f171 := Tryz.func30.trans (congrArg some (by kernel_rfl))
  f243 := Tryz.func48.trans (congrArg some (by kernel_rfl))
  f246 := Tryz.func68.trans (congrArg some (by kernel_rfl))
  f283 := Tryz.func85.trans (congrArg some (by kernel_rfl))
  f284 := Tryz.func86.trans (congrArg some (by kernel_rfl))
  f285 := Tryz.func87.trans (congrArg some (by kernel_rfl))
  f286 := Tryz.func88.trans (congrArg some (by kernel_rfl))
  f317 := Tryz.func98.trans (congrArg some (by kernel_rfl))
  f318 := Tryz.func100.trans (congrArg some (by kernel_rfl))
  f319 := Tryz.func101.trans (congrArg some (by kernel_rfl))
  f320 := Tryz.func102.trans (congrArg some (by kernel_rfl))
  f337 := Tryz.func111.trans (congrArg some (by kernel_rfl))
  f338 := Tryz.func112.trans (congrArg some (by kernel_rfl))
  t0 := Tryz.underlying0
  a0 := Tryz.isAgg0
  z0 := Tryz.sizeOf0
  v0 := Tryz.zeroValue0
  t2 := Tryz.underlying2
  a2 := Tryz.isAgg2
  z2 := Tryz.sizeOf2
  v2 := Tryz.zeroValue2
  t3 := Tryz.underlying3
  a3 := Tryz.isAgg3
  z3 := Tryz.sizeOf3
  v3 := Tryz.zeroValue3
  t4 := Tryz.underlying4
  a4 := Tryz.isAgg4
  z4 := Tryz.sizeOf4
  v4 := Tryz.zeroValue4
  t5 := Tryz.underlying5
  a5 := Tryz.isAgg5
  z5 := Tryz.sizeOf5
  v5 := Tryz.zeroValue5
  t9 := Tryz.underlying9
  a9 := Tryz.isAgg9
  z9 := Tryz.sizeOf9
  v9 := Tryz.zeroValue9
  t20 := Tryz.underlying20
  a20 := Tryz.isAgg20
  z20 := Tryz.sizeOf20
  v20 := Tryz.zeroValue20
  t37 := Tryz.underlying38
  a37 := Tryz.isAgg38
  z37 := Tryz.sizeOf38
  v37 := Tryz.zeroValue38
  t46 := Tryz.underlying96
  a46 := Tryz.isAgg96
  z46 := Tryz.sizeOf96
  v46 := Tryz.zeroValue96
  t51 := Tryz.underlying113
  a51 := Tryz.isAgg113
  z51 := Tryz.sizeOf113
  v51 := Tryz.zeroValue113
  t53 := Tryz.underlying117
  a53 := Tryz.isAgg117
  z53 := Tryz.sizeOf117
  v53 := Tryz.zeroValue117
  t171 := Tryz.underlying116
  a171 := Tryz.isAgg116
  z171 := Tryz.sizeOf116
  v171 := Tryz.zeroValue116
  t173 := Tryz.underlying120
  a173 := Tryz.isAgg120
  z173 := Tryz.sizeOf120
  v173 := Tryz.zeroValue120
  t212 := Tryz.underlying135
  a212 := Tryz.isAgg135
  z212 := Tryz.sizeOf135
  v212 := Tryz.zeroValue135
  t213 := Tryz.underlying136
  a213 := Tryz.isAgg136
  z213 := Tryz.sizeOf136
  t232 := Tryz.underlying155
  a232 := Tryz.isAgg155
  z232 := Tryz.sizeOf155
  v232 := Tryz.zeroValue155
  t233 := Tryz.underlying156
  a233 := Tryz.isAgg156
  z233 := Tryz.sizeOf156
  v233 := Tryz.zeroValue156
  g17 := by kernel_rfl
  g18 := by kernel_rfl
  g19 := by kernel_rfl
  i0 := by kernel_rfl
  i2 := by kernel_rfl
  i3 := by kernel_rfl
  i4 := by kernel_rfl
  i5 := by kernel_rfl
  i9 := by kernel_rfl
  i20 := by kernel_rfl
  i37 := by kernel_rfl
  i46 := by kernel_rfl
  i51 := by kernel_rfl
  i53 := by kernel_rfl
  i171 := by kernel_rfl
  i173 := by kernel_rfl
  i212 := by kernel_rfl
  i232 := by kernel_rfl
  i233 := by kernel_rfl
  m17 := by kernel_rfl
  m18 := by kernel_rfl
  m19 := by kernel_rfl
open Go.RowKit Go.Lib Nv Rul
theorem below_grow (w : Go.World) (k : Nat) (os : Array Go.Obj) : Below w.heap.size w (Go.Sort.grow (w.drewN k) os) := by
  refine ⟨rfl, rfl, rfl, ?_, fun j hj => ?_⟩
  · show w.heap.size ≤ (w.heap ++ os).size
    rw [Array.size_append]; omega
  · show (w.heap ++ os)[j]? = _
    rw [Array.getElem?_append_left hj]
theorem itoa30 (hp : ∀ (w : Go.World) (I : Nat → Prop), Tabs Tryz.prog I w → Lib.TabIs Tryz.prog w powN .u64 Lib.pow10Tab) (n : Int) (h0 : 0 ≤ n) (h1 : n ≤ 1000000) :
    PCall Tryz.prog 30 [.d (.int .i64 n)] (.d (.str (Lib.itoa n))) := by
  refine PCall.of_callsT (by rfl) (by rfl) fun w I hT => ?_
  refine (Any.strconv_Itoa Tryz.laysm171 n (by omega) (by omega) w (hp w I hT)).mono ?_
  rintro e w' ⟨rfl, k, os, rfl⟩
  exact ⟨rfl, below_grow w k os⟩
theorem itoa (n : Int) (h0 : 0 ≤ n) (h1 : n ≤ 1000000) : PCall Tryz.prog 30 [.d (.int .i64 n)] (.d (.str (Lib.itoa n))) :=
  itoa30 (fun w I hT => Tabs.pow hT (g := (Tryz.prog.globalNamed powN).getD 0) (by kernel_rfl) (of_decide_eq_true (by kernel_rfl))) n h0 h1
end Go.Proofs.YtjgbdlaecpkmhaaGreatDoor
/- The prepared code of further functions. Written by a program of mine (gen.py) out of what the loaded dump prints. -/

set_option linter.unusedVariables false
set_option maxRecDepth 100000
namespace Go.Proofs.YtjgbdlaecpkmhaaGreatDoor
open Go Nv

/-- narrator.narratorlaw34.RulesyntaxNames -/
theorem fn7 : FnIs Tryz.prog 7 2 [Go.ResultVar.tmp 4] (.seq (.region [⟨some 4, Go.Op.assign (Go.Operand.const (Go.Value.bool false)), 4, none⟩])
    (.seq (.region [⟨some 13, Go.Op.move (Go.Operand.tmp 0), 5, none⟩,
      ⟨some 14, Go.Op.convert 5 3 (Go.Operand.tmp 13), 3, none⟩,
      ⟨some 15, Go.Op.binOp Go.BinOp.rem 3 (Go.Operand.tmp 14) (Go.Operand.const (Go.Value.int Go.IntKind.i64 16)) 3, 3, none⟩,
      ⟨some 16, Go.Op.binOp Go.BinOp.add 3 (Go.Operand.const (Go.Value.int Go.IntKind.i64 1)) (Go.Operand.tmp 15) 3, 3, none⟩,
      ⟨some 5, Go.Op.assign (Go.Operand.tmp 16), 3, none⟩])
    (.seq (.region [⟨some 17, Go.Op.buildSlice 37 0 #[], 37, none⟩,
      ⟨some 6, Go.Op.assign (Go.Operand.tmp 17), 37, none⟩])
    (.seq (.seq (.region [⟨some 18, Go.Op.move (Go.Operand.tmp 5), 3, none⟩,
      ⟨some 19, Go.Op.move (Go.Operand.const (Go.Value.int Go.IntKind.i64 0)), 3, none⟩])
    (.block 0
      (.loop
        (.seq (.region [⟨some 20, Go.Op.binOp Go.BinOp.lss 3 (Go.Operand.tmp 19) (Go.Operand.tmp 18) 3, 4, none⟩])
        (.seq (.cond (Go.Operand.tmp 20)
          .skip
          (.exit 0))
        (.seq (.block 1
          (.seq (.region [⟨some 21, Go.Op.move (Go.Operand.tmp 19), 3, none⟩,
            ⟨some 7, Go.Op.assign (Go.Operand.tmp 21), 3, none⟩])
          (.region [⟨some 22, Go.Op.move (Go.Operand.tmp 6), 37, none⟩,
            ⟨some 23, Go.Op.move (Go.Operand.tmp 7), 3, none⟩,
            ⟨some 24, Go.Op.binOp Go.BinOp.add 3 (Go.Operand.const (Go.Value.int Go.IntKind.i64 97)) (Go.Operand.tmp 23) 3, 3, none⟩,
            ⟨some 25, Go.Op.convert 3 5 (Go.Operand.tmp 24), 5, none⟩,
            ⟨some 26, Go.Op.buildSlice 38 1 #[(0, Go.Operand.tmp 25)], 38, none⟩,
            ⟨some 27, Go.Op.convert 38 9 (Go.Operand.tmp 26), 9, none⟩,
            ⟨some 28, Go.Op.binOp Go.BinOp.add 9 (Go.Operand.const (Go.Value.string { data := #[114] })) (Go.Operand.tmp 27) 9, 9, none⟩,
            ⟨some 29, Go.Op.binOp Go.BinOp.add 9 (Go.Operand.tmp 28) (Go.Operand.const (Go.Value.string { data := #[32, 110, 111, 114, 109, 97, 108, 32, 34, 120, 34] })) 9, 9, none⟩,
            ⟨some 30, Go.Op.buildSlice 37 1 #[(0, Go.Operand.tmp 29)], 37, none⟩,
            ⟨some 31, Go.Op.call { callee := Go.Callee.builtin Go.Builtin.append, args := #[Go.Operand.tmp 22, Go.Operand.tmp 30], argTypes := #[37, 37] }, 37, none⟩,
            ⟨some 6, Go.Op.assign (Go.Operand.tmp 31), 37, none⟩])))
        (.region [⟨some 32, Go.Op.binOp Go.BinOp.add 3 (Go.Operand.tmp 19) (Go.Operand.const (Go.Value.int Go.IntKind.i64 1)) 3, 3, none⟩,
          ⟨some 19, Go.Op.move (Go.Operand.tmp 32), 3, none⟩])))))))
    (.seq (.region [⟨some 33, Go.Op.move (Go.Operand.tmp 6), 37, none⟩,
      ⟨some 34, Go.Op.call { callee := Go.Callee.value (Go.Operand.func 17), args := #[Go.Operand.tmp 33, Go.Operand.const (Go.Value.string { data := #[10] })], argTypes := #[37, 9] }, 9, none⟩,
      ⟨some 8, Go.Op.assign (Go.Operand.tmp 34), 9, none⟩])
    (.seq (.region [⟨some 36, Go.Op.move (Go.Operand.tmp 8), 9, none⟩,
      ⟨some 37, Go.Op.call { callee := Go.Callee.value (Go.Operand.func 10), args := #[Go.Operand.tmp 36], argTypes := #[9] }, 25, none⟩,
      ⟨some 35, Go.Op.move (Go.Operand.tmp 37), 25, none⟩,
      ⟨some 38, Go.Op.extract (Go.Operand.tmp 35) 0, 23, none⟩,
      ⟨some 39, Go.Op.extract (Go.Operand.tmp 35) 1, 3, none⟩,
      ⟨some 40, Go.Op.extract (Go.Operand.tmp 35) 2, 24, none⟩,
      ⟨some 9, Go.Op.assign (Go.Operand.tmp 38), 23, none⟩,
      ⟨some 10, Go.Op.assign (Go.Operand.tmp 39), 3, none⟩,
      ⟨some 11, Go.Op.assign (Go.Operand.tmp 40), 24, none⟩])
    (.seq (.seq (.region [⟨some 41, Go.Op.move (Go.Operand.tmp 11), 24, none⟩,
      ⟨some 42, Go.Op.binOp Go.BinOp.neq 24 (Go.Operand.tmp 41) (Go.Operand.const (Go.Value.int Go.IntKind.i64 0)) 24, 4, none⟩,
      ⟨some 43, Go.Op.move (Go.Operand.tmp 42), 4, none⟩,
      ⟨some 44, Go.Op.move (Go.Operand.tmp 10), 3, (some (43, false))⟩,
      ⟨some 45, Go.Op.binOp Go.BinOp.neq 3 (Go.Operand.tmp 44) (Go.Operand.const (Go.Value.int Go.IntKind.i64 0)) 3, 4, (some (43, false))⟩,
      ⟨some 46, Go.Op.pick (Go.Operand.tmp 43) (Go.Operand.const (Go.Value.bool true)) (Go.Operand.tmp 45), 4, none⟩,
      ⟨some 47, Go.Op.move (Go.Operand.tmp 46), 4, none⟩,
      ⟨some 48, Go.Op.move (Go.Operand.tmp 9), 23, (some (47, false))⟩,
      ⟨some 49, Go.Op.call { callee := Go.Callee.builtin Go.Builtin.len, args := #[Go.Operand.tmp 48], argTypes := #[23] }, 3, (some (47, false))⟩,
      ⟨some 50, Go.Op.move (Go.Operand.tmp 5), 3, (some (47, false))⟩,
      ⟨some 51, Go.Op.binOp Go.BinOp.neq 3 (Go.Operand.tmp 49) (Go.Operand.tmp 50) 3, 4, (some (47, false))⟩,
      ⟨some 52, Go.Op.pick (Go.Operand.tmp 47) (Go.Operand.const (Go.Value.bool true)) (Go.Operand.tmp 51), 4, none⟩])
    (.cond (Go.Operand.tmp 52)
      (.seq (.region [⟨some 4, Go.Op.assign (Go.Operand.const (Go.Value.bool false)), 4, none⟩])
      .ret)
      .skip))
    (.seq (.region [⟨some 54, Go.Op.move (Go.Operand.tmp 8), 9, none⟩,
      ⟨some 55, Go.Op.binOp Go.BinOp.add 9 (Go.Operand.tmp 54) (Go.Operand.const (Go.Value.string { data := #[10] })) 9, 9, none⟩,
      ⟨some 56, Go.Op.move (Go.Operand.tmp 6), 37, none⟩,
      ⟨some 57, Go.Op.move (Go.Operand.tmp 1), 5, none⟩,
      ⟨some 58, Go.Op.convert 5 3 (Go.Operand.tmp 57), 3, none⟩,
      ⟨some 59, Go.Op.move (Go.Operand.tmp 5), 3, none⟩,
      ⟨some 60, Go.Op.binOp Go.BinOp.rem 3 (Go.Operand.tmp 58) (Go.Operand.tmp 59) 3, 3, none⟩,
      ⟨some 61, Go.Op.indexAddr 37 (Go.Operand.tmp 56) (Go.Operand.tmp 60), 0, none⟩,
      ⟨some 62, Go.Op.load 9 (Go.Operand.tmp 61), 9, none⟩,
      ⟨some 63, Go.Op.binOp Go.BinOp.add 9 (Go.Operand.tmp 55) (Go.Operand.tmp 62) 9, 9, none⟩,
      ⟨some 64, Go.Op.call { callee := Go.Callee.value (Go.Operand.func 10), args := #[Go.Operand.tmp 63], argTypes := #[9] }, 25, none⟩,
      ⟨some 53, Go.Op.move (Go.Operand.tmp 64), 25, none⟩,
      ⟨some 65, Go.Op.extract (Go.Operand.tmp 53) 0, 23, none⟩,
      ⟨some 66, Go.Op.extract (Go.Operand.tmp 53) 1, 3, none⟩,
      ⟨some 67, Go.Op.extract (Go.Operand.tmp 53) 2, 24, none⟩,
      ⟨some 10, Go.Op.assign (Go.Operand.tmp 66), 3, none⟩,
      ⟨some 11, Go.Op.assign (Go.Operand.tmp 67), 24, none⟩])
    (.seq (.region [⟨some 12, Go.Op.assign (Go.Operand.const (Go.Value.int Go.IntKind.i64 7)), 24, none⟩])
    (.seq (.seq (.region [⟨some 68, Go.Op.move (Go.Operand.tmp 5), 3, none⟩,
      ⟨some 69, Go.Op.binOp Go.BinOp.eql 3 (Go.Operand.tmp 68) (Go.Operand.const (Go.Value.int Go.IntKind.i64 16)) 3, 4, none⟩])
    (.cond (Go.Operand.tmp 69)
      (.region [⟨some 12, Go.Op.assign (Go.Operand.const (Go.Value.int Go.IntKind.i64 5)), 24, none⟩])
      .skip))
    (.seq (.region [⟨some 70, Go.Op.move (Go.Operand.tmp 11), 24, none⟩,
      ⟨some 71, Go.Op.move (Go.Operand.tmp 12), 24, none⟩,
      ⟨some 72, Go.Op.binOp Go.BinOp.eql 24 (Go.Operand.tmp 70) (Go.Operand.tmp 71) 24, 4, none⟩,
      ⟨some 73, Go.Op.move (Go.Operand.tmp 72), 4, none⟩,
      ⟨some 74, Go.Op.move (Go.Operand.tmp 10), 3, (some (73, true))⟩,
      ⟨some 75, Go.Op.move (Go.Operand.tmp 5), 3, (some (73, true))⟩,
      ⟨some 76, Go.Op.binOp Go.BinOp.add 3 (Go.Operand.tmp 75) (Go.Operand.const (Go.Value.int Go.IntKind.i64 1)) 3, 3, (some (73, true))⟩,
      ⟨some 77, Go.Op.binOp Go.BinOp.eql 3 (Go.Operand.tmp 74) (Go.Operand.tmp 76) 3, 4, (some (73, true))⟩,
      ⟨some 78, Go.Op.pick (Go.Operand.tmp 73) (Go.Operand.tmp 77) (Go.Operand.const (Go.Value.bool false)), 4, none⟩,
      ⟨some 79, Go.Op.move (Go.Operand.tmp 78), 4, none⟩,
      ⟨some 80, Go.Op.call { callee := Go.Callee.value (Go.Operand.func 9), args := #[], argTypes := #[] }, 4, (some (79, true))⟩,
      ⟨some 81, Go.Op.pick (Go.Operand.tmp 79) (Go.Operand.tmp 80) (Go.Operand.const (Go.Value.bool false)), 4, none⟩,
      ⟨some 4, Go.Op.assign (Go.Operand.tmp 81), 4, none⟩])
    .ret))))))))))) :=
  ⟨foll, Tryz.f7, Tryz.func7, by kernel_rfl, by kernel_rfl, by kernel_rfl, by rw [Tryz.ntmps7]; decide⟩

/-- narrator.narratorref34.Great -/
theorem fn15 : FnIs Tryz.prog 15 1 [Go.ResultVar.tmp 2] (.seq (.region [⟨some 2, Go.Op.assign (Go.Operand.const (Go.Value.bool false)), 4, none⟩])
    (.seq (.seq (.region [⟨some 4, Go.Op.move (Go.Operand.tmp 0), 23, none⟩,
      ⟨some 5, Go.Op.call { callee := Go.Callee.builtin Go.Builtin.len, args := #[Go.Operand.tmp 4], argTypes := #[23] }, 3, none⟩,
      ⟨some 6, Go.Op.binOp Go.BinOp.gtr 3 (Go.Operand.tmp 5) (Go.Operand.const (Go.Value.int Go.IntKind.i64 20)) 3, 4, none⟩])
    (.cond (Go.Operand.tmp 6)
      (.seq (.region [⟨some 2, Go.Op.assign (Go.Operand.const (Go.Value.bool true)), 4, none⟩])
      .ret)
      .skip))
    (.seq (.seq (.region [⟨some 3, Go.Op.assign (Go.Operand.const (Go.Value.int Go.IntKind.i64 0)), 3, none⟩])
    (.block 0
      (.loop
        (.seq (.seq (.region [⟨some 7, Go.Op.move (Go.Operand.tmp 3), 3, none⟩,
          ⟨some 8, Go.Op.move (Go.Operand.tmp 0), 23, none⟩,
          ⟨some 9, Go.Op.call { callee := Go.Callee.builtin Go.Builtin.len, args := #[Go.Operand.tmp 8], argTypes := #[23] }, 3, none⟩,
          ⟨some 10, Go.Op.binOp Go.BinOp.lss 3 (Go.Operand.tmp 7) (Go.Operand.tmp 9) 3, 4, none⟩])
        (.cond (Go.Operand.tmp 10)
          .skip
          (.exit 0)))
        (.seq (.block 1
          (.seq (.region [⟨some 13, Go.Op.move (Go.Operand.tmp 0), 23, none⟩,
            ⟨some 14, Go.Op.move (Go.Operand.tmp 3), 3, none⟩,
            ⟨some 15, Go.Op.indexAddr 23 (Go.Operand.tmp 13) (Go.Operand.tmp 14), 0, none⟩,
            ⟨some 16, Go.Op.fieldAddr 33 (Go.Operand.tmp 15) 0, 0, none⟩,
            ⟨some 17, Go.Op.load 9 (Go.Operand.tmp 16), 9, none⟩,
            ⟨some 18, Go.Op.call { callee := Go.Callee.builtin Go.Builtin.len, args := #[Go.Operand.tmp 17], argTypes := #[9] }, 3, none⟩,
            ⟨some 19, Go.Op.binOp Go.BinOp.gtr 3 (Go.Operand.tmp 18) (Go.Operand.const (Go.Value.int Go.IntKind.i64 100)) 3, 4, none⟩,
            ⟨some 20, Go.Op.move (Go.Operand.tmp 19), 4, none⟩,
            ⟨some 21, Go.Op.move (Go.Operand.tmp 0), 23, (some (20, false))⟩,
            ⟨some 22, Go.Op.move (Go.Operand.tmp 3), 3, (some (20, false))⟩,
            ⟨some 23, Go.Op.indexAddr 23 (Go.Operand.tmp 21) (Go.Operand.tmp 22), 0, (some (20, false))⟩,
            ⟨some 24, Go.Op.fieldAddr 33 (Go.Operand.tmp 23) 1, 0, (some (20, false))⟩,
            ⟨some 25, Go.Op.load 9 (Go.Operand.tmp 24), 9, (some (20, false))⟩,
            ⟨some 26, Go.Op.call { callee := Go.Callee.builtin Go.Builtin.len, args := #[Go.Operand.tmp 25], argTypes := #[9] }, 3, (some (20, false))⟩,
            ⟨some 27, Go.Op.binOp Go.BinOp.gtr 3 (Go.Operand.tmp 26) (Go.Operand.const (Go.Value.int Go.IntKind.i64 100)) 3, 4, (some (20, false))⟩,
            ⟨some 28, Go.Op.pick (Go.Operand.tmp 20) (Go.Operand.const (Go.Value.bool true)) (Go.Operand.tmp 27), 4, none⟩])
          (.cond (Go.Operand.tmp 28)
            (.seq (.region [⟨some 2, Go.Op.assign (Go.Operand.const (Go.Value.bool true)), 4, none⟩])
            .ret)
            .skip)))
        (.region [⟨some 11, Go.Op.move (Go.Operand.tmp 3), 3, none⟩,
          ⟨some 12, Go.Op.binOp Go.BinOp.add 3 (Go.Operand.tmp 11) (Go.Operand.const (Go.Value.int Go.IntKind.i64 1)) 3, 3, none⟩,
          ⟨some 3, Go.Op.assign (Go.Operand.tmp 12), 3, none⟩]))))))
    (.seq (.region [⟨some 2, Go.Op.assign (Go.Operand.const (Go.Value.bool false)), 4, none⟩])
    .ret)))) :=
  ⟨foll, Tryz.f15, Tryz.func15, by kernel_rfl, by kernel_rfl, by kernel_rfl, by rw [Tryz.ntmps15]; decide⟩

end Go.Proofs.YtjgbdlaecpkmhaaGreatDoor
set_option linter.unusedVariables false
set_option linter.unusedSimpArgs false
set_option maxRecDepth 100000
namespace Go.Proofs.YtjgbdlaecpkmhaaGreatDoor
open Go Nv Rul

/- Texts joined. -/
theorem elems_list (l : List Rule) (σ : Nv.ST) : elems ⟨6, 33⟩ (listA l) σ = some (l.map ruleD) := by
  cases l with
  | nil => simp only [listA, go_sem, List.map_nil]
  | cons r l => simp only [listA, rulesD, go_sem]
theorem chk_small {l : List Rule} (h : chkR peM l = 0) : l.length ≤ 16 := by
  unfold chkR at h
  split at h
  · cases h
  · omega
theorem joins_law (s t : List UInt8) (hs : s.length ≤ 9223372036854775807) (ht : t.length ≤ 9223372036854775807) : PCall Tryz.prog 4 [.d (.str s), .d (.str t)] (.d (.bool true)) := by
  refine fn4.pure (fun i => if i = 47 then .freeze else .no) (Nat.le_refl _) (by simp only [go_sem]) (by simp only [go_sem]) ?_
  by_cases hl : 300 < s.length
  · have hl' : (300 : Int) < s.length := by omega
    simp (disch := omega) only [go_sem, reduceIte, reduceDIte, reduceCtorEq, Nat.reduceBEq, Nat.reduceEqDiff, Nat.reduceAdd, Nat.reduceSub, Nat.reduceMul, Nat.reduceLT, Nat.reduceLeDiff, Nat.reduceBNe, Int.reduceNeg, Int.reduceAdd, Int.reduceSub, Int.reduceMul, Int.reduceLT, Int.reduceLE, Int.reduceGT, Int.reduceGE, Int.reduceEq, Int.reduceNe, Int.reduceToNat, Int.reduceTMod, Int.reduceTDiv, hl']
    refine awake9.at ?_
    simp (disch := omega) only [go_sem, reduceIte, reduceDIte, reduceCtorEq, Nat.reduceBEq, Nat.reduceEqDiff, Nat.reduceAdd, Nat.reduceSub, Nat.reduceMul, Nat.reduceLT, Nat.reduceLeDiff, Nat.reduceBNe, Int.reduceNeg, Int.reduceAdd, Int.reduceSub, Int.reduceMul, Int.reduceLT, Int.reduceLE, Int.reduceGT, Int.reduceGE, Int.reduceEq, Int.reduceNe, Int.reduceToNat, Int.reduceTMod, Int.reduceTDiv]
  have hl' : ¬ (300 : Int) < s.length := by omega
  by_cases hm : 300 < t.length
  · have hm' : (300 : Int) < t.length := by omega
    simp (disch := omega) only [go_sem, reduceIte, reduceDIte, reduceCtorEq, Nat.reduceBEq, Nat.reduceEqDiff, Nat.reduceAdd, Nat.reduceSub, Nat.reduceMul, Nat.reduceLT, Nat.reduceLeDiff, Nat.reduceBNe, Int.reduceNeg, Int.reduceAdd, Int.reduceSub, Int.reduceMul, Int.reduceLT, Int.reduceLE, Int.reduceGT, Int.reduceGE, Int.reduceEq, Int.reduceNe, Int.reduceToNat, Int.reduceTMod, Int.reduceTDiv, hl', hm']
    refine awake9.at ?_
    simp (disch := omega) only [go_sem, reduceIte, reduceDIte, reduceCtorEq, Nat.reduceBEq, Nat.reduceEqDiff, Nat.reduceAdd, Nat.reduceSub, Nat.reduceMul, Nat.reduceLT, Nat.reduceLeDiff, Nat.reduceBNe, Int.reduceNeg, Int.reduceAdd, Int.reduceSub, Int.reduceMul, Int.reduceLT, Int.reduceLE, Int.reduceGT, Int.reduceGE, Int.reduceEq, Int.reduceNe, Int.reduceToNat, Int.reduceTMod, Int.reduceTDiv]
  have hm' : ¬ (300 : Int) < t.length := by omega
  have hok := proper_ok (pe := peM) s
  have hok2 := proper_ok (pe := peM) t
  have hj := joins_ok (pe := peM) (s := s) (t := t)
  have hsz := parse_sized (s := s) (by omega)
  have hsz2 := parse_sized (s := t) (by omega)
  have hp3 := parse10 (s ++ 10 :: t) (by simp; omega)
  simp (disch := omega) only [go_sem, reduceIte, reduceDIte, reduceCtorEq, Nat.reduceBEq, Nat.reduceEqDiff, Nat.reduceAdd, Nat.reduceSub, Nat.reduceMul, Nat.reduceLT, Nat.reduceLeDiff, Nat.reduceBNe, Int.reduceNeg, Int.reduceAdd, Int.reduceSub, Int.reduceMul, Int.reduceLT, Int.reduceLE, Int.reduceGT, Int.reduceGE, Int.reduceEq, Int.reduceNe, Int.reduceToNat, Int.reduceTMod, Int.reduceTDiv, hl', hm']
  refine (parse10 s (by omega)).at ?_
  simp (disch := omega) only [go_sem, reduceIte, reduceDIte, reduceCtorEq, Nat.reduceBEq, Nat.reduceEqDiff, Nat.reduceAdd, Nat.reduceSub, Nat.reduceMul, Nat.reduceLT, Nat.reduceLeDiff, Nat.reduceBNe, Int.reduceNeg, Int.reduceAdd, Int.reduceSub, Int.reduceMul, Int.reduceLT, Int.reduceLE, Int.reduceGT, Int.reduceGE, Int.reduceEq, Int.reduceNe, Int.reduceToNat, Int.reduceTMod, Int.reduceTDiv, parseA]
  refine (parse10 t (by omega)).at ?_
  rcases hx : parseT peM s with ⟨l, n, e⟩
  rcases hy : parseT peM t with ⟨m, n2, e2⟩
  rw [hx] at hok hsz
  rw [hy] at hok2 hsz2
  rw [hx, hy] at hj
  simp only at hok hsz hok2 hsz2 hj
  by_cases he : e = 0
  · by_cases he2 : e2 = 0
    · obtain ⟨_, hc⟩ := hok.1 he
      obtain ⟨_, hc2⟩ := hok2.1 he2
      have h16 := chk_small hc
      have h162 := chk_small hc2
      obtain ⟨hj1, hj2⟩ := hj he he2
      subst he he2
      simp (disch := omega) only [go_sem, reduceIte, reduceDIte, reduceCtorEq, Nat.reduceBEq, Nat.reduceEqDiff, Nat.reduceAdd, Nat.reduceSub, Nat.reduceMul, Nat.reduceLT, Nat.reduceLeDiff, Nat.reduceBNe, Int.reduceNeg, Int.reduceAdd, Int.reduceSub, Int.reduceMul, Int.reduceLT, Int.reduceLE, Int.reduceGT, Int.reduceGE, Int.reduceEq, Int.reduceNe, Int.reduceToNat, Int.reduceTMod, Int.reduceTDiv, parseA, elems_list, List.length_map, List.length_append]
      refine ⟨by omega, ?_⟩
      have htk : List.take (0 + l.length) (l.map ruleD) = l.map ruleD := List.take_of_length_le (by simp)
      have hle : 0 + (0 + l.length) ≤ l.length := by omega
      have hle2 : 0 + (l.length + m.length) ≤ l.length + m.length := by omega
      have htk2 : List.take (l.length + m.length) (l.map ruleD ++ m.map ruleD) = l.map ruleD ++ m.map ruleD := List.take_of_length_le (by simp)
      simp (disch := omega) only [go_sem, reduceIte, reduceDIte, reduceCtorEq, Nat.reduceBEq, Nat.reduceEqDiff, Nat.reduceAdd, Nat.reduceSub, Nat.reduceMul, Nat.reduceLT, Nat.reduceLeDiff, Nat.reduceBNe, Int.reduceNeg, Int.reduceAdd, Int.reduceSub, Int.reduceMul, Int.reduceLT, Int.reduceLE, Int.reduceGT, Int.reduceGE, Int.reduceEq, Int.reduceNe, Int.reduceToNat, Int.reduceTMod, Int.reduceTDiv, htk, hle, hle2, htk2, List.length_map, List.length_append]
      refine ⟨by omega, ?_⟩
      have hs2 : Sized (l ++ m) := fun r hr => by
        rcases List.mem_append.1 hr with h | h
        · exact hsz r h
        · exact hsz2 r h
      have el : DV.list 6 (l.map ruleD ++ m.map ruleD) = rulesD (l ++ m) := by rw [rulesD, List.map_append]
      have es : s ++ [10] ++ t = s ++ 10 :: t := by simp
      simp (disch := omega) only [go_sem, reduceIte, reduceDIte, reduceCtorEq, Nat.reduceBEq, Nat.reduceEqDiff, Nat.reduceAdd, Nat.reduceSub, Nat.reduceMul, Nat.reduceLT, Nat.reduceLeDiff, Nat.reduceBNe, Int.reduceNeg, Int.reduceAdd, Int.reduceSub, Int.reduceMul, Int.reduceLT, Int.reduceLE, Int.reduceGT, Int.reduceGE, Int.reduceEq, Int.reduceNe, Int.reduceToNat, Int.reduceTMod, Int.reduceTDiv, es]
      refine ⟨by omega, by omega, hp3.at ?_⟩
      by_cases hz : chkR peM (l ++ m) = 0
      · rw [hj1 hz]
        simp (disch := omega) only [go_sem, reduceIte, reduceDIte, reduceCtorEq, Nat.reduceBEq, Nat.reduceEqDiff, Nat.reduceAdd, Nat.reduceSub, Nat.reduceMul, Nat.reduceLT, Nat.reduceLeDiff, Nat.reduceBNe, Int.reduceNeg, Int.reduceAdd, Int.reduceSub, Int.reduceMul, Int.reduceLT, Int.reduceLE, Int.reduceGT, Int.reduceGE, Int.reduceEq, Int.reduceNe, Int.reduceToNat, Int.reduceTMod, Int.reduceTDiv, parseA, el]
        refine (checkA (.inl rfl) hs2).at ?_
        simp (disch := omega) only [go_sem, reduceIte, reduceDIte, reduceCtorEq, Nat.reduceBEq, Nat.reduceEqDiff, Nat.reduceAdd, Nat.reduceSub, Nat.reduceMul, Nat.reduceLT, Nat.reduceLeDiff, Nat.reduceBNe, Int.reduceNeg, Int.reduceAdd, Int.reduceSub, Int.reduceMul, Int.reduceLT, Int.reduceLE, Int.reduceGT, Int.reduceGE, Int.reduceEq, Int.reduceNe, Int.reduceToNat, Int.reduceTMod, Int.reduceTDiv, hz]
        have h := same13 (listA_is (l ++ m)) (.inl rfl : IsRules (.d (rulesD (l ++ m))) (l ++ m)) (by simp; omega)
        rw [decide_eq_true rfl] at h
        refine h.at ?_
        simp (disch := omega) only [go_sem, reduceIte, reduceDIte, reduceCtorEq, Nat.reduceBEq, Nat.reduceEqDiff, Nat.reduceAdd, Nat.reduceSub, Nat.reduceMul, Nat.reduceLT, Nat.reduceLeDiff, Nat.reduceBNe, Int.reduceNeg, Int.reduceAdd, Int.reduceSub, Int.reduceMul, Int.reduceLT, Int.reduceLE, Int.reduceGT, Int.reduceGE, Int.reduceEq, Int.reduceNe, Int.reduceToNat, Int.reduceTMod, Int.reduceTDiv]
        refine awake9.at ?_
        simp (disch := omega) only [go_sem, reduceIte, reduceDIte, reduceCtorEq, Nat.reduceBEq, Nat.reduceEqDiff, Nat.reduceAdd, Nat.reduceSub, Nat.reduceMul, Nat.reduceLT, Nat.reduceLeDiff, Nat.reduceBNe, Int.reduceNeg, Int.reduceAdd, Int.reduceSub, Int.reduceMul, Int.reduceLT, Int.reduceLE, Int.reduceGT, Int.reduceGE, Int.reduceEq, Int.reduceNe, Int.reduceToNat, Int.reduceTMod, Int.reduceTDiv]
      · have hne := hj2 hz
        rcases hxy : parseT peM (s ++ 10 :: t) with ⟨l3, n3, e3⟩
        rw [hxy] at hne
        simp only at hne
        simp (disch := omega) only [go_sem, reduceIte, reduceDIte, reduceCtorEq, Nat.reduceBEq, Nat.reduceEqDiff, Nat.reduceAdd, Nat.reduceSub, Nat.reduceMul, Nat.reduceLT, Nat.reduceLeDiff, Nat.reduceBNe, Int.reduceNeg, Int.reduceAdd, Int.reduceSub, Int.reduceMul, Int.reduceLT, Int.reduceLE, Int.reduceGT, Int.reduceGE, Int.reduceEq, Int.reduceNe, Int.reduceToNat, Int.reduceTMod, Int.reduceTDiv, parseA, el]
        refine (checkA (.inl rfl) hs2).at ?_
        simp (disch := omega) only [go_sem, reduceIte, reduceDIte, reduceCtorEq, Nat.reduceBEq, Nat.reduceEqDiff, Nat.reduceAdd, Nat.reduceSub, Nat.reduceMul, Nat.reduceLT, Nat.reduceLeDiff, Nat.reduceBNe, Int.reduceNeg, Int.reduceAdd, Int.reduceSub, Int.reduceMul, Int.reduceLT, Int.reduceLE, Int.reduceGT, Int.reduceGE, Int.reduceEq, Int.reduceNe, Int.reduceToNat, Int.reduceTMod, Int.reduceTDiv, hz, hne]
        refine awake9.at ?_
        simp (disch := omega) only [go_sem, reduceIte, reduceDIte, reduceCtorEq, Nat.reduceBEq, Nat.reduceEqDiff, Nat.reduceAdd, Nat.reduceSub, Nat.reduceMul, Nat.reduceLT, Nat.reduceLeDiff, Nat.reduceBNe, Int.reduceNeg, Int.reduceAdd, Int.reduceSub, Int.reduceMul, Int.reduceLT, Int.reduceLE, Int.reduceGT, Int.reduceGE, Int.reduceEq, Int.reduceNe, Int.reduceToNat, Int.reduceTMod, Int.reduceTDiv]
    · simp (disch := omega) only [go_sem, reduceIte, reduceDIte, reduceCtorEq, Nat.reduceBEq, Nat.reduceEqDiff, Nat.reduceAdd, Nat.reduceSub, Nat.reduceMul, Nat.reduceLT, Nat.reduceLeDiff, Nat.reduceBNe, Int.reduceNeg, Int.reduceAdd, Int.reduceSub, Int.reduceMul, Int.reduceLT, Int.reduceLE, Int.reduceGT, Int.reduceGE, Int.reduceEq, Int.reduceNe, Int.reduceToNat, Int.reduceTMod, Int.reduceTDiv, parseA, he, he2]
      refine awake9.at ?_
      simp (disch := omega) only [go_sem, reduceIte, reduceDIte, reduceCtorEq, Nat.reduceBEq, Nat.reduceEqDiff, Nat.reduceAdd, Nat.reduceSub, Nat.reduceMul, Nat.reduceLT, Nat.reduceLeDiff, Nat.reduceBNe, Int.reduceNeg, Int.reduceAdd, Int.reduceSub, Int.reduceMul, Int.reduceLT, Int.reduceLE, Int.reduceGT, Int.reduceGE, Int.reduceEq, Int.reduceNe, Int.reduceToNat, Int.reduceTMod, Int.reduceTDiv]
  · simp (disch := omega) only [go_sem, reduceIte, reduceDIte, reduceCtorEq, Nat.reduceBEq, Nat.reduceEqDiff, Nat.reduceAdd, Nat.reduceSub, Nat.reduceMul, Nat.reduceLT, Nat.reduceLeDiff, Nat.reduceBNe, Int.reduceNeg, Int.reduceAdd, Int.reduceSub, Int.reduceMul, Int.reduceLT, Int.reduceLE, Int.reduceGT, Int.reduceGE, Int.reduceEq, Int.reduceNe, Int.reduceToNat, Int.reduceTMod, Int.reduceTDiv, parseA, he]
    refine awake9.at ?_
    simp (disch := omega) only [go_sem, reduceIte, reduceDIte, reduceCtorEq, Nat.reduceBEq, Nat.reduceEqDiff, Nat.reduceAdd, Nat.reduceSub, Nat.reduceMul, Nat.reduceLT, Nat.reduceLeDiff, Nat.reduceBNe, Int.reduceNeg, Int.reduceAdd, Int.reduceSub, Int.reduceMul, Int.reduceLT, Int.reduceLE, Int.reduceGT, Int.reduceGE, Int.reduceEq, Int.reduceNe, Int.reduceToNat, Int.reduceTMod, Int.reduceTDiv]
end Go.Proofs.YtjgbdlaecpkmhaaGreatDoor
set_option linter.unusedVariables false
set_option linter.unusedSimpArgs false
set_option maxRecDepth 100000
namespace Go.Proofs.YtjgbdlaecpkmhaaGreatDoor
open Go Nv Rul

/- Great rules. -/
def greatR (l : List Rule) : Bool := decide (20 < l.length) || l.any fun r => decide (100 < r.name.length) || decide (100 < r.pat.length)
theorem great15 {a : AV} {l : List Rule} (ha : IsRules a l) (hs : Sized l) : PCall Tryz.prog 15 [a] (.d (.bool (greatR l))) := by
  refine fn15.pure noHint (Nat.le_refl _) (by rcases ha with rfl | ⟨_, rfl⟩ <;> simp only [go_sem, rulesD]) (by simp only [go_sem]) ?_
  have hla : ∀ σ, rLen Tryz.prog 23 a σ = .ok (.d (.int .i64 l.length)) σ := fun σ => by
    rcases ha with rfl | ⟨rfl, rfl⟩ <;> simp only [go_sem, rulesD, List.length_map] <;> rfl
  by_cases hl : 20 < l.length
  · have hl' : (20 : Int) < l.length := by omega
    have e : greatR l = true := by simp [greatR, hl]
    simp (disch := omega) only [go_sem, reduceIte, reduceDIte, reduceCtorEq, Nat.reduceBEq, Nat.reduceEqDiff, Nat.reduceAdd, Nat.reduceSub, Nat.reduceMul, Nat.reduceLT, Nat.reduceLeDiff, Nat.reduceBNe, Int.reduceNeg, Int.reduceAdd, Int.reduceSub, Int.reduceMul, Int.reduceLT, Int.reduceLE, Int.reduceGT, Int.reduceGE, Int.reduceEq, Int.reduceNe, Int.reduceToNat, Int.reduceTMod, Int.reduceTDiv, hla, hl', e]
  have hl' : ¬ (20 : Int) < l.length := by omega
  simp (disch := omega) only [go_sem, reduceIte, reduceDIte, reduceCtorEq, Nat.reduceBEq, Nat.reduceEqDiff, Nat.reduceAdd, Nat.reduceSub, Nat.reduceMul, Nat.reduceLT, Nat.reduceLeDiff, Nat.reduceBNe, Int.reduceNeg, Int.reduceAdd, Int.reduceSub, Int.reduceMul, Int.reduceLT, Int.reduceLE, Int.reduceGT, Int.reduceGE, Int.reduceEq, Int.reduceNe, Int.reduceToNat, Int.reduceTMod, Int.reduceTDiv, hla, hl']
  refine wL_ind (fun (j : Nat) fr σ => j ≤ l.length ∧ fr 0 = a ∧ fr 3 = .d (.int .i64 j) ∧ greatR l = (l.drop j).any fun r => decide (100 < r.name.length) || decide (100 < r.pat.length)) (fun j => l.length - j) ?_ 0 ?_
  · rintro j fr σ ⟨hj, f0, f3, hg⟩ ih
    by_cases hlt : j < l.length
    · have hlt' : (j : Int) < l.length := by omega
      have ea : a = .d (rulesD l) := by
        rcases ha with h | ⟨rfl, _⟩
        · exact h
        · simp at hlt
      obtain ⟨r, hr⟩ : ∃ r, r = l.getD j default := ⟨_, rfl⟩
      have hm := hs r (by rw [hr]; exact rule_mem hlt)
      have hgt := rule_get l j hlt
      rw [← hr] at hgt
      rw [rule_drop hlt, ← hr, List.any_cons] at hg
      by_cases h1 : 100 < r.name.length
      · have h1' : (100 : Int) < r.name.length := by omega
        have e : greatR l = true := by rw [hg]; simp [h1]
        simp (disch := omega) only [go_sem, reduceIte, reduceDIte, reduceCtorEq, Nat.reduceBEq, Nat.reduceEqDiff, Nat.reduceAdd, Nat.reduceSub, Nat.reduceMul, Nat.reduceLT, Nat.reduceLeDiff, Nat.reduceBNe, Int.reduceNeg, Int.reduceAdd, Int.reduceSub, Int.reduceMul, Int.reduceLT, Int.reduceLE, Int.reduceGT, Int.reduceGE, Int.reduceEq, Int.reduceNe, Int.reduceToNat, Int.reduceTMod, Int.reduceTDiv, f0, f3, hla, hlt', ea, rulesD, List.length_map, hgt, ruleD_cells, h1', e]
      · have h1' : ¬ (100 : Int) < r.name.length := by omega
        by_cases h2 : 100 < r.pat.length
        · have h2' : (100 : Int) < r.pat.length := by omega
          have e : greatR l = true := by rw [hg]; simp [h2]
          simp (disch := omega) only [go_sem, reduceIte, reduceDIte, reduceCtorEq, Nat.reduceBEq, Nat.reduceEqDiff, Nat.reduceAdd, Nat.reduceSub, Nat.reduceMul, Nat.reduceLT, Nat.reduceLeDiff, Nat.reduceBNe, Int.reduceNeg, Int.reduceAdd, Int.reduceSub, Int.reduceMul, Int.reduceLT, Int.reduceLE, Int.reduceGT, Int.reduceGE, Int.reduceEq, Int.reduceNe, Int.reduceToNat, Int.reduceTMod, Int.reduceTDiv, f0, f3, hla, hlt', ea, rulesD, List.length_map, hgt, ruleD_cells, h1', h2', e]
        · have h2' : ¬ (100 : Int) < r.pat.length := by omega
          simp (disch := omega) only [go_sem, reduceIte, reduceDIte, reduceCtorEq, Nat.reduceBEq, Nat.reduceEqDiff, Nat.reduceAdd, Nat.reduceSub, Nat.reduceMul, Nat.reduceLT, Nat.reduceLeDiff, Nat.reduceBNe, Int.reduceNeg, Int.reduceAdd, Int.reduceSub, Int.reduceMul, Int.reduceLT, Int.reduceLE, Int.reduceGT, Int.reduceGE, Int.reduceEq, Int.reduceNe, Int.reduceToNat, Int.reduceTMod, Int.reduceTDiv, f0, f3, hla, hlt', ea, rulesD, List.length_map, hgt, ruleD_cells, h1', h2']
          refine ih (j + 1) _ _ (by omega) ⟨by omega, ?_, ?_, ?_⟩
          · simp (disch := omega) only [go_sem, reduceIte, reduceDIte, reduceCtorEq, Nat.reduceBEq, Nat.reduceEqDiff, Nat.reduceAdd, Nat.reduceSub, Nat.reduceMul, Nat.reduceLT, Nat.reduceLeDiff, Nat.reduceBNe, Int.reduceNeg, Int.reduceAdd, Int.reduceSub, Int.reduceMul, Int.reduceLT, Int.reduceLE, Int.reduceGT, Int.reduceGE, Int.reduceEq, Int.reduceNe, Int.reduceToNat, Int.reduceTMod, Int.reduceTDiv, f0, ea]
          · simp (disch := omega) only [go_sem, reduceIte, reduceDIte, reduceCtorEq, Nat.reduceBEq, Nat.reduceEqDiff, Nat.reduceAdd, Nat.reduceSub, Nat.reduceMul, Nat.reduceLT, Nat.reduceLeDiff, Nat.reduceBNe, Int.reduceNeg, Int.reduceAdd, Int.reduceSub, Int.reduceMul, Int.reduceLT, Int.reduceLE, Int.reduceGT, Int.reduceGE, Int.reduceEq, Int.reduceNe, Int.reduceToNat, Int.reduceTMod, Int.reduceTDiv]
          · rw [hg]; simp [h1, h2]
    · have hlt' : ¬ (j : Int) < l.length := by omega
      have e : greatR l = false := by rw [hg, List.drop_eq_nil_of_le (by omega)]; rfl
      simp (disch := omega) only [go_sem, reduceIte, reduceDIte, reduceCtorEq, Nat.reduceBEq, Nat.reduceEqDiff, Nat.reduceAdd, Nat.reduceSub, Nat.reduceMul, Nat.reduceLT, Nat.reduceLeDiff, Nat.reduceBNe, Int.reduceNeg, Int.reduceAdd, Int.reduceSub, Int.reduceMul, Int.reduceLT, Int.reduceLE, Int.reduceGT, Int.reduceGE, Int.reduceEq, Int.reduceNe, Int.reduceToNat, Int.reduceTMod, Int.reduceTDiv, f0, f3, hla, hlt', e]
  · refine ⟨by omega, ?_, ?_, ?_⟩
    · simp (disch := omega) only [go_sem, reduceIte, reduceDIte, reduceCtorEq, Nat.reduceBEq, Nat.reduceEqDiff, Nat.reduceAdd, Nat.reduceSub, Nat.reduceMul, Nat.reduceLT, Nat.reduceLeDiff, Nat.reduceBNe, Int.reduceNeg, Int.reduceAdd, Int.reduceSub, Int.reduceMul, Int.reduceLT, Int.reduceLE, Int.reduceGT, Int.reduceGE, Int.reduceEq, Int.reduceNe, Int.reduceToNat, Int.reduceTMod, Int.reduceTDiv]
    · simp (disch := omega) only [go_sem, reduceIte, reduceDIte, reduceCtorEq, Nat.reduceBEq, Nat.reduceEqDiff, Nat.reduceAdd, Nat.reduceSub, Nat.reduceMul, Nat.reduceLT, Nat.reduceLeDiff, Nat.reduceBNe, Int.reduceNeg, Int.reduceAdd, Int.reduceSub, Int.reduceMul, Int.reduceLT, Int.reduceLE, Int.reduceGT, Int.reduceGE, Int.reduceEq, Int.reduceNe, Int.reduceToNat, Int.reduceTMod, Int.reduceTDiv]
    · simp [greatR, hl]
end Go.Proofs.YtjgbdlaecpkmhaaGreatDoor
