/- Part of a proof about the functions of this seat. -/
import Derived.Test.YtjgbdlaecpkmhaaGreatDoorG10Base34
import Derived.Test.YtjgbdlaecpkmhaaGreatDoorG09NvP
import Derived.Below
import Derived.Lib.SlicesCompact
import Derived.Lib.Bytealg
/- The prepared code of further functions. Written by a program of mine (gen.py) out of what the loaded dump prints. -/

set_option linter.unusedVariables false
set_option maxRecDepth 100000
namespace Go.Proofs.YtjgbdlaecpkmhaaGreatDoor
open Go Nv

/-- narrator.narratorlaw34.RulesyntaxNames -/
theorem fn7 : FnIs Tryz.prog 7 2 [Go.ResultVar.tmp 4] (.seq (.region [⟨some 4, Go.Op.assign (Go.Operand.const (Go.Value.bool false)), 4, none⟩])
    (.seq (.region [⟨some 13, Go.Op.move (Go.Operand.tmp 0), 5, none⟩,
      ⟨some 14, Go.Op.convert 5 3 (Go.Operand.tmp 13), 3, none⟩,
      ⟨some 15, Go.Op.binOp Go.BinOp.rem 3 (Go.Operand.tmp 14) (Go.Operand.const (Go.Value.int Go.IntKind.i64 16)) 3, 3, none⟩,
      ⟨some 16, Go.Op.binOp Go.BinOp.add 3 (Go.Operand.const (Go.Value.int Go.IntKind.i64 1)) (Go.Operand.tmp 15) 3, 3, none⟩,
      ⟨some 5, Go.Op.assign (Go.Operand.tmp 16), 3, none⟩])
    (.seq (.region [⟨some 17, Go.Op.buildSlice 37 0 #[], 37, none⟩,
      ⟨some 6, Go.Op.assign (Go.Operand.tmp 17), 37, none⟩])
    (.seq (.seq (.region [⟨some 18, Go.Op.move (Go.Operand.tmp 5), 3, none⟩,
      ⟨some 19, Go.Op.move (Go.Operand.const (Go.Value.int Go.IntKind.i64 0)), 3, none⟩])
    (.block 0
      (.loop
        (.seq (.region [⟨some 20, Go.Op.binOp Go.BinOp.lss 3 (Go.Operand.tmp 19) (Go.Operand.tmp 18) 3, 4, none⟩])
        (.seq (.cond (Go.Operand.tmp 20)
          .skip
          (.exit 0))
        (.seq (.block 1
          (.seq (.region [⟨some 21, Go.Op.move (Go.Operand.tmp 19), 3, none⟩,
            ⟨some 7, Go.Op.assign (Go.Operand.tmp 21), 3, none⟩])
          (.region [⟨some 22, Go.Op.move (Go.Operand.tmp 6), 37, none⟩,
            ⟨some 23, Go.Op.move (Go.Operand.tmp 7), 3, none⟩,
            ⟨some 24, Go.Op.binOp Go.BinOp.add 3 (Go.Operand.const (Go.Value.int Go.IntKind.i64 97)) (Go.Operand.tmp 23) 3, 3, none⟩,
            ⟨some 25, Go.Op.convert 3 5 (Go.Operand.tmp 24), 5, none⟩,
            ⟨some 26, Go.Op.buildSlice 38 1 #[(0, Go.Operand.tmp 25)], 38, none⟩,
            ⟨some 27, Go.Op.convert 38 9 (Go.Operand.tmp 26), 9, none⟩,
            ⟨some 28, Go.Op.binOp Go.BinOp.add 9 (Go.Operand.const (Go.Value.string { data := #[114] })) (Go.Operand.tmp 27) 9, 9, none⟩,
            ⟨some 29, Go.Op.binOp Go.BinOp.add 9 (Go.Operand.tmp 28) (Go.Operand.const (Go.Value.string { data := #[32, 110, 111, 114, 109, 97, 108, 32, 34, 120, 34] })) 9, 9, none⟩,
            ⟨some 30, Go.Op.buildSlice 37 1 #[(0, Go.Operand.tmp 29)], 37, none⟩,
            ⟨some 31, Go.Op.call { callee := Go.Callee.builtin Go.Builtin.append, args := #[Go.Operand.tmp 22, Go.Operand.tmp 30], argTypes := #[37, 37] }, 37, none⟩,
            ⟨some 6, Go.Op.assign (Go.Operand.tmp 31), 37, none⟩])))
        (.region [⟨some 32, Go.Op.binOp Go.BinOp.add 3 (Go.Operand.tmp 19) (Go.Operand.const (Go.Value.int Go.IntKind.i64 1)) 3, 3, none⟩,
          ⟨some 19, Go.Op.move (Go.Operand.tmp 32), 3, none⟩])))))))
    (.seq (.region [⟨some 33, Go.Op.move (Go.Operand.tmp 6), 37, none⟩,
      ⟨some 34, Go.Op.call { callee := Go.Callee.value (Go.Operand.func 17), args := #[Go.Operand.tmp 33, Go.Operand.const (Go.Value.string { data := #[10] })], argTypes := #[37, 9] }, 9, none⟩,
      ⟨some 8, Go.Op.assign (Go.Operand.tmp 34), 9, none⟩])
    (.seq (.region [⟨some 36, Go.Op.move (Go.Operand.tmp 8), 9, none⟩,
      ⟨some 37, Go.Op.call { callee := Go.Callee.value (Go.Operand.func 10), args := #[Go.Operand.tmp 36], argTypes := #[9] }, 25, none⟩,
      ⟨some 35, Go.Op.move (Go.Operand.tmp 37), 25, none⟩,
      ⟨some 38, Go.Op.extract (Go.Operand.tmp 35) 0, 23, none⟩,
      ⟨some 39, Go.Op.extract (Go.Operand.tmp 35) 1, 3, none⟩,
      ⟨some 40, Go.Op.extract (Go.Operand.tmp 35) 2, 24, none⟩,
      ⟨some 9, Go.Op.assign (Go.Operand.tmp 38), 23, none⟩,
      ⟨some 10, Go.Op.assign (Go.Operand.tmp 39), 3, none⟩,
      ⟨some 11, Go.Op.assign (Go.Operand.tmp 40), 24, none⟩])
    (.seq (.seq (.region [⟨some 41, Go.Op.move (Go.Operand.tmp 11), 24, none⟩,
      ⟨some 42, Go.Op.binOp Go.BinOp.neq 24 (Go.Operand.tmp 41) (Go.Operand.const (Go.Value.int Go.IntKind.i64 0)) 24, 4, none⟩,
      ⟨some 43, Go.Op.move (Go.Operand.tmp 42), 4, none⟩,
      ⟨some 44, Go.Op.move (Go.Operand.tmp 10), 3, (some (43, false))⟩,
      ⟨some 45, Go.Op.binOp Go.BinOp.neq 3 (Go.Operand.tmp 44) (Go.Operand.const (Go.Value.int Go.IntKind.i64 0)) 3, 4, (some (43, false))⟩,
      ⟨some 46, Go.Op.pick (Go.Operand.tmp 43) (Go.Operand.const (Go.Value.bool true)) (Go.Operand.tmp 45), 4, none⟩,
      ⟨some 47, Go.Op.move (Go.Operand.tmp 46), 4, none⟩,
      ⟨some 48, Go.Op.move (Go.Operand.tmp 9), 23, (some (47, false))⟩,
      ⟨some 49, Go.Op.call { callee := Go.Callee.builtin Go.Builtin.len, args := #[Go.Operand.tmp 48], argTypes := #[23] }, 3, (some (47, false))⟩,
      ⟨some 50, Go.Op.move (Go.Operand.tmp 5), 3, (some (47, false))⟩,
      ⟨some 51, Go.Op.binOp Go.BinOp.neq 3 (Go.Operand.tmp 49) (Go.Operand.tmp 50) 3, 4, (some (47, false))⟩,
      ⟨some 52, Go.Op.pick (Go.Operand.tmp 47) (Go.Operand.const (Go.Value.bool true)) (Go.Operand.tmp 51), 4, none⟩])
    (.cond (Go.Operand.tmp 52)
      (.seq (.region [⟨some 4, Go.Op.assign (Go.Operand.const (Go.Value.bool false)), 4, none⟩])
      .ret)
      .skip))
    (.seq (.region [⟨some 54, Go.Op.move (Go.Operand.tmp 8), 9, none⟩,
      ⟨some 55, Go.Op.binOp Go.BinOp.add 9 (Go.Operand.tmp 54) (Go.Operand.const (Go.Value.string { data := #[10] })) 9, 9, none⟩,
      ⟨some 56, Go.Op.move (Go.Operand.tmp 6), 37, none⟩,
      ⟨some 57, Go.Op.move (Go.Operand.tmp 1), 5, none⟩,
      ⟨some 58, Go.Op.convert 5 3 (Go.Operand.tmp 57), 3, none⟩,
      ⟨some 59, Go.Op.move (Go.Operand.tmp 5), 3, none⟩,
      ⟨some 60, Go.Op.binOp Go.BinOp.rem 3 (Go.Operand.tmp 58) (Go.Operand.tmp 59) 3, 3, none⟩,
      ⟨some 61, Go.Op.indexAddr 37 (Go.Operand.tmp 56) (Go.Operand.tmp 60), 0, none⟩,
      ⟨some 62, Go.Op.load 9 (Go.Operand.tmp 61), 9, none⟩,
      ⟨some 63, Go.Op.binOp Go.BinOp.add 9 (Go.Operand.tmp 55) (Go.Operand.tmp 62) 9, 9, none⟩,
      ⟨some 64, Go.Op.call { callee := Go.Callee.value (Go.Operand.func 10), args := #[Go.Operand.tmp 63], argTypes := #[9] }, 25, none⟩,
      ⟨some 53, Go.Op.move (Go.Operand.tmp 64), 25, none⟩,
      ⟨some 65, Go.Op.extract (Go.Operand.tmp 53) 0, 23, none⟩,
      ⟨some 66, Go.Op.extract (Go.Operand.tmp 53) 1, 3, none⟩,
      ⟨some 67, Go.Op.extract (Go.Operand.tmp 53) 2, 24, none⟩,
      ⟨some 10, Go.Op.assign (Go.Operand.tmp 66), 3, none⟩,
      ⟨some 11, Go.Op.assign (Go.Operand.tmp 67), 24, none⟩])
    (.seq (.region [⟨some 12, Go.Op.assign (Go.Operand.const (Go.Value.int Go.IntKind.i64 7)), 24, none⟩])
    (.seq (.seq (.region [⟨some 68, Go.Op.move (Go.Operand.tmp 5), 3, none⟩,
      ⟨some 69, Go.Op.binOp Go.BinOp.eql 3 (Go.Operand.tmp 68) (Go.Operand.const (Go.Value.int Go.IntKind.i64 16)) 3, 4, none⟩])
    (.cond (Go.Operand.tmp 69)
      (.region [⟨some 12, Go.Op.assign (Go.Operand.const (Go.Value.int Go.IntKind.i64 5)), 24, none⟩])
      .skip))
    (.seq (.region [⟨some 70, Go.Op.move (Go.Operand.tmp 11), 24, none⟩,
      ⟨some 71, Go.Op.move (Go.Operand.tmp 12), 24, none⟩,
      ⟨some 72, Go.Op.binOp Go.BinOp.eql 24 (Go.Operand.tmp 70) (Go.Operand.tmp 71) 24, 4, none⟩,
      ⟨some 73, Go.Op.move (Go.Operand.tmp 72), 4, none⟩,
      ⟨some 74, Go.Op.move (Go.Operand.tmp 10), 3, (some (73, true))⟩,
      ⟨some 75, Go.Op.move (Go.Operand.tmp 5), 3, (some (73, true))⟩,
      ⟨some 76, Go.Op.binOp Go.BinOp.add 3 (Go.Operand.tmp 75) (Go.Operand.const (Go.Value.int Go.IntKind.i64 1)) 3, 3, (some (73, true))⟩,
      ⟨some 77, Go.Op.binOp Go.BinOp.eql 3 (Go.Operand.tmp 74) (Go.Operand.tmp 76) 3, 4, (some (73, true))⟩,
      ⟨some 78, Go.Op.pick (Go.Operand.tmp 73) (Go.Operand.tmp 77) (Go.Operand.const (Go.Value.bool false)), 4, none⟩,
      ⟨some 79, Go.Op.move (Go.Operand.tmp 78), 4, none⟩,
      ⟨some 80, Go.Op.call { callee := Go.Callee.value (Go.Operand.func 9), args := #[], argTypes := #[] }, 4, (some (79, true))⟩,
      ⟨some 81, Go.Op.pick (Go.Operand.tmp 79) (Go.Operand.tmp 80) (Go.Operand.const (Go.Value.bool false)), 4, none⟩,
      ⟨some 4, Go.Op.assign (Go.Operand.tmp 81), 4, none⟩])
    .ret))))))))))) :=
  ⟨foll, Tryz.f7, Tryz.func7, by kernel_rfl, by kernel_rfl, by kernel_rfl, by rw [Tryz.ntmps7]; decide⟩

/-- narrator.narratorref34.Great -/
theorem fn15 : FnIs Tryz.prog 15 1 [Go.ResultVar.tmp 2] (.seq (.region [⟨some 2, Go.Op.assign (Go.Operand.const (Go.Value.bool false)), 4, none⟩])
    (.seq (.seq (.region [⟨some 4, Go.Op.move (Go.Operand.tmp 0), 23, none⟩,
      ⟨some 5, Go.Op.call { callee := Go.Callee.builtin Go.Builtin.len, args := #[Go.Operand.tmp 4], argTypes := #[23] }, 3, none⟩,
      ⟨some 6, Go.Op.binOp Go.BinOp.gtr 3 (Go.Operand.tmp 5) (Go.Operand.const (Go.Value.int Go.IntKind.i64 20)) 3, 4, none⟩])
    (.cond (Go.Operand.tmp 6)
      (.seq (.region [⟨some 2, Go.Op.assign (Go.Operand.const (Go.Value.bool true)), 4, none⟩])
      .ret)
      .skip))
    (.seq (.seq (.region [⟨some 3, Go.Op.assign (Go.Operand.const (Go.Value.int Go.IntKind.i64 0)), 3, none⟩])
    (.block 0
      (.loop
        (.seq (.seq (.region [⟨some 7, Go.Op.move (Go.Operand.tmp 3), 3, none⟩,
          ⟨some 8, Go.Op.move (Go.Operand.tmp 0), 23, none⟩,
          ⟨some 9, Go.Op.call { callee := Go.Callee.builtin Go.Builtin.len, args := #[Go.Operand.tmp 8], argTypes := #[23] }, 3, none⟩,
          ⟨some 10, Go.Op.binOp Go.BinOp.lss 3 (Go.Operand.tmp 7) (Go.Operand.tmp 9) 3, 4, none⟩])
        (.cond (Go.Operand.tmp 10)
          .skip
          (.exit 0)))
        (.seq (.block 1
          (.seq (.region [⟨some 13, Go.Op.move (Go.Operand.tmp 0), 23, none⟩,
            ⟨some 14, Go.Op.move (Go.Operand.tmp 3), 3, none⟩,
            ⟨some 15, Go.Op.indexAddr 23 (Go.Operand.tmp 13) (Go.Operand.tmp 14), 0, none⟩,
            ⟨some 16, Go.Op.fieldAddr 33 (Go.Operand.tmp 15) 0, 0, none⟩,
            ⟨some 17, Go.Op.load 9 (Go.Operand.tmp 16), 9, none⟩,
            ⟨some 18, Go.Op.call { callee := Go.Callee.builtin Go.Builtin.len, args := #[Go.Operand.tmp 17], argTypes := #[9] }, 3, none⟩,
            ⟨some 19, Go.Op.binOp Go.BinOp.gtr 3 (Go.Operand.tmp 18) (Go.Operand.const (Go.Value.int Go.IntKind.i64 100)) 3, 4, none⟩,
            ⟨some 20, Go.Op.move (Go.Operand.tmp 19), 4, none⟩,
            ⟨some 21, Go.Op.move (Go.Operand.tmp 0), 23, (some (20, false))⟩,
            ⟨some 22, Go.Op.move (Go.Operand.tmp 3), 3, (some (20, false))⟩,
            ⟨some 23, Go.Op.indexAddr 23 (Go.Operand.tmp 21) (Go.Operand.tmp 22), 0, (some (20, false))⟩,
            ⟨some 24, Go.Op.fieldAddr 33 (Go.Operand.tmp 23) 1, 0, (some (20, false))⟩,
            ⟨some 25, Go.Op.load 9 (Go.Operand.tmp 24), 9, (some (20, false))⟩,
            ⟨some 26, Go.Op.call { callee := Go.Callee.builtin Go.Builtin.len, args := #[Go.Operand.tmp 25], argTypes := #[9] }, 3, (some (20, false))⟩,
            ⟨some 27, Go.Op.binOp Go.BinOp.gtr 3 (Go.Operand.tmp 26) (Go.Operand.const (Go.Value.int Go.IntKind.i64 100)) 3, 4, (some (20, false))⟩,
            ⟨some 28, Go.Op.pick (Go.Operand.tmp 20) (Go.Operand.const (Go.Value.bool true)) (Go.Operand.tmp 27), 4, none⟩])
          (.cond (Go.Operand.tmp 28)
            (.seq (.region [⟨some 2, Go.Op.assign (Go.Operand.const (Go.Value.bool true)), 4, none⟩])
            .ret)
            .skip)))
        (.region [⟨some 11, Go.Op.move (Go.Operand.tmp 3), 3, none⟩,
          ⟨some 12, Go.Op.binOp Go.BinOp.add 3 (Go.Operand.tmp 11) (Go.Operand.const (Go.Value.int Go.IntKind.i64 1)) 3, 3, none⟩,
          ⟨some 3, Go.Op.assign (Go.Operand.tmp 12), 3, none⟩]))))))
    (.seq (.region [⟨some 2, Go.Op.assign (Go.Operand.const (Go.Value.bool false)), 4, none⟩])
    .ret)))) :=
  ⟨foll, Tryz.f15, Tryz.func15, by kernel_rfl, by kernel_rfl, by kernel_rfl, by rw [Tryz.ntmps15]; decide⟩

end Go.Proofs.YtjgbdlaecpkmhaaGreatDoor
/- Calls of the library by its contracts. -/


set_option linter.unusedVariables false
set_option linter.unusedSimpArgs false
namespace Nv
open Go Go.RowKit

def sc : AV → Bool
  | .d (.int _ _) => true
  | .d (.bool _) => true
  | .d (.str _) => true
  | _ => false
def scv : AV → Value
  | .d (.int k n) => .int k n
  | .d (.bool b) => .bool b
  | .d (.str s) => .string ⟨s.toArray⟩
  | _ => undef

section
variable {P : Program} {ρ ρ' : RHO} {σ σ' : ST} {I I' : Nat → Prop} {w w' : World}

theorem sc_inv {a : AV} {v : Value} (h : sc a = true) (hv : V ρ σ I w a v) : v = scv a := by
  cases hv <;> try (simp [sc] at h; done)
  rename_i x hx
  cases x <;> simp [sc] at h
  · exact hx.int_inv
  · exact hx.bool_inv
  · exact hx.str_inv
theorem sc_V (ρ : RHO) (σ : ST) (I : Nat → Prop) (w : World) {a : AV} (h : sc a = true) : V ρ σ I w a (scv a) := by
  cases a <;> simp [sc] at h
  rename_i x
  cases x <;> simp [sc] at h
  · exact .d (.int _ _)
  · exact .d (.bool _)
  · exact .d (.str _)

theorem scs_inv {args : List AV} {vs : Array Value} (h : args.all sc = true) (hv : VL ρ σ I w args vs) : vs = (args.map scv).toArray := by
  apply Array.ext
  · simp [hv.1]
  · intro i h1 h2
    have hl : i < args.length := by rw [hv.1]; exact h1
    have := sc_inv (List.all_eq_true.1 h _ (List.getElem_mem hl)) (hv.2 i _ (List.getElem?_eq_getElem hl))
    simp only [Array.getD_eq_getD_getElem?, h1, Array.getElem?_eq_getElem, Option.getD_some] at this
    simp [this]

theorem Step.heap (h : w'.heap = w.heap) (ha : Around w w') : Step ρ I w σ ρ I w' σ :=
  ⟨fun _ _ _ => by rw [h], fun _ h => h, fun _ h => .inl h, fun _ h => .inl h, by rw [h]; exact Nat.le_refl _, fun b blk h => ⟨blk, h, Compat.refl _ _⟩, ha⟩
theorem RS.heap (hr : RS P ρ I w σ) (h : w'.heap = w.heap) (ha : Around w w') : RS P ρ I w' σ :=
  ⟨fun i blk hi => RB.heap h (hr.blk i blk hi) hr (Step.heap h ha), hr.inj, hr.sep, fun B hB => by rw [h]; exact hr.bound B hB, (Step.heap h ha).tabs hr⟩

/-- A contract over worlds, at arguments and a result that hold no address: the heap is avl it was. -/
theorem PCall.of_calls {f : FuncId} {args : List AV} {r : AV} (ha : args.all sc = true) (hr : sc r = true)
    (h : ∀ w : World, Calls P f (args.map scv).toArray w fun e w' => e = .returned (scv r) ∧ w'.heap = w.heap ∧ Around w w') : PCall P f args r := by
  intro σ ρ I w vs hrs hv
  rw [scs_inv ha hv]
  refine (h w).mono ?_
  rintro e w' ⟨rfl, hh, ha⟩
  exact ⟨ρ, I, σ, .ret r, Step.heap hh ha, hrs.heap hh ha, sc_V _ _ _ _ hr, rfl, rfl⟩

/-- A contract over worlds that hold the program's tables; the heap may grow. -/
theorem PCall.of_callsT {f : FuncId} {args : List AV} {r : AV} (ha : args.all sc = true) (hr : sc r = true)
    (h : ∀ (w : World) (I : Nat → Prop), Tabs P I w → Calls P f (args.map scv).toArray w fun e w' => e = .returned (scv r) ∧ Below w.heap.size w w') : PCall P f args r := by
  intro σ ρ I w vs hrs hv
  rw [scs_inv ha hv]
  refine (h w I hrs.tabs).mono ?_
  rintro e w' ⟨rfl, hb⟩
  have hx : Ext w w' := ⟨hb.size, ⟨hb.os, hb.tape, hb.output⟩⟩
  exact ⟨ρ, I, σ, .ret r, Step.more hx hb.block, hrs.more hx hb.block, sc_V _ _ _ _ hr, rfl, rfl⟩

theorem PCall.of_calls' {f : FuncId} {args : List AV} {r : AV} (ha : args.all sc = true) (hr : sc r = true)
    (h : ∀ w : World, Calls P f (args.map scv).toArray w fun e w' => e = .returned (scv r) ∧ w' = w) : PCall P f args r :=
  .of_calls ha hr fun w => (h w).mono fun e w' ⟨h1, h2⟩ => ⟨h1, by rw [h2], h2 ▸ Around.refl w⟩
end
end Nv
/- Maps keyed by strings: rules; lists of strings that a function of the library hands back. -/

set_option linter.unusedVariables false
set_option linter.unusedSimpArgs false
namespace Nv
open Go Go.RowKit

section
variable {P : Program} {ρ ρ' : RHO} {σ σ' : ST} {I I' : Nat → Prop} {w w' : World}

/-- A set of strings as a map to true. -/
def strSet (l : List (List UInt8)) : List (DV × DV) := l.map fun s => (.str s, .bool true)
theorem strSet_snoc (l : List (List UInt8)) (s : List UInt8) : strSet (l ++ [s]) = strSet l ++ [(.str s, .bool true)] := by simp [strSet]
theorem keyAt_out {s : List UInt8} : ∀ (l : List (List UInt8)) (i : Nat), s ∉ l → keyAt s (strSet l) i = some none
  | [], _, _ => rfl
  | t :: l, i, h => by
    have h1 : s ≠ t := fun e => h (by simp [e])
    show keyAt s ((.str t, .bool true) :: strSet l) i = _
    rw [keyAt, decide_eq_false h1, cond_false, keyAt_out l (i + 1) (fun e => h (by simp [e]))]
theorem keyAt_in {s : List UInt8} : ∀ (l : List (List UInt8)) (i : Nat), s ∈ l → ∃ j, keyAt s (strSet l) i = some (some (i + j)) ∧ (strSet l).getD j default = (.str s, .bool true)
  | [], _, h => by cases h
  | t :: l, i, h => by
    by_cases h1 : s = t
    · refine ⟨0, ?_, by rw [h1]; rfl⟩
      show keyAt s ((.str t, .bool true) :: strSet l) i = _
      rw [keyAt, decide_eq_true h1, cond_true, Nat.add_zero]
    · obtain ⟨j, k1, k2⟩ := keyAt_in l (i + 1) ((List.mem_cons.1 h).resolve_left h1)
      refine ⟨j + 1, ?_, k2⟩
      show keyAt s ((.str t, .bool true) :: strSet l) i = _
      rw [keyAt, decide_eq_false h1, cond_false, k1, show i + 1 + j = i + (j + 1) by omega]

@[go_sem] theorem rMakeMap_def (σ : ST) : rMakeMap σ = .ok (.map σ.length) (σ ++ [.map []]) := nrfl rfl
@[go_sem] theorem lookV_def (ok : Bool) (v : AV) (b : Bool) (σ : ST) : lookV ok v b σ = .ok (bif ok then .tuple [v, .d (.bool b)] else v) σ := nrfl rfl
@[go_sem] theorem rLookup_def (P : Program) (t : TypeId) (x k : AV) (ok : Bool) (σ : ST) : rLookup P t x k ok σ =
  (match P.underlying t, x, k with
  | some (.map kt et), .map b, .d (.str s) => match P.underlying kt, stGet σ b with
    | some .string, .map es => lookR P et s es ok σ
    | _, _ => .bad
  | some (.map kt et), .d (.map es), .d (.str s) => match P.underlying kt with
    | some .string => lookR P et s es ok σ
    | _ => .bad
  | _, _, _ => .bad) := nrfl rfl
@[go_sem] theorem lookR_def (P : Program) (et : TypeId) (s : List UInt8) (es : List (DV × DV)) (ok : Bool) (σ : ST) : lookR P et s es ok σ =
  (match keyAt s es 0 with
  | some (some j) => lookV ok (.d (es.getD j default).2) true σ
  | some none => .need (zeroA P et ≠ .any) (lookV ok (zeroA P et) false σ)
  | none => .bad) := nrfl rfl
@[go_sem] theorem rMapUpdate_def (P : Program) (t : TypeId) (m k x : AV) (σ : ST) : rMapUpdate P t m k x σ =
  (match P.underlying t, m, k, x with
  | some (.map kt _), .map b, .d (.str s), .d y => match P.underlying kt, stGet σ b with
    | some .string, .map es => match keyAt s es 0 with
      | some (some j) => .ok .any (stSet σ b (.map (es.set j (.str s, y))))
      | some none => .ok .any (stSet σ b (.map (es ++ [(.str s, y)])))
      | none => .bad
    | _, _ => .bad
  | _, _, _, _ => .bad) := nrfl rfl

/-- A contract over worlds at arguments that hold no address; what it hands back reads as r everywhere. -/
theorem PCall.of_callsV {f : FuncId} {args : List AV} {r : AV} {v : Value} (ha : args.all sc = true) (hrv : ∀ (ρ : RHO) (σ : ST) (I : Nat → Prop) (w : World), V ρ σ I w r v)
    (h : ∀ (w : World) (I : Nat → Prop), Tabs P I w → Calls P f (args.map scv).toArray w fun e w' => e = .returned v ∧ Below w.heap.size w w') : PCall P f args r := by
  intro σ ρ I w vs hrs hv
  rw [scs_inv ha hv]
  refine (h w I hrs.tabs).mono ?_
  rintro e w' ⟨rfl, hb⟩
  have hx : Ext w w' := ⟨hb.size, ⟨hb.os, hb.tape, hb.output⟩⟩
  exact ⟨ρ, I, σ, .ret r, Step.more hx hb.block, hrs.more hx hb.block, hrv _ _ _ _, rfl, rfl⟩
theorem tuple_V {rs : List AV} {vs : Array Value} (h1 : rs.length = vs.size) (h : ∀ (j : Nat) a, rs[j]? = some a → ∀ (ρ : RHO) (σ : ST) (I : Nat → Prop) (w : World), V ρ σ I w a (vs.getD j undef)) (ρ : RHO) (σ : ST) (I : Nat → Prop) (w : World) : V ρ σ I w (.tuple rs) (.tuple vs) :=
  .tuple h1 fun j c hj => h j c hj ρ σ I w
theorem below_drew (w : World) (n : Nat) : Below w.heap.size w (w.drewN n) := ⟨rfl, rfl, rfl, Nat.le_refl _, fun _ _ => rfl⟩

def strsD (xs : List (List UInt8)) : List DV := xs.map DV.str
theorem strsD_length (xs : List (List UInt8)) : (strsD xs).length = xs.length := by simp [strsD]
theorem flat_strs : ∀ xs : List (List UInt8), flat (strsD xs) = strsD xs
  | [] => rfl
  | x :: xs => by show [_] ++ flat (strsD xs) = _; rw [flat_strs xs]; rfl

/-- A function that hands back a new list of strings, and leaves all that was there. -/
theorem PCall.of_strings {f : FuncId} {args : List AV} {xs : List (List UInt8)}
    (h : ∀ (ρ : RHO) (σ : ST) (w : World) (I : Nat → Prop) (vs : Array Value), RS P ρ I w σ → VL ρ σ I w args vs → Calls P f vs w fun e w' => ∃ A cap, e = .returned (.slice (some ⟨A, 0, none⟩) xs.length cap) ∧ xs.length ≤ cap ∧
      w.heap.size ≤ A ∧ A < w'.heap.size ∧ (∀ (j : Nat) x, xs[j]? = some x → w'.cell? ⟨A, j, none⟩ = some (.string ⟨x.toArray⟩)) ∧ Below w.heap.size w w') :
    PCall P f args (.d (.list 1 (strsD xs))) := by
  intro σ ρ I w vs hr hv
  refine (h ρ σ w I vs hr hv).mono ?_
  rintro e w' ⟨A, cap, rfl, hc, hA, hA', hcell, hb⟩
  let I' : Nat → Prop := fun B => I B ∨ B = A
  have hstep : Step ρ I w σ ρ I' w' σ := by
    refine ⟨fun b hb' _ => hb.block b hb', fun B h => .inl h, fun B h => ?_, fun B h => .inl h, hb.size, fun b blk h => ⟨blk, h, Compat.refl _ _⟩, ⟨hb.os, hb.tape, hb.output⟩⟩
    rcases h with h | rfl
    · exact .inl h
    · exact .inr (.inr hA)
  have hrs : RS P ρ I' w' σ := by
    refine ⟨fun i blk hi => ?_, hr.inj, fun B hl hI => ?_, fun B hI => ?_, hstep.tabs hr⟩
    · by_cases hl : blk.live
      · exact RB.step hr hstep (fun B hB => hb.block B (lives_heap hr ⟨i, blk, hi, hl, hB⟩)) (hr.blk i blk hi)
      · cases blk <;> first | exact .dead | exact absurd trivial hl
    · rcases hI with h | rfl
      · exact hr.sep B hl h
      · have := lives_heap hr hl; omega
    · rcases hI with h | rfl
      · exact Nat.lt_of_lt_of_le (hr.bound B h) hb.size
      · exact hA'
  refine ⟨ρ, I', σ, .ret _, hstep, hrs, .d ?_, rfl, rfl⟩
  have hg : ∀ (j : Nat) (c : DV), (flat (strsD xs))[j]? = some c → ∃ x, xs[j]? = some x ∧ c = DV.str x := by
    intro j c hj
    rw [flat_strs, strsD, List.getElem?_map, Option.map_eq_some_iff] at hj
    obtain ⟨x, hx, rfl⟩ := hj
    exact ⟨x, hx, rfl⟩
  refine .list (fun j => .string ⟨(xs.getD j []).toArray⟩) (by rw [strsD_length]) hc (fun x hx => ?_) (fun j c hj => ?_) (fun j c hj => ?_)
  · obtain ⟨y, _, rfl⟩ := List.mem_map.1 hx
    exact ⟨rfl, fun c hc => by simp only [DV.cells, List.mem_cons, List.not_mem_nil, or_false] at hc; subst hc; rfl⟩
  · obtain ⟨x, hx, rfl⟩ := hg j c hj
    refine ⟨.inr rfl, ?_⟩
    rw [Nat.zero_add, hcell j x hx, List.getD_eq_getElem?_getD, hx]; rfl
  · obtain ⟨x, hx, rfl⟩ := hg j c hj
    rw [List.getD_eq_getElem?_getD, hx]
    exact .str x
end
end Nv
/- Rules, and the bands of rows that they make: plain, no program. -/


set_option linter.unusedVariables false
set_option linter.unusedSimpArgs false
namespace Rul
open Go

structure Rule where
  name : List UInt8
  pat : List UInt8
  lo : Int
  hi : Int
  cls : Int
  wait : Int
  deriving DecidableEq, Inhabited

/-- The letters, and what may stand in a name. -/
def letters : List UInt8 := [97, 98, 99, 100, 101, 102, 103, 104, 105, 106, 107, 108, 109, 110, 111, 112, 113, 114, 115, 116, 117, 118, 119, 120, 121, 122]
def signs : List UInt8 := letters ++ [48, 49, 50, 51, 52, 53, 54, 55, 56, 57] ++ [45]
def isIn (l : List UInt8) (c : UInt8) : Bool := decide (0 ≤ Lib.indexByte l c)
def nameB (s : List UInt8) : Bool := match s with
  | [] => false
  | c :: _ => decide (s.length ≤ 16) && isIn letters c && s.all (isIn signs)
def rangeBad (r : Rule) : Bool := decide (r.lo < 0) || decide (r.hi ≤ r.lo) || decide (60 < r.hi)
def waitBad (r : Rule) : Bool := decide (r.wait < 0) || decide (60000 < r.wait) || (decide (0 < r.wait) && !decide (r.cls = 3))
/-- The error of a rule but for its name; pe is that of its pattern. -/
def ruleE (pe : List UInt8 → Int) (r : Rule) : Int :=
  if r.cls < 1 ∨ 3 < r.cls then 9
  else if rangeBad r = true ∨ waitBad r = true then 2
  else if isIn r.pat 10 = true then 3
  else pe r.pat
def chkFrom (pe : List UInt8 → Int) (used : List (List UInt8)) : List Rule → Int
  | [] => 0
  | r :: l => if nameB r.name = false then 6 else if r.name ∈ used then 7 else if ruleE pe r = 0 then chkFrom pe (used ++ [r.name]) l else ruleE pe r
def chkR (pe : List UInt8 → Int) (l : List Rule) : Int := if 16 < l.length then 5 else chkFrom pe [] l

theorem range_of {pe : List UInt8 → Int} : ∀ (l : List Rule) (used : List (List UInt8)), chkFrom pe used l = 0 → ∀ r, r ∈ l → 0 ≤ r.lo ∧ r.lo < r.hi ∧ r.hi ≤ 60
  | [], _, _, r, h => by cases h
  | x :: l, used, h, r, hr => by
    unfold chkFrom at h
    split at h
    · omega
    · split at h
      · omega
      · split at h
        · rename_i h3
          rcases List.mem_cons.1 hr with rfl | hr
          · unfold ruleE at h3
            split at h3
            · omega
            · split at h3
              · omega
              · rename_i hb
                simp only [rangeBad, Bool.or_eq_true, decide_eq_true_eq] at hb
                omega
          · exact range_of l _ h r hr
        · rename_i h3; exact absurd h h3
theorem range_ok {pe : List UInt8 → Int} {l : List Rule} (h : chkR pe l = 0) : ∀ r, r ∈ l → 0 ≤ r.lo ∧ r.lo < r.hi ∧ r.hi ≤ 60 := by
  unfold chkR at h
  split at h
  · omega
  · exact range_of l _ h

/-- The cuts in ascending order, each once. -/
def cutsOf (l : List Rule) : List Int := [0, 60] ++ l.flatMap fun r => [r.lo, r.hi]
def sortI (l : List Int) : List Int := l.mergeSort fun x y => decide (x ≤ y)
def cuts (l : List Rule) : List Int := Lib.compact (sortI (cutsOf l))
def spans : List Int → List (Int × Int)
  | a :: b :: l => (a, b) :: spans (b :: l)
  | _ => []
def bandsR (pe : List UInt8 → Int) (l : List Rule) : List (Int × Int) := if chkR pe l = 0 then spans (cuts l) else []

theorem sortI_sorted (l : List Int) : List.Pairwise (fun x y : Int => x ≤ y) (sortI l) := by
  have := List.pairwise_mergeSort (le := fun x y : Int => decide (x ≤ y)) (fun a b c h1 h2 => by simp at *; omega) (fun a b => by simp; omega) l
  exact this.imp (fun h => by simpa using h)
theorem mem_sortI {l : List Int} {x : Int} : x ∈ sortI l ↔ x ∈ l := List.mem_mergeSort

theorem sortI_len (l : List Int) : (sortI l).length = l.length := by simp [sortI]
theorem get_arr (l : List Int) (j : Nat) (h : j < l.length) : l.toArray[j]! = l.getD j 0 := by
  rw [getElem!_pos l.toArray j (by simpa using h), List.getD_eq_getElem?_getD, List.getElem?_eq_getElem h]; simp
theorem sorted_get {l : List Int} (h : List.Pairwise (fun x y : Int => x ≤ y) l) {i j : Nat} (hij : i ≤ j) (hj : j < l.length) : l.getD i 0 ≤ l.getD j 0 := by
  rcases Nat.lt_or_eq_of_le hij with hlt | rfl
  · have := List.pairwise_iff_getElem.1 h i j (by omega) hj hlt
    simp only [List.getD_eq_getElem?_getD, List.getElem?_eq_getElem hj, List.getElem?_eq_getElem (show i < l.length by omega), Option.getD_some]
    exact this
  · exact Int.le_refl _
theorem compact_mem {l : List Int} {x : Int} : x ∈ Lib.compact l ↔ x ∈ l := by
  unfold Lib.compact Lib.compactUpTo
  constructor
  · intro h
    obtain ⟨j, hj, rfl⟩ := List.mem_map.1 h
    have hj' : j < l.length := by simpa using (List.mem_filter.1 hj).1
    rw [get_arr l j hj', List.getD_eq_getElem?_getD, List.getElem?_eq_getElem hj']
    exact List.getElem_mem hj'
  · intro h
    obtain ⟨j, hj, rfl⟩ := List.getElem_of_mem h
    have key : ∀ n (hn : n < l.length), l.getD n 0 ∈ ((List.range l.length).filter (Lib.keeps l.toArray)).map (l.toArray[·]!) := by
      intro n
      induction n with
      | zero =>
        intro hn
        exact List.mem_map.2 ⟨0, List.mem_filter.2 ⟨by simpa using hn, by simp [Lib.keeps]⟩, get_arr l 0 hn⟩
      | succ n ih =>
        intro hn
        by_cases hk : Lib.keeps l.toArray (n + 1) = true
        · exact List.mem_map.2 ⟨n + 1, List.mem_filter.2 ⟨by simpa using hn, hk⟩, get_arr l _ hn⟩
        · have he : l.toArray[n + 1]! = l.toArray[n]! := by
            simp only [Lib.keeps, decide_eq_true_eq, Nat.add_sub_cancel, not_or, ne_eq] at hk
            exact Classical.not_not.1 hk.2
          rw [get_arr l _ hn, get_arr l n (by omega)] at he
          rw [he]; exact ih (by omega)
    have := key j hj
    rwa [List.getD_eq_getElem?_getD, List.getElem?_eq_getElem hj] at this
theorem compact_asc {l : List Int} (h : List.Pairwise (fun x y : Int => x ≤ y) l) : List.Pairwise (fun x y : Int => x < y) (Lib.compact l) := by
  unfold Lib.compact Lib.compactUpTo
  rw [List.pairwise_map]
  refine List.Pairwise.imp_of_mem ?_ ((List.pairwise_lt_range (n := l.length)).filter _)
  intro i j hi hj hij
  have hi' : i < l.length := by simpa using (List.mem_filter.1 hi).1
  have hj' : j < l.length := by simpa using (List.mem_filter.1 hj).1
  have hk := (List.mem_filter.1 hj).2
  simp only [Lib.keeps, decide_eq_true_eq] at hk
  have hne : l.toArray[j]! ≠ l.toArray[j - 1]! := hk.resolve_left (by omega)
  rw [get_arr l j hj', get_arr l (j - 1) (by omega)] at hne
  rw [get_arr l j hj', get_arr l i hi']
  have h1 := sorted_get h (show i ≤ j - 1 by omega) (by omega)
  have h2 := sorted_get h (show j - 1 ≤ j by omega) hj'
  omega
theorem asc_get {l : List Int} (h : List.Pairwise (fun x y : Int => x < y) l) {i j : Nat} (hij : i < j) (hj : j < l.length) : l.getD i 0 < l.getD j 0 := by
  have := List.pairwise_iff_getElem.1 h i j (by omega) hj hij
  simp only [List.getD_eq_getElem?_getD, List.getElem?_eq_getElem hj, List.getElem?_eq_getElem (show i < l.length by omega), Option.getD_some]
  exact this
theorem mem_get {l : List Int} {x : Int} (h : x ∈ l) : ∃ j, j < l.length ∧ l.getD j 0 = x := by
  obtain ⟨j, hj, rfl⟩ := List.getElem_of_mem h
  exact ⟨j, hj, by simp [List.getD_eq_getElem?_getD, hj]⟩
theorem get_mem {l : List Int} {j : Nat} (h : j < l.length) : l.getD j 0 ∈ l := by
  rw [List.getD_eq_getElem?_getD, List.getElem?_eq_getElem h]; exact List.getElem_mem h
/-- No cut lies between two that follow each other. -/
theorem gap {l : List Int} (h : List.Pairwise (fun x y : Int => x < y) l) {i : Nat} (hi : i + 1 < l.length) {x : Int} (hx : x ∈ l) : x ≤ l.getD i 0 ∨ l.getD (i + 1) 0 ≤ x := by
  obtain ⟨j, hj, rfl⟩ := mem_get hx
  rcases Nat.lt_or_ge i j with hlt | hge
  · rcases Nat.lt_or_eq_of_le hlt with h2 | h2
    · exact .inr (Int.le_of_lt (asc_get h h2 hj))
    · exact .inr (by rw [← h2]; exact Int.le_refl _)
  · rcases Nat.lt_or_eq_of_le hge with h2 | h2
    · exact .inl (Int.le_of_lt (asc_get h h2 (by omega)))
    · exact .inl (by rw [h2]; exact Int.le_refl _)
theorem spans_len : ∀ l : List Int, (spans l).length = l.length - 1
  | [] => rfl
  | [_] => rfl
  | a :: b :: l => by rw [spans, List.length_cons, spans_len (b :: l)]; simp
theorem spans_get : ∀ (l : List Int) (i : Nat), i + 1 < l.length → (spans l).getD i default = (l.getD i 0, l.getD (i + 1) 0)
  | [], i, h => by simp at h
  | [_], i, h => by simp at h
  | a :: b :: l, 0, h => rfl
  | a :: b :: l, i + 1, h => by
    rw [spans, List.getD_cons_succ, spans_get (b :: l) i (by simp at h ⊢; omega)]; rfl

section
variable {pe : List UInt8 → Int} {l : List Rule} (h : chkR pe l = 0)
theorem cuts_asc (l : List Rule) : List.Pairwise (fun x y : Int => x < y) (cuts l) := compact_asc (sortI_sorted _)
theorem mem_cuts {x : Int} : x ∈ cuts l ↔ x = 0 ∨ x = 60 ∨ ∃ r, r ∈ l ∧ (x = r.lo ∨ x = r.hi) := by
  rw [cuts, compact_mem, mem_sortI, cutsOf]
  simp [List.mem_flatMap]
include h in
theorem cuts_range {x : Int} (hx : x ∈ cuts l) : 0 ≤ x ∧ x ≤ 60 := by
  rcases mem_cuts.1 hx with rfl | rfl | ⟨r, hr, rfl | rfl⟩
  · omega
  · omega
  · have := range_ok h r hr; omega
  · have := range_ok h r hr; omega
theorem cuts_two (l : List Rule) : 2 ≤ (cuts l).length := by
  obtain ⟨i, hi, h0⟩ := mem_get (mem_cuts (l := l).2 (.inl rfl) : (0 : Int) ∈ cuts l)
  obtain ⟨j, hj, h1⟩ := mem_get (mem_cuts (l := l).2 (.inr (.inl rfl)) : (60 : Int) ∈ cuts l)
  have : i ≠ j := fun e => by subst e; omega
  omega
include h in
theorem cuts_first : (cuts l).getD 0 0 = 0 := by
  have h2 := cuts_two l
  obtain ⟨i, hi, h0⟩ := mem_get (mem_cuts (l := l).2 (.inl rfl) : (0 : Int) ∈ cuts l)
  have h3 := cuts_range h (get_mem (show 0 < (cuts l).length by omega))
  rcases Nat.eq_zero_or_pos i with rfl | hp
  · exact h0
  · have := asc_get (cuts_asc l) hp hi; omega
include h in
theorem cuts_last : (cuts l).getD ((cuts l).length - 1) 0 = 60 := by
  have h2 := cuts_two l
  obtain ⟨i, hi, h0⟩ := mem_get (mem_cuts (l := l).2 (.inr (.inl rfl)) : (60 : Int) ∈ cuts l)
  have h3 := cuts_range h (get_mem (show (cuts l).length - 1 < (cuts l).length by omega))
  rcases Nat.lt_or_eq_of_le (show i ≤ (cuts l).length - 1 by omega) with hp | rfl
  · have := asc_get (cuts_asc l) hp (by omega); omega
  · exact h0
/-- A rule covers a band whole or not at all. -/
theorem whole {r : Rule} (hr : r ∈ l) {i : Nat} (hi : i + 1 < (cuts l).length) (h1 : r.lo < (cuts l).getD (i + 1) 0) (h2 : (cuts l).getD i 0 < r.hi) : r.lo ≤ (cuts l).getD i 0 ∧ (cuts l).getD (i + 1) 0 ≤ r.hi := by
  have a := gap (cuts_asc l) hi (mem_cuts.2 (.inr (.inr ⟨r, hr, .inl rfl⟩)))
  have b := gap (cuts_asc l) hi (mem_cuts.2 (.inr (.inr ⟨r, hr, .inr rfl⟩)))
  omega
include h in
theorem needed {i : Nat} (hi : i + 1 < (cuts l).length) : (cuts l).getD (i + 1) 0 = 60 ∨ ∃ r, r ∈ l ∧ (r.lo = (cuts l).getD (i + 1) 0 ∨ r.hi = (cuts l).getD (i + 1) 0) := by
  have h1 := asc_get (cuts_asc l) (show i < i + 1 by omega) hi
  have h2 := cuts_range h (get_mem (show i < (cuts l).length by omega))
  rcases mem_cuts.1 (get_mem hi) with h3 | h3 | ⟨r, hr, h3⟩
  · omega
  · exact .inl h3
  · exact .inr ⟨r, hr, by omega⟩
end
end Rul
/- The form of rules: plain, no program. -/

set_option linter.unusedVariables false
set_option linter.unusedSimpArgs false
namespace Rul
open Go

abbrev Str := List UInt8
def linesOf : Str → List Str
  | [] => [[]]
  | c :: s => if c = 10 then [] :: linesOf s else (c :: (linesOf s).headD []) :: (linesOf s).tail
theorem lines_ne : ∀ s : Str, linesOf s ≠ []
  | [] => by simp [linesOf]
  | c :: s => by unfold linesOf; split <;> simp
theorem lines_join : ∀ s t : Str, linesOf (s ++ 10 :: t) = linesOf s ++ linesOf t
  | [], t => by simp [linesOf]
  | c :: s, t => by
    rw [List.cons_append, linesOf, linesOf, lines_join s t]
    split
    · rfl
    · cases h : linesOf s with
      | nil => exact absurd h (lines_ne s)
      | cons x xs => rfl
theorem lines_one : ∀ s : Str, (10 : UInt8) ∉ s → linesOf s = [s]
  | [], _ => rfl
  | c :: s, h => by
    have h1 : c ≠ 10 := fun e => h (by simp [e])
    rw [linesOf, if_neg h1, lines_one s (fun e => h (by simp [e]))]; rfl
theorem lines_count : ∀ s : Str, (linesOf s).length = s.count 10 + 1
  | [] => rfl
  | c :: s => by
    rw [linesOf]
    split
    · rename_i h; subst h; rw [List.length_cons, lines_count s]; simp
    · rename_i h
      have := lines_ne s
      have h2 := lines_count s
      cases hl : linesOf s with
      | nil => exact absurd hl this
      | cons x xs => rw [hl] at h2; simp only [List.tail_cons, List.length_cons] at h2 ⊢; rw [List.count_cons_of_ne h]; exact h2

/-- What stands ahead of the first q and behind it. -/
def cutAt (q : UInt8) : Str → Str × Str × Bool
  | [] => ([], [], false)
  | c :: s => if c = q then ([], s, true) else (c :: (cutAt q s).1, (cutAt q s).2.1, (cutAt q s).2.2)
theorem cut_none (q : UInt8) : ∀ s : Str, q ∉ s → cutAt q s = (s, [], false)
  | [], _ => rfl
  | c :: s, h => by
    have h1 : c ≠ q := fun e => h (by simp [e])
    rw [cutAt, if_neg h1, cut_none q s (fun e => h (by simp [e]))]
theorem cut_some (q : UInt8) : ∀ s t : Str, q ∉ s → cutAt q (s ++ q :: t) = (s, t, true)
  | [], t, _ => by simp [cutAt]
  | c :: s, t, h => by
    have h1 : c ≠ q := fun e => h (by simp [e])
    rw [List.cons_append, cutAt, if_neg h1, cut_some q s t (fun e => h (by simp [e]))]
theorem cut_front (q : UInt8) : ∀ s : Str, q ∉ (cutAt q s).1
  | [] => by simp [cutAt]
  | c :: s => by
    rw [cutAt]
    split
    · simp
    · rename_i h
      intro hm
      rcases List.mem_cons.1 hm with e | e
      · exact h e.symm
      · exact cut_front q s e
theorem cut_as (q : UInt8) : ∀ s : Str, s = if (cutAt q s).2.2 then (cutAt q s).1 ++ q :: (cutAt q s).2.1 else (cutAt q s).1
  | [] => rfl
  | c :: s => by
    rw [cutAt]
    split
    · rename_i h; simp [h]
    · have := cut_as q s
      simp only
      split at this
      · rename_i h; rw [if_pos h, List.cons_append, ← this]
      · rename_i h; rw [if_neg h, ← this]
theorem cut_rest_false (q : UInt8) : ∀ s : Str, (cutAt q s).2.2 = false → (cutAt q s).2.1 = []
  | [], _ => rfl
  | c :: s, h => by
    rw [cutAt] at h ⊢
    split at h
    · cases h
    · rename_i h1; rw [if_neg h1]; exact cut_rest_false q s h

def wordsF (cur : Str) : Str → List Str
  | [] => if cur = [] then [] else [cur]
  | c :: s => if c = 32 then (if cur = [] then wordsF [] s else cur :: wordsF [] s) else wordsF (cur ++ [c]) s
def wordsOf (s : Str) : List Str := wordsF [] s
theorem words_ne : ∀ (s cur : Str) (x : Str), x ∈ wordsF cur s → x ≠ []
  | [], cur, x, h => by
    unfold wordsF at h; split at h
    · cases h
    · rename_i hc; simp at h; subst h; exact hc
  | c :: s, cur, x, h => by
    unfold wordsF at h
    split at h
    · split at h
      · exact words_ne s [] x h
      · rename_i hc
        rcases List.mem_cons.1 h with rfl | h
        · exact hc
        · exact words_ne s [] x h
    · exact words_ne s _ x h

def digitsB (s : Str) : Bool := s.all fun c => decide (48 ≤ c.toNat) && decide (c.toNat ≤ 57)
def numB (s : Str) : Bool := !decide (s = []) && decide (s.length ≤ 9) && (decide (s.length ≤ 1) || !decide (s.headD 0 = 48)) && digitsB s
def valOf (s : Str) : Int := s.foldl (fun n c => n * 10 + ((c.toNat : Int) - 48)) 0
def numOf (s : Str) : Int := if numB s then valOf s else 0

def kUrgent : Str := [117, 114, 103, 101, 110, 116]
def kNormal : Str := [110, 111, 114, 109, 97, 108]
def kLater : Str := [108, 97, 116, 101, 114]
def kWait : Str := [119, 97, 105, 116]
def kRows : Str := [114, 111, 119, 115]
def classOf (s : Str) : Int := if s = kUrgent then 1 else if s = kNormal then 2 else if s = kLater then 3 else 0
def trimR (s : Str) : Str := (s.reverse.dropWhile (· == 32)).reverse
def unquote (s : Str) : Option Str := match s.reverse with
  | 34 :: r => some r.reverse
  | _ => none

/-- An option's words, where they stand, and the rest. -/
def optOf (k : Str) (l : List Str) : Option Str × List Str := match l with
  | a :: b :: l => if a = k then (some b, l) else (none, a :: b :: l)
  | l => (none, l)
def rowsOk (s : Str) : Bool := numB (cutAt 45 s).1 && numB (cutAt 45 s).2.1
def optVal : Option Str → Int
  | some x => numOf x
  | none => 0
def zeroR : Rule := ⟨[], [], 0, 0, 0, 0⟩
def lineR (l : List Str) (rest : Str) : Rule × Bool :=
  match unquote (trimR rest), l with
  | some text, a :: b :: l =>
    let r : Rule := ⟨a, text, 0, 60, classOf b, 0⟩
    match optOf kWait l with
    | (w, l) =>
      if w.all numB = false then (zeroR, false)
      else
        let r : Rule := { r with wait := optVal w }
        match optOf kRows l with
        | (some x, l) => ({ r with lo := numOf (cutAt 45 x).1 - 1, hi := numOf (cutAt 45 x).2.1 }, rowsOk x && decide (l = []))
        | (none, l) => (r, decide (l = []))
  | _, _ => (zeroR, false)

inductive LK where
  | skip
  | bad
  | rule (r : Rule)
def lineK (s : Str) : LK :=
  if (wordsOf (cutAt 34 s).1 = [] ∧ (cutAt 34 s).2.2 = false) ∨ ((wordsOf (cutAt 34 s).1).headD []).head? = some 35 then .skip
  else if (cutAt 34 s).2.2 = true ∧ (lineR (wordsOf (cutAt 34 s).1) (cutAt 34 s).2.1).2 = true then .rule (lineR (wordsOf (cutAt 34 s).1) (cutAt 34 s).2.1).1 else .bad

section
variable (pe : Str → Int)
def parseF (out : List Rule) (i : Nat) : List Str → List Rule × Int × Int
  | [] => (out, 0, 0)
  | s :: ls => match lineK s with
    | .skip => parseF out (i + 1) ls
    | .bad => ([], i + 1, 3)
    | .rule r => if chkR pe (out ++ [r]) = 0 then parseF (out ++ [r]) (i + 1) ls else ([], i + 1, chkR pe (out ++ [r]))
def parseT (s : Str) : List Rule × Int × Int := parseF pe [] 0 (linesOf s)
end

def rulesOf : List Str → Option (List Rule)
  | [] => some []
  | s :: ls => match lineK s with
    | .skip => rulesOf ls
    | .bad => none
    | .rule r => (rulesOf ls).map (r :: ·)
theorem rulesOf_app : ∀ (a b : List Str), rulesOf (a ++ b) = (rulesOf a).bind fun x => (rulesOf b).map (x ++ ·)
  | [], b => by simp [rulesOf]
  | s :: a, b => by
    rw [List.cons_append, rulesOf, rulesOf, rulesOf_app a b]
    cases lineK s with
    | skip => rfl
    | bad => rfl
    | rule r => cases rulesOf a <;> cases rulesOf b <;> simp

variable {pe : Str → Int}
theorem chk_nil : chkR pe [] = 0 := by simp [chkR, chkFrom]
theorem chkFrom_app : ∀ (a b : List Rule) (used : List Str), chkFrom pe used (a ++ b) = 0 → chkFrom pe used a = 0
  | [], b, used, _ => rfl
  | r :: a, b, used, h => by
    rw [List.cons_append] at h
    unfold chkFrom at h ⊢
    split
    · rename_i h1; rw [if_pos h1] at h; exact h
    · rename_i h1
      rw [if_neg h1] at h
      split
      · rename_i h2; rw [if_pos h2] at h; exact h
      · rename_i h2
        rw [if_neg h2] at h
        split
        · rename_i h3; rw [if_pos h3] at h; exact chkFrom_app a b _ h
        · rename_i h3; rw [if_neg h3] at h; exact h
theorem chk_app {a b : List Rule} (h : chkR pe (a ++ b) = 0) : chkR pe a = 0 := by
  unfold chkR at h ⊢
  split at h
  · omega
  · rename_i h1
    rw [List.length_append] at h1
    rw [if_neg (by omega)]
    exact chkFrom_app a b [] h

theorem parse_good : ∀ (ls : List Str) (out rs : List Rule) (i : Nat), rulesOf ls = some rs → chkR pe (out ++ rs) = 0 → parseF pe out i ls = (out ++ rs, 0, 0)
  | [], out, rs, i, h, _ => by simp only [rulesOf, Option.some.injEq] at h; subst h; simp [parseF]
  | s :: ls, out, rs, i, h, hc => by
    rw [rulesOf] at h
    rw [parseF]
    cases hk : lineK s with
    | skip => rw [hk] at h; exact parse_good ls out rs (i + 1) h hc
    | bad => rw [hk] at h; cases h
    | rule r =>
      rw [hk] at h
      simp only [Option.map_eq_some_iff] at h
      obtain ⟨t, ht, rfl⟩ := h
      have e : out ++ r :: t = out ++ [r] ++ t := by simp
      rw [e] at hc ⊢
      simp only [if_pos (chk_app hc)]
      exact parse_good ls (out ++ [r]) t (i + 1) ht hc
theorem parse_bad : ∀ (ls : List Str) (out : List Rule) (i : Nat), chkR pe out = 0 → (∀ rs, rulesOf ls = some rs → chkR pe (out ++ rs) ≠ 0) →
    (parseF pe out i ls).1 = [] ∧ (parseF pe out i ls).2.2 ≠ 0 ∧ (i : Int) + 1 ≤ (parseF pe out i ls).2.1 ∧ (parseF pe out i ls).2.1 ≤ i + ls.length
  | [], out, i, hc, h => absurd hc (by simpa using h [] rfl)
  | s :: ls, out, i, hc, h => by
    rw [parseF]
    cases hk : lineK s with
    | skip =>
      have := parse_bad ls out (i + 1) hc (fun rs hr => h rs (by rw [rulesOf, hk]; exact hr))
      simp only [List.length_cons]
      refine ⟨this.1, this.2.1, ?_, ?_⟩ <;> omega
    | bad => simp only [List.length_cons]; refine ⟨trivial, by decide, ?_, ?_⟩ <;> omega
    | rule r =>
      by_cases h1 : chkR pe (out ++ [r]) = 0
      · simp only [if_pos h1]
        have := parse_bad ls (out ++ [r]) (i + 1) h1 (fun rs hr => by
          have := h (r :: rs) (by rw [rulesOf, hk, hr]; rfl)
          simpa using this)
        simp only [List.length_cons]
        refine ⟨this.1, this.2.1, ?_, ?_⟩ <;> omega
      · simp only [if_neg h1, List.length_cons]
        refine ⟨trivial, h1, ?_, ?_⟩ <;> omega

theorem parse_ok {ls : List Str} {out : List Rule} {i : Nat} (hc : chkR pe out = 0) (h : (parseF pe out i ls).2.2 = 0) : ∃ rs, rulesOf ls = some rs ∧ chkR pe (out ++ rs) = 0 ∧ parseF pe out i ls = (out ++ rs, 0, 0) := by
  by_cases hx : ∃ rs, rulesOf ls = some rs ∧ chkR pe (out ++ rs) = 0
  · obtain ⟨rs, h1, h2⟩ := hx
    exact ⟨rs, h1, h2, parse_good ls out rs i h1 h2⟩
  · exact absurd h (parse_bad ls out i hc (fun rs hr hz => hx ⟨rs, hr, hz⟩)).2.1

/-- Rules that are read are proper; an error belongs to a line that there is. -/
theorem proper_ok (s : Str) : ((parseT pe s).2.2 = 0 → (parseT pe s).2.1 = 0 ∧ chkR pe (parseT pe s).1 = 0) ∧
    ((parseT pe s).2.2 ≠ 0 → (parseT pe s).1 = [] ∧ 1 ≤ (parseT pe s).2.1 ∧ (parseT pe s).2.1 ≤ s.count 10 + 1) := by
  refine ⟨fun h => ?_, fun h => ?_⟩
  · obtain ⟨rs, h1, h2, h3⟩ := parse_ok chk_nil h
    rw [parseT, h3]; exact ⟨rfl, h2⟩
  · have := parse_bad (pe := pe) (linesOf s) [] 0 chk_nil (fun rs hr hz => h (by rw [parseT, parse_good (linesOf s) [] rs 0 hr hz]))
    rw [lines_count] at this
    refine ⟨this.1, ?_, ?_⟩
    · have := this.2.2.1; simpa [parseT] using this
    · have := this.2.2.2; simpa [parseT] using this
/-- Two texts joined by a line feed. -/
theorem joins_ok {s t : Str} (h1 : (parseT pe s).2.2 = 0) (h2 : (parseT pe t).2.2 = 0) :
    (chkR pe ((parseT pe s).1 ++ (parseT pe t).1) = 0 → parseT pe (s ++ 10 :: t) = ((parseT pe s).1 ++ (parseT pe t).1, 0, 0)) ∧
    (chkR pe ((parseT pe s).1 ++ (parseT pe t).1) ≠ 0 → (parseT pe (s ++ 10 :: t)).2.2 ≠ 0) := by
  obtain ⟨a, a1, a2, a3⟩ := parse_ok chk_nil h1
  obtain ⟨b, b1, b2, b3⟩ := parse_ok chk_nil h2
  have ea : (parseT pe s).1 = a := by rw [parseT, a3]; rfl
  have eb : (parseT pe t).1 = b := by rw [parseT, b3]; rfl
  rw [ea, eb]
  have hr : rulesOf (linesOf (s ++ 10 :: t)) = some (a ++ b) := by rw [lines_join, rulesOf_app, a1, b1]; rfl
  refine ⟨fun h => ?_, fun h => ?_⟩
  · rw [parseT, parse_good _ [] _ 0 hr h]; rfl
  · exact (parse_bad _ [] 0 chk_nil (fun rs hrs hz => by rw [hr] at hrs; cases hrs; exact h hz)).2.1
end Rul
