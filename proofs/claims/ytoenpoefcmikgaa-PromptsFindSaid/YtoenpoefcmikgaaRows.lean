/-
  No cell of these rows narrows 'for every input' (looked for: loops, veiled, ifaces, maps, wideKeys, modest, calm, conditions, laid).
  DERIVED. THE GIVEN ROWS OF THIS SEAT. 8 by the template 'for every input the law returns true; each argument reads behind the call as it read before'; 0 by the template 'total and deterministic' (their statements: YtoenpoefcmikgaaTotals.lean).
  GIVEN WITH THE SEED: the statements are not yours to turn. If you find one false, say at which input.
  Laid BY PROGRAM, IN A SANDBOX (cutbox-rows.mjs): the forced cells as the released guide's own fill.sh prints them over the translation c0180269bf1c84e7… (all of the seat's roots in one cut). By AI agents, Wed Nov 11 2026. No macro, syntax, notation, axiom, sorry.
-/
import Derived.Test.YtoenpoefcmikgaaChecked
import GoSem.Claim
import GoSem.ClaimJoined
import GoSem.ClaimMapViews
import Derived.JoinedTies
import Derived.KernelRfl
namespace Go.Proofs.Ytoenpoefcmikgaa
/- THE CELL 'sum', in the pinned program and in every row, IS THE sha256 OF THE DUMP (.gsa) THAT YtoenpoefcmikgaaProg.lean LOADS. Nothing in Lean hashes anything: it is a label: what it is worth is what the hold of that sum in a sandbox is worth. -/
noncomputable def Try.pinned : Pinned := { name := "ytoenpoefcmikgaa", sum := "c0180269bf1c84e75ef2bc5381959251d2eeb6f5bb25f5609d26827614279d5e", checked := Try.checked }
namespace Rows
def none {H : Type} : Left H := { results := [], args := [] }

/-- 'narratorlaw26.PromptsEnds': WHATEVER THE INPUT: true; the input reads as it did. -/
def promptsEndsSpec : ChangeSpec := { name := "promptsEnds", fn := fun _ => fun
  | [d] => { results := [.lit (.bool true)], args := [d] }
  | _ => none }
def promptsEndsRow : OpenClaim := { program := "ytoenpoefcmikgaa", sum := "c0180269bf1c84e75ef2bc5381959251d2eeb6f5bb25f5609d26827614279d5e", func := "narrator/narratorlaw26.PromptsEnds", spec := "promptsEnds", inPlace := ["internal/bytealg.IndexByteString", "internal/bytealg.IndexString", "internal/abi.NoEscape"], unfollowed := true, recurses := true, named := ["internal/bytealg.MaxLen"], apart := false }
def PromptsEndsSaid : Prop := promptsEndsRow.holds Try.pinned (OpenSpec.ofChange promptsEndsSpec)

/-- ITS FALSE NEIGHBOUR: 'it returns false'. Refute it at one input. -/
def promptsEndsWrong : ChangeSpec := { name := "promptsEnds", fn := fun _ => fun
  | [d] => { results := [.lit (.bool false)], args := [d] }
  | _ => none }
def PromptsEndsWrongFalsely : Prop := promptsEndsRow.holds Try.pinned (OpenSpec.ofChange promptsEndsWrong)

/-- 'narratorlaw26.PromptsDivide': WHATEVER THE INPUT: true; the input reads as it did. -/
def promptsDivideSpec : ChangeSpec := { name := "promptsDivide", fn := fun _ => fun
  | [d] => { results := [.lit (.bool true)], args := [d] }
  | _ => none }
def promptsDivideRow : OpenClaim := { program := "ytoenpoefcmikgaa", sum := "c0180269bf1c84e75ef2bc5381959251d2eeb6f5bb25f5609d26827614279d5e", func := "narrator/narratorlaw26.PromptsDivide", spec := "promptsDivide", inPlace := ["internal/bytealg.IndexByteString", "internal/bytealg.IndexString", "internal/abi.NoEscape"], unfollowed := true, recurses := true, named := ["internal/bytealg.MaxLen"], apart := false }
def PromptsDivideSaid : Prop := promptsDivideRow.holds Try.pinned (OpenSpec.ofChange promptsDivideSpec)

/-- ITS FALSE NEIGHBOUR: 'it returns false'. Refute it at one input. -/
def promptsDivideWrong : ChangeSpec := { name := "promptsDivide", fn := fun _ => fun
  | [d] => { results := [.lit (.bool false)], args := [d] }
  | _ => none }
def PromptsDivideWrongFalsely : Prop := promptsDivideRow.holds Try.pinned (OpenSpec.ofChange promptsDivideWrong)

/-- 'narratorlaw26.PromptsFirst': WHATEVER THE INPUT: true; the input reads as it did. -/
def promptsFirstSpec : ChangeSpec := { name := "promptsFirst", fn := fun _ => fun
  | [d] => { results := [.lit (.bool true)], args := [d] }
  | _ => none }
def promptsFirstRow : OpenClaim := { program := "ytoenpoefcmikgaa", sum := "c0180269bf1c84e75ef2bc5381959251d2eeb6f5bb25f5609d26827614279d5e", func := "narrator/narratorlaw26.PromptsFirst", spec := "promptsFirst", inPlace := ["internal/bytealg.IndexByteString", "internal/bytealg.IndexString", "internal/abi.NoEscape"], unfollowed := true, recurses := true, named := ["internal/bytealg.MaxLen"], apart := false }
def PromptsFirstSaid : Prop := promptsFirstRow.holds Try.pinned (OpenSpec.ofChange promptsFirstSpec)

/-- ITS FALSE NEIGHBOUR: 'it returns false'. Refute it at one input. -/
def promptsFirstWrong : ChangeSpec := { name := "promptsFirst", fn := fun _ => fun
  | [d] => { results := [.lit (.bool false)], args := [d] }
  | _ => none }
def PromptsFirstWrongFalsely : Prop := promptsFirstRow.holds Try.pinned (OpenSpec.ofChange promptsFirstWrong)

/-- 'narratorlaw26.PromptsTyping': WHATEVER THE INPUT: true; the input reads as it did. -/
def promptsTypingSpec : ChangeSpec := { name := "promptsTyping", fn := fun _ => fun
  | [d1, d2] => { results := [.lit (.bool true)], args := [d1, d2] }
  | _ => none }
def promptsTypingRow : OpenClaim := { program := "ytoenpoefcmikgaa", sum := "c0180269bf1c84e75ef2bc5381959251d2eeb6f5bb25f5609d26827614279d5e", func := "narrator/narratorlaw26.PromptsTyping", spec := "promptsTyping", inPlace := ["internal/bytealg.IndexByteString", "internal/bytealg.IndexString", "internal/abi.NoEscape"], unfollowed := true, recurses := true, named := ["internal/bytealg.MaxLen"], apart := false }
def PromptsTypingSaid : Prop := promptsTypingRow.holds Try.pinned (OpenSpec.ofChange promptsTypingSpec)

/-- ITS FALSE NEIGHBOUR: 'it returns false'. Refute it at one input. -/
def promptsTypingWrong : ChangeSpec := { name := "promptsTyping", fn := fun _ => fun
  | [d1, d2] => { results := [.lit (.bool false)], args := [d1, d2] }
  | _ => none }
def PromptsTypingWrongFalsely : Prop := promptsTypingRow.holds Try.pinned (OpenSpec.ofChange promptsTypingWrong)

/-- 'narratorlaw26.PromptsPlain': WHATEVER THE INPUT: true; the input reads as it did. -/
def promptsPlainSpec : ChangeSpec := { name := "promptsPlain", fn := fun _ => fun
  | [d1, d2] => { results := [.lit (.bool true)], args := [d1, d2] }
  | _ => none }
def promptsPlainRow : OpenClaim := { program := "ytoenpoefcmikgaa", sum := "c0180269bf1c84e75ef2bc5381959251d2eeb6f5bb25f5609d26827614279d5e", func := "narrator/narratorlaw26.PromptsPlain", spec := "promptsPlain", inPlace := ["internal/bytealg.IndexByteString", "internal/bytealg.IndexString", "internal/abi.NoEscape"], unfollowed := true, recurses := true, named := ["internal/bytealg.MaxLen"], apart := false }
def PromptsPlainSaid : Prop := promptsPlainRow.holds Try.pinned (OpenSpec.ofChange promptsPlainSpec)

/-- ITS FALSE NEIGHBOUR: 'it returns false'. Refute it at one input. -/
def promptsPlainWrong : ChangeSpec := { name := "promptsPlain", fn := fun _ => fun
  | [d1, d2] => { results := [.lit (.bool false)], args := [d1, d2] }
  | _ => none }
def PromptsPlainWrongFalsely : Prop := promptsPlainRow.holds Try.pinned (OpenSpec.ofChange promptsPlainWrong)

/-- 'narratorlaw26.PromptsFind': WHATEVER THE INPUT: true; the input reads as it did. -/
def promptsFindSpec : ChangeSpec := { name := "promptsFind", fn := fun _ => fun
  | [d1, d2] => { results := [.lit (.bool true)], args := [d1, d2] }
  | _ => none }
def promptsFindRow : OpenClaim := { program := "ytoenpoefcmikgaa", sum := "c0180269bf1c84e75ef2bc5381959251d2eeb6f5bb25f5609d26827614279d5e", func := "narrator/narratorlaw26.PromptsFind", spec := "promptsFind", inPlace := ["internal/bytealg.IndexByteString", "internal/bytealg.IndexString", "internal/abi.NoEscape"], unfollowed := true, recurses := true, named := ["internal/bytealg.MaxLen"], apart := false }
def PromptsFindSaid : Prop := promptsFindRow.holds Try.pinned (OpenSpec.ofChange promptsFindSpec)

/-- ITS FALSE NEIGHBOUR: 'it returns false'. Refute it at one input. -/
def promptsFindWrong : ChangeSpec := { name := "promptsFind", fn := fun _ => fun
  | [d1, d2] => { results := [.lit (.bool false)], args := [d1, d2] }
  | _ => none }
def PromptsFindWrongFalsely : Prop := promptsFindRow.holds Try.pinned (OpenSpec.ofChange promptsFindWrong)

/-- 'narratorlaw26.PromptsRegion': WHATEVER THE INPUT: true; the input reads as it did. -/
def promptsRegionSpec : ChangeSpec := { name := "promptsRegion", fn := fun _ => fun
  | [d] => { results := [.lit (.bool true)], args := [d] }
  | _ => none }
def promptsRegionRow : OpenClaim := { program := "ytoenpoefcmikgaa", sum := "c0180269bf1c84e75ef2bc5381959251d2eeb6f5bb25f5609d26827614279d5e", func := "narrator/narratorlaw26.PromptsRegion", spec := "promptsRegion", inPlace := ["internal/bytealg.IndexByteString", "internal/bytealg.IndexString", "internal/abi.NoEscape"], unfollowed := true, recurses := true, named := ["internal/bytealg.MaxLen"], apart := false }
def PromptsRegionSaid : Prop := promptsRegionRow.holds Try.pinned (OpenSpec.ofChange promptsRegionSpec)

/-- ITS FALSE NEIGHBOUR: 'it returns false'. Refute it at one input. -/
def promptsRegionWrong : ChangeSpec := { name := "promptsRegion", fn := fun _ => fun
  | [d] => { results := [.lit (.bool false)], args := [d] }
  | _ => none }
def PromptsRegionWrongFalsely : Prop := promptsRegionRow.holds Try.pinned (OpenSpec.ofChange promptsRegionWrong)

/-- 'narratorlaw26.PromptsCursor': WHATEVER THE INPUT: true; the input reads as it did. -/
def promptsCursorSpec : ChangeSpec := { name := "promptsCursor", fn := fun _ => fun
  | [d1, d2] => { results := [.lit (.bool true)], args := [d1, d2] }
  | _ => none }
def promptsCursorRow : OpenClaim := { program := "ytoenpoefcmikgaa", sum := "c0180269bf1c84e75ef2bc5381959251d2eeb6f5bb25f5609d26827614279d5e", func := "narrator/narratorlaw26.PromptsCursor", spec := "promptsCursor", inPlace := ["internal/bytealg.IndexByteString", "internal/bytealg.IndexString", "internal/abi.NoEscape"], unfollowed := true, recurses := true, named := ["internal/bytealg.MaxLen"], apart := false }
def PromptsCursorSaid : Prop := promptsCursorRow.holds Try.pinned (OpenSpec.ofChange promptsCursorSpec)

/-- ITS FALSE NEIGHBOUR: 'it returns false'. Refute it at one input. -/
def promptsCursorWrong : ChangeSpec := { name := "promptsCursor", fn := fun _ => fun
  | [d1, d2] => { results := [.lit (.bool false)], args := [d1, d2] }
  | _ => none }
def PromptsCursorWrongFalsely : Prop := promptsCursorRow.holds Try.pinned (OpenSpec.ofChange promptsCursorWrong)

/- THE SECOND FORM. 'bulk': how many values and letters a reading holds, each counted each time it is reached (what is shared counts as often as it is met; a slice's spare places count too). A statement '..UptoSaid' is the law's where the arguments, and the package variables that the reading takes, are together of bulk at most 1048576: NARROWER than '..Said'. Prove '..Said' where nothing that the law and all that it calls make is longer than what came in: it says more and counts as full. Else prove '..UptoSaid'. A law counts once. -/
mutual
def uptoBulk {H : Type} : DataW H → Nat
  | .lit (.string bytes) => bytes.length + 1
  | .lit _ => 1
  | .nil => 1
  | .ptr d => uptoBulk d + 1
  | .slice elems spare => uptoBulkAll elems + uptoBulkAll spare + 1
  | .agg parts => uptoBulkAll parts + 1
  | .iface _ d => uptoBulk d + 1
  | .map entries => uptoBulkEntries entries + 1
  | .held _ => 1
def uptoBulkAll {H : Type} : List (DataW H) → Nat
  | [] => 0
  | d :: r => uptoBulk d + uptoBulkAll r
def uptoBulkEntries {H : Type} : List (Lit × DataW H) → Nat
  | [] => 0
  | x :: r => uptoBulkEntry x + uptoBulkEntries r
def uptoBulkEntry {H : Type} : Lit × DataW H → Nat
  | (.string bytes, d) => bytes.length + uptoBulk d + 1
  | (_, d) => uptoBulk d + 1
 end
def uptoSmall : (H : Type) → List (DataW H) → Bool := fun _ ds => decide (uptoBulkAll ds ≤ 1048576)
def OpenSpec.upto (s : _root_.Go.ChangeSpec) : _root_.Go.OpenSpec := { _root_.Go.OpenSpec.ofChange s with cond := some uptoSmall }

/-- 'narratorlaw26.PromptsEnds', WHERE WHAT IT READS IS OF BULK AT MOST 1048576: true; the input reads as it did. -/
def promptsEndsUptoRow : OpenClaim := { program := "ytoenpoefcmikgaa", sum := "c0180269bf1c84e75ef2bc5381959251d2eeb6f5bb25f5609d26827614279d5e", func := "narrator/narratorlaw26.PromptsEnds", spec := "promptsEnds", inPlace := ["internal/bytealg.IndexByteString", "internal/bytealg.IndexString", "internal/abi.NoEscape"], unfollowed := true, recurses := true, named := ["internal/bytealg.MaxLen"], apart := false, narrowed := true }
def PromptsEndsUptoSaid : Prop := promptsEndsUptoRow.holds Try.pinned (OpenSpec.upto promptsEndsSpec)

/-- 'narratorlaw26.PromptsDivide', WHERE WHAT IT READS IS OF BULK AT MOST 1048576: true; the input reads as it did. -/
def promptsDivideUptoRow : OpenClaim := { program := "ytoenpoefcmikgaa", sum := "c0180269bf1c84e75ef2bc5381959251d2eeb6f5bb25f5609d26827614279d5e", func := "narrator/narratorlaw26.PromptsDivide", spec := "promptsDivide", inPlace := ["internal/bytealg.IndexByteString", "internal/bytealg.IndexString", "internal/abi.NoEscape"], unfollowed := true, recurses := true, named := ["internal/bytealg.MaxLen"], apart := false, narrowed := true }
def PromptsDivideUptoSaid : Prop := promptsDivideUptoRow.holds Try.pinned (OpenSpec.upto promptsDivideSpec)

/-- 'narratorlaw26.PromptsFirst', WHERE WHAT IT READS IS OF BULK AT MOST 1048576: true; the input reads as it did. -/
def promptsFirstUptoRow : OpenClaim := { program := "ytoenpoefcmikgaa", sum := "c0180269bf1c84e75ef2bc5381959251d2eeb6f5bb25f5609d26827614279d5e", func := "narrator/narratorlaw26.PromptsFirst", spec := "promptsFirst", inPlace := ["internal/bytealg.IndexByteString", "internal/bytealg.IndexString", "internal/abi.NoEscape"], unfollowed := true, recurses := true, named := ["internal/bytealg.MaxLen"], apart := false, narrowed := true }
def PromptsFirstUptoSaid : Prop := promptsFirstUptoRow.holds Try.pinned (OpenSpec.upto promptsFirstSpec)

/-- 'narratorlaw26.PromptsTyping', WHERE WHAT IT READS IS OF BULK AT MOST 1048576: true; the input reads as it did. -/
def promptsTypingUptoRow : OpenClaim := { program := "ytoenpoefcmikgaa", sum := "c0180269bf1c84e75ef2bc5381959251d2eeb6f5bb25f5609d26827614279d5e", func := "narrator/narratorlaw26.PromptsTyping", spec := "promptsTyping", inPlace := ["internal/bytealg.IndexByteString", "internal/bytealg.IndexString", "internal/abi.NoEscape"], unfollowed := true, recurses := true, named := ["internal/bytealg.MaxLen"], apart := false, narrowed := true }
def PromptsTypingUptoSaid : Prop := promptsTypingUptoRow.holds Try.pinned (OpenSpec.upto promptsTypingSpec)

/-- 'narratorlaw26.PromptsPlain', WHERE WHAT IT READS IS OF BULK AT MOST 1048576: true; the input reads as it did. -/
def promptsPlainUptoRow : OpenClaim := { program := "ytoenpoefcmikgaa", sum := "c0180269bf1c84e75ef2bc5381959251d2eeb6f5bb25f5609d26827614279d5e", func := "narrator/narratorlaw26.PromptsPlain", spec := "promptsPlain", inPlace := ["internal/bytealg.IndexByteString", "internal/bytealg.IndexString", "internal/abi.NoEscape"], unfollowed := true, recurses := true, named := ["internal/bytealg.MaxLen"], apart := false, narrowed := true }
def PromptsPlainUptoSaid : Prop := promptsPlainUptoRow.holds Try.pinned (OpenSpec.upto promptsPlainSpec)

/-- 'narratorlaw26.PromptsFind', WHERE WHAT IT READS IS OF BULK AT MOST 1048576: true; the input reads as it did. -/
def promptsFindUptoRow : OpenClaim := { program := "ytoenpoefcmikgaa", sum := "c0180269bf1c84e75ef2bc5381959251d2eeb6f5bb25f5609d26827614279d5e", func := "narrator/narratorlaw26.PromptsFind", spec := "promptsFind", inPlace := ["internal/bytealg.IndexByteString", "internal/bytealg.IndexString", "internal/abi.NoEscape"], unfollowed := true, recurses := true, named := ["internal/bytealg.MaxLen"], apart := false, narrowed := true }
def PromptsFindUptoSaid : Prop := promptsFindUptoRow.holds Try.pinned (OpenSpec.upto promptsFindSpec)

/-- 'narratorlaw26.PromptsRegion', WHERE WHAT IT READS IS OF BULK AT MOST 1048576: true; the input reads as it did. -/
def promptsRegionUptoRow : OpenClaim := { program := "ytoenpoefcmikgaa", sum := "c0180269bf1c84e75ef2bc5381959251d2eeb6f5bb25f5609d26827614279d5e", func := "narrator/narratorlaw26.PromptsRegion", spec := "promptsRegion", inPlace := ["internal/bytealg.IndexByteString", "internal/bytealg.IndexString", "internal/abi.NoEscape"], unfollowed := true, recurses := true, named := ["internal/bytealg.MaxLen"], apart := false, narrowed := true }
def PromptsRegionUptoSaid : Prop := promptsRegionUptoRow.holds Try.pinned (OpenSpec.upto promptsRegionSpec)

/-- 'narratorlaw26.PromptsCursor', WHERE WHAT IT READS IS OF BULK AT MOST 1048576: true; the input reads as it did. -/
def promptsCursorUptoRow : OpenClaim := { program := "ytoenpoefcmikgaa", sum := "c0180269bf1c84e75ef2bc5381959251d2eeb6f5bb25f5609d26827614279d5e", func := "narrator/narratorlaw26.PromptsCursor", spec := "promptsCursor", inPlace := ["internal/bytealg.IndexByteString", "internal/bytealg.IndexString", "internal/abi.NoEscape"], unfollowed := true, recurses := true, named := ["internal/bytealg.MaxLen"], apart := false, narrowed := true }
def PromptsCursorUptoSaid : Prop := promptsCursorUptoRow.holds Try.pinned (OpenSpec.upto promptsCursorSpec)

end Rows
end Go.Proofs.Ytoenpoefcmikgaa
