/- Part of a proof about the functions of this seat. -/
import Derived.Test.YtebejiilpedlmaaGreatDoorEv31
import Derived.Test.YtebejiilpedlmaaGreatDoorNvT
set_option linter.unusedVariables false
set_option maxRecDepth 100000
namespace Go.Proofs.YtebejiilpedlmaaGreatDoor
open Go Nv
def kI (n : Int) : DV := .int .i64 n
def kR (a b : Int) : DV := .agg [.int .i32 a, .int .i32 b]
def kS (a b : Int) : DV := .agg [kI 2, .list 2 [kR a b], .nilslice, kI 0, kI 0]
def kN1 : AV := .agg [.d (kI 4), .d .nilslice, .d (.list 5 [kS 97 97, .agg [kI 5, .nilslice, .list 5 [kS 98 98], kI 0, kI (-1)]]), .d (kI 0), .d (kI 0)]
def kN3 : AV := .agg [.d (kI 3), .d .nilslice, .d (.list 5 [kS 120 120, .agg [kI 5, .nilslice, .list 5 [kS 97 98], kI 1, kI (-1)]]), .d (kI 0), .d (kI 0)]
def kN0 : AV := .agg [.d (kI 0), .d .nilslice, .d .nilslice, .d (kI 0), .d (kI 0)]
def kP1 : List UInt8 := [97, 124, 98, 42]
def kP2 : List UInt8 := [91, 99, 45, 97, 98, 93]
def kP3 : List UInt8 := [40, 120, 41, 91, 98, 97, 93, 123, 49, 44, 125]
theorem kparse1 : PCall Tryz.prog 14 [.d (.str kP1)] (.tuple [kN1, .d (kI 0)]) := ev_pcall E31_ok (n := 400) (by kernel_rfl)
theorem kparse2 : PCall Tryz.prog 14 [.d (.str kP2)] (.tuple [kN0, .d (kI 3)]) := ev_pcall E31_ok (n := 400) (by kernel_rfl)
theorem kparse3 : PCall Tryz.prog 14 [.d (.str kP3)] (.tuple [kN3, .d (kI 0)]) := ev_pcall E31_ok (n := 600) (by kernel_rfl)
theorem kformat : PCall Tryz.prog 12 [kN3] (.tuple [.d (.str [120, 91, 97, 45, 98, 93, 43]), .d (kI 0)]) := ev_pcall E31_ok (n := 600) (by kernel_rfl)
theorem kmatch1 : PCall Tryz.prog 17 [kN1, .d (.str [97])] (.d (.bool true)) := ev_pcall E31_ok (n := 600) (by kernel_rfl)
theorem kmatch2 : PCall Tryz.prog 17 [kN1, .d (.str [])] (.d (.bool true)) := ev_pcall E31_ok (n := 600) (by kernel_rfl)
theorem kmatch3 : PCall Tryz.prog 17 [kN1, .d (.str [98, 98, 98])] (.d (.bool true)) := ev_pcall E31_ok (n := 600) (by kernel_rfl)
theorem kmatch4 : PCall Tryz.prog 17 [kN1, .d (.str [97, 98])] (.d (.bool false)) := ev_pcall E31_ok (n := 600) (by kernel_rfl)
def kK : List Known := ⟨14, [.d (.str kP1)], .tuple [kN1, .d (kI 0)]⟩ :: ⟨14, [.d (.str kP2)], .tuple [kN0, .d (kI 3)]⟩ :: ⟨14, [.d (.str kP3)], .tuple [kN3, .d (kI 0)]⟩ ::
  ⟨12, [kN3], .tuple [.d (.str [120, 91, 97, 45, 98, 93, 43]), .d (kI 0)]⟩ :: ⟨17, [kN1, .d (.str [97])], .d (.bool true)⟩ :: ⟨17, [kN1, .d (.str [])], .d (.bool true)⟩ ::
  ⟨17, [kN1, .d (.str [98, 98, 98])], .d (.bool true)⟩ :: ⟨17, [kN1, .d (.str [97, 98])], .d (.bool false)⟩ :: []
noncomputable def EK31 : Eenv := E31.know kK
theorem EK31_ok : EnvOK Tryz.prog EK31 := E31_ok.know ⟨⟨kparse1, by kernel_rfl⟩, ⟨kparse2, by kernel_rfl⟩, ⟨kparse3, by kernel_rfl⟩, ⟨kformat, by kernel_rfl⟩, ⟨kmatch1, by kernel_rfl⟩, ⟨kmatch2, by kernel_rfl⟩, ⟨kmatch3, by kernel_rfl⟩, ⟨kmatch4, by kernel_rfl⟩, trivial⟩
theorem awake11 : PCall Tryz.prog 11 [] (.d (.bool true)) := ev_pcall EK31_ok (n := 400) (by kernel_rfl)
end Go.Proofs.YtebejiilpedlmaaGreatDoor
