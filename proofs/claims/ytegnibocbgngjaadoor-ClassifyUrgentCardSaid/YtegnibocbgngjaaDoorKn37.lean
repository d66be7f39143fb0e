/- Part of a proof about the functions of this seat. -/
import Derived.Test.YtegnibocbgngjaaDoorEv37
import Derived.Test.YtegnibocbgngjaaDoorNvT2
set_option linter.unusedVariables false
set_option maxRecDepth 100000
namespace Go.Proofs.YtegnibocbgngjaaDoor
open Go Nv
def i64 (n : Int) : DV := .int .i64 n
def rg (a b : Int) : DV := .agg [.int .i32 a, .int .i32 b]
def one1 (c : Int) : DV := .agg [i64 2, .list 2 [rg c c], .nilslice, i64 0, i64 0]
def dot : DV := .agg [i64 2, .list 2 [rg 0 55295, rg 57344 1114111], .nilslice, i64 0, i64 0]
def star : List DV := [i64 5, .nilslice, .list 5 [dot], i64 0, .int .i64 (-1)]
def sA : List UInt8 := [97]
def sB : List UInt8 := [98]
def sE : List UInt8 := [101, 114, 114, 111, 114, 46, 42]
def sD : List UInt8 := [46, 42]
def tE : List UInt8 := [101, 114, 114, 111, 114, 32, 53]
def tT : List UInt8 := [49, 50, 58, 51, 48]
def nE : AV := .agg [.d (i64 3), .d .nilslice, .d (.list 5 [one1 101, one1 114, one1 114, one1 111, one1 114, .agg star]), .d (i64 0), .d (i64 0)]
def nD : AV := .agg (star.map AV.d)
def ok (v : AV) : AV := .tuple [v, .d (i64 0)]
def rA : DV := .agg [.str sA, .str sE, i64 0, i64 60, i64 1, i64 0]
def rB : DV := .agg [.str sB, .str sD, i64 0, i64 60, i64 3, i64 500]
def rules : AV := .d (.list 6 [rA, rB])
theorem parseE : PCall Tryd.prog 21 [.d (.str sE)] (ok nE) := ev_pcall E37_ok (n := 300) (by kernel_rfl)
theorem parseD : PCall Tryd.prog 21 [.d (.str sD)] (ok nD) := ev_pcall E37_ok (n := 300) (by kernel_rfl)
def k1 : List Known := [⟨21, [.d (.str sE)], ok nE⟩, ⟨21, [.d (.str sD)], ok nD⟩]
noncomputable def E1 : Eenv := E37.know k1
theorem E1_ok : EnvOK Tryd.prog E1 := E37_ok.know ⟨⟨parseE, by kernel_rfl⟩, ⟨parseD, by kernel_rfl⟩, trivial⟩
theorem check2 : PCall Tryd.prog 13 [rules] (.d (i64 0)) := ev_pcall E1_ok (n := 300) (by kernel_rfl)
end Go.Proofs.YtegnibocbgngjaaDoor
namespace Go.Proofs.YtegnibocbgngjaaDoor
open Go Nv
def k2 : List Known := ⟨13, [rules], .d (i64 0)⟩ :: k1
noncomputable def E2 : Eenv := E37.know k2
theorem E2_ok : EnvOK Tryd.prog E2 := E37_ok.know ⟨⟨check2, by kernel_rfl⟩, ⟨parseE, by kernel_rfl⟩, ⟨parseD, by kernel_rfl⟩, trivial⟩
end Go.Proofs.YtegnibocbgngjaaDoor
