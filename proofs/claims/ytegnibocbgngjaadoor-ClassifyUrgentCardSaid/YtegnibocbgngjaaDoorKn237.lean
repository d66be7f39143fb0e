/- Part of a proof about the functions of this seat. -/
import Derived.Test.YtegnibocbgngjaaDoorKn37
set_option linter.unusedVariables false
set_option maxRecDepth 100000
namespace Go.Proofs.YtegnibocbgngjaaDoor
open Go Nv
theorem matchDT : PCall Tryd.prog 22 [nD, .d (.str tT)] (.d (.bool true)) := ev_pcall E2_ok (n := 600) (by kernel_rfl)
theorem matchET : PCall Tryd.prog 22 [nE, .d (.str tT)] (.d (.bool false)) := ev_pcall E2_ok (n := 600) (by kernel_rfl)
theorem matchEE : PCall Tryd.prog 22 [nE, .d (.str tE)] (.d (.bool true)) := ev_pcall E2_ok (n := 600) (by kernel_rfl)
def k3 : List Known := ⟨22, [nD, .d (.str tT)], .d (.bool true)⟩ :: ⟨22, [nE, .d (.str tT)], .d (.bool false)⟩ :: ⟨22, [nE, .d (.str tE)], .d (.bool true)⟩ :: k2
noncomputable def E3 : Eenv := E37.know k3
theorem E3_ok : EnvOK Tryd.prog E3 := E37_ok.know ⟨⟨matchDT, by kernel_rfl⟩, ⟨matchET, by kernel_rfl⟩, ⟨matchEE, by kernel_rfl⟩, ⟨check2, by kernel_rfl⟩, ⟨parseE, by kernel_rfl⟩, ⟨parseD, by kernel_rfl⟩, trivial⟩
end Go.Proofs.YtegnibocbgngjaaDoor
namespace Go.Proofs.YtegnibocbgngjaaDoor
open Go Nv
theorem awake : PCall Tryd.prog 5 [] (.d (.bool true)) := ev_pcall E3_ok (n := 400) (by kernel_rfl)
end Go.Proofs.YtegnibocbgngjaaDoor
