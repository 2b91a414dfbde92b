/- Sorts, and functions with contracts of the library's own. -/
import Derived.Test.YtjddmekfeckphaaVt
import Derived.Test.YtjddmekfeckphaaSh
import Derived.Test.YtjddmekfeckphaaVm7
import Derived.Test.YtjddmekfeckphaaVm8
set_option linter.unusedVariables false
set_option linter.unusedSimpArgs false
namespace Go.Proofs.YtjddmekfeckphaaV
open Go Go.Vm
def compactH.fg : Vm.Fg := rowFg 67 (.int .i64) compactI
theorem compactH.ok (k : Nat) : FgOk Go.Proofs.Try.prog compactH.fg := compactI_ok (ρ := Go.Proofs.Try.lays67_ren) Go.Proofs.Try.lays67 ⟨_, _, Go.Proofs.Try.func67, name_ne (by kernel_rfl), rfl⟩
def so66 : So := ⟨66, .int .i64, [], sortI⟩
theorem so66_ok : SoOk Go.Proofs.Try.prog so66 := sortI_ok (ρ := Go.Proofs.Try.lays66_ren) Go.Proofs.Try.lays66 ⟨_, _, Go.Proofs.Try.func66, name_ne (by kernel_rfl), rfl⟩
end Go.Proofs.YtjddmekfeckphaaV
