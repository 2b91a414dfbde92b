/- Sorts, and functions with contracts of the library's own. -/
import Derived.Test.YtebekmcoeacdeaaVt
import Derived.Test.YtebekmcoeacdeaaSh
import Derived.Test.YtebekmcoeacdeaaVm7
import Derived.Test.YtebekmcoeacdeaaVm8
set_option linter.unusedVariables false
set_option linter.unusedSimpArgs false
namespace Go.Proofs.YtebekmcoeacdeaaV
open Go Go.Vm
def compact44.fg : Vm.Fg := rowFg 44 (.int .i64) compactI
theorem compact44.ok (k : Nat) : FgOk Go.Proofs.Try.prog compact44.fg := compactI_ok (ρ := Go.Proofs.Try.lays44_ren) Go.Proofs.Try.lays44 ⟨_, _, Go.Proofs.Try.func44, name_ne (by kernel_rfl), rfl⟩
def so43 : So := ⟨43, .int .i64, [], sortI⟩
theorem so43_ok : SoOk Go.Proofs.Try.prog so43 := sortI_ok (ρ := Go.Proofs.Try.lays43_ren) Go.Proofs.Try.lays43 ⟨_, _, Go.Proofs.Try.func43, name_ne (by kernel_rfl), rfl⟩
end Go.Proofs.YtebekmcoeacdeaaV
