/- Sorts, and functions with contracts of the library's own. -/
import Derived.Test.YtjddmekfeckphaaGreatVt
import Derived.Test.YtjddmekfeckphaaGreatSh
import Derived.Test.YtjddmekfeckphaaGreatVm7
import Derived.Test.YtjddmekfeckphaaGreatVm8
set_option linter.unusedVariables false
set_option linter.unusedSimpArgs false
namespace Go.Proofs.YtjddmekfeckphaaGreatV
open Go Go.Vm
def compactH.fg : Vm.Fg := rowFg 89 (.int .i64) compactI
theorem compactH.ok (k : Nat) : FgOk Go.Proofs.Tryz.prog compactH.fg := compactI_ok (ρ := Go.Proofs.Tryz.lays89_ren) Go.Proofs.Tryz.lays89 ⟨_, _, Go.Proofs.Tryz.func89, name_ne (by kernel_rfl), rfl⟩
def so88 : So := ⟨88, .int .i64, [], sortI⟩
theorem so88_ok : SoOk Go.Proofs.Tryz.prog so88 := sortI_ok (ρ := Go.Proofs.Tryz.lays88_ren) Go.Proofs.Tryz.lays88 ⟨_, _, Go.Proofs.Tryz.func88, name_ne (by kernel_rfl), rfl⟩
end Go.Proofs.YtjddmekfeckphaaGreatV
