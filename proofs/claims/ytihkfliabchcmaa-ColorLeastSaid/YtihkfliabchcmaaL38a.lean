/- Chapter 38: the fixed example. -/
import Derived.Test.YtihkfliabchcmaaF
import Derived.Test.YtihkfliabchcmaaPl
import Derived.KernelRfl
set_option linter.unusedVariables false
set_option linter.unusedSimpArgs false
namespace Go.Proofs.YtihkfliabchcmaaV
open Go Go.Vm

theorem awake38 (k : Nat) : jacquardlaw38_awake.f (k + 60) = some true := by kernel_rfl
end Go.Proofs.YtihkfliabchcmaaV
