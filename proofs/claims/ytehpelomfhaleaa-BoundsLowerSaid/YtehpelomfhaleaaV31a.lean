/- Chapter 31: the fixed example. -/
import Derived.Test.YtehpelomfhaleaaF
import Derived.Test.YtehpelomfhaleaaPl
import Derived.KernelRfl
set_option linter.unusedVariables false
set_option linter.unusedSimpArgs false
namespace Go.Proofs.YtehpelomfhaleaaV
open Go Go.Vm

theorem awake31 (k : Nat) : jacquardlaw31_awake.f (k + 100) = some true := by kernel_rfl
theorem awake_ev : Ev (fun k => jacquardlaw31_awake.f k) true := by
  refine ⟨100, fun k hk => ?_⟩
  obtain ⟨j, rfl⟩ : ∃ j, k = j + 100 := ⟨k - 100, by omega⟩
  exact awake31 j
end Go.Proofs.YtehpelomfhaleaaV
