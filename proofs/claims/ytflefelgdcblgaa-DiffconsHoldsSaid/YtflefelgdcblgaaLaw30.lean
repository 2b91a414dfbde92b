/- What the statements on difference constraints share: the example, the bounds on sizes. No condition. -/
import Derived.Test.YtflefelgdcblgaaDiff
import Derived.Test.YtflefelgdcblgaaQx3
import Derived.Test.YtflefelgdcblgaaQx4
namespace Go.Proofs.Ytflefelgdcblgaa.Law30
set_option linter.unusedVariables false
set_option linter.unusedSimpArgs false
open Go.RowKit Go.Proofs.YtflefelgdcblgaaW.PrintWords Go.Proofs.YtflefelgdcblgaaW.PrintMore Go.Proofs.Ytflefelgdcblgaa.Lib Go.Proofs.Ytflefelgdcblgaa.Q Go.Proofs.Ytflefelgdcblgaa.Diff
theorem awake_ev : EvP (fun k => jacquardlaw30_awake.f k) (fun r => r = true) := ⟨true, Ev.of (jacquardlaw30_awake.mono) (k := 60) (by decide +kernel), rfl⟩
theorem nodes_ref (n : Int) : jacquardref30_Nodes.f n = some (nod n) := rfl
theorem few_f (n : Int) (l : List Arc) (ii : Int) : jacquardlaw30_few.f n l ii = some (decide (nod n ≤ 20 ∧ (l.length : Int) ≤ 60)) := by
  unfold jacquardlaw30_few.f
  rw [nodes_ref]
  simp only [Option.bind_some]
  by_cases h : nod n ≤ 20 <;> simp [h]
theorem few_len {n : Int} {l : List Arc} (h : nod n ≤ 20 ∧ (l.length : Int) ≤ 60) : (nod n + 2) * l.length ≤ 10000000000 := by
  obtain ⟨h1, h2⟩ := h
  have := nod_le n
  have := Int.mul_le_mul_of_nonneg_right (c := (l.length : Int)) (show nod n + 2 ≤ 22 by omega) (by omega)
  omega
end Go.Proofs.Ytflefelgdcblgaa.Law30
