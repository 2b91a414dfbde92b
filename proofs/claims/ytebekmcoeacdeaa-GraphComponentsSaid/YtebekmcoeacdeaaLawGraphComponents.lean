/- The law GraphComponents: for every input it returns true, and each argument reads behind the call as it read before. No condition. -/
import Derived.Test.YtebekmcoeacdeaaRows
import Derived.Test.YtebekmcoeacdeaaVm6
import Derived.Test.YtebekmcoeacdeaaE1
import Derived.Test.YtebekmcoeacdeaaG02z
import Derived.KernelRfl
import Derived.JoinedOf
import Derived.SizedLaws
namespace Go.Proofs.Ytebekmcoeacdeaa.graphComponents
open Go Go.ChangeShapes Go.WideShapes Go.RowKit Go.Vm
set_option linter.unusedVariables false
theorem own : ownKnob Try.prog.godebug = none := by kernel_rfl
theorem laidOut : laidOutB Try.prog = true := by kernel_rfl
set_option maxRecDepth 100000 in
theorem lifted (os : Os) (started : os.Started) (H : Type) (enc : TypeId × Value → H) :
    ReturnsInHanded {} Try.checked os 9 .any (Rows.graphComponentsSpec.pre6 enc Try.prog Try.f9 Rows.graphComponentsRow.domain false) (Rows.graphComponentsSpec.post enc Try.prog Try.f9 false true false false) :=
  law_lifted (C := Try.checked) own started (by kernel_rfl) Try.func9
    (ChangeSpec.witness6 (enc := enc) (C := Try.checked) false ⟨#[], #[.agg #[.int .i64 0, .slice none 0 0]], []⟩ 12 (by kernel_rfl) (by kernel_rfl) (by kernel_rfl) (by kernel_rfl))
    laidOut Go.Proofs.YtebekmcoeacdeaaV.tabOkB (ps := Go.Proofs.YtebekmcoeacdeaaV.jacquardlaw02_GraphComponents.ps) (by kernel_rfl) (by kernel_rfl) rfl (tb := 4) (by kernel_rfl) Try.underlying4
    (fun H ds h => by
      have h : ds.length = 1 := h
      match ds, h with
      | [_], _ => rfl)
    (F := fun k (a : Go.Proofs.YtebekmcoeacdeaaV.jacquardlaw02_GraphComponents.ps.D) => Go.Proofs.YtebekmcoeacdeaaV.jacquardlaw02_GraphComponents.f k a.1) (fun k => Go.Proofs.YtebekmcoeacdeaaV.jacquardlaw02_GraphComponents.ok k) (fun a g => Go.Proofs.YtebekmcoeacdeaaV.PureGraphComponents a.1 g.1)
theorem over : Rows.graphComponentsRow.holds Try.pinned (OpenSpec.ofChange Rows.graphComponentsSpec) :=
  OpenClaim.holds_of_wide 9 Try.f9 rfl rfl rfl rfl rfl rfl rfl ⟨rfl, rfl, rfl, rfl, rfl⟩ rfl rfl rfl rfl rfl (by kernel_rfl) Try.func9 (by kernel_rfl)
    (of_decide_eq_true (by kernel_rfl)) (by unfold Func.isWrapper; first | (rw [if_pos (by decide +kernel)]; kernel_rfl) | (rw [if_neg (by decide +kernel)]; exact ⟨rfl, rfl⟩))
    (fun os started H enc _ => lifted os started H enc)
theorem proved : Rows.GraphComponentsSaid := over
#print axioms proved
end Go.Proofs.Ytebekmcoeacdeaa.graphComponents
namespace Go.Proofs.Ytebekmcoeacdeaa
/-- The row, under a short name, for the claim. -/
theorem graphComponents_holds : Rows.GraphComponentsSaid := graphComponents.proved
end Go.Proofs.Ytebekmcoeacdeaa
