/- The law GraphDominators: for every input it returns true, and each argument reads behind the call as it read before. No condition. -/
import Derived.Test.YtebekmcoeacdeaaRows
import Derived.Test.YtebekmcoeacdeaaVm6
import Derived.Test.YtebekmcoeacdeaaE1
import Derived.Test.YtebekmcoeacdeaaG02u
import Derived.KernelRfl
import Derived.JoinedOf
import Derived.SizedLaws
namespace Go.Proofs.Ytebekmcoeacdeaa.graphDominators
open Go Go.ChangeShapes Go.WideShapes Go.RowKit Go.Vm
set_option linter.unusedVariables false
theorem own : ownKnob Try.prog.godebug = none := by kernel_rfl
theorem laidOut : laidOutB Try.prog = true := by kernel_rfl
set_option maxRecDepth 100000 in
theorem lifted (os : Os) (started : os.Started) (H : Type) (enc : TypeId × Value → H) :
    ReturnsInHanded {} Try.checked os 10 .any (Rows.graphDominatorsSpec.pre6 enc Try.prog Try.f10 Rows.graphDominatorsRow.domain false) (Rows.graphDominatorsSpec.post enc Try.prog Try.f10 false true false false) :=
  law_lifted (C := Try.checked) own started (by kernel_rfl) Try.func10
    (ChangeSpec.witness6 (enc := enc) (C := Try.checked) false ⟨#[], #[.agg #[.int .i64 0, .slice none 0 0], .int .i64 0], []⟩ 12 (by kernel_rfl) (by kernel_rfl) (by kernel_rfl) (by kernel_rfl))
    laidOut Go.Proofs.YtebekmcoeacdeaaV.tabOkB (ps := Go.Proofs.YtebekmcoeacdeaaV.jacquardlaw02_GraphDominators.ps) (by kernel_rfl) (by kernel_rfl) rfl (tb := 4) (by kernel_rfl) Try.underlying4
    (fun H ds h => by
      have h : ds.length = 2 := h
      match ds, h with
      | [_, _], _ => rfl)
    (F := fun k (a : Go.Proofs.YtebekmcoeacdeaaV.jacquardlaw02_GraphDominators.ps.D) => Go.Proofs.YtebekmcoeacdeaaV.jacquardlaw02_GraphDominators.f k a.1 a.2.1) (fun k => Go.Proofs.YtebekmcoeacdeaaV.jacquardlaw02_GraphDominators.ok k) (fun a g => Go.Proofs.YtebekmcoeacdeaaV.PureGraphDominators a.1 a.2.1 g.1 g.2.1)
theorem over : Rows.graphDominatorsRow.holds Try.pinned (OpenSpec.ofChange Rows.graphDominatorsSpec) :=
  OpenClaim.holds_of_wide 10 Try.f10 rfl rfl rfl rfl rfl rfl rfl ⟨rfl, rfl, rfl, rfl, rfl⟩ rfl rfl rfl rfl rfl (by kernel_rfl) Try.func10 (by kernel_rfl)
    (of_decide_eq_true (by kernel_rfl)) (by unfold Func.isWrapper; first | (rw [if_pos (by decide +kernel)]; kernel_rfl) | (rw [if_neg (by decide +kernel)]; exact ⟨rfl, rfl⟩))
    (fun os started H enc _ => lifted os started H enc)
theorem proved : Rows.GraphDominatorsSaid := over
#print axioms proved
end Go.Proofs.Ytebekmcoeacdeaa.graphDominators
namespace Go.Proofs.Ytebekmcoeacdeaa
/-- The row, under a short name, for the claim. -/
theorem graphDominators_holds : Rows.GraphDominatorsSaid := graphDominators.proved
end Go.Proofs.Ytebekmcoeacdeaa
