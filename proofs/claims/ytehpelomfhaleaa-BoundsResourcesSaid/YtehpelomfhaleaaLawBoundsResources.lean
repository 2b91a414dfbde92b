/- The law BoundsResources: for every input it returns true, and each argument reads behind the call as it read before. No condition. -/
import Derived.Test.YtehpelomfhaleaaRows
import Derived.Test.YtehpelomfhaleaaVm6
import Derived.Test.YtehpelomfhaleaaE0
import Derived.Test.YtehpelomfhaleaaV31g
import Derived.KernelRfl
import Derived.JoinedOf
import Derived.SizedLaws
namespace Go.Proofs.Ytehpelomfhaleaa.boundsResources
open Go Go.ChangeShapes Go.WideShapes Go.RowKit Go.Vm
set_option linter.unusedVariables false
theorem own : ownKnob Try.prog.godebug = none := by kernel_rfl
theorem laidOut : laidOutB Try.prog = true := by kernel_rfl
set_option maxRecDepth 100000 in
theorem lifted (os : Os) (started : os.Started) (H : Type) (enc : TypeId × Value → H) :
    ReturnsInHanded {} Try.checked os 5 .any (Rows.boundsResourcesSpec.pre6 enc Try.prog Try.f5 Rows.boundsResourcesRow.domain false) (Rows.boundsResourcesSpec.post enc Try.prog Try.f5 false true false false) :=
  law_lifted (C := Try.checked) own started (by kernel_rfl) Try.func5
    (ChangeSpec.witness6 (enc := enc) (C := Try.checked) false ⟨#[], #[.agg #[.int .i64 0, .int .i64 0, .bool false, .slice none 0 0, .slice none 0 0, .slice none 0 0]], []⟩ 12 (by kernel_rfl) (by kernel_rfl) (by kernel_rfl) (by kernel_rfl))
    laidOut Go.Proofs.YtehpelomfhaleaaV.tabOkB (ps := Go.Proofs.YtehpelomfhaleaaV.jacquardlaw31_BoundsResources.ps) (by kernel_rfl) (by kernel_rfl) rfl (tb := 4) (by kernel_rfl) Try.underlying4
    (fun H ds h => by
      have h : ds.length = 1 := h
      match ds, h with
      | [_], _ => rfl)
    (F := fun k (a : Go.Proofs.YtehpelomfhaleaaV.jacquardlaw31_BoundsResources.ps.D) => Go.Proofs.YtehpelomfhaleaaV.jacquardlaw31_BoundsResources.f k a.1) (fun k => Go.Proofs.YtehpelomfhaleaaV.jacquardlaw31_BoundsResources.ok k) (fun a g => Go.Proofs.YtehpelomfhaleaaV.PureBoundsResources a.1 g.1)
theorem over : Rows.boundsResourcesRow.holds Try.pinned (OpenSpec.ofChange Rows.boundsResourcesSpec) :=
  OpenClaim.holds_of_wide 5 Try.f5 rfl rfl rfl rfl rfl rfl rfl ⟨rfl, rfl, rfl, rfl, rfl⟩ rfl rfl rfl rfl rfl (by kernel_rfl) Try.func5 (by kernel_rfl)
    (of_decide_eq_true (by kernel_rfl)) (by unfold Func.isWrapper; first | (rw [if_pos (by decide +kernel)]; kernel_rfl) | (rw [if_neg (by decide +kernel)]; exact ⟨rfl, rfl⟩))
    (fun os started H enc _ => lifted os started H enc)
theorem proved : Rows.BoundsResourcesSaid := over
#print axioms proved
end Go.Proofs.Ytehpelomfhaleaa.boundsResources
namespace Go.Proofs.Ytehpelomfhaleaa
/-- The row, under a short name, for the claim. -/
theorem boundsResources_holds : Rows.BoundsResourcesSaid := boundsResources.proved
end Go.Proofs.Ytehpelomfhaleaa
