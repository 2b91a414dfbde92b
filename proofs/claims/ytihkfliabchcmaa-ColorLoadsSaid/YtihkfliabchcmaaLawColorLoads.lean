/- The law ColorLoads: for every input it returns true, and each argument reads behind the call as it read before. No condition. -/
import Derived.Test.YtihkfliabchcmaaRows
import Derived.Test.YtihkfliabchcmaaVm6
import Derived.Test.YtihkfliabchcmaaE0
import Derived.Test.YtihkfliabchcmaaL38d
import Derived.KernelRfl
import Derived.JoinedOf
import Derived.SizedLaws
namespace Go.Proofs.Ytihkfliabchcmaa.colorLoads
open Go Go.ChangeShapes Go.WideShapes Go.RowKit Go.Vm
set_option linter.unusedVariables false
theorem own : ownKnob Try.prog.godebug = none := by kernel_rfl
theorem laidOut : laidOutB Try.prog = true := by kernel_rfl
set_option maxRecDepth 100000 in
theorem lifted (os : Os) (started : os.Started) (H : Type) (enc : TypeId × Value → H) :
    ReturnsInHanded {} Try.checked os 4 .any (Rows.colorLoadsSpec.pre6 enc Try.prog Try.f4 Rows.colorLoadsRow.domain false) (Rows.colorLoadsSpec.post enc Try.prog Try.f4 false true false false) :=
  law_lifted (C := Try.checked) own started (by kernel_rfl) Try.func4
    (ChangeSpec.witness6 (enc := enc) (C := Try.checked) false ⟨#[], #[.slice none 0 0, .int .i64 0], []⟩ 12 (by kernel_rfl) (by kernel_rfl) (by kernel_rfl) (by kernel_rfl))
    laidOut Go.Proofs.YtihkfliabchcmaaV.tabOkB (ps := Go.Proofs.YtihkfliabchcmaaV.jacquardlaw38_ColorLoads.ps) (by kernel_rfl) (by kernel_rfl) rfl (tb := 4) (by kernel_rfl) Try.underlying4
    (fun H ds h => by
      have h : ds.length = 2 := h
      match ds, h with
      | [_, _], _ => rfl)
    (F := fun k (a : Go.Proofs.YtihkfliabchcmaaV.jacquardlaw38_ColorLoads.ps.D) => Go.Proofs.YtihkfliabchcmaaV.jacquardlaw38_ColorLoads.f k a.1 a.2.1) (fun k => Go.Proofs.YtihkfliabchcmaaV.jacquardlaw38_ColorLoads.ok k) (fun a g => Go.Proofs.YtihkfliabchcmaaV.PureColorLoads a.1 a.2.1 g.1 g.2.1)
theorem over : Rows.colorLoadsRow.holds Try.pinned (OpenSpec.ofChange Rows.colorLoadsSpec) :=
  OpenClaim.holds_of_wide 4 Try.f4 rfl rfl rfl rfl rfl rfl rfl ⟨rfl, rfl, rfl, rfl, rfl⟩ rfl rfl rfl rfl rfl (by kernel_rfl) Try.func4 (by kernel_rfl)
    (of_decide_eq_true (by kernel_rfl)) (by unfold Func.isWrapper; first | (rw [if_pos (by decide +kernel)]; kernel_rfl) | (rw [if_neg (by decide +kernel)]; exact ⟨rfl, rfl⟩))
    (fun os started H enc _ => lifted os started H enc)
theorem proved : Rows.ColorLoadsSaid := over
#print axioms proved
end Go.Proofs.Ytihkfliabchcmaa.colorLoads
namespace Go.Proofs.Ytihkfliabchcmaa
/-- The row, under a short name, for the claim. -/
theorem colorLoads_holds : Rows.ColorLoadsSaid := colorLoads.proved
end Go.Proofs.Ytihkfliabchcmaa
