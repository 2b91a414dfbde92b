/- The law ColorFar: for every input it returns true, and each argument reads behind the call as it read before. No condition. -/
import Derived.Test.YtihkfliabchcmaaRows
import Derived.Test.YtihkfliabchcmaaVm6
import Derived.Test.YtihkfliabchcmaaE0
import Derived.Test.YtihkfliabchcmaaL38f
import Derived.KernelRfl
import Derived.JoinedOf
import Derived.SizedLaws
namespace Go.Proofs.Ytihkfliabchcmaa.colorFar
open Go Go.ChangeShapes Go.WideShapes Go.RowKit Go.Vm
set_option linter.unusedVariables false
theorem own : ownKnob Try.prog.godebug = none := by kernel_rfl
theorem laidOut : laidOutB Try.prog = true := by kernel_rfl
set_option maxRecDepth 100000 in
theorem lifted (os : Os) (started : os.Started) (H : Type) (enc : TypeId × Value → H) :
    ReturnsInHanded {} Try.checked os 5 .any (Rows.colorFarSpec.pre6 enc Try.prog Try.f5 Rows.colorFarRow.domain false) (Rows.colorFarSpec.post enc Try.prog Try.f5 false true false false) :=
  law_lifted (C := Try.checked) own started (by kernel_rfl) Try.func5
    (ChangeSpec.witness6 (enc := enc) (C := Try.checked) false ⟨#[], #[.slice none 0 0], []⟩ 12 (by kernel_rfl) (by kernel_rfl) (by kernel_rfl) (by kernel_rfl))
    laidOut Go.Proofs.YtihkfliabchcmaaV.tabOkB (ps := Go.Proofs.YtihkfliabchcmaaV.jacquardlaw38_ColorFar.ps) (by kernel_rfl) (by kernel_rfl) rfl (tb := 4) (by kernel_rfl) Try.underlying4
    (fun H ds h => by
      have h : ds.length = 1 := h
      match ds, h with
      | [_], _ => rfl)
    (F := fun k (a : Go.Proofs.YtihkfliabchcmaaV.jacquardlaw38_ColorFar.ps.D) => Go.Proofs.YtihkfliabchcmaaV.jacquardlaw38_ColorFar.f k a.1) (fun k => Go.Proofs.YtihkfliabchcmaaV.jacquardlaw38_ColorFar.ok k) (fun a g => Go.Proofs.YtihkfliabchcmaaV.PureColorFar a.1 g.1)
theorem over : Rows.colorFarRow.holds Try.pinned (OpenSpec.ofChange Rows.colorFarSpec) :=
  OpenClaim.holds_of_wide 5 Try.f5 rfl rfl rfl rfl rfl rfl rfl ⟨rfl, rfl, rfl, rfl, rfl⟩ rfl rfl rfl rfl rfl (by kernel_rfl) Try.func5 (by kernel_rfl)
    (of_decide_eq_true (by kernel_rfl)) (by unfold Func.isWrapper; first | (rw [if_pos (by decide +kernel)]; kernel_rfl) | (rw [if_neg (by decide +kernel)]; exact ⟨rfl, rfl⟩))
    (fun os started H enc _ => lifted os started H enc)
theorem proved : Rows.ColorFarSaid := over
#print axioms proved
end Go.Proofs.Ytihkfliabchcmaa.colorFar
namespace Go.Proofs.Ytihkfliabchcmaa
/-- The row, under a short name, for the claim. -/
theorem colorFar_holds : Rows.ColorFarSaid := colorFar.proved
end Go.Proofs.Ytihkfliabchcmaa
