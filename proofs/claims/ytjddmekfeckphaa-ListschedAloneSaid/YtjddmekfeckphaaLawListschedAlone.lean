/- The law ListschedAlone: for every input it returns true, and each argument reads behind the call as it read before. No condition. -/
import Derived.Test.YtjddmekfeckphaaRows
import Derived.Test.YtjddmekfeckphaaVm6
import Derived.Test.YtjddmekfeckphaaE1
import Derived.Test.YtjddmekfeckphaaM3
import Derived.KernelRfl
import Derived.JoinedOf
import Derived.SizedLaws
namespace Go.Proofs.Ytjddmekfeckphaa.listschedAlone
open Go Go.ChangeShapes Go.WideShapes Go.RowKit Go.Vm
set_option linter.unusedVariables false
theorem own : ownKnob Try.prog.godebug = none := by kernel_rfl
theorem laidOut : laidOutB Try.prog = true := by kernel_rfl
set_option maxRecDepth 100000 in
theorem lifted (os : Os) (started : os.Started) (H : Type) (enc : TypeId × Value → H) :
    ReturnsInHanded {} Try.checked os 5 .any (Rows.listschedAloneSpec.pre6 enc Try.prog Try.f5 Rows.listschedAloneRow.domain false) (Rows.listschedAloneSpec.post enc Try.prog Try.f5 false true false false) :=
  law_lifted (C := Try.checked) own started (by kernel_rfl) Try.func5
    (ChangeSpec.witness6 (enc := enc) (C := Try.checked) false ⟨#[], #[.slice none 0 0, .int .u8 0], []⟩ 12 (by kernel_rfl) (by kernel_rfl) (by kernel_rfl) (by kernel_rfl))
    laidOut Go.Proofs.YtjddmekfeckphaaV.tabOkB (ps := Go.Proofs.YtjddmekfeckphaaV.jacquardlaw32_ListschedAlone.ps) (by kernel_rfl) (by kernel_rfl) rfl (tb := 4) (by kernel_rfl) Try.underlying4
    (fun H ds h => by
      have h : ds.length = 2 := h
      match ds, h with
      | [_, _], _ => rfl)
    (F := fun k (a : Go.Proofs.YtjddmekfeckphaaV.jacquardlaw32_ListschedAlone.ps.D) => Go.Proofs.YtjddmekfeckphaaV.jacquardlaw32_ListschedAlone.f k a.1 a.2.1) (fun k => Go.Proofs.YtjddmekfeckphaaV.jacquardlaw32_ListschedAlone.ok k) (fun a g => Go.Proofs.YtjddmekfeckphaaV.PureListschedAlone a.1 a.2.1 g.1 g.2.1)
theorem over : Rows.listschedAloneRow.holds Try.pinned (OpenSpec.ofChange Rows.listschedAloneSpec) :=
  OpenClaim.holds_of_wide 5 Try.f5 rfl rfl rfl rfl rfl rfl rfl ⟨rfl, rfl, rfl, rfl, rfl⟩ rfl rfl rfl rfl rfl (by kernel_rfl) Try.func5 (by kernel_rfl)
    (of_decide_eq_true (by kernel_rfl)) (by unfold Func.isWrapper; first | (rw [if_pos (by decide +kernel)]; kernel_rfl) | (rw [if_neg (by decide +kernel)]; exact ⟨rfl, rfl⟩))
    (fun os started H enc _ => lifted os started H enc)
theorem proved : Rows.ListschedAloneSaid := over
#print axioms proved
end Go.Proofs.Ytjddmekfeckphaa.listschedAlone
namespace Go.Proofs.Ytjddmekfeckphaa
/-- The row, under a short name, for the claim. -/
theorem listschedAlone_holds : Rows.ListschedAloneSaid := listschedAlone.proved
end Go.Proofs.Ytjddmekfeckphaa
