/- The law ListschedContested: for every input it returns true, and each argument reads behind the call as it read before. No condition. -/
import Derived.Test.YtjddmekfeckphaaRows
import Derived.Test.YtjddmekfeckphaaVm6
import Derived.Test.YtjddmekfeckphaaE2
import Derived.Test.YtjddmekfeckphaaL32b
import Derived.KernelRfl
import Derived.JoinedOf
import Derived.SizedLaws
namespace Go.Proofs.Ytjddmekfeckphaa.listschedContested
open Go Go.ChangeShapes Go.WideShapes Go.RowKit Go.Vm
set_option linter.unusedVariables false
theorem own : ownKnob Try.prog.godebug = none := by kernel_rfl
theorem laidOut : laidOutB Try.prog = true := by kernel_rfl
set_option maxRecDepth 100000 in
theorem lifted (os : Os) (started : os.Started) (H : Type) (enc : TypeId × Value → H) :
    ReturnsInHanded {} Try.checked os 3 .any (Rows.listschedContestedSpec.pre6 enc Try.prog Try.f3 Rows.listschedContestedRow.domain false) (Rows.listschedContestedSpec.post enc Try.prog Try.f3 false true false false) :=
  law_lifted (C := Try.checked) own started (by kernel_rfl) Try.func3
    (ChangeSpec.witness6 (enc := enc) (C := Try.checked) false ⟨#[], #[.agg #[.int .i64 0, .int .i64 0, .bool false, .slice none 0 0, .slice none 0 0, .slice none 0 0]], []⟩ 12 (by kernel_rfl) (by kernel_rfl) (by kernel_rfl) (by kernel_rfl))
    laidOut Go.Proofs.YtjddmekfeckphaaV.tabOkB (ps := Go.Proofs.YtjddmekfeckphaaV.jacquardlaw32_ListschedContested.ps) (by kernel_rfl) (by kernel_rfl) rfl (tb := 4) (by kernel_rfl) Try.underlying4
    (fun H ds h => by
      have h : ds.length = 1 := h
      match ds, h with
      | [_], _ => rfl)
    (F := fun k (a : Go.Proofs.YtjddmekfeckphaaV.jacquardlaw32_ListschedContested.ps.D) => Go.Proofs.YtjddmekfeckphaaV.jacquardlaw32_ListschedContested.f k a.1) (fun k => Go.Proofs.YtjddmekfeckphaaV.jacquardlaw32_ListschedContested.ok k) (fun a g => Go.Proofs.YtjddmekfeckphaaV.PureListschedContested a.1 g.1)
theorem over : Rows.listschedContestedRow.holds Try.pinned (OpenSpec.ofChange Rows.listschedContestedSpec) :=
  OpenClaim.holds_of_wide 3 Try.f3 rfl rfl rfl rfl rfl rfl rfl ⟨rfl, rfl, rfl, rfl, rfl⟩ rfl rfl rfl rfl rfl (by kernel_rfl) Try.func3 (by kernel_rfl)
    (of_decide_eq_true (by kernel_rfl)) (by unfold Func.isWrapper; first | (rw [if_pos (by decide +kernel)]; kernel_rfl) | (rw [if_neg (by decide +kernel)]; exact ⟨rfl, rfl⟩))
    (fun os started H enc _ => lifted os started H enc)
theorem proved : Rows.ListschedContestedSaid := over
#print axioms proved
end Go.Proofs.Ytjddmekfeckphaa.listschedContested
namespace Go.Proofs.Ytjddmekfeckphaa
/-- The row, under a short name, for the claim. -/
theorem listschedContested_holds : Rows.ListschedContestedSaid := listschedContested.proved
end Go.Proofs.Ytjddmekfeckphaa
