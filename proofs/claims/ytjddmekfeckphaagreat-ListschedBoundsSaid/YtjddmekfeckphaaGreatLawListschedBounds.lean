/- The law ListschedBounds: for every input it returns true, and each argument reads behind the call as it read before. No condition. -/
import Derived.Test.YtjddmekfeckphaaGreatRows
import Derived.Test.YtjddmekfeckphaaGreatVm6
import Derived.Test.YtjddmekfeckphaaGreatE1
import Derived.Test.YtjddmekfeckphaaGreatM3
import Derived.KernelRfl
import Derived.JoinedOf
import Derived.SizedLaws
namespace Go.Proofs.YtjddmekfeckphaaGreat.listschedBounds
open Go Go.ChangeShapes Go.WideShapes Go.RowKit Go.Vm
set_option linter.unusedVariables false
theorem own : ownKnob Tryz.prog.godebug = none := by kernel_rfl
theorem laidOut : laidOutB Tryz.prog = true := by kernel_rfl
set_option maxRecDepth 100000 in
theorem lifted (os : Os) (started : os.Started) (H : Type) (enc : TypeId × Value → H) :
    ReturnsInHanded {} Tryz.checked os 5 .any (Rows.listschedBoundsSpec.pre6 enc Tryz.prog Tryz.f5 Rows.listschedBoundsRow.domain false) (Rows.listschedBoundsSpec.post enc Tryz.prog Tryz.f5 false true false false) :=
  law_lifted (C := Tryz.checked) own started (by kernel_rfl) Tryz.func5
    (ChangeSpec.witness6 (enc := enc) (C := Tryz.checked) false ⟨#[], #[.agg #[.int .i64 0, .int .i64 0, .bool false, .slice none 0 0, .slice none 0 0, .slice none 0 0]], []⟩ 12 (by kernel_rfl) (by kernel_rfl) (by kernel_rfl) (by kernel_rfl))
    laidOut Go.Proofs.YtjddmekfeckphaaGreatV.tabOkB (ps := Go.Proofs.YtjddmekfeckphaaGreatV.jacquardlaw32_ListschedBounds.ps) (by kernel_rfl) (by kernel_rfl) rfl (tb := 4) (by kernel_rfl) Tryz.underlying4
    (fun H ds h => by
      have h : ds.length = 1 := h
      match ds, h with
      | [_], _ => rfl)
    (F := fun k (a : Go.Proofs.YtjddmekfeckphaaGreatV.jacquardlaw32_ListschedBounds.ps.D) => Go.Proofs.YtjddmekfeckphaaGreatV.jacquardlaw32_ListschedBounds.f k a.1) (fun k => Go.Proofs.YtjddmekfeckphaaGreatV.jacquardlaw32_ListschedBounds.ok k) (fun a g => Go.Proofs.YtjddmekfeckphaaGreatV.PureListschedBounds a.1 g.1)
theorem over : Rows.listschedBoundsRow.holds Tryz.pinned (OpenSpec.ofChange Rows.listschedBoundsSpec) :=
  OpenClaim.holds_of_wide 5 Tryz.f5 rfl rfl rfl rfl rfl rfl rfl ⟨rfl, rfl, rfl, rfl, rfl⟩ rfl rfl rfl rfl rfl (by kernel_rfl) Tryz.func5 (by kernel_rfl)
    (of_decide_eq_true (by kernel_rfl)) (by unfold Func.isWrapper; first | (rw [if_pos (by decide +kernel)]; kernel_rfl) | (rw [if_neg (by decide +kernel)]; exact ⟨rfl, rfl⟩))
    (fun os started H enc _ => lifted os started H enc)
theorem proved : Rows.ListschedBoundsSaid := over
#print axioms proved
end Go.Proofs.YtjddmekfeckphaaGreat.listschedBounds
namespace Go.Proofs.YtjddmekfeckphaaGreat
/-- The row, under a short name, for the claim. -/
theorem listschedBounds_holds : Rows.ListschedBoundsSaid := listschedBounds.proved
end Go.Proofs.YtjddmekfeckphaaGreat
