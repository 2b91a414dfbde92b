/- The law ListschedLegal: for every input it returns true, and each argument reads behind the call as it read before. No condition. -/
import Derived.Test.YtjddmekfeckphaaGreatRows
import Derived.Test.YtjddmekfeckphaaGreatVm6
import Derived.Test.YtjddmekfeckphaaGreatE1
import Derived.Test.YtjddmekfeckphaaGreatM3
import Derived.KernelRfl
import Derived.JoinedOf
import Derived.SizedLaws
namespace Go.Proofs.YtjddmekfeckphaaGreat.listschedLegal
open Go Go.ChangeShapes Go.WideShapes Go.RowKit Go.Vm
set_option linter.unusedVariables false
theorem own : ownKnob Tryz.prog.godebug = none := by kernel_rfl
theorem laidOut : laidOutB Tryz.prog = true := by kernel_rfl
set_option maxRecDepth 100000 in
theorem lifted (os : Os) (started : os.Started) (H : Type) (enc : TypeId × Value → H) :
    ReturnsInHanded {} Tryz.checked os 3 .any (Rows.listschedLegalSpec.pre6 enc Tryz.prog Tryz.f3 Rows.listschedLegalRow.domain false) (Rows.listschedLegalSpec.post enc Tryz.prog Tryz.f3 false true false false) :=
  law_lifted (C := Tryz.checked) own started (by kernel_rfl) Tryz.func3
    (ChangeSpec.witness6 (enc := enc) (C := Tryz.checked) false ⟨#[], #[.agg #[.int .i64 0, .int .i64 0, .bool false, .slice none 0 0, .slice none 0 0, .slice none 0 0]], []⟩ 12 (by kernel_rfl) (by kernel_rfl) (by kernel_rfl) (by kernel_rfl))
    laidOut Go.Proofs.YtjddmekfeckphaaGreatV.tabOkB (ps := Go.Proofs.YtjddmekfeckphaaGreatV.jacquardlaw32_ListschedLegal.ps) (by kernel_rfl) (by kernel_rfl) rfl (tb := 4) (by kernel_rfl) Tryz.underlying4
    (fun H ds h => by
      have h : ds.length = 1 := h
      match ds, h with
      | [_], _ => rfl)
    (F := fun k (a : Go.Proofs.YtjddmekfeckphaaGreatV.jacquardlaw32_ListschedLegal.ps.D) => Go.Proofs.YtjddmekfeckphaaGreatV.jacquardlaw32_ListschedLegal.f k a.1) (fun k => Go.Proofs.YtjddmekfeckphaaGreatV.jacquardlaw32_ListschedLegal.ok k) (fun a g => Go.Proofs.YtjddmekfeckphaaGreatV.PureListschedLegal a.1 g.1)
theorem over : Rows.listschedLegalRow.holds Tryz.pinned (OpenSpec.ofChange Rows.listschedLegalSpec) :=
  OpenClaim.holds_of_wide 3 Tryz.f3 rfl rfl rfl rfl rfl rfl rfl ⟨rfl, rfl, rfl, rfl, rfl⟩ rfl rfl rfl rfl rfl (by kernel_rfl) Tryz.func3 (by kernel_rfl)
    (of_decide_eq_true (by kernel_rfl)) (by unfold Func.isWrapper; first | (rw [if_pos (by decide +kernel)]; kernel_rfl) | (rw [if_neg (by decide +kernel)]; exact ⟨rfl, rfl⟩))
    (fun os started H enc _ => lifted os started H enc)
theorem proved : Rows.ListschedLegalSaid := over
#print axioms proved
end Go.Proofs.YtjddmekfeckphaaGreat.listschedLegal
namespace Go.Proofs.YtjddmekfeckphaaGreat
/-- The row, under a short name, for the claim. -/
theorem listschedLegal_holds : Rows.ListschedLegalSaid := listschedLegal.proved
end Go.Proofs.YtjddmekfeckphaaGreat
