/- The law ListschedEarly: for every input it returns true, and each argument reads behind the call as it read before. No condition. -/
import Derived.Test.YtjddmekfeckphaaGreatRows
import Derived.Test.YtjddmekfeckphaaGreatVm6
import Derived.Test.YtjddmekfeckphaaGreatE1
import Derived.Test.YtjddmekfeckphaaGreatM3
import Derived.KernelRfl
import Derived.JoinedOf
import Derived.SizedLaws
namespace Go.Proofs.YtjddmekfeckphaaGreat.listschedEarly
open Go Go.ChangeShapes Go.WideShapes Go.RowKit Go.Vm
set_option linter.unusedVariables false
theorem own : ownKnob Tryz.prog.godebug = none := by kernel_rfl
theorem laidOut : laidOutB Tryz.prog = true := by kernel_rfl
set_option maxRecDepth 100000 in
theorem lifted (os : Os) (started : os.Started) (H : Type) (enc : TypeId × Value → H) :
    ReturnsInHanded {} Tryz.checked os 4 .any (Rows.listschedEarlySpec.pre6 enc Tryz.prog Tryz.f4 Rows.listschedEarlyRow.domain false) (Rows.listschedEarlySpec.post enc Tryz.prog Tryz.f4 false true false false) :=
  law_lifted (C := Tryz.checked) own started (by kernel_rfl) Tryz.func4
    (ChangeSpec.witness6 (enc := enc) (C := Tryz.checked) false ⟨#[], #[.agg #[.int .i64 0, .int .i64 0, .bool false, .slice none 0 0, .slice none 0 0, .slice none 0 0]], []⟩ 12 (by kernel_rfl) (by kernel_rfl) (by kernel_rfl) (by kernel_rfl))
    laidOut Go.Proofs.YtjddmekfeckphaaGreatV.tabOkB (ps := Go.Proofs.YtjddmekfeckphaaGreatV.jacquardlaw32_ListschedEarly.ps) (by kernel_rfl) (by kernel_rfl) rfl (tb := 4) (by kernel_rfl) Tryz.underlying4
    (fun H ds h => by
      have h : ds.length = 1 := h
      match ds, h with
      | [_], _ => rfl)
    (F := fun k (a : Go.Proofs.YtjddmekfeckphaaGreatV.jacquardlaw32_ListschedEarly.ps.D) => Go.Proofs.YtjddmekfeckphaaGreatV.jacquardlaw32_ListschedEarly.f k a.1) (fun k => Go.Proofs.YtjddmekfeckphaaGreatV.jacquardlaw32_ListschedEarly.ok k) (fun a g => Go.Proofs.YtjddmekfeckphaaGreatV.PureListschedEarly a.1 g.1)
theorem over : Rows.listschedEarlyRow.holds Tryz.pinned (OpenSpec.ofChange Rows.listschedEarlySpec) :=
  OpenClaim.holds_of_wide 4 Tryz.f4 rfl rfl rfl rfl rfl rfl rfl ⟨rfl, rfl, rfl, rfl, rfl⟩ rfl rfl rfl rfl rfl (by kernel_rfl) Tryz.func4 (by kernel_rfl)
    (of_decide_eq_true (by kernel_rfl)) (by unfold Func.isWrapper; first | (rw [if_pos (by decide +kernel)]; kernel_rfl) | (rw [if_neg (by decide +kernel)]; exact ⟨rfl, rfl⟩))
    (fun os started H enc _ => lifted os started H enc)
theorem proved : Rows.ListschedEarlySaid := over
#print axioms proved
end Go.Proofs.YtjddmekfeckphaaGreat.listschedEarly
namespace Go.Proofs.YtjddmekfeckphaaGreat
/-- The row, under a short name, for the claim. -/
theorem listschedEarly_holds : Rows.ListschedEarlySaid := listschedEarly.proved
end Go.Proofs.YtjddmekfeckphaaGreat
