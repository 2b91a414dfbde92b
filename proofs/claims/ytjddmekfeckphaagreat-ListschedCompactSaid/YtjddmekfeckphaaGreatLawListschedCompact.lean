/- The law ListschedCompact: for every input it returns true, and each argument reads behind the call as it read before. No condition. -/
import Derived.Test.YtjddmekfeckphaaGreatRows
import Derived.Test.YtjddmekfeckphaaGreatVm6
import Derived.Test.YtjddmekfeckphaaGreatE2
import Derived.Test.YtjddmekfeckphaaGreatL32e
import Derived.KernelRfl
import Derived.JoinedOf
import Derived.SizedLaws
namespace Go.Proofs.YtjddmekfeckphaaGreat.listschedCompact
open Go Go.ChangeShapes Go.WideShapes Go.RowKit Go.Vm
set_option linter.unusedVariables false
theorem own : ownKnob Tryz.prog.godebug = none := by kernel_rfl
theorem laidOut : laidOutB Tryz.prog = true := by kernel_rfl
set_option maxRecDepth 100000 in
theorem lifted (os : Os) (started : os.Started) (H : Type) (enc : TypeId × Value → H) :
    ReturnsInHanded {} Tryz.checked os 6 .any (Rows.listschedCompactSpec.pre6 enc Tryz.prog Tryz.f6 Rows.listschedCompactRow.domain false) (Rows.listschedCompactSpec.post enc Tryz.prog Tryz.f6 false true false false) :=
  law_lifted (C := Tryz.checked) own started (by kernel_rfl) Tryz.func6
    (ChangeSpec.witness6 (enc := enc) (C := Tryz.checked) false ⟨#[], #[.agg #[.int .i64 0, .int .i64 0, .bool false, .slice none 0 0, .slice none 0 0, .slice none 0 0], .agg #[.int .i64 0, .int .i64 0, .slice none 0 0, .slice none 0 0, .slice none 0 0]], []⟩ 12 (by kernel_rfl) (by kernel_rfl) (by kernel_rfl) (by kernel_rfl))
    laidOut Go.Proofs.YtjddmekfeckphaaGreatV.tabOkB (ps := Go.Proofs.YtjddmekfeckphaaGreatV.jacquardlaw32_ListschedCompact.ps) (by kernel_rfl) (by kernel_rfl) rfl (tb := 4) (by kernel_rfl) Tryz.underlying4
    (fun H ds h => by
      have h : ds.length = 2 := h
      match ds, h with
      | [_, _], _ => rfl)
    (F := fun k (a : Go.Proofs.YtjddmekfeckphaaGreatV.jacquardlaw32_ListschedCompact.ps.D) => Go.Proofs.YtjddmekfeckphaaGreatV.jacquardlaw32_ListschedCompact.f k a.1 a.2.1) (fun k => Go.Proofs.YtjddmekfeckphaaGreatV.jacquardlaw32_ListschedCompact.ok k) (fun a g => Go.Proofs.YtjddmekfeckphaaGreatV.PureListschedCompact a.1 a.2.1 g.1 g.2.1)
theorem over : Rows.listschedCompactRow.holds Tryz.pinned (OpenSpec.ofChange Rows.listschedCompactSpec) :=
  OpenClaim.holds_of_wide 6 Tryz.f6 rfl rfl rfl rfl rfl rfl rfl ⟨rfl, rfl, rfl, rfl, rfl⟩ rfl rfl rfl rfl rfl (by kernel_rfl) Tryz.func6 (by kernel_rfl)
    (of_decide_eq_true (by kernel_rfl)) (by unfold Func.isWrapper; first | (rw [if_pos (by decide +kernel)]; kernel_rfl) | (rw [if_neg (by decide +kernel)]; exact ⟨rfl, rfl⟩))
    (fun os started H enc _ => lifted os started H enc)
theorem proved : Rows.ListschedCompactSaid := over
#print axioms proved
end Go.Proofs.YtjddmekfeckphaaGreat.listschedCompact
namespace Go.Proofs.YtjddmekfeckphaaGreat
/-- The row, under a short name, for the claim. -/
theorem listschedCompact_holds : Rows.ListschedCompactSaid := listschedCompact.proved
end Go.Proofs.YtjddmekfeckphaaGreat
