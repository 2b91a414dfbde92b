/- The law DiffconsChecks: for every input it returns true, and each argument reads behind the call as it read before. No condition. -/
import Derived.Test.YtflefelgdcblgaaRows
import Derived.Test.YtflefelgdcblgaaQx22
import Derived.Test.YtflefelgdcblgaaOpener
import Derived.Test.YtflefelgdcblgaaPureDiffconsChecks
import Derived.WalkKit
import Derived.ProofKit
import Derived.OpenShut
import Derived.ShutString
import Derived.ChangeOld
import Derived.Below
import Derived.SizedLaws
import Derived.Carry
namespace Go.Proofs.Ytflefelgdcblgaa.diffconsChecks
open Go.ChangeShapes Go.WideShapes Go.ChangeAt Go.RowKit Go.Proofs.Ytflefelgdcblgaa.Opener Go.Proofs.Ytflefelgdcblgaa.Q Go.Proofs.YtflefelgdcblgaaW.PrintWords
open Go.ChangeMaps (open_string shut_string)
set_option linter.unusedVariables false
theorem own : ownKnob Try.prog.godebug = none := by kernel_rfl
theorem laidOut : laidOutB Try.prog = true := by kernel_rfl
set_option maxRecDepth 100000 in theorem lifted (os : Os) (started : os.Started) (H : Type) (enc : TypeId × Value → H) :
    ReturnsInHanded {} Try.checked os 9 .any (Rows.diffconsChecksSpec.pre6 enc Try.prog Try.f9 Rows.diffconsChecksRow.domain false) (Rows.diffconsChecksSpec.post enc Try.prog Try.f9 false true false false) := by
  refine returnsInHanded_of_change_sized (C := Try.checked) own started (by kernel_rfl) Try.func9
    (ChangeSpec.witness6 (enc := enc) (C := Try.checked) false ⟨#[], #[.agg #[.int .i64 0, .slice none 0 0, .int .i64 0], .slice none 0 0, .slice none 0 0], []⟩ 12 (by kernel_rfl) (by kernel_rfl) (by kernel_rfl) (by kernel_rfl)) ?_
  intro W base args ds gs before hval0 hW hcnd hsz0 _
  have hsz : (DataW.weightsEach Try.prog (Try.f9.params.toList ++ Rows.diffconsChecksSpec.plain.varTypes Try.prog) (ds ++ gs)).all (· ≤ reachBytes) = true := hsz0
  have hval : ∀ (j : Nat) t v, Try.f9.params[j]? = some t → args[j]? = some v → Value.okWide Try.prog W .any base t v := hval0
  have hW' := hW
  obtain ⟨p, q, hA0, hV, rfl, hfz, hnd⟩ := hW
  have hA : DataW.TrodAll enc Try.prog W 0 (fun _ => true) true Try.f9.params.toList args.toList ds p := hA0
  rw [Try.params9] at hA hval hsz
  obtain ⟨v0, vs0, d0, ds0, p0, q0, hargs, rfl, rfl, h0, r0⟩ := trodAll_cons hA
  obtain ⟨v1, vs1, d1, ds1, p1, q1, rfl, rfl, rfl, h1, r1⟩ := trodAll_cons r0
  obtain ⟨v2, vs2, d2, ds2, p2, q2, rfl, rfl, rfl, h2, r2⟩ := trodAll_cons r1
  obtain ⟨rfl, rfl, rfl⟩ := trodAll_nil r2
  obtain rfl : args = #[v0, v1, v2] := by cases args; simp_all
  obtain ⟨rfl, rfl⟩ := trodVars_none hV
  have k0 := h0
  have lt0 : ∀ x ∈ p0, x.block < W.heap.size := by obtain ⟨m, hm⟩ := k0; exact DataW.trod_lt m _ _ _ hm
  obtain ⟨cs0, rfl⟩ := okWide_agg Try.underlying24 (hval 0 24 v0 rfl rfl)
  obtain ⟨⟨a0_0, l0_1, a0_2⟩, ⟨_, _, e0, rfl, ⟨_, _, rfl, ⟨A0_1, c0_1, rfl, hc0_1, hC0_1⟩, rfl⟩⟩, ⟨g0_0, g0_1, g0_2⟩⟩ := opens_arg (opens_struct Try.underlying24 (by kernel_rfl) (opensF_cons rfl (by kernel_rfl) (opens_int Try.underlying3) (opensF_cons rfl (by kernel_rfl) (opens_slice (d := k28) (B := 32) Try.underlying22 (by kernel_rfl) (by kernel_rfl) (opens_iso (fun x : S28 => (x.f0, x.f1, x.f2, x.f3)) (fun p => ⟨p.1, p.2.1, p.2.2.1, p.2.2.2⟩) (fun _ => rfl) (opens_struct Try.underlying28 (by kernel_rfl) (opensF_cons rfl (by kernel_rfl) (opens_int Try.underlying3) (opensF_cons rfl (by kernel_rfl) (opens_int Try.underlying3) (opensF_cons rfl (by kernel_rfl) (opens_int Try.underlying3) (opensF_one rfl (by kernel_rfl) (opens_int Try.underlying3)))))))) (opensF_one rfl (by kernel_rfl) (opens_int Try.underlying3))))) hsz (j := 0) rfl rfl h0
  have e0' : Value.agg cs0 = .agg #[.int .i64 a0_0, .slice A0_1 l0_1.length c0_1, .int .i64 a0_2] := agg_of_cells e0
  injection e0' with e0'
  subst e0'
  have k1 := h1
  have lt1 : ∀ x ∈ p1, x.block < W.heap.size := by obtain ⟨m, hm⟩ := k1; exact DataW.trod_lt m _ _ _ hm
  obtain ⟨b1, n1, m1, rfl⟩ := okWide_slice Try.underlying29 (hval 1 29 v1 rfl rfl)
  obtain ⟨l1, ⟨A1, c1, e1, hc1, hC1⟩, g1⟩ := opens_arg (opens_slice (d := (Kd.int .i64)) (B := 8) Try.underlying29 (by kernel_rfl) (by kernel_rfl) (opens_int Try.underlying3)) hsz (j := 1) rfl rfl h1
  obtain ⟨rfl, rfl, rfl⟩ : b1 = A1 ∧ n1 = l1.length ∧ m1 = c1 := by simpa [Value.cells] using e1
  have k2 := h2
  have lt2 : ∀ x ∈ p2, x.block < W.heap.size := by obtain ⟨m, hm⟩ := k2; exact DataW.trod_lt m _ _ _ hm
  obtain ⟨b2, n2, m2, rfl⟩ := okWide_slice Try.underlying29 (hval 2 29 v2 rfl rfl)
  obtain ⟨l2, ⟨A2, c2, e2, hc2, hC2⟩, g2⟩ := opens_arg (opens_slice (d := (Kd.int .i64)) (B := 8) Try.underlying29 (by kernel_rfl) (by kernel_rfl) (opens_int Try.underlying3)) hsz (j := 2) rfl rfl h2
  obtain ⟨rfl, rfl, rfl⟩ : b2 = A2 ∧ n2 = l2.length ∧ m2 = c2 := by simpa [Value.cells] using e2
  clear hA0 hval0 hsz0 hsz
  obtain ⟨k, hk⟩ := Pure.DiffconsChecks a0_0 l0_1 a0_2 l1 l2 g0_0 g0_1 g0_2 g1 g2
  refine (jacquardlaw30_DiffconsChecks.calls (k := k) (h := hk) (hr0_1 := hC0_1) (hc0_1 := hc0_1) (hr1 := hC1) (hc1 := hc1) (hr2 := hC2) (hc2 := hc2)).mono fun e W' ⟨he, bel⟩ => ?_
  subst he
  exact ⟨_, rfl, _, _, _, [], _, [], hW', trodAll_mk1 (shut_bool Try.underlying4 _), (trodAll_cons_mk (Below.trod laidOut (by kernel_rfl) (of_decide_eq_true (by kernel_rfl)) k0 bel lt0) (trodAll_cons_mk (Below.trod laidOut (by kernel_rfl) (of_decide_eq_true (by kernel_rfl)) k1 bel lt1) (trodAll_cons_mk (Below.trod laidOut (by kernel_rfl) (of_decide_eq_true (by kernel_rfl)) k2 bel lt2) trodAll_mk0))), rfl, bel.frame _, fun h => by cases h⟩
theorem over : Rows.diffconsChecksRow.holds Try.pinned (OpenSpec.ofChange Rows.diffconsChecksSpec) :=
  OpenClaim.holds_of_wide 9 Try.f9 rfl rfl rfl rfl rfl rfl rfl ⟨rfl, rfl, rfl, rfl, rfl⟩ rfl rfl rfl rfl rfl (by kernel_rfl) Try.func9 (by kernel_rfl)
    (of_decide_eq_true (by kernel_rfl)) (by unfold Func.isWrapper; first | (rw [if_pos (by decide +kernel)]; kernel_rfl) | (rw [if_neg (by decide +kernel)]; exact ⟨rfl, rfl⟩))
    (fun os started H enc _ => lifted os started H enc)
theorem proved : Rows.DiffconsChecksSaid := over
#print axioms proved
end Go.Proofs.Ytflefelgdcblgaa.diffconsChecks
namespace Go.Proofs.Ytflefelgdcblgaa
theorem diffconsChecks_holds : Rows.DiffconsChecksSaid := diffconsChecks.proved
end Go.Proofs.Ytflefelgdcblgaa
