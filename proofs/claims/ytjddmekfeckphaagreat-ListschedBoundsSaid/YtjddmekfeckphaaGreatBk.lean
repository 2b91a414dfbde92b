/- slices.Backward over numbers: the iterator's contract. -/
import Derived.RangeFuncBox
import Derived.RangeFuncLeaves
import Derived.Shelf.Abstract
import Derived.WalkKit
import Derived.OwnWalkIn
import Derived.TacticsInMore
import Derived.LoopNIn
import Derived.LoopIn
import Derived.Test.YtjddmekfeckphaaGreatProg
import Derived.Test.YtjddmekfeckphaaGreatVm8
set_option linter.unusedVariables false
set_option linter.unusedSimpArgs false
namespace Go.Proofs.YtjddmekfeckphaaGreatV
open Go Go.RowKit Go.Shelf Go.Vm

attribute [local go_sem] Oper.semAt_some

set_option maxHeartbeats 1000000 in
theorem back73 : BackOk Go.Proofs.Tryz.prog 73 94 := by
  refine ⟨⟨_, _, Go.Proofs.Tryz.func73, name_ne (by kernel_rfl), rfl⟩, fun A len cap w => (callsIn_wide (n := 1)).1 ?_⟩
  refine callsIn_of_wp Go.Proofs.Tryz.func73 rfl trivial ?_ rfl
  simp only [Go.Proofs.Tryz.ntmps73, List.size_toArray, List.length_cons, List.length_nil, Nat.reduceAdd, Nat.reduceSub, Array.replicate_succ, Array.replicate_zero, List.push_toArray, List.append_toArray, List.nil_append, List.cons_append]
  gi_wp2
  go_ret
  exact ⟨rfl, _, rfl⟩

set_option maxRecDepth 100000 in
set_option maxHeartbeats 2000000 in
theorem iter94 : IterOk Go.Proofs.Tryz.prog 94 := by
  intro n l Bs zs J W hlen hJ hY h0
  refine callsIn_of_wp Go.Proofs.Tryz.func94 rfl trivial ?_ rfl
  simp only [Go.Proofs.Tryz.ntmps94, List.size_toArray, List.length_cons, List.length_nil, Nat.reduceAdd, Nat.reduceSub, Array.replicate_succ, Array.replicate_zero, List.push_toArray, List.append_toArray, List.nil_append, List.cons_append]
  obtain ⟨A, cap, hb, hcap, hc⟩ := hJ 0 W h0
  gi_wp2
  gi_loopw [3] (fun i wr => ∃ k : Nat, k ≤ zs.length ∧ i = .int .i64 ((zs.length : Int) - 1 - k) ∧ J k wr)
    (fun i _ => (intOf i + 1).toNat)
  case atStart => exact ⟨0, Nat.zero_le _, by simp, h0⟩
  case round =>
    obtain ⟨k, hk, rfl, hJs⟩ := hrel
    by_cases hlt : k < zs.length
    · obtain ⟨m, hm⟩ : ∃ m : Nat, zs.length - 1 - k = m := ⟨_, rfl⟩
      have em : (zs.length : Int) - 1 - k = (m : Int) := by omega
      have hmlt : m < zs.length := by omega
      rw [em]
      obtain ⟨A', cap', hb', hcap', hc'⟩ := hJ k wr hJs
      obtain ⟨b, off, rfl, hcx⟩ := hc' m hmlt
      obtain ⟨fn, tmps, assign, body, hy, hR⟩ := hY k wr hJs hlt
      rw [hm] at hy
      generalize zs.getD m 0 = v at hcx hy
      clear hc' hc hb hY hJ
      gi_wp2
      refine hR.mono ?_
      rintro e W3 ⟨rfl, hJ3⟩
      gi_wp2
      go_roundw
      case rel => exact ⟨k + 1, by omega, by congr 1; omega, hJ3⟩
      case measure => first | (simp [intOf]; done) | (simp [intOf]; omega)
    · obtain rfl : k = zs.length := by omega
      have em : (zs.length : Int) - 1 - (zs.length : Nat) = -1 := by omega
      rw [em]
      clear hJ hY hc
      gi_wp2
      go_end0
      exact ⟨⟨_, rfl⟩, hJs⟩
end Go.Proofs.YtjddmekfeckphaaGreatV
