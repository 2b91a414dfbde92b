/- Schedules: times, late arcs: the reference. -/
import Derived.Test.YtjddmekfeckphaaGreatFlowV
import Derived.Test.YtjddmekfeckphaaGreatSmall
import Derived.Test.YtjddmekfeckphaaGreatWp
set_option linter.unusedVariables false
set_option linter.unusedSimpArgs false
namespace Go.Proofs.YtjddmekfeckphaaGreatV
open Go Go.Vm

section
variable {f : Flow} {s : Sched}

/-! ### starts of nodes -/
def tm (f : Flow) (s : Sched) (v : Int) : Int := if v < Flow.Insts f then rd (Sched.Start s) v else if v < Flow.N f then rd (Sched.Params s) (v - Flow.Insts f) else if v = Flow.N f then 0 else Sched.Depth s

theorem tm_bound (F : FITS f s) (V : VALID f) {v : Int} (h0 : 0 ≤ v) : 0 ≤ tm f s v ∧ tm f s v ≤ 4096 := by
  unfold tm
  have h1 := F.start
  have h2 := F.params
  have h3 := F.depth
  have hN : Flow.N f = Flow.Insts f + Flow.Params f := rfl
  have hi := V.i0
  split
  · have := F.starts v.toNat (by omega)
    rw [show ((v.toNat : Nat) : Int) = v by omega] at this
    exact this
  · split
    · have := F.parms (v - Flow.Insts f).toNat (by omega)
      rw [show (((v - Flow.Insts f).toNat : Nat) : Int) = v - Flow.Insts f by omega] at this
      exact this
    · split <;> omega

theorem time_ref (F : FITS f s) (V : VALID f) {v : Int} (h0 : 0 ≤ v) : jacquardref28_Time.f f s v = some (tm f s v) := by
  unfold jacquardref28_Time.f tm jacquardref28_Source.f
  have h1 := F.start
  have h2 := F.params
  have hN : Flow.N f = Flow.Insts f + Flow.Params f := rfl
  have i0 := V.i0
  have i1 := V.i1
  have p0 := V.p0
  have p1 := V.p1
  rw [w64_id (n := Flow.Insts f + Flow.Params f) (by omega) (by omega)]
  simp only [Option.bind_some]
  by_cases hv : v < Flow.Insts f
  · rw [decide_eq_true hv, if_pos hv, if_pos (by omega)]; rfl
  · rw [decide_eq_false hv, if_neg hv]
    simp only [cond_false]
    by_cases hv2 : v < Flow.N f
    · rw [decide_eq_true (show v < Flow.Insts f + Flow.Params f by omega), if_pos hv2]
      simp only [cond_true]
      rw [w64_id (n := v - Flow.Insts f) (by omega) (by omega), if_pos (by omega)]
    · rw [decide_eq_false (show ¬ v < Flow.Insts f + Flow.Params f by omega), if_neg hv2]
      simp only [cond_false]
      by_cases hv3 : v = Flow.N f
      · rw [decide_eq_true (show v = Flow.Insts f + Flow.Params f by omega), if_pos hv3]; rfl
      · rw [decide_eq_false (show ¬ v = Flow.Insts f + Flow.Params f by omega), if_neg hv3]; rfl

/-! ### late arcs -/
def slk (f : Flow) (s : Sched) (i : Nat) : Int := tm f s (Arc.To (rd (Flow.Arcs f) (i : Int))) - tm f s (Arc.From (rd (Flow.Arcs f) (i : Int))) - (Arc.Lat (rd (Flow.Arcs f) (i : Int)) - Sched.II s * Arc.Dist (rd (Flow.Arcs f) (i : Int)))

theorem arc_mul (F : FITS f s) (V : VALID f) {i : Nat} (hi : i < (Flow.Arcs f).length) : 0 ≤ Sched.II s * Arc.Dist (rd (Flow.Arcs f) (i : Int)) ∧ Sched.II s * Arc.Dist (rd (Flow.Arcs f) (i : Int)) ≤ 65536 := by
  obtain ⟨_, _, _, _, _, _, d0, d1, _⟩ := V.arcs i hi
  have h := F.ii
  refine ⟨Int.mul_nonneg h.1 d0, ?_⟩
  have := Int.mul_le_mul h.2 d1 d0 (by omega)
  omega

theorem slk_bound (F : FITS f s) (V : VALID f) {i : Nat} (hi : i < (Flow.Arcs f).length) : -100000 ≤ slk f s i ∧ slk f s i ≤ 100000 := by
  obtain ⟨a1, a2, a3, a4, a5, a6, d0, d1, _⟩ := V.arcs i hi
  have := arc_mul F V hi
  have t1 := tm_bound F V a1
  have t2 := tm_bound F V a3
  unfold slk
  omega

theorem late_ref (SF : SIZES f) (S : SSIZES s) (V : VALID f) (F : FITS f s) : Ev (fun k => jacquardref28_Late.f k f s) (pick (fun i => decide (slk f s i < 0)) (fun i => (i : Int)) (Flow.Arcs f).length) := by
  simp only [jacquardref28_Late.f]
  have hs := SF.arcs
  refine Ev.up (c := fun k i => jacquardref28_Late.c3 k ((Flow.Arcs f).length : Int) (i : Int) f s (pick (fun i => decide (slk f s i < 0)) (fun i => (i : Int)) i)) (n := (Flow.Arcs f).length) ?_ (fun i hi ih => ?_) 0 (Nat.zero_le _)
  · refine Ev.step (.ret _) fun k => ?_
    simp only [jacquardref28_Late.c3]
    rw [decide_eq_false (by omega)]
    rfl
  · refine ih.step fun k => ?_
    obtain ⟨a1, a2, a3, a4, a5, a6, d0, d1, _⟩ := V.arcs i hi
    have hm := arc_mul F V hi
    have t1 := tm_bound F V a1
    have t2 := tm_bound F V a3
    have hpl2 := pick_len (fun i => decide (slk f s i < 0)) (fun i => (i : Int)) i
    simp only [jacquardref28_Late.c3, natC, time_ref F V a1, time_ref F V a3, jacquardref28_Weight.f, Option.bind_some]
    rw [w64_id (n := Sched.II s * _) (by omega) (by omega), w64_id (n := _ - Sched.II s * _) (by omega) (by omega), w64_id (n := tm f s _ - tm f s _) (by omega) (by omega), w64_id (n := (i : Int) + 1) (by omega) (by omega)]
    have e : decide (tm f s (Arc.To (rd (Flow.Arcs f) (i : Int))) - tm f s (Arc.From (rd (Flow.Arcs f) (i : Int))) < Arc.Lat (rd (Flow.Arcs f) (i : Int)) - Sched.II s * Arc.Dist (rd (Flow.Arcs f) (i : Int))) = decide (slk f s i < 0) := by
      congr 1
      unfold slk
      apply propext
      omega
    rw [decide_eq_true (show (i : Int) < ((Flow.Arcs f).length : Int) by omega), if_pos (by omega), e, pick_succ]
    have hble : Nat.ble ((pick (fun i => decide (slk f s i < 0)) (fun i => (i : Int)) i).length + [(i : Int)].length) 1073741824 = true := by
      rw [Nat.ble_eq]; simp; omega
    rw [hble]
    by_cases h : slk f s i < 0
    · simp [h]
    · simp [h]
end
end Go.Proofs.YtjddmekfeckphaaGreatV
