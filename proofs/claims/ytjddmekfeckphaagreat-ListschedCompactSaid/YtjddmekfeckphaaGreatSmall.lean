/- Flows: small ones. -/
import Derived.Test.YtjddmekfeckphaaGreatFlowV
set_option linter.unusedVariables false
set_option linter.unusedSimpArgs false
namespace Go.Proofs.YtjddmekfeckphaaGreatV
open Go Go.Vm

structure SMALL (f : Flow) (n m : Int) : Prop where
  insts : Flow.Insts f ≤ n
  params : Flow.Params f ≤ m
  arcs : (Flow.Arcs f).length ≤ 90
  res : (Flow.Res f).length ≤ 6
  arc : ∀ i, i < (Flow.Arcs f).length → Arc.Lat (rd (Flow.Arcs f) (i : Int)) ≤ 60 ∧ Arc.Dist (rd (Flow.Arcs f) (i : Int)) ≤ 20
  busy : ∀ i, i < (Flow.Needs f).length → Need.Busy (rd (Flow.Needs f) (i : Int)) ≤ 20

section
variable {f : Flow}
theorem small_ref (n m : Int) (ha : (Flow.Arcs f).length ≤ 140737488351232) (hn : (Flow.Needs f).length ≤ 140737488351232) : EvP (fun k => jacquardref28_Small.f k f n m) (SMALL f n m) := by
  simp only [jacquardref28_Small.f]
  refine EvP.all' 1 (c := fun k i => jacquardref28_Small.c2 k n m ((Flow.Arcs f).length : Int) (i : Int) f) (n := (Flow.Arcs f).length) (P := fun i => Arc.Lat (rd (Flow.Arcs f) (i : Int)) ≤ 60 ∧ Arc.Dist (rd (Flow.Arcs f) (i : Int)) ≤ 20) (fun q => q.arc) (fun i hi k => ?_) (fun h1 => ?_)
  · have b1 : 0 ≤ (i : Int) ∧ (i : Int) < ((Flow.Arcs f).length : Int) := by omega
    simp only [jacquardref28_Small.c2, natC]
    rw [decide_eq_true b1.2, w64_id (by omega) (by omega)]
    simp only [if_pos b1, cond_true]
    generalize jacquardref28_Small.c2 k _ _ _ _ _ = r
    generalize rd (Flow.Arcs f) (i : Int) = a
    obtain ⟨a1, a2, a3, a4, _⟩ := a
    clear b1 hi ha hn
    grind
  · refine EvP.step (g := fun k => jacquardref28_Small.c8 k n m ((Flow.Needs f).length : Int) 0 f) ?_ fun k => ?_
    · refine EvP.all' 1 (c := fun k i => jacquardref28_Small.c8 k n m ((Flow.Needs f).length : Int) (i : Int) f) (n := (Flow.Needs f).length) (P := fun i => Need.Busy (rd (Flow.Needs f) (i : Int)) ≤ 20) (fun q => q.busy) (fun i hi k => ?_) (fun h2 => ?_)
      · have b1 : 0 ≤ (i : Int) ∧ (i : Int) < ((Flow.Needs f).length : Int) := by omega
        simp only [jacquardref28_Small.c8, natC]
        rw [decide_eq_true b1.2, w64_id (by omega) (by omega)]
        simp only [if_pos b1, cond_true]
        generalize jacquardref28_Small.c8 k _ _ _ _ _ = r
        generalize rd (Flow.Needs f) (i : Int) = a
        obtain ⟨a1, a2, _⟩ := a
        clear b1 hi ha hn h1
        grind
      · refine EvP.step (g := fun _ => bif decide (Flow.Insts f ≤ n) then bif decide (Flow.Params f ≤ m) then bif decide (((Flow.Arcs f).length : Int) ≤ 90) then some (decide (((Flow.Res f).length : Int) ≤ 6)) else some false else some false else some false) ?_ fun k => ?_
        · refine .cond (fun q1 => .cond (fun q2 => .cond (fun q3 => .dec ?_) fun q3 => .ff fun v => ?_) fun q2 => .ff fun v => ?_) fun q1 => .ff fun v => ?_
          · have q1 := of_decide_eq_true q1
            have q2 := of_decide_eq_true q2
            have q3 := of_decide_eq_true q3
            exact ⟨fun q => ⟨q1, q2, by omega, by omega, h1, h2⟩, fun q => by have := q.res; omega⟩
          · have := v.arcs; have := of_decide_eq_false q3; omega
          · have := v.params; have := of_decide_eq_false q2; omega
          · have := v.insts; have := of_decide_eq_false q1; omega
        · simp only [jacquardref28_Small.c8]
          rw [decide_eq_false (by omega)]
          rfl
    · simp only [jacquardref28_Small.c2]
      rw [decide_eq_false (by omega)]
      rfl
end
end Go.Proofs.YtjddmekfeckphaaGreatV
