/- Chapter 32: the fixed example. -/
import Derived.Test.YtjddmekfeckphaaGreatG02d
import Derived.KernelRfl
set_option linter.unusedVariables false
set_option linter.unusedSimpArgs false
namespace Go.Proofs.YtjddmekfeckphaaGreatV
open Go Go.Vm

theorem evAt {α : Type} {f : Nat → Option α} {y : α} (N : Nat) (h : ∀ k, f (k + N) = some y) : Ev f y :=
  ⟨N, fun k hk => by obtain ⟨j, rfl⟩ : ∃ j, k = j + N := ⟨k - N, by omega⟩; exact h j⟩

def f32 : Flow := (3, 0, false, [(3, 0, 0, 0, ()), (3, 1, 0, 0, ()), (3, 2, 0, 0, ()), (3, 4, 0, 0, ()), (0, 4, 2, 0, ()), (1, 4, 2, 0, ()), (2, 4, 2, 0, ())], [(1, 0, 0, 1, ())], [(0, 2, ()), (0, 2, ()), (0, 2, ())], ())
def g32 : Graph := (5, [(3, 0, ()), (3, 1, ()), (3, 2, ()), (3, 4, ()), (0, 4, ()), (1, 4, ()), (2, 4, ())], ())
def t32 : Graph := (5, [(0, 3, ()), (1, 3, ()), (2, 3, ()), (4, 0, ()), (4, 1, ()), (4, 2, ()), (4, 3, ())], ())
theorem next32 : NEXT g32 = [[4], [4], [4], [0, 1, 2, 4], []] := by decide
theorem turn32 : TURN g32 = t32 := by decide
theorem nextt32 : NEXT t32 = [[3], [3], [3], [], [0, 1, 2, 3]] := by decide
theorem triple32 : Ev (fun k => jacquardlaw32_triple.f k 1) f32 := evAt 20 fun k => by kernel_rfl
theorem fin32 : Ev (fun k => graph_finished.f k [[4], [4], [4], [0, 1, 2, 4], []]) [4, 0, 1, 2, 3] := evAt 200 fun k => by kernel_rfl
theorem comps32 : Ev (fun k => graph_Components.f k g32) [0, 1, 2, 3, 4] := by
  simp only [graph_Components.f]
  refine .bind (Next_prog g32 (by decide)) ?_
  rw [next32]
  refine .bind fin32 ?_
  refine .bind (Turn_prog g32 (by decide) (by decide)) ?_
  rw [turn32]
  refine .bind (x := [[3], [3], [3], [], [0, 1, 2, 3]]) ?_ ?_
  · have := Next_prog t32 (by decide)
    rw [nextt32] at this
    exact this
  · exact evAt 200 fun k => by kernel_rfl
theorem tangled32 : Ev (fun k => listsched_tangled.f k f32) false := by
  have h : Ev (fun k => (graph_Components.f k g32).bind fun y => listsched_tangled.c12 k (y.length : Int) 0 f32 y ([] : List (Int × Int))) false := by
    refine .bind comps32 ?_
    exact evAt 100 fun k => by kernel_rfl
  exact h.steps 8 fun k => by kernel_rfl
theorem sched32 : Ev (fun k => listsched_Schedule.f k f32) ((0, 6, [0, 2, 4], [], [0, 0, 0], ()), 0, ()) := by
  simp only [listsched_Schedule.f]
  refine .bind (x := true) (evAt 100 fun k => by kernel_rfl) ?_
  simp only [Bool.not_true, cond_false]
  have e : dataflow_Nodes.f f32 = some 5 := by kernel_rfl
  rw [e]
  simp only [Option.bind_some]
  have e2 : Flow.Loop f32 = false := rfl
  simp only [e2, cond_false]
  refine .bind (x := ([0, 0, 0, 0, 2], none, ())) (evAt 200 fun k => by kernel_rfl) ?_
  refine .bind tangled32 ?_
  exact evAt 400 fun k => by kernel_rfl
theorem awake_ev : Ev (fun k => jacquardlaw32_awake.f k) true := by
  simp only [jacquardlaw32_awake.f]
  refine .bind triple32 ?_
  refine .bind sched32 ?_
  exact evAt 0 fun k => by kernel_rfl
end Go.Proofs.YtjddmekfeckphaaGreatV
