/- The sort of links: its comparator, and its contract. -/
import Derived.Test.YtjddmekfeckphaaGreatE0
import Derived.Test.YtjddmekfeckphaaGreatSh
set_option linter.unusedVariables false
set_option linter.unusedSimpArgs false
namespace Go.Proofs.YtjddmekfeckphaaGreatV
open Go Go.Vm
theorem compare_eq (a b : Int) : cmp_Compare_int.f a b = some (cmpI a b) := by
  unfold cmp_Compare_int.f cmp_isNaN_int.f cmpI
  simp only [decide_true, Bool.not_true, Option.bind_some, cond_false]
  by_cases h1 : a < b
  · simp [h1]
  · by_cases h2 : b < a <;> simp [h1, h2]
theorem or2_eq (x y : Int) : cmp_Or_int.f 100 [x, y] = some (if x = 0 then y else x) := by
  have step : ∀ k z l n i, cmp_Or_int.c3 (k + 1) z l n i = bif decide (i < n) then (if 0 ≤ i ∧ i < (l.length : Int) then (bif !decide (rd l i = z) then some (rd l i) else cmp_Or_int.c3 k z l n (w64 (i + 1))) else none) else some z := fun _ _ _ _ _ => rfl
  show cmp_Or_int.c3 (99 + 1) 0 [x, y] 2 0 = _
  have e : w64 (0 + 1) = 1 := by decide
  have e2 : w64 (1 + 1) = 2 := by decide
  have r0 : rd [x, y] 0 = x := rfl
  have r1 : rd [x, y] 1 = y := rfl
  rw [step, r0, e]
  by_cases h : x = 0
  · rw [show (99 : Nat) = 98 + 1 by rfl, step, r1, e2]
    by_cases h2 : y = 0
    · rw [show (98 : Nat) = 97 + 1 by rfl, step]
      simp [h, h2]
    · simp [h, h2]
  · simp [h]
theorem cfTurn_eq (x y : Link) : graph_Turn_1.f 100 x y = some (cfTurn x y) := by
  unfold graph_Turn_1.f cfTurn
  rw [compare_eq, compare_eq]
  simp only [Option.bind_some]
  rw [or2_eq]
  rfl
theorem cmpI_lt {a b : Int} : cmpI a b < 0 ↔ a < b := by unfold cmpI; repeat' split <;> omega
theorem cmpI_eq {a b : Int} : cmpI a b = 0 ↔ a = b := by unfold cmpI; repeat' split <;> omega
theorem cfTurn_lt {x y : Link} : (Go.Proofs.ltOf cfTurn) x y = true ↔ x.1 < y.1 ∨ x.1 = y.1 ∧ x.2.1 < y.2.1 := by
  unfold Go.Proofs.ltOf cfTurn
  rw [decide_eq_true_iff]
  split
  · rename_i h
    rw [cmpI_lt]
    rw [cmpI_eq] at h
    omega
  · rename_i h
    rw [cmpI_lt]
    rw [cmpI_eq] at h
    omega
theorem cfTurn_swo : Go.Sort.SWO (Go.Proofs.ltOf cfTurn) := by
  constructor
  · intro x
    rw [← Bool.not_eq_true, cfTurn_lt]
    omega
  · intro x y z
    rw [cfTurn_lt, cfTurn_lt, cfTurn_lt]
    omega
  · intro x y z
    rw [← Bool.not_eq_true, ← Bool.not_eq_true, ← Bool.not_eq_true, cfTurn_lt, cfTurn_lt, cfTurn_lt]
    omega
theorem cfTurn_total (x y : Link) (h1 : (Go.Proofs.ltOf cfTurn) x y = false) (h2 : (Go.Proofs.ltOf cfTurn) y x = false) : x = y := by
  rw [← Bool.not_eq_true, cfTurn_lt] at h1 h2
  obtain ⟨x1, x2, _⟩ := x
  obtain ⟨y1, y2, _⟩ := y
  simp only at h1 h2
  have e1 : x1 = y1 := by omega
  have e2 : x2 = y2 := by omega
  rw [e1, e2]
def so90_91 : So := ⟨90, Link.T, [91], sortgraph_Turn_1⟩
theorem so90_91_ok : SoOk Go.Proofs.Tryz.prog so90_91 :=
  sortF_ok (t := Link.T) (ρ := Go.Proofs.Tryz.lays90_ren) rfl rfl Go.Proofs.Tryz.lays90 Go.Proofs.Tryz.isAgg78 Go.Proofs.Tryz.sizeOf78 cfTurn cfTurn_swo cfTurn_total (graph_Turn_1.ok 100) cfTurn_eq
end Go.Proofs.YtjddmekfeckphaaGreatV
