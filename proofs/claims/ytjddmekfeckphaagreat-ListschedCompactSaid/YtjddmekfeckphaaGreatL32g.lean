/- Chapter 32: legality in the reference and in the program. -/
import Derived.Test.YtjddmekfeckphaaGreatL32c
import Derived.Test.YtjddmekfeckphaaGreatChkV
set_option linter.unusedVariables false
set_option linter.unusedSimpArgs false
namespace Go.Proofs.YtjddmekfeckphaaGreatV
open Go Go.Vm

section
variable {f : Flow} {s : Sched}
theorem LG_iff (V : VALID f) (F : FITS f s) (hl : Flow.Loop f = false) : LEGAL f s ↔ LG f s := by
  have hn := V.needs
  have i0 := V.i0
  have a1 := F.start
  have hii : Sched.II s = 0 := by
    have := F.ii
    have h2 := F.loop
    rw [hl] at h2
    simp at h2
    omega
  have hd : ∀ i : Nat, i < (Flow.Arcs f).length → slk f s i = tm f s (Arc.To (rd (Flow.Arcs f) (i : Int))) - tm f s (Arc.From (rd (Flow.Arcs f) (i : Int))) - Arc.Lat (rd (Flow.Arcs f) (i : Int)) := fun i hi => by
    unfold slk
    rw [hii, Int.zero_mul]
    omega
  have hcl : ∀ i k : Nat, i < (Flow.Needs f).length → k < (Flow.Needs f).length → i ≠ k → (CL f s i k ↔ 0 ≤ Need.Res (rd (Flow.Needs f) (i : Int)) ∧ KL f s i k) := by
    intro i k hi hk hne
    unfold CL KL
    rw [hii]
    constructor
    · rintro ⟨q1, q2, q3, q4, q5, q6, _⟩
      have := q6 rfl
      exact ⟨q1, Ne.symm hne, q2.symm, q3.symm, by omega, by omega⟩
    · rintro ⟨q1, q2, q3, q4, q5, q6⟩
      have bi : 1 ≤ Need.Busy (rd (Flow.Needs f) (i : Int)) := by
        rcases V.need i hi with ⟨a, _⟩ | ⟨_, _, a, b⟩ <;> omega
      have bk : 1 ≤ Need.Busy (rd (Flow.Needs f) (k : Int)) := by
        rcases V.need k hk with ⟨a, _⟩ | ⟨_, _, a, b⟩ <;> omega
      exact ⟨q1, q3.symm, q4.symm, by omega, by omega, fun _ => by omega, fun h => by omega⟩
  have hcs : clList f s = [] ↔ ∀ i : Nat, i < (Flow.Insts f).toNat → ¬ CLA f s i := by
    unfold clList
    rw [List.flatMap_eq_nil_iff]
    have hrow : ∀ i : Nat, row f s i = [] ↔ ∀ m : Nat, m < (Flow.Insts f).toNat - 1 - i → ¬ CL f s i (i + 1 + m) := by
      intro i
      unfold row SELF
      rw [if_neg (by rw [hii]; omega), List.nil_append, pick_nil]
      constructor
      · intro h m hm q
        have := h m hm
        rw [decide_eq_false_iff_not] at this
        exact this q
      · intro h m hm
        rw [decide_eq_false_iff_not]
        exact h m hm
    constructor
    · rintro h i hi ⟨q1, k, hk, q2⟩
      rcases Nat.lt_or_gt_of_ne q2.1 with hlt | hgt
      · have := (hrow k).1 (h k (by simp; omega)) (i - 1 - k) (by omega)
        rw [show k + 1 + (i - 1 - k) = i by omega] at this
        exact this ((hcl k i hk (by omega) (by omega)).2 ⟨by have := q2.2.1; omega, q2.symm⟩)
      · have := (hrow i).1 (h i (by simpa using hi)) (k - 1 - i) (by omega)
        rw [show i + 1 + (k - 1 - i) = k by omega] at this
        exact this ((hcl i k (by omega) hk (by omega)).2 ⟨q1, q2⟩)
    · intro h i hi
      have hi : i < (Flow.Insts f).toNat := by simpa using hi
      refine (hrow i).2 fun m hm q => ?_
      have := (hcl i (i + 1 + m) (by omega) (by omega) (by omega)).1 q
      exact h i hi ⟨this.1, i + 1 + m, by omega, this.2⟩
  constructor
  · intro L
    refine ⟨L.params hl, fun i hi => ?_, fun i hi => hcs.1 L.clash i (by omega)⟩
    have := L.late i hi
    rw [hd i hi] at this
    omega
  · intro L
    refine ⟨by have := F.depth; omega, fun i hi => ?_, hcs.2 fun i hi => L.free i (by omega), fun _ => L.params⟩
    rw [hd i hi]
    have := L.arcs i hi
    omega
end
end Go.Proofs.YtjddmekfeckphaaGreatV
