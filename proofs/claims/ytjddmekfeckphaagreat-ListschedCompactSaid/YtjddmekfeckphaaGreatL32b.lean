/- Chapter 32: contested instructions. -/
import Derived.Test.YtjddmekfeckphaaGreatL32a
import Derived.Test.YtjddmekfeckphaaGreatSmall
import Derived.Test.YtjddmekfeckphaaGreatWp
set_option linter.unusedVariables false
set_option linter.unusedSimpArgs false
namespace Go.Proofs.YtjddmekfeckphaaGreatV
open Go Go.Vm

/-- how many of the first m instructions need a resource -/
def cntN (l : List Need) (r : Int) : Nat → Nat
  | 0 => 0
  | m + 1 => cntN l r m + if Need.Res (rd l (m : Int)) = r then 1 else 0
theorem cntN_succ (l : List Need) (r : Int) (m : Nat) : cntN l r (m + 1) = cntN l r m + if Need.Res (rd l (m : Int)) = r then 1 else 0 := rfl
theorem cntN_le (l : List Need) (r : Int) : ∀ m : Nat, cntN l r m ≤ m
  | 0 => Nat.le_refl _
  | m + 1 => by
    have := cntN_le l r m
    rw [cntN_succ]
    split <;> omega
/-- an instruction is contested -/
def CONT (f : Flow) (i : Nat) : Prop := 0 ≤ Need.Res (rd (Flow.Needs f) (i : Int)) ∧ Resource.Count (rd (Flow.Res f) (Need.Res (rd (Flow.Needs f) (i : Int)))) < (cntN (Flow.Needs f) (Need.Res (rd (Flow.Needs f) (i : Int))) (Flow.Needs f).length : Int)
instance (f : Flow) (i : Nat) : Decidable (CONT f i) := by unfold CONT; infer_instance
def CONTS (f : Flow) (m : Nat) : List Int := pick (fun i => decide (CONT f i)) (fun i => (i : Int)) m

def FEW (f : Flow) : Prop := SMALL f 14 6 ∧ (Flow.Needs f).length ≤ 20
section
variable {f : Flow}
theorem few_ev (ha : (Flow.Arcs f).length ≤ 140737488351232) (hn : (Flow.Needs f).length ≤ 140737488351232) : EvP (fun k => jacquardlaw32_few.f k f) (FEW f) := by
  simp only [jacquardlaw32_few.f]
  refine EvP.test (small_ref 14 6 ha hn) (fun h => ?_) fun h => ?_
  · simp only [cond_true]
    exact .dec ⟨fun q => ⟨h, by omega⟩, fun q => by have := q.2; omega⟩
  · simp only [cond_false]
    exact .ff fun q => h q.1
theorem sizes_of (h : FEW f) : SIZES f := ⟨by have := h.1.arcs; omega, by have := h.1.res; omega, by have := h.2; omega⟩

theorem need_at (V : VALID f) {i : Nat} (hi : i < (Flow.Needs f).length) : -1 ≤ Need.Res (rd (Flow.Needs f) (i : Int)) ∧ Need.Res (rd (Flow.Needs f) (i : Int)) < ((Flow.Res f).length : Int) := by
  rcases V.need i hi with ⟨a, _⟩ | ⟨a, b, _⟩ <;> omega

theorem contested_ref (V : VALID f) (hn : (Flow.Needs f).length ≤ 1000000) : Ev (fun k => jacquardref32_Contested.f k f) (CONTS f (Flow.Needs f).length) := by
  simp only [jacquardref32_Contested.f]
  refine Ev.up (c := fun k i => jacquardref32_Contested.c3 k ((Flow.Needs f).length : Int) (i : Int) f (CONTS f i)) (n := (Flow.Needs f).length) ?_ (fun i hi ih => ?_) 0 (Nat.zero_le _)
  · refine .succ ?_
    simp (disch := omega) only [jacquardref32_Contested.c3, ↓cdF]
    exact .ret _
  · have b := need_at V hi
    have hpl : (CONTS f i).length ≤ i := pick_len _ _ _
    simp only [natC] at ih
    refine .succ ?_
    simp (disch := omega) only [jacquardref32_Contested.c3, ↓cdT]
    have e0 : (0 : Int) = (cntN (Flow.Needs f) (Need.Res (rd (Flow.Needs f) (i : Int))) 0 : Int) := rfl
    refine Ev.up (c := fun k j => jacquardref32_Contested.c7 k (i : Int) (cntN (Flow.Needs f) (Need.Res (rd (Flow.Needs f) (i : Int))) j : Int) ((Flow.Needs f).length : Int) (i : Int) ((Flow.Needs f).length : Int) (j : Int) f (CONTS f i)) (n := (Flow.Needs f).length) ?_ (fun j hj ih2 => ?_) 0 (Nat.zero_le _)
    · unfold CONTS at ih hpl ⊢
      rw [pick_succ] at ih
      refine .succ ?_
      simp (disch := omega) only [jacquardref32_Contested.c7, ↓cdF, ↓if_pos, w64_id]
      refine .dec (fun h0 => ?_) fun h0 => ?_
      · simp (disch := omega) only [↓if_pos]
        refine .dec (fun h1 => ?_) fun h1 => ?_
        · rw [if_pos (by exact decide_eq_true ⟨h0, h1⟩)] at ih
          simp (disch := (simp only [List.length_singleton]; omega)) only [↓bleT]
          exact ih
        · rw [if_neg (by rw [decide_eq_true_iff]; exact fun q => h1 q.2)] at ih
          exact ih
      · rw [if_neg (by rw [decide_eq_true_iff]; exact fun q => h0 q.1)] at ih
        exact ih
    · have hle := cntN_le (Flow.Needs f) (Need.Res (rd (Flow.Needs f) (i : Int))) j
      simp only [natC] at ih2
      refine .succ ?_
      simp (disch := omega) only [jacquardref32_Contested.c7, ↓cdT, ↓if_pos, w64_id]
      rw [cntN_succ] at ih2
      refine .dec (fun h0 => ?_) fun h0 => ?_
      · rw [if_pos h0] at ih2
        exact ih2
      · rw [if_neg h0] at ih2
        exact ih2

end
end Go.Proofs.YtjddmekfeckphaaGreatV
