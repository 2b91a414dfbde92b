/- Chapter 32: contested instructions. -/
import Derived.Test.YtjddmekfeckphaaL32a
import Derived.Test.YtjddmekfeckphaaSmall
import Derived.Test.YtjddmekfeckphaaWp
set_option linter.unusedVariables false
set_option linter.unusedSimpArgs false
namespace Go.Proofs.YtjddmekfeckphaaV
open Go Go.Vm

/-- how many of the first m instructions need a resource -/
def cntN (l : List Need) (r : Int) : Nat → Nat
  | 0 => 0
  | m + 1 => cntN l r m + if Need.Res (rd l (m : Int)) = r then 1 else 0
theorem cntN_succ (l : List Need) (r : Int) (m : Nat) : cntN l r (m + 1) = cntN l r m + if Need.Res (rd l (m : Int)) = r then 1 else 0 := rfl
theorem cntN_le (l : List Need) (r : Int) : ∀ m : Nat, cntN l r m ≤ m
  | 0 => Nat.le_refl _
  | m + 1 => by
    have := cntN_le l r m
    rw [cntN_succ]
    split <;> omega
/-- an instruction is contested -/
def CONT (f : Flow) (i : Nat) : Prop := 0 ≤ Need.Res (rd (Flow.Needs f) (i : Int)) ∧ Resource.Count (rd (Flow.Res f) (Need.Res (rd (Flow.Needs f) (i : Int)))) < (cntN (Flow.Needs f) (Need.Res (rd (Flow.Needs f) (i : Int))) (Flow.Needs f).length : Int)
instance (f : Flow) (i : Nat) : Decidable (CONT f i) := by unfold CONT; infer_instance
def CONTS (f : Flow) (m : Nat) : List Int := pick (fun i => decide (CONT f i)) (fun i => (i : Int)) m

def FEW (f : Flow) : Prop := SMALL f 14 6 ∧ (Flow.Needs f).length ≤ 20
section
variable {f : Flow}
theorem few_ev (ha : (Flow.Arcs f).length ≤ 140737488351232) (hn : (Flow.Needs f).length ≤ 140737488351232) : EvP (fun k => jacquardlaw32_few.f k f) (FEW f) := by
  simp only [jacquardlaw32_few.f]
  refine EvP.test (small_ref 14 6 ha hn) (fun h => ?_) fun h => ?_
  · simp only [cond_true]
    exact .dec ⟨fun q => ⟨h, by omega⟩, fun q => by have := q.2; omega⟩
  · simp only [cond_false]
    exact .ff fun q => h q.1
theorem sizes_of (h : FEW f) : SIZES f := ⟨by have := h.1.arcs; omega, by have := h.1.res; omega, by have := h.2; omega⟩

theorem need_at (V : VALID f) {i : Nat} (hi : i < (Flow.Needs f).length) : -1 ≤ Need.Res (rd (Flow.Needs f) (i : Int)) ∧ Need.Res (rd (Flow.Needs f) (i : Int)) < ((Flow.Res f).length : Int) := by
  rcases V.need i hi with ⟨a, _⟩ | ⟨a, b, _⟩ <;> omega

theorem contested_prog (V : VALID f) (h : FEW f) : Ev (fun k => listsched_Contested.f k f) (CONTS f (Flow.Needs f).length) := by
  have S := sizes_of h
  have hr := h.1.res
  have hn := h.2
  simp only [listsched_Contested.f]
  refine .bind ((valid_prog S).true V) ?_
  simp only [Bool.not_true, cond_false]
  simp (disch := omega) only [↓if_pos, Int.toNat_natCast]
  rw [tb_rep]
  have e0 : (tb (Flow.Res f).length fun _ => (0 : Int)) = tb (Flow.Res f).length fun r => (cntN (Flow.Needs f) (r : Int) 0 : Int) := rfl
  rw [e0]
  refine Ev.up (c := fun k i => listsched_Contested.c5 k (Flow.Needs f) ((Flow.Needs f).length : Int) (i : Int) f (tb (Flow.Res f).length fun r => (cntN (Flow.Needs f) (r : Int) i : Int))) (n := (Flow.Needs f).length) ?_ (fun i hi ih => ?_) 0 (Nat.zero_le _)
  · refine .succ ?_
    simp (disch := omega) only [listsched_Contested.c5, ↓cdF]
    refine Ev.up (c := fun k i => listsched_Contested.c12 k (Flow.Needs f) ((Flow.Needs f).length : Int) (i : Int) f (tb (Flow.Res f).length fun r => (cntN (Flow.Needs f) (r : Int) (Flow.Needs f).length : Int)) (CONTS f i)) (n := (Flow.Needs f).length) ?_ (fun i hi ih => ?_) 0 (Nat.zero_le _)
    · refine .succ ?_
      simp (disch := omega) only [listsched_Contested.c12, ↓cdF]
      exact .ret _
    · have b := need_at V hi
      have hpl : (CONTS f i).length ≤ i := pick_len _ _ _
      simp only [natC] at ih
      unfold CONTS at ih hpl ⊢
      rw [pick_succ] at ih
      refine .succ ?_
      simp (disch := first | omega | (rw [tb_len]; omega)) only [listsched_Contested.c12, ↓cdT, ↓if_pos, w64_id]
      refine .dec (fun h0 => ?_) fun h0 => ?_
      · simp (disch := first | omega | (rw [tb_len]; omega)) only [↓if_pos]
        have e1 : rd (tb (Flow.Res f).length fun r => (cntN (Flow.Needs f) (r : Int) (Flow.Needs f).length : Int)) (Need.Res (rd (Flow.Needs f) (i : Int))) = (cntN (Flow.Needs f) (Need.Res (rd (Flow.Needs f) (i : Int))) (Flow.Needs f).length : Int) := by
          obtain ⟨m, hm⟩ : ∃ m : Nat, Need.Res (rd (Flow.Needs f) (i : Int)) = (m : Int) := ⟨(Need.Res (rd (Flow.Needs f) (i : Int))).toNat, by omega⟩
          rw [hm, tb_rd (by omega)]
        rw [e1]
        refine .dec (fun h1 => ?_) fun h1 => ?_
        · rw [if_pos (by exact decide_eq_true ⟨h0, h1⟩)] at ih
          simp (disch := (simp only [List.length_singleton]; omega)) only [↓bleT]
          exact ih
        · rw [if_neg (by rw [decide_eq_true_iff]; exact fun q => h1 q.2)] at ih
          exact ih
      · rw [if_neg (by rw [decide_eq_true_iff]; exact fun q => h0 q.1)] at ih
        exact ih
  · have b := need_at V hi
    simp only [natC] at ih
    refine .succ ?_
    simp (disch := first | omega | (rw [tb_len]; omega)) only [listsched_Contested.c5, ↓cdT, ↓if_pos, w64_id (n := (i : Int) + 1)]
    have hle := cntN_le (Flow.Needs f)
    refine .dec (fun h0 => ?_) fun h0 => ?_
    · simp (disch := first | omega | (rw [tb_len]; omega)) only [↓if_pos]
      obtain ⟨m, hm⟩ : ∃ m : Nat, Need.Res (rd (Flow.Needs f) (i : Int)) = (m : Int) := ⟨(Need.Res (rd (Flow.Needs f) (i : Int))).toNat, by omega⟩
      rw [hm, tb_rd (by omega), Int.toNat_natCast, tb_set, w64_id (by omega) (by have := hle (m : Int) i; omega)]
      have e1 : (tb (Flow.Res f).length fun d => if d = m then (cntN (Flow.Needs f) (m : Int) i : Int) + 1 else (cntN (Flow.Needs f) (d : Int) i : Int)) = tb (Flow.Res f).length fun r => (cntN (Flow.Needs f) (r : Int) (i + 1) : Int) := tb_congr fun c hc => by
        rw [cntN_succ, hm]
        by_cases e : c = m
        · subst e; simp
        · rw [if_neg e, if_neg (by omega)]; simp
      rw [e1]
      exact ih
    · have e1 : (tb (Flow.Res f).length fun r => (cntN (Flow.Needs f) (r : Int) (i + 1) : Int)) = tb (Flow.Res f).length fun r => (cntN (Flow.Needs f) (r : Int) i : Int) := tb_congr fun c hc => by
        rw [cntN_succ, if_neg (by omega)]; simp
      rw [e1] at ih
      exact ih

theorem contested_off (h : FEW f) (hv : ¬ VALID f) : Ev (fun k => listsched_Contested.f k f) [] := by
  simp only [listsched_Contested.f]
  refine .bind ((valid_prog (sizes_of h)).false hv) ?_
  exact .ret _

theorem contested_ref (V : VALID f) (hn : (Flow.Needs f).length ≤ 1000000) : Ev (fun k => jacquardref32_Contested.f k f) (CONTS f (Flow.Needs f).length) := by
  simp only [jacquardref32_Contested.f]
  refine Ev.up (c := fun k i => jacquardref32_Contested.c3 k ((Flow.Needs f).length : Int) (i : Int) f (CONTS f i)) (n := (Flow.Needs f).length) ?_ (fun i hi ih => ?_) 0 (Nat.zero_le _)
  · refine .succ ?_
    simp (disch := omega) only [jacquardref32_Contested.c3, ↓cdF]
    exact .ret _
  · have b := need_at V hi
    have hpl : (CONTS f i).length ≤ i := pick_len _ _ _
    simp only [natC] at ih
    refine .succ ?_
    simp (disch := omega) only [jacquardref32_Contested.c3, ↓cdT]
    have e0 : (0 : Int) = (cntN (Flow.Needs f) (Need.Res (rd (Flow.Needs f) (i : Int))) 0 : Int) := rfl
    refine Ev.up (c := fun k j => jacquardref32_Contested.c7 k (i : Int) (cntN (Flow.Needs f) (Need.Res (rd (Flow.Needs f) (i : Int))) j : Int) ((Flow.Needs f).length : Int) (i : Int) ((Flow.Needs f).length : Int) (j : Int) f (CONTS f i)) (n := (Flow.Needs f).length) ?_ (fun j hj ih2 => ?_) 0 (Nat.zero_le _)
    · unfold CONTS at ih hpl ⊢
      rw [pick_succ] at ih
      refine .succ ?_
      simp (disch := omega) only [jacquardref32_Contested.c7, ↓cdF, ↓if_pos, w64_id]
      refine .dec (fun h0 => ?_) fun h0 => ?_
      · simp (disch := omega) only [↓if_pos]
        refine .dec (fun h1 => ?_) fun h1 => ?_
        · rw [if_pos (by exact decide_eq_true ⟨h0, h1⟩)] at ih
          simp (disch := (simp only [List.length_singleton]; omega)) only [↓bleT]
          exact ih
        · rw [if_neg (by rw [decide_eq_true_iff]; exact fun q => h1 q.2)] at ih
          exact ih
      · rw [if_neg (by rw [decide_eq_true_iff]; exact fun q => h0 q.1)] at ih
        exact ih
    · have hle := cntN_le (Flow.Needs f) (Need.Res (rd (Flow.Needs f) (i : Int))) j
      simp only [natC] at ih2
      refine .succ ?_
      simp (disch := omega) only [jacquardref32_Contested.c7, ↓cdT, ↓if_pos, w64_id]
      rw [cntN_succ] at ih2
      refine .dec (fun h0 => ?_) fun h0 => ?_
      · rw [if_pos h0] at ih2
        exact ih2
      · rw [if_neg h0] at ih2
        exact ih2

theorem eql_ev (l : List Int) (hl : l.length ≤ 1000000) : Ev (fun k => jacquardlaw32_ListschedContested.c10 k (l.length : Int) 0 l l) true := by
  refine Ev.up (c := fun k i => jacquardlaw32_ListschedContested.c10 k (l.length : Int) (i : Int) l l) (n := l.length) ?_ (fun i hi ih => ?_) 0 (Nat.zero_le _)
  · refine .succ ?_
    simp (disch := omega) only [jacquardlaw32_ListschedContested.c10, ↓cdF]
    exact .ret _
  · refine .succ ?_
    simp only [natC] at ih
    simp (disch := omega) only [jacquardlaw32_ListschedContested.c10, ↓cdT, ↓if_pos, w64_id, decide_true, Bool.not_true, cond_false]
    exact ih

theorem PureListschedContested (f : Flow) (g0 : Ty.good Flow.T f) : ∃ k, jacquardlaw32_ListschedContested.f k f = some true := by
  refine Ev.ex (f := fun k => jacquardlaw32_ListschedContested.f k f) ?_
  simp only [jacquardlaw32_ListschedContested.f]
  have hend : Ev (fun k => (jacquardlaw32_awake.f k).bind fun y16 => some y16) true := Ev.bind awake_ev (.ret true)
  refine .bind awake_ev ?_
  simp only [Bool.not_true, cond_false]
  obtain ⟨_, _, _, ⟨ga, _⟩, _, ⟨gn, _⟩, _⟩ := g0
  refine .test (few_ev ga gn) (fun h => ?_) fun h => ?_
  · simp only [Bool.not_true, cond_false]
    have S := sizes_of h
    by_cases V : VALID f
    · refine .bind (contested_prog V h) ?_
      refine .bind ((valid_ref S).true V) ?_
      simp only [Bool.not_true, cond_false]
      refine .bind (contested_ref V (by have := h.2; omega)) ?_
      simp only [decide_true, Bool.not_true, cond_false]
      exact eql_ev _ (by have : (CONTS f (Flow.Needs f).length).length ≤ (Flow.Needs f).length := pick_len _ _ _
                         have := h.2
                         omega)
    · refine .bind (contested_off h V) ?_
      refine .bind ((valid_ref S).false V) ?_
      exact .ret _
  · exact hend
end
end Go.Proofs.YtjddmekfeckphaaV
