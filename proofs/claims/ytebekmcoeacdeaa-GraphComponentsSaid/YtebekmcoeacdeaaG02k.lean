/- Chapter 02: greatest elements, places, turned lists. -/
import Derived.Test.YtebekmcoeacdeaaG02a
set_option linter.unusedVariables false
set_option linter.unusedSimpArgs false
namespace Go.Proofs.YtebekmcoeacdeaaV
open Go Go.Vm
theorem max_ev (xs : List Int) (h0 : 0 < xs.length) (hl : xs.length ≤ 1000000) : W (fun k => slices_Max_int_int.f k xs) (fun r => (∀ i : Nat, i < xs.length → rd xs (i : Int) ≤ r) ∧ ∃ i : Nat, i < xs.length ∧ r = rd xs (i : Int)) := by
  simp (disch := omega) only [slices_Max_int_int.f, ↓cdF]
  refine .succ ?_
  simp (disch := omega) only [slices_Max_int_int.c3, ↓if_pos]
  have loop : ∀ (d i : Nat) (v : Int), i + d = xs.length → (∀ j : Nat, j < i → rd xs (j : Int) ≤ v) → (∃ j : Nat, j < xs.length ∧ v = rd xs (j : Int)) → W (fun k => slices_Max_int_int.c5 k xs v (i : Int)) (fun r => (∀ i : Nat, i < xs.length → rd xs (i : Int) ≤ r) ∧ ∃ i : Nat, i < xs.length ∧ r = rd xs (i : Int)) := by
    intro d
    induction d with
    | zero =>
      intro i v hi h1 h2
      refine .succ ?_
      simp (disch := omega) only [slices_Max_int_int.c5, ↓cdF]
      exact .ret ⟨fun j hj => h1 j (by omega), h2⟩
    | succ d ih =>
      intro i v hi h1 h2
      refine .succ ?_
      simp (disch := omega) only [slices_Max_int_int.c5, ↓cdT, ↓if_pos, w64_id]
      refine ih (i + 1) _ (by omega) (fun j hj => ?_) ?_
      · by_cases e : j = i
        · subst e; exact le_mx_r _ _
        · have := h1 j (by omega); have := le_mx_l v (rd xs (i : Int)); omega
      · rcases mx_eq v (rd xs (i : Int)) with e | e
        · rw [e]; exact h2
        · rw [e]; exact ⟨i, by omega, rfl⟩
  exact loop (xs.length - 1) 1 _ (by omega) (fun j hj => by rw [show j = 0 by omega]; exact Int.le_refl _) ⟨0, h0, rfl⟩

theorem index_ev (xs : List Int) (v : Int) (hl : xs.length ≤ 1000000) (hv : ∃ i : Nat, i < xs.length ∧ rd xs (i : Int) = v) : W (fun k => slices_Index_int_int.f k xs v) (fun r => ∃ i : Nat, i < xs.length ∧ r = (i : Int) ∧ rd xs (i : Int) = v) := by
  simp only [slices_Index_int_int.f]
  have loop : ∀ (d i : Nat), i + d = xs.length → (∃ j : Nat, i ≤ j ∧ j < xs.length ∧ rd xs (j : Int) = v) → W (fun k => slices_Index_int_int.c2 k xs v (xs.length : Int) (i : Int)) (fun r => ∃ i : Nat, i < xs.length ∧ r = (i : Int) ∧ rd xs (i : Int) = v) := by
    intro d
    induction d with
    | zero => rintro i hi ⟨j, h1, h2, _⟩; omega
    | succ d ih =>
      rintro i hi ⟨j, h1, h2, h3⟩
      refine .succ ?_
      simp (disch := omega) only [slices_Index_int_int.c2, ↓cdT, ↓if_pos, w64_id]
      refine .dec (fun h => .ret ⟨i, by omega, rfl, h.symm⟩) fun h => ?_
      exact ih (i + 1) (by omega) ⟨j, by
        by_cases e : j = i
        · subst e; exact absurd h3.symm h
        · omega, h2, h3⟩
  obtain ⟨j, h1, h2⟩ := hv
  exact loop xs.length 0 (by omega) ⟨j, Nat.zero_le _, h1, h2⟩

theorem reverse_ev (xs : List Int) (hlen : xs.length ≤ 1000000) : Ev (fun k => slices_Reverse_int_int_i1.f k xs) ((), xs.reverse, ()) := by
  have hxs : xs.reverse = tb xs.length (fun c => rd xs ((xs.length - 1 - c : Nat) : Int)) := by
    refine tb_ext (by simp) fun i hi => ?_
    rw [rd_eq (by simpa using hi), rd_eq (by omega), List.getElem_reverse]
  have loop : ∀ (d t : Nat), xs.length ≤ d + 2 * t → 2 * t ≤ xs.length → Ev (fun k => slices_Reverse_int_int_i1.c1 k (t : Int) ((xs.length : Int) - 1 - t) (tb xs.length fun c => if t ≤ c ∧ c + t < xs.length then rd xs (c : Int) else rd xs ((xs.length - 1 - c : Nat) : Int))) ((), xs.reverse, ()) := by
    have fin : ∀ t : Nat, xs.length ≤ 2 * t + 1 → Ev (fun k => slices_Reverse_int_int_i1.c1 k (t : Int) ((xs.length : Int) - 1 - t) (tb xs.length fun c => if t ≤ c ∧ c + t < xs.length then rd xs (c : Int) else rd xs ((xs.length - 1 - c : Nat) : Int))) ((), xs.reverse, ()) := by
      intro t ht
      refine .succ ?_
      simp (disch := omega) only [slices_Reverse_int_int_i1.c1, ↓cdF]
      have e : (tb xs.length fun c => if t ≤ c ∧ c + t < xs.length then rd xs (c : Int) else rd xs ((xs.length - 1 - c : Nat) : Int)) = xs.reverse := by
        rw [hxs]
        exact tb_congr fun c hc => by
          split
          · rw [show xs.length - 1 - c = c by omega]
          · rfl
      rw [e]
      exact .ret _
    intro d
    induction d with
    | zero => intro t h1 h2; exact fin t (by omega)
    | succ d ih =>
      intro t h1 h2
      by_cases h : xs.length ≤ 2 * t + 1
      · exact fin t h
      · refine .succ ?_
        obtain ⟨j, hj⟩ : ∃ j : Nat, (xs.length : Int) - 1 - t = (j : Int) := ⟨xs.length - 1 - t, by omega⟩
        have htn : t < xs.length := by omega
        have hjn : j < xs.length := by omega
        rw [hj]
        simp (disch := first | omega | (simp only [List.length_set, tb_len]; omega)) only [slices_Reverse_int_int_i1.c1, ↓cdT, ↓if_pos, tb_rd htn, tb_rd hjn, tb_set, Int.toNat_natCast, w64_id]
        have := ih (t + 1) (by omega) (by omega)
        rw [natC, show (xs.length : Int) - 1 - ((t : Int) + 1) = (j : Int) - 1 by omega] at this
        refine this.congr fun k => ?_
        congr 1
        exact tb_congr fun c hc => by
          by_cases e1 : c = j
          · rw [if_pos e1, if_neg (by omega)]
            congr 1; omega
          · rw [if_neg e1]
            by_cases e2 : c = t
            · rw [if_pos e2, if_neg (by omega)]
              congr 1; omega
            · rw [if_neg e2]
              by_cases e3 : t ≤ c ∧ c + t < xs.length
              · rw [if_pos e3, if_pos (by omega)]
              · rw [if_neg e3, if_neg (by omega)]
  simp only [slices_Reverse_int_int_i1.f]
  rw [w64_id (by omega) (by omega)]
  have := loop xs.length 0 (by omega) (by omega)
  have e : (tb xs.length fun c => if 0 ≤ c ∧ c + 0 < xs.length then rd xs (c : Int) else rd xs ((xs.length - 1 - c : Nat) : Int)) = xs := (tb_ext rfl fun i hi => by rw [if_pos (by omega)]).symm
  rw [e] at this
  simpa using this
end Go.Proofs.YtebekmcoeacdeaaV
