/- Chapter 02: the heap. -/
import Derived.Test.YtebekmcoeacdeaaG02a
set_option linter.unusedVariables false
set_option linter.unusedSimpArgs false
namespace Go.Proofs.YtebekmcoeacdeaaV
open Go Go.Vm

def HEAP (l : List Int) : Prop := ∀ i : Nat, 0 < i → i < l.length → rd l (((i - 1) / 2 : Nat) : Int) ≤ rd l (i : Int)
theorem heap_min {l : List Int} (h : HEAP l) : ∀ i : Nat, i < l.length → rd l 0 ≤ rd l (i : Int) := by
  intro i
  induction i using Nat.strongRecOn with
  | _ i ih =>
    intro hi
    by_cases e : i = 0
    · subst e; exact Int.le_refl _
    · exact Int.le_trans (ih ((i - 1) / 2) (by omega) (by omega)) (h i (by omega) hi)

def swap (l : List Int) (i j : Nat) : List Int := (l.set i (rd l (j : Int))).set j (rd l (i : Int))
theorem swap_len (l : List Int) (i j : Nat) : (swap l i j).length = l.length := by simp [swap]
theorem swap_rd {l : List Int} {i j : Nat} (hi : i < l.length) (hj : j < l.length) (c : Nat) : rd (swap l i j) (c : Int) = if c = j then rd l (i : Int) else if c = i then rd l (j : Int) else rd l (c : Int) := by
  unfold swap
  rw [rd_set (by simpa using hj), rd_set hi]
  by_cases e : j = c
  · rw [if_pos e, if_pos e.symm]
  · rw [if_neg e, if_neg (Ne.symm e)]
    by_cases e2 : i = c
    · rw [if_pos e2, if_pos e2.symm]
    · rw [if_neg e2, if_neg (Ne.symm e2)]
theorem swap_perm {l : List Int} {i j : Nat} (hi : i < l.length) (hj : j < l.length) : (swap l i j).Perm l := by
  unfold swap
  rw [rd_eq hi, rd_eq hj]
  exact List.set_set_perm hi hj

/-! ### push -/
def UP (l : List Int) (i : Nat) : Prop := (∀ j : Nat, 0 < j → j < l.length → j ≠ i → rd l (((j - 1) / 2 : Nat) : Int) ≤ rd l (j : Int)) ∧ (0 < i → ∀ j : Nat, 0 < j → j < l.length → (j - 1) / 2 = i → rd l (((i - 1) / 2 : Nat) : Int) ≤ rd l (j : Int))
theorem UP_swap {l : List Int} {i : Nat} (h : UP l i) (hi : 0 < i) (hl : i < l.length) (hlt : rd l (i : Int) < rd l (((i - 1) / 2 : Nat) : Int)) : UP (swap l i ((i - 1) / 2)) ((i - 1) / 2) := by
  have hp : (i - 1) / 2 < l.length := by omega
  generalize hpd : (i - 1) / 2 = p at *
  have hpi : p ≠ i := by omega
  refine ⟨fun j h0 hj hne => ?_, fun h0 j h1 hj hpar => ?_⟩
  · rw [swap_len] at hj
    rw [swap_rd hl hp, swap_rd hl hp, if_neg hne]
    by_cases e : j = i
    · subst e
      rw [if_pos rfl, if_pos hpd]
      omega
    · rw [if_neg e]
      have hj0 := h.1 j h0 hj e
      by_cases e2 : (j - 1) / 2 = p
      · rw [if_pos e2]
        rw [e2] at hj0
        omega
      · rw [if_neg e2]
        by_cases e3 : (j - 1) / 2 = i
        · rw [if_pos e3]
          have := h.2 hi j h0 hj e3
          rw [hpd] at this
          exact this
        · rw [if_neg e3]; exact hj0
  · rw [swap_len] at hj
    have hpp : (p - 1) / 2 ≠ p := by omega
    have hppi : (p - 1) / 2 ≠ i := by omega
    have hp0 := h.1 p h0 hp hpi
    rw [swap_rd hl hp, swap_rd hl hp, if_neg hpp, if_neg hppi, if_neg (by omega : j ≠ p)]
    by_cases e : j = i
    · rw [if_pos e]; exact hp0
    · rw [if_neg e]
      have := h.1 j h1 hj e
      rw [hpar] at this
      omega
theorem UP_end {l : List Int} {i : Nat} (h : UP l i) (hi : i = 0 ∨ rd l (((i - 1) / 2 : Nat) : Int) ≤ rd l (i : Int)) : HEAP l := by
  intro j h0 hj
  by_cases e : j = i
  · subst e
    rcases hi with h | h
    · omega
    · exact h
  · exact h.1 j h0 hj e

theorem par_int {i : Nat} (hi : 0 < i) (hb : i ≤ 2000000) : w64 (Int.tdiv (w64 ((i : Int) - 1)) 2) = (((i - 1) / 2 : Nat) : Int) := by
  have e : w64 ((i : Int) - 1) = ((i - 1 : Nat) : Int) := by rw [w64_id (by omega) (by omega)]; omega
  rw [e, Int.tdiv_eq_ediv_of_nonneg (by omega), w64_id (by omega) (by omega)]
  omega

theorem push_up : ∀ (d i : Nat), i ≤ d → ∀ l : List Int, i < l.length → l.length ≤ 1000000 → UP l i → W (fun k => graph_heap_push_i3.c3 k (i : Int) l) (fun r => HEAP r.2.2.1 ∧ r.2.2.1.Perm l)
  | 0, i, hd, l, hl, hb, hu => by
    refine .succ ?_
    simp (disch := omega) only [graph_heap_push_i3.c3, ↓cdF]
    exact .ret ⟨show HEAP l from UP_end hu (.inl (by omega)), List.Perm.refl _⟩
  | d + 1, i, hd, l, hl, hb, hu => by
    by_cases hi : i = 0
    · refine .succ ?_
      simp (disch := omega) only [graph_heap_push_i3.c3, ↓cdF]
      exact .ret ⟨show HEAP l from UP_end hu (.inl (by omega)), List.Perm.refl _⟩
    · refine .succ ?_
      have hp : (i - 1) / 2 < l.length := by omega
      simp (disch := first | omega | (simp only [List.length_set]; omega)) only [graph_heap_push_i3.c3, ↓cdT, par_int (show 0 < i by omega) (by omega), ↓if_pos, Int.toNat_natCast]
      refine .dec (fun h => ?_) fun h => ?_
      · refine (push_up d ((i - 1) / 2) (by omega) (swap l i ((i - 1) / 2)) (by rw [swap_len]; omega) (by rw [swap_len]; omega) (UP_swap hu (by omega) hl h)).mono fun r hr => ?_
        exact ⟨hr.1, hr.2.trans (swap_perm hl hp)⟩
      · exact .ret ⟨show HEAP l from UP_end hu (.inr (by omega)), List.Perm.refl _⟩

theorem push_ev {l : List Int} (x : Int) (hl : l.length < 1000000) (h : HEAP l) : W (fun k => graph_heap_push_i3.f k x l) (fun r => HEAP r.2.2.1 ∧ r.2.2.1.Perm (x :: l)) := by
  simp (disch := first | omega | (simp only [List.length_cons, List.length_nil]; omega)) only [graph_heap_push_i3.f, ↓bleT]
  have e : w64 (((l ++ [x]).length : Int) - 1) = (l.length : Int) := by
    rw [w64_id (by simp) (by simp; omega)]; simp
  rw [e]
  refine (push_up l.length l.length (Nat.le_refl _) (l ++ [x]) (by simp) (by simp; omega) ⟨fun j h0 hj hne => ?_, fun h0 j h1 hj hp => ?_⟩).mono fun r hr => ⟨hr.1, hr.2.trans List.perm_append_comm⟩
  · have hj' : j < l.length := by simp at hj; omega
    rw [rd_app_l (by omega), rd_app_l hj']
    exact h j h0 hj'
  · simp at hj; omega

/-! ### pop -/
def DN (l : List Int) (i : Nat) : Prop := (∀ j : Nat, 0 < j → j < l.length → (j - 1) / 2 ≠ i → rd l (((j - 1) / 2 : Nat) : Int) ≤ rd l (j : Int)) ∧ (0 < i → ∀ j : Nat, 0 < j → j < l.length → (j - 1) / 2 = i → rd l (((i - 1) / 2 : Nat) : Int) ≤ rd l (j : Int))
theorem DN_end {l : List Int} {i : Nat} (h : DN l i) (hi : ∀ j : Nat, 0 < j → j < l.length → (j - 1) / 2 = i → rd l (i : Int) ≤ rd l (j : Int)) : HEAP l := by
  intro j h0 hj
  by_cases e : (j - 1) / 2 = i
  · rw [e]; exact hi j h0 hj e
  · exact h.1 j h0 hj e
theorem DN_swap {l : List Int} {i c : Nat} (h : DN l i) (hc0 : 0 < c) (hc : c < l.length) (hpc : (c - 1) / 2 = i) (hlt : rd l (c : Int) < rd l (i : Int)) (hmin : ∀ j : Nat, 0 < j → j < l.length → (j - 1) / 2 = i → rd l (c : Int) ≤ rd l (j : Int)) : DN (swap l i c) c := by
  have hi : i < l.length := by omega
  have hic : i ≠ c := by omega
  refine ⟨fun j h0 hj hne => ?_, fun h0 j h1 hj hpar => ?_⟩
  · rw [swap_len] at hj
    rw [swap_rd hi hc, swap_rd hi hc, if_neg hne]
    by_cases e : (j - 1) / 2 = i
    · rw [if_pos e]
      by_cases e2 : j = c
      · rw [if_pos e2]; omega
      · rw [if_neg e2, if_neg (by omega : j ≠ i)]; exact hmin j h0 hj e
    · rw [if_neg e]
      have e2 : j ≠ c := fun e2 => e (by rw [e2]; exact hpc)
      rw [if_neg e2]
      by_cases e3 : j = i
      · subst e3
        rw [if_pos rfl]; exact h.2 h0 c hc0 hc hpc
      · rw [if_neg e3]; exact h.1 j h0 hj e
  · rw [swap_len] at hj
    have hjc : j ≠ c := by omega
    have hji : j ≠ i := by omega
    rw [swap_rd hi hc, swap_rd hi hc, if_neg (by omega : (c - 1) / 2 ≠ c), if_pos hpc, if_neg hjc, if_neg hji]
    have := h.1 j h1 hj (by omega)
    rw [hpar] at this
    exact this

theorem pop_down (v : Int) : ∀ (d i : Nat), ∀ l : List Int, l.length ≤ i + d → l.length ≤ 1000000 → i ≤ 1000000 → DN l i → W (fun k => graph_heap_pop_i2.c7 k v (l.length : Int) (i : Int) l) (fun r => r.1 = v ∧ HEAP r.2.2.1 ∧ r.2.2.1.Perm l) := by
  intro d
  induction d with
  | zero =>
    intro i l hd hb hib hdn
    refine .succ ?_
    have e1 : w64 (2 * (i : Int)) = 2 * (i : Int) := w64_id (by omega) (by omega)
    have e2 : w64 (2 * (i : Int) + 1) = ((2 * i + 1 : Nat) : Int) := by rw [w64_id (by omega) (by omega)]; omega
    have e3 : w64 (((2 * i + 1 : Nat) : Int) + 1) = ((2 * i + 2 : Nat) : Int) := by rw [w64_id (by omega) (by omega)]; omega
    simp (disch := omega) only [graph_heap_pop_i2.c7, e1, e2, e3, ↓cdF]
    refine .succ ?_
    simp (disch := omega) only [graph_heap_pop_i2.c10, ↓cdT]
    exact .ret ⟨rfl, show HEAP l from DN_end hdn (fun j h0 hj hp => by omega), List.Perm.refl _⟩
  | succ d ih =>
    intro i l hd hb hib hdn
    refine .succ ?_
    have e1 : w64 (2 * (i : Int)) = 2 * (i : Int) := w64_id (by omega) (by omega)
    have e2 : w64 (2 * (i : Int) + 1) = ((2 * i + 1 : Nat) : Int) := by rw [w64_id (by omega) (by omega)]; omega
    have e3 : w64 (((2 * i + 1 : Nat) : Int) + 1) = ((2 * i + 2 : Nat) : Int) := by rw [w64_id (by omega) (by omega)]; omega
    simp only [graph_heap_pop_i2.c7, e1, e2, e3]
    -- with a child that is the least one
    have rest : ∀ c : Nat, 0 < c → (c - 1) / 2 = i → (c < l.length → ∀ j : Nat, 0 < j → j < l.length → (j - 1) / 2 = i → rd l (c : Int) ≤ rd l (j : Int)) → (l.length ≤ c → l.length ≤ 2 * i + 1) →
        W (fun k => graph_heap_pop_i2.c10 k v (l.length : Int) (i : Int) (c : Int) l) (fun r => r.1 = v ∧ HEAP r.2.2.1 ∧ r.2.2.1.Perm l) := by
      intro c hc0 hpc hmin hno
      refine .succ ?_
      simp only [graph_heap_pop_i2.c10]
      refine .dec (fun h => ?_) fun h => ?_
      · exact .ret ⟨rfl, show HEAP l from DN_end hdn (fun j h0 hj hp => by have := hno (by omega); omega), List.Perm.refl _⟩
      · have hc : c < l.length := by omega
        simp (disch := first | omega | (simp only [List.length_set]; omega)) only [↓if_pos, Int.toNat_natCast]
        refine .dec (fun h2 => ?_) fun h2 => ?_
        · refine .ret ⟨rfl, show HEAP l from DN_end hdn (fun j h0 hj hp => ?_), List.Perm.refl _⟩
          have := hmin hc j h0 hj hp
          omega
        · have := ih c (swap l i c) (by rw [swap_len]; omega) (by rw [swap_len]; omega) (by omega) (DN_swap hdn hc0 hc hpc (by omega) (hmin hc))
          rw [swap_len] at this
          refine this.mono fun r hr => ⟨hr.1, hr.2.1, hr.2.2.trans (swap_perm (by omega) hc)⟩
    refine .dec (fun h => ?_) fun h => ?_
    · simp (disch := omega) only [↓if_pos]
      refine .dec (fun h2 => ?_) fun h2 => ?_
      · refine rest (2 * i + 2) (by omega) (by omega) (fun _ j h0 hj hp => ?_) (fun _ => by omega)
        by_cases e : j = 2 * i + 2
        · subst e; exact Int.le_refl _
        · rw [show j = 2 * i + 1 by omega]; omega
      · refine rest (2 * i + 1) (by omega) (by omega) (fun _ j h0 hj hp => ?_) (fun _ => by omega)
        by_cases e : j = 2 * i + 1
        · subst e; exact Int.le_refl _
        · rw [show j = 2 * i + 2 by omega]; omega
    · refine rest (2 * i + 1) (by omega) (by omega) (fun _ j h0 hj hp => ?_) (fun _ => by omega)
      rw [show j = 2 * i + 1 by omega]
      exact Int.le_refl _

theorem pop_ev {l : List Int} (h0 : l ≠ []) (hl : l.length ≤ 1000000) (h : HEAP l) : W (fun k => graph_heap_pop_i2.f k l) (fun r => HEAP r.2.2.1 ∧ (r.1 :: r.2.2.1).Perm l ∧ ∀ x ∈ l, r.1 ≤ x) := by
  cases l with
  | nil => exact absurd rfl h0
  | cons v t =>
    have e1 : w64 (((v :: t).length : Int) - 1) = (t.length : Int) := by rw [w64_id (by simp) (by simp at *; omega)]; simp
    simp (disch := first | omega | (simp only [List.length_cons, List.length_set]; omega)) only [graph_heap_pop_i2.f, e1, ↓if_pos]
    have e2 : (0 : Int).toNat = 0 := rfl
    simp only [e2, Int.toNat_natCast, List.set_cons_zero]
    have e3 : rd (v :: t) 0 = v := rfl
    rw [e3]
    generalize hz : rd (v :: t) (t.length : Int) = z
    have hlen : (List.take t.length (z :: t)).length = t.length := by simp
    have hmin : ∀ x ∈ v :: t, v ≤ x := by
      intro x hx
      obtain ⟨i, hi, rfl⟩ := mem_rd hx
      exact heap_min h i hi
    have hperm : (v :: List.take t.length (z :: t)).Perm (v :: t) := by
      refine List.Perm.cons v ?_
      rcases List.eq_nil_or_concat t with e | ⟨t', y, e⟩
      · subst e; simp
      · subst e
        have : z = y := by
          rw [← hz]
          have : (v :: (t' ++ [y])) = (v :: t') ++ [y] := rfl
          rw [List.concat_eq_append, this, show ((t' ++ [y]).length : Int) = (((v :: t').length : Nat) : Int) by simp]
          exact rd_app_at
        subst this
        simp only [List.concat_eq_append, List.length_append, List.length_cons, List.length_nil, Nat.zero_add, List.take_succ_cons]
        rw [List.take_append_of_le_length (Nat.le_refl _), List.take_length]
        exact (List.perm_append_comm (l₁ := [z]) (l₂ := t'))
    have := pop_down v t.length 0 (List.take t.length (z :: t)) (by rw [hlen]; omega) (by rw [hlen]; simp at hl; omega) (by omega) ⟨fun j h0 hj hp => ?_, fun h0 => by omega⟩
    · rw [hlen] at this
      refine this.mono fun r hr => ?_
      refine ⟨hr.2.1, ?_, fun x hx => by rw [hr.1]; exact hmin x hx⟩
      rw [hr.1]
      exact (List.Perm.cons v hr.2.2).trans hperm
    · rw [hlen] at hj
      have old : ∀ c : Nat, 0 < c → c < t.length → rd (List.take t.length (z :: t)) (c : Int) = rd (v :: t) (c : Int) := by
        intro c hc hcl
        rw [rd_eq (by rw [hlen]; exact hcl), rd_eq (by simp; omega), List.getElem_take]
        obtain ⟨c', rfl⟩ : ∃ c', c = c' + 1 := ⟨c - 1, by omega⟩
        rfl
      rw [old _ (by omega) (by omega), old j h0 hj]
      exact h j h0 (by simp; omega)
end Go.Proofs.YtebekmcoeacdeaaV
