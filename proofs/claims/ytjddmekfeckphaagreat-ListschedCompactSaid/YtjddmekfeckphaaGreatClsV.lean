/- Schedules: clashes: the reference. -/
import Derived.Test.YtjddmekfeckphaaGreatSchV
set_option linter.unusedVariables false
set_option linter.unusedSimpArgs false
namespace Go.Proofs.YtjddmekfeckphaaGreatV
open Go Go.Vm

/-- two intervals of a circle meet -/
theorem circle {n a b x y : Int} (hn : 0 < n) (hx : 0 < x) (hy : 0 < y) : (∃ c, 0 ≤ c ∧ c < n ∧ (c - a) % n < x ∧ (c - b) % n < y) ↔ ((b - a) % n < x ∨ (a - b) % n < y) := by
  constructor
  · rintro ⟨c, _, _, h1, h2⟩
    have e1 := Int.emod_add_mul_ediv (c - a) n
    have e2 := Int.emod_add_mul_ediv (c - b) n
    have p1 := Int.emod_nonneg (c - a) (by omega : n ≠ 0)
    have p2 := Int.emod_nonneg (c - b) (by omega : n ≠ 0)
    have l1 := Int.emod_lt_of_pos (c - a) hn
    have l2 := Int.emod_lt_of_pos (c - b) hn
    generalize (c - a) % n = u at *
    generalize (c - b) % n = v at *
    generalize (c - a) / n = q1 at *
    generalize (c - b) / n = q2 at *
    rcases Int.le_total v u with h | h
    · left
      have : b - a = (u - v) + n * (q1 - q2) := by rw [Int.mul_sub]; omega
      rw [this, Int.add_mul_emod_self_left, Int.emod_eq_of_lt (by omega) (by omega)]
      omega
    · right
      have : a - b = (v - u) + n * (q2 - q1) := by rw [Int.mul_sub]; omega
      rw [this, Int.add_mul_emod_self_left, Int.emod_eq_of_lt (by omega) (by omega)]
      omega
  · rintro (h | h)
    · refine ⟨b % n, Int.emod_nonneg _ (by omega), Int.emod_lt_of_pos _ hn, ?_, ?_⟩
      · rw [Int.emod_sub_emod]; exact h
      · rw [Int.emod_sub_emod, Int.sub_self, Int.zero_emod]; exact hy
    · refine ⟨a % n, Int.emod_nonneg _ (by omega), Int.emod_lt_of_pos _ hn, ?_, ?_⟩
      · rw [Int.emod_sub_emod, Int.sub_self, Int.zero_emod]; exact hx
      · rw [Int.emod_sub_emod]; exact h

theorem tmod_fix {d n : Int} (hn : 0 < n) : Int.tmod (Int.tmod d n + n) n = d % n := by
  have h1 : Int.tmod d n = if 0 ≤ d then d % n else d % n - (if d % n = 0 then 0 else n) := by
    rcases Int.le_total 0 d with h | h
    · rw [if_pos h, Int.tmod_eq_emod_of_nonneg h]
    · have := Int.tmod_eq_emod (a := d) (b := n)
      rw [this]
      by_cases h0 : 0 ≤ d
      · have : d = 0 := by omega
        subst this
        simp
      · rw [if_neg h0]
        by_cases hd : d % n = 0
        · rw [hd]
          have : n ∣ d := Int.dvd_of_emod_eq_zero hd
          simp [this]
        · have hnd : ¬ n ∣ d := fun h => hd (Int.emod_eq_zero_of_dvd h)
          have hna : (n.natAbs : Int) = n := by omega
          simp [hnd, h0, hd, hna]
  have p := Int.emod_nonneg d (by omega : n ≠ 0)
  have l := Int.emod_lt_of_pos d hn
  rw [Int.tmod_eq_emod_of_nonneg]
  · rw [h1]
    split
    · rw [Int.add_emod_right, Int.emod_emod]
    · split
      · rw [Int.sub_zero, Int.add_emod_right, Int.emod_emod]
      · rw [Int.sub_add_cancel, Int.emod_emod]
  · rw [h1]
    split
    · omega
    · split <;> omega

section
variable {f : Flow} {s : Sched}

/-- two different instructions clash -/
def CL (f : Flow) (s : Sched) (i k : Nat) : Prop :=
  0 ≤ Need.Res (rd (Flow.Needs f) (i : Int)) ∧ Need.Res (rd (Flow.Needs f) (i : Int)) = Need.Res (rd (Flow.Needs f) (k : Int)) ∧ rd (Sched.Unit s) (i : Int) = rd (Sched.Unit s) (k : Int) ∧
  0 < Need.Busy (rd (Flow.Needs f) (i : Int)) ∧ 0 < Need.Busy (rd (Flow.Needs f) (k : Int)) ∧
  (Sched.II s = 0 → rd (Sched.Start s) (k : Int) - rd (Sched.Start s) (i : Int) < Need.Busy (rd (Flow.Needs f) (i : Int)) ∧ rd (Sched.Start s) (i : Int) - rd (Sched.Start s) (k : Int) < Need.Busy (rd (Flow.Needs f) (k : Int))) ∧
  (0 < Sched.II s → (rd (Sched.Start s) (k : Int) - rd (Sched.Start s) (i : Int)) % Sched.II s < Need.Busy (rd (Flow.Needs f) (i : Int)) ∨ (rd (Sched.Start s) (i : Int) - rd (Sched.Start s) (k : Int)) % Sched.II s < Need.Busy (rd (Flow.Needs f) (k : Int)))
/-- one with itself -/
def SELF (f : Flow) (s : Sched) (i : Nat) : Prop := 0 < Sched.II s ∧ 0 ≤ Need.Res (rd (Flow.Needs f) (i : Int)) ∧ Sched.II s < Need.Busy (rd (Flow.Needs f) (i : Int))

theorem neg_mod {d n : Int} (hn : 0 < n) : Int.tmod (n - d % n) n = (-d) % n := by
  have p := Int.emod_nonneg d (by omega : n ≠ 0)
  have l := Int.emod_lt_of_pos d hn
  rw [Int.tmod_eq_emod_of_nonneg (by omega)]
  have e := Int.emod_add_mul_ediv d n
  have : -d = (n - d % n) + n * (-(d / n) - 1) := by
    rw [Int.mul_sub, Int.mul_neg, Int.mul_one]; omega
  rw [this, Int.add_mul_emod_self_left]

/-! ### the reference's clash -/
def OCC (f : Flow) (s : Sched) (i : Nat) (c : Int) : Prop := (Sched.II s = 0 → rd (Sched.Start s) (i : Int) ≤ c ∧ c - rd (Sched.Start s) (i : Int) < Need.Busy (rd (Flow.Needs f) (i : Int))) ∧
  (0 < Sched.II s → (c - rd (Sched.Start s) (i : Int)) % Sched.II s < Need.Busy (rd (Flow.Needs f) (i : Int)))

theorem occ_ref (V : VALID f) (F : FITS f s) {i : Nat} (hi : (i : Int) < Flow.Insts f) {c : Int} (hc : 0 ≤ c ∧ c ≤ 100000) : EvP (fun k => jacquardref28_Occupies.f k f s (i : Int) c) (OCC f s i c) := by
  have h1 := F.start
  have h3 := V.needs
  have si := F.starts i (by omega)
  have ii := F.ii
  have b1 : 0 ≤ (i : Int) ∧ (i : Int) < ((Flow.Needs f).length : Int) := by omega
  have b5 : 0 ≤ (i : Int) ∧ (i : Int) < ((Sched.Start s).length : Int) := by omega
  unfold OCC
  simp only [jacquardref28_Occupies.f, if_pos b5]
  rw [w64_id (n := c - _) (by omega) (by omega)]
  have c6 : ∀ (d : Int) (Q : Prop), (0 ≤ d ∧ d < Need.Busy (rd (Flow.Needs f) (i : Int)) ↔ Q) → EvP (fun k => jacquardref28_Occupies.c6 k (i : Int) d f) Q := fun d Q hQ => by
    refine EvP.step (g := fun k => bif decide (0 ≤ d) then some (decide (d < Need.Busy (rd (Flow.Needs f) (i : Int)))) else some false) (.cond (fun h => .dec ?_) (fun h => .ff ?_)) fun k => ?_
    · have := of_decide_eq_true h
      rw [← hQ]
      exact ⟨fun q => ⟨this, q⟩, fun q => q.2⟩
    · have := of_decide_eq_false h
      rw [← hQ]
      exact fun q => this q.1
    · simp only [jacquardref28_Occupies.c6, if_pos b1]
  generalize rd (Sched.Start s) (i : Int) = st at *
  generalize Sched.II s = n at *
  by_cases hn : 0 < n
  · simp only [decide_eq_true hn, cond_true, if_pos (show ¬ n = 0 by omega)]
    have p := Int.emod_nonneg (c - st) (by omega : n ≠ 0)
    have key : Int.tmod (c - st) n = (c - st) % n ∧ 0 ≤ Int.tmod (c - st) n ∨ Int.tmod (c - st) n < 0 ∧ Int.tmod (c - st) n + n = (c - st) % n := by
      rcases Int.le_total 0 (c - st) with h | h
      · exact .inl ⟨Int.tmod_eq_emod_of_nonneg h, Int.tmod_nonneg _ h⟩
      · rcases Int.lt_or_le (Int.tmod (c - st) n) 0 with h2 | h2
        · refine .inr ⟨h2, ?_⟩
          have l := Int.tmod_lt_of_pos (c - st) hn
          have := tmod_fix (d := c - st) hn
          have h3 : -n < Int.tmod (c - st) n := by
            have e : Int.tmod (c - st) n = - Int.tmod (-(c - st)) n := by rw [Int.neg_tmod, Int.neg_neg]
            have := Int.tmod_lt_of_pos (-(c - st)) hn
            omega
          rw [Int.tmod_eq_emod_of_nonneg (by omega), Int.emod_eq_of_lt (by omega) (by omega)] at this
          exact this
        · refine .inl ⟨?_, h2⟩
          have l := Int.tmod_lt_of_pos (c - st) hn
          have := tmod_fix (d := c - st) hn
          rw [Int.tmod_eq_emod_of_nonneg (by omega), Int.add_emod_right, Int.emod_eq_of_lt h2 l] at this
          exact this
    have lt := Int.emod_lt_of_pos (c - st) hn
    rcases key with ⟨e, h0⟩ | ⟨h0, e⟩
    · simp only [decide_eq_false (show ¬ Int.tmod (c - st) n < 0 by omega), cond_false]
      refine c6 _ _ ?_
      rw [e]
      exact ⟨fun q => ⟨fun h => by omega, fun _ => q.2⟩, fun q => ⟨p, q.2 hn⟩⟩
    · simp only [decide_eq_true h0, cond_true]
      rw [e, w64_id (by omega) (by omega)]
      refine c6 _ _ ?_
      exact ⟨fun q => ⟨fun h => by omega, fun _ => q.2⟩, fun q => ⟨p, q.2 hn⟩⟩
  · simp only [decide_eq_false hn, cond_false]
    refine c6 _ _ ?_
    exact ⟨fun q => ⟨fun _ => by omega, fun h => by omega⟩, fun q => by have := q.1 (by omega); omega⟩

theorem clash_ref (V : VALID f) (F : FITS f s) {i j : Nat} (hi : (i : Int) < Flow.Insts f) (hj : (j : Int) < Flow.Insts f) (hij : i ≠ j) : EvP (fun k => jacquardref28_Clash.f k f s (i : Int) (j : Int)) (CL f s i j) := by
  have h1 := F.start
  have h2 := F.unit
  have h3 := V.needs
  have si := F.starts i (by omega)
  have sk := F.starts j (by omega)
  have ii := F.ii
  have vi := V.need i (by omega)
  have vj := V.need j (by omega)
  have b1 : 0 ≤ (i : Int) ∧ (i : Int) < ((Flow.Needs f).length : Int) := by omega
  have b2 : 0 ≤ (j : Int) ∧ (j : Int) < ((Flow.Needs f).length : Int) := by omega
  have b3 : 0 ≤ (i : Int) ∧ (i : Int) < ((Sched.Unit s).length : Int) := by omega
  have b4 : 0 ≤ (j : Int) ∧ (j : Int) < ((Sched.Unit s).length : Int) := by omega
  have b5 : 0 ≤ (i : Int) ∧ (i : Int) < ((Sched.Start s).length : Int) := by omega
  have b6 : 0 ≤ (j : Int) ∧ (j : Int) < ((Sched.Start s).length : Int) := by omega
  -- trying all cycles
  have loop : ∀ (lo hi' : Int), 0 ≤ lo → hi' ≤ 50000 → lo ≤ hi' + 1 → EvP (fun k => jacquardref28_Clash.c9 k (i : Int) (j : Int) lo hi' f s) (∃ c, lo ≤ c ∧ c ≤ hi' ∧ OCC f s i c ∧ OCC f s j c) := fun lo hi' h0 h1' h2' => by
    refine EvP.step (g := fun k => jacquardref28_Clash.c10 k (i : Int) (j : Int) hi' lo f s) ?_ (fun k => by simp only [jacquardref28_Clash.c9])
    have := EvP.any' (c := fun k m => jacquardref28_Clash.c10 k (i : Int) (j : Int) hi' (lo + (m : Int)) f s) (n := (hi' + 1 - lo).toNat) (Q := ∃ c, lo ≤ c ∧ c ≤ hi' ∧ OCC f s i c ∧ OCC f s j c) (fun m => OCC f s i (lo + (m : Int)) ∧ OCC f s j (lo + (m : Int)))
      (fun m hm q => ⟨lo + m, by omega, by omega, q⟩) (fun m hm hq b hb => ?_) (fun m hm hq => ?_) (fun hall => ?_)
    · simpa using this
    · have body : Ev (fun k => (jacquardref28_Occupies.f k f s (i : Int) (lo + (m : Int))).bind fun y => bif y then (jacquardref28_Occupies.f k f s (j : Int) (lo + (m : Int))).bind fun y => bif y then some true else jacquardref28_Clash.c10 k (i : Int) (j : Int) hi' (lo + ((m + 1 : Nat) : Int)) f s else jacquardref28_Clash.c10 k (i : Int) (j : Int) hi' (lo + ((m + 1 : Nat) : Int)) f s) b := by
        refine .test (occ_ref V F hi (by omega)) (fun q1 => ?_) (fun q1 => hb)
        simp only [cond_true]
        exact .test (occ_ref V F hj (by omega)) (fun q2 => absurd ⟨q1, q2⟩ hq) (fun q2 => hb)
      refine body.step fun k => ?_
      simp only [jacquardref28_Clash.c10]
      rw [decide_eq_true (show lo + (m : Int) ≤ hi' by omega), w64_id (by omega) (by omega), show lo + (m : Int) + 1 = lo + ((m + 1 : Nat) : Int) by omega]
      rfl
    · have body : Ev (fun k => (jacquardref28_Occupies.f k f s (i : Int) (lo + (m : Int))).bind fun y => bif y then (jacquardref28_Occupies.f k f s (j : Int) (lo + (m : Int))).bind fun y => bif y then some true else jacquardref28_Clash.c10 k (i : Int) (j : Int) hi' (lo + ((m + 1 : Nat) : Int)) f s else jacquardref28_Clash.c10 k (i : Int) (j : Int) hi' (lo + ((m + 1 : Nat) : Int)) f s) true := by
        refine .test (occ_ref V F hi (by omega)) (fun q1 => ?_) (fun q1 => absurd hq.1 q1)
        simp only [cond_true]
        exact .test (occ_ref V F hj (by omega)) (fun q2 => .ret _) (fun q2 => absurd hq.2 q2)
      refine body.step fun k => ?_
      simp only [jacquardref28_Clash.c10]
      rw [decide_eq_true (show lo + (m : Int) ≤ hi' by omega), w64_id (by omega) (by omega), show lo + (m : Int) + 1 = lo + ((m + 1 : Nat) : Int) by omega]
      rfl
    · refine EvP.step (.ff ?_) fun k => ?_
      · rintro ⟨c, c1, c2, c3⟩
        refine hall (c - lo).toNat (by omega) ?_
        rw [show lo + (((c - lo).toNat : Nat) : Int) = c by omega]
        exact c3
      · simp only [jacquardref28_Clash.c10]
        rw [decide_eq_false (by omega)]
        rfl
  simp only [jacquardref28_Clash.f, if_pos b1, if_pos b2, if_pos b3, if_pos b4, if_pos b5, if_pos b6]
  unfold VNeed at vi vj
  unfold OCC at loop
  unfold CL
  generalize rd (Sched.Start s) (i : Int) = sti at *
  generalize rd (Sched.Start s) (j : Int) = stk at *
  generalize rd (Sched.Unit s) (i : Int) = ui at *
  generalize rd (Sched.Unit s) (j : Int) = uk at *
  generalize rd (Flow.Needs f) (i : Int) = ni at *
  generalize rd (Flow.Needs f) (j : Int) = nk at *
  obtain ⟨ri, bi, _⟩ := ni
  obtain ⟨rk, bk, _⟩ := nk
  have e1 : Need.Res (ri, bi, ()) = ri := rfl
  have e2 : Need.Res (rk, bk, ()) = rk := rfl
  have e3 : Need.Busy (ri, bi, ()) = bi := rfl
  have e4 : Need.Busy (rk, bk, ()) = bk := rfl
  simp only [e1, e2, e3, e4] at *
  generalize Sched.II s = n at *
  refine .cond (fun h => .ff fun q => ?_) fun g1 => .cond (fun h => .ff fun q => ?_) fun g2 => .cond (fun h => .ff fun q => ?_) fun g3 => .cond (fun h => ?_) fun g4 => .cond (fun h => ?_) fun g5 => ?_
  · have := of_decide_eq_true h; omega
  · simp at h; exact h q.2.1
  · simp at h; exact h q.2.2.1
  · have := of_decide_eq_true h; omega
  · have hn := of_decide_eq_true h
    have g1 := of_decide_eq_false g1
    have g2 : ri = rk := by simpa using g2
    have g3 : ui = uk := by simpa using g3
    rw [w64_id (n := n - 1) (by omega) (by omega)]
    refine (loop 0 (n - 1) (by omega) (by omega) (by omega)).iff ?_
    have hbi : 0 < bi := by rcases vi with ⟨a, _⟩ | ⟨_, _, a, _⟩ <;> omega
    have hbk : 0 < bk := by rcases vj with ⟨a, _⟩ | ⟨_, _, a, _⟩ <;> omega
    have hc := circle (a := sti) (b := stk) hn hbi hbk
    constructor
    · rintro ⟨c, c1, c2, ⟨_, c3⟩, _, c4⟩
      exact ⟨by omega, g2, g3, hbi, hbk, fun h => by omega, fun _ => hc.1 ⟨c, c1, by omega, c3 hn, c4 hn⟩⟩
    · intro q
      obtain ⟨c, c1, c2, c3, c4⟩ := hc.2 (q.2.2.2.2.2.2 hn)
      exact ⟨c, c1, by omega, ⟨fun h => by omega, fun _ => c3⟩, fun h => by omega, fun _ => c4⟩
  · have hn := of_decide_eq_false g5
    have g1 := of_decide_eq_false g1
    have g2 : ri = rk := by simpa using g2
    have g3 : ui = uk := by simpa using g3
    have hbi : 0 < bi ∧ bi ≤ 256 := by rcases vi with ⟨a, _⟩ | ⟨_, _, a, _⟩ <;> omega
    have hbk : 0 < bk ∧ bk ≤ 256 := by rcases vj with ⟨a, _⟩ | ⟨_, _, a, _⟩ <;> omega
    have m1 : mn sti stk ≤ sti ∧ mn sti stk ≤ stk ∧ 0 ≤ mn sti stk := by unfold mn; split <;> omega
    have m2 : sti ≤ mx sti stk ∧ stk ≤ mx sti stk ∧ (mx sti stk = sti ∨ mx sti stk = stk) := by unfold mx; split <;> omega
    rw [w64_id (n := mx sti stk + 256) (by omega) (by omega)]
    refine (loop _ _ (by omega) (by omega) (by omega)).iff ?_
    constructor
    · rintro ⟨c, c1, c2, ⟨c3, _⟩, c4, _⟩
      have := c3 (by omega)
      have := c4 (by omega)
      exact ⟨by omega, g2, g3, by omega, by omega, fun h => by omega, fun h => by omega⟩
    · intro q
      have := q.2.2.2.2.2.1 (by omega)
      exact ⟨mx sti stk, by omega, by omega, ⟨fun h => by omega, fun h => by omega⟩, fun h => by omega, fun h => by omega⟩

theorem self_ref (V : VALID f) (F : FITS f s) {i : Nat} (hi : (i : Int) < Flow.Insts f) : EvP (fun k => jacquardref28_Clash.f k f s (i : Int) (i : Int)) (SELF f s i) := by
  have h2 := F.unit
  have h3 := V.needs
  have b1 : 0 ≤ (i : Int) ∧ (i : Int) < ((Flow.Needs f).length : Int) := by omega
  have b3 : 0 ≤ (i : Int) ∧ (i : Int) < ((Sched.Unit s).length : Int) := by omega
  unfold SELF
  simp only [jacquardref28_Clash.f, if_pos b1, if_pos b3]
  refine .cond (fun h => .ff fun q => ?_) fun g1 => ?_
  · have := of_decide_eq_true h; omega
  have g1 := of_decide_eq_false g1
  simp only [decide_true, Bool.not_true, cond_true, cond_false]
  refine .cond (fun h => .dec ?_) (fun h => .ff fun q => ?_)
  · have := of_decide_eq_true h
    exact ⟨fun q => ⟨this, by omega, q⟩, fun q => q.2.2⟩
  · have := of_decide_eq_false h; omega
end
end Go.Proofs.YtjddmekfeckphaaGreatV
