/- Chapter 38: ColorOverlaps. -/
import Derived.Test.YtihkfliabchcmaaOver
import Derived.Test.YtihkfliabchcmaaL38a
set_option linter.unusedVariables false
set_option linter.unusedSimpArgs false
namespace Go.Proofs.YtihkfliabchcmaaV
open Go Go.Vm

theorem Overlap_ref (a b : Span) (ii : Int) : EvP (fun k => jacquardref38_Overlap.f k a b ii) (OVP a b (iv ii)) := by
  have a1 := fr_b a
  have b1 := fr_b b
  have n1 := iv_b ii
  have a2 := ln_b a (iv ii)
  have b2 := ln_b b (iv ii)
  have hQ : OVP a b (iv ii) ↔ OVP a b (iv ii) := Iff.rfl
  generalize hq : OVP a b (iv ii) = Q at hQ ⊢
  have hQ' : Q ↔ OVP a b (iv ii) := by rw [hq]
  unfold OVP at hQ'
  simp only [jacquardref38_Overlap.f, Interval_eq, Option.bind_some, From_eq, Len_eq, iv_0]
  by_cases hn : iv ii = 0
  · simp only [hn, if_true] at a2 b2 hQ'
    simp only [hn, decide_true, cond_true]
    by_cases ha : 0 < ln a 0
    · by_cases hb : 0 < ln b 0
      · simp only [ha, hb, decide_true, cond_true, true_and] at hQ' ⊢
        rw [w64_id (by omega) (by omega), w64_id (by omega) (by omega)]
        by_cases h : fr a < fr b + ln b 0
        · simp only [h, decide_true, cond_true, true_and] at hQ' ⊢
          exact .dec hQ'.symm
        · simp only [h, decide_false, cond_false]
          exact .ff fun q => h (hQ'.1 q).1
      · simp only [ha, hb, decide_true, decide_false, cond_true, cond_false]
        exact .ff fun q => hb (hQ'.1 q).2.1
    · simp only [ha, decide_false, cond_false]
      exact .ff fun q => ha (hQ'.1 q).1
  · simp only [hn, if_false] at hQ'
    simp only [hn, decide_false, cond_false]
    have hpos : 0 < iv ii := by omega
    obtain ⟨m, hm⟩ : ∃ m : Nat, iv ii = (m : Int) := ⟨(iv ii).toNat, by omega⟩
    have hii : iv (iv ii) = iv ii := iv_iv ii
    have step : ∀ (k i : Nat), i < m → jacquardref38_Overlap.c5 (k + 1) (iv ii) (iv ii) (i : Int) a b = if HAS a (iv ii) i ∧ HAS b (iv ii) i then some true else jacquardref38_Overlap.c5 k (iv ii) (iv ii) ((i + 1 : Nat) : Int) a b := by
      intro k i hi
      conv => lhs; unfold jacquardref38_Overlap.c5
      rw [decide_eq_true (show (i : Int) < iv ii by omega), cond_true, Contains_eq a (iv ii) (by omega) (by omega), Contains_eq b (iv ii) (by omega) (by omega), hii]
      simp only [Option.bind_some]
      rw [w64_id (by omega) (by omega)]
      by_cases h1 : HAS a (iv ii) i <;> by_cases h2 : HAS b (iv ii) i <;> simp [h1, h2]
    have hm' : ∀ c : Nat, (c : Int) < iv ii → ((((c : Int) - fr a) % iv ii < ln a (iv ii)) ↔ HAS a (iv ii) c) ∧ ((((c : Int) - fr b) % iv ii < ln b (iv ii)) ↔ HAS b (iv ii) c) := fun c _ => by unfold HAS; simp [hn]
    have pos : ∀ (s : Span) (c : Int), HAS s (iv ii) c → 0 < ln s (iv ii) := fun s c h => by
      unfold HAS at h
      rw [if_neg hn] at h
      have := Int.emod_nonneg (c - fr s) hn
      omega
    have hmeet : Q ↔ ∃ i : Nat, i < m ∧ HAS a (iv ii) i ∧ HAS b (iv ii) i := by
      rw [hQ']
      constructor
      · rintro ⟨h1, h2, h3⟩
        obtain ⟨c, k0, k1, k2⟩ := (meet_n hpos h1 h2).1 h3
        exact ⟨c, by omega, (hm' c k0).1.1 k1, (hm' c k0).2.1 k2⟩
      · rintro ⟨c, k0, k1, k2⟩
        have h1 := pos a c k1
        have h2 := pos b c k2
        exact ⟨h1, h2, (meet_n hpos h1 h2).2 ⟨c, by omega, (hm' c (by omega)).1.2 k1, (hm' c (by omega)).2.2 k2⟩⟩
    have := EvP.any' (n := m) (Q := Q) (c := fun k i => jacquardref38_Overlap.c5 k (iv ii) (iv ii) (i : Int) a b) (fun i => HAS a (iv ii) i ∧ HAS b (iv ii) i)
      (fun i hi h => hmeet.2 ⟨i, hi, h⟩)
      (fun i hi h r hr => hr.step fun k => by rw [step k i hi, if_neg h])
      (fun i hi h => (Ev.ret true).step fun k => by rw [step k i hi, if_pos h])
      (fun hall => .step (g := fun _ => some false) (.ff fun q => by
        obtain ⟨i, h1, h2⟩ := hmeet.1 q
        exact hall i h1 h2) fun k => by
        show jacquardref38_Overlap.c5 (k + 1) (iv ii) (iv ii) (m : Int) a b = some false
        unfold jacquardref38_Overlap.c5
        rw [decide_eq_false (show ¬ (m : Int) < iv ii by omega), cond_false])
    exact this

theorem awake_ev : Ev (fun k => jacquardlaw38_awake.f k) true := by
  refine ⟨60, fun k hk => ?_⟩
  obtain ⟨j, rfl⟩ : ∃ j, k = j + 60 := ⟨k - 60, by omega⟩
  exact awake38 j

theorem PureColorOverlaps (a b : Span) (ii : Int) (g0 : Ty.good Span.T a) (g1 : Ty.good Span.T b) (g2 : Ty.good (.int .i64) ii) : ∃ k, jacquardlaw38_ColorOverlaps.f k a b ii = some true := by
  refine Ev.ex (f := fun k => jacquardlaw38_ColorOverlaps.f k a b ii) ?_
  simp only [jacquardlaw38_ColorOverlaps.f]
  refine Ev.bind awake_ev ?_
  simp only [Bool.not_true, cond_false, Overlap_prog, Option.bind_some]
  obtain ⟨r, h1, h2⟩ := Overlap_ref a b ii
  have e1 : decide (OVP a b (iv ii)) = r := by cases r <;> simp_all
  have e2 : decide (OVP b a (iv ii)) = r := by rw [← e1]; simp [OVP_comm b a]
  refine Ev.bind h1 ?_
  rw [e1, e2]
  simp only [beq_self_eq_true, cond_true]
  refine Ev.bind h1 ?_
  simp only [beq_self_eq_true]
  exact .ret true
end Go.Proofs.YtihkfliabchcmaaV
