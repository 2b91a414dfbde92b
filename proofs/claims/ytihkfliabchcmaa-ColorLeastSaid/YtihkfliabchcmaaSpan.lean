/- Chapter 38: spans, cycle by cycle; the small functions of both sides. -/
import Derived.Test.YtihkfliabchcmaaF
import Derived.Test.YtihkfliabchcmaaPl
set_option linter.unusedVariables false
set_option linter.unusedSimpArgs false
namespace Go.Proofs.YtihkfliabchcmaaV
open Go Go.Vm

def fr (s : Span) : Int := mn (mx (Span.Start s) (-1073741824)) 1073741824
def iv (ii : Int) : Int := mn (mx ii 0) 256
def ln (s : Span) (n : Int) : Int := if 0 < n then mn (mn (mx (Span.Len s) 0) 1048576) n else mn (mx (Span.Len s) 0) 1048576

theorem fr_b (s : Span) : -1073741824 ≤ fr s ∧ fr s ≤ 1073741824 := by unfold fr mn mx; split <;> split <;> omega
theorem iv_b (ii : Int) : 0 ≤ iv ii ∧ iv ii ≤ 256 := by unfold iv mn mx; split <;> split <;> omega
theorem ln_b (s : Span) (n : Int) : 0 ≤ ln s n ∧ ln s n ≤ 1048576 := by unfold ln mn mx; repeat' split <;> omega
theorem ln_n (s : Span) {n : Int} (h : 0 < n) : ln s n ≤ n := by unfold ln; rw [if_pos h]; unfold mn; split <;> omega
theorem iv_iv (ii : Int) : iv (iv ii) = iv ii := by unfold iv mn mx; repeat' split <;> omega
theorem iv_0 : iv 0 = 0 := rfl

theorem tmod_b (a : Int) {n : Int} (h : 0 < n) : -n < Int.tmod a n ∧ Int.tmod a n < n := by
  have h1 := Int.tmod_lt_of_pos a h
  have h2 := Int.tmod_lt_of_pos (-a) h
  rw [Int.neg_tmod] at h2
  omega
theorem tmod_e (a : Int) {n : Int} (h : 0 < n) : (Int.tmod a n) % n = a % n := by
  have e := Int.mul_tdiv_add_tmod a n
  conv => rhs; rw [← e]
  rw [Int.add_comm, Int.add_mul_emod_self_left]
theorem small_e {r n : Int} (h : 0 < n) (h1 : -n < r) (h2 : r < 0) : r % n = r + n := by
  have : (r + n) % n = r + n := Int.emod_eq_of_lt (by omega) (by omega)
  rw [Int.add_emod_right] at this
  exact this

theorem modulo_eq {a n : Int} (h : 0 < n) (hn : n ≤ 256) : color_modulo.f a n = some (a % n) := by
  have hne : ¬ n = 0 := by omega
  obtain ⟨h1, h2⟩ := tmod_b a h
  unfold color_modulo.f
  rw [if_pos hne, if_pos hne, w64_id (by omega) (by omega), Int.tmod_eq_emod_of_nonneg (by omega), Int.add_emod_right, tmod_e a h]
theorem Mod_eq {a n : Int} (h : 0 < n) (hn : n ≤ 256) : jacquardref38_Mod.f a n = some (a % n) := by
  have hne : ¬ n = 0 := by omega
  obtain ⟨h1, h2⟩ := tmod_b a h
  have e := tmod_e a h
  unfold jacquardref38_Mod.f
  rw [if_pos hne]
  by_cases hneg : Int.tmod a n < 0
  · rw [decide_eq_true hneg, cond_true, w64_id (by omega) (by omega), ← e, small_e h h1 hneg]
  · rw [decide_eq_false hneg, cond_false, ← e, Int.emod_eq_of_lt (by omega) h2]

theorem interval_eq (ii : Int) : color_interval.f ii = some (iv ii) := rfl
theorem Interval_eq (ii : Int) : jacquardref38_Interval.f ii = some (iv ii) := rfl
theorem From_eq (s : Span) : jacquardref38_From.f s = some (fr s) := rfl
theorem Len_eq (s : Span) (ii : Int) : jacquardref38_Len.f s ii = some (ln s (iv ii)) := by
  unfold jacquardref38_Len.f ln
  simp only [Interval_eq, Option.bind_some]
  by_cases h : 0 < iv ii
  · rw [decide_eq_true h, if_pos h]; rfl
  · rw [decide_eq_false h, if_neg h]; rfl
theorem limited_eq (s : Span) (n : Int) : color_limited.f s n = some (fr s, ln s n, ()) := by
  unfold color_limited.f ln fr
  by_cases h : 0 < n
  · rw [decide_eq_true h, if_pos h]; rfl
  · rw [decide_eq_false h, if_neg h]; rfl

/-- a span contains a cycle -/
def HAS (s : Span) (n c : Int) : Prop := if n = 0 then fr s ≤ c ∧ c < fr s + ln s 0 else (c - fr s) % n < ln s n
instance (s : Span) (n c : Int) : Decidable (HAS s n c) := by unfold HAS; infer_instance

theorem Contains_eq (s : Span) (ii : Int) {c : Int} (h1 : -4294967296 ≤ c) (h2 : c ≤ 4294967296) : jacquardref38_Contains.f s ii c = some (decide (HAS s (iv ii) c)) := by
  have b1 := fr_b s
  have b2 := iv_b ii
  have b3 := ln_b s (iv (iv ii))
  unfold jacquardref38_Contains.f HAS
  simp only [Interval_eq, Option.bind_some, From_eq, Len_eq]
  by_cases h : iv ii = 0
  · rw [decide_eq_true h, cond_true]
    simp only [h, if_true, iv_0]
    have b3 := ln_b s 0
    by_cases hf : fr s ≤ c
    · rw [decide_eq_true hf, cond_true, w64_id (by omega) (by omega)]
      simp [hf]
    · rw [decide_eq_false hf, cond_false]
      simp [hf]
  · rw [decide_eq_false h, cond_false, w64_id (by omega) (by omega), Mod_eq (by omega) (by omega), iv_iv]
    simp only [h, if_false, Option.bind_some]
end Go.Proofs.YtihkfliabchcmaaV
