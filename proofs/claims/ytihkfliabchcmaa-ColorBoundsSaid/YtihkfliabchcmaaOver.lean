/- Chapter 38: spans that have a cycle in common. -/
import Derived.Test.YtihkfliabchcmaaSpan
set_option linter.unusedVariables false
set_option linter.unusedSimpArgs false
namespace Go.Proofs.YtihkfliabchcmaaV
open Go Go.Vm

def OVP (a b : Span) (n : Int) : Prop := 0 < ln a n ∧ 0 < ln b n ∧ if n = 0 then (fr a < fr b + ln b 0 ∧ fr b < fr a + ln a 0) else ((fr b - fr a) % n < ln a n ∨ (fr a - fr b) % n < ln b n)
instance (a b : Span) (n : Int) : Decidable (OVP a b n) := by unfold OVP; infer_instance

theorem OVP_comm (a b : Span) (n : Int) : OVP a b n ↔ OVP b a n := by
  unfold OVP
  constructor
  · rintro ⟨h1, h2, h3⟩
    refine ⟨h2, h1, ?_⟩
    split at h3 <;> rename_i h
    · rw [if_pos h]; omega
    · rw [if_neg h]; exact h3.symm
  · rintro ⟨h1, h2, h3⟩
    refine ⟨h2, h1, ?_⟩
    split at h3 <;> rename_i h
    · rw [if_pos h]; omega
    · rw [if_neg h]; exact h3.symm

theorem meet_n {fa fb la lb n : Int} (hn : 0 < n) (ha : 0 < la) (hb : 0 < lb) : ((fb - fa) % n < la ∨ (fa - fb) % n < lb) ↔ ∃ c : Nat, (c : Int) < n ∧ ((c : Int) - fa) % n < la ∧ ((c : Int) - fb) % n < lb := by
  have key : ∀ f g : Int, (((g % n).toNat : Int) - f) % n = (g - f) % n := by
    intro f g
    rw [Int.toNat_of_nonneg (Int.emod_nonneg g (by omega)), Int.emod_sub_emod]
  have lt : ∀ g : Int, ((g % n).toNat : Int) < n := fun g => by
    rw [Int.toNat_of_nonneg (Int.emod_nonneg g (by omega))]; exact Int.emod_lt_of_pos g hn
  have zero : ∀ g : Int, (g - g) % n = 0 := fun g => by rw [Int.sub_self, Int.zero_emod]
  constructor
  · rintro (h | h)
    · exact ⟨(fb % n).toNat, lt fb, by rw [key]; exact h, by rw [key, zero]; exact hb⟩
    · exact ⟨(fa % n).toNat, lt fa, by rw [key, zero]; exact ha, by rw [key]; exact h⟩
  · rintro ⟨c, h0, h1, h2⟩
    have x0 := Int.emod_nonneg ((c : Int) - fa) (show n ≠ 0 by omega)
    have y0 := Int.emod_nonneg ((c : Int) - fb) (show n ≠ 0 by omega)
    have x1 := Int.emod_lt_of_pos ((c : Int) - fa) hn
    have y1 := Int.emod_lt_of_pos ((c : Int) - fb) hn
    have e1 : (fb - fa) % n = (((c : Int) - fa) % n - ((c : Int) - fb) % n) % n := by
      rw [← Int.sub_emod]; congr 1; omega
    have e2 : (fa - fb) % n = (((c : Int) - fb) % n - ((c : Int) - fa) % n) % n := by
      rw [← Int.sub_emod]; congr 1; omega
    rcases Int.le_total (((c : Int) - fb) % n) (((c : Int) - fa) % n) with h | h
    · left
      rw [e1, Int.emod_eq_of_lt (by omega) (by omega)]
      omega
    · right
      rw [e2, Int.emod_eq_of_lt (by omega) (by omega)]
      omega

theorem Overlap_prog (a b : Span) (ii : Int) : color_Overlap.f a b ii = some (decide (OVP a b (iv ii))) := by
  have a1 := fr_b a
  have b1 := fr_b b
  have n1 := iv_b ii
  have a2 := ln_b a (iv ii)
  have b2 := ln_b b (iv ii)
  unfold color_Overlap.f OVP
  simp only [interval_eq, Option.bind_some, limited_eq, Span.Len, Span.Start]
  by_cases ha : ln a (iv ii) = 0
  · rw [decide_eq_true ha, cond_true]
    simp [ha]
  rw [decide_eq_false ha, cond_false]
  by_cases hb : ln b (iv ii) = 0
  · rw [decide_eq_true hb, cond_true]
    simp [hb]
  rw [decide_eq_false hb, cond_false]
  have ha' : 0 < ln a (iv ii) := by omega
  have hb' : 0 < ln b (iv ii) := by omega
  by_cases hn : iv ii = 0
  · rw [decide_eq_true hn, cond_true, w64_id (by omega) (by omega), w64_id (by omega) (by omega)]
    rw [hn] at ha' hb' ⊢
    by_cases h : fr a < fr b + ln b 0
    · rw [decide_eq_true h, cond_true]
      simp [ha', hb', h]
    · rw [decide_eq_false h, cond_false]
      simp [ha', hb', h]
  · rw [decide_eq_false hn, cond_false, w64_id (by omega) (by omega), w64_id (by omega) (by omega), modulo_eq (by omega) (by omega), modulo_eq (by omega) (by omega)]
    simp only [Option.bind_some]
    by_cases h : (fr b - fr a) % iv ii < ln a (iv ii)
    · rw [decide_eq_true h, cond_true]
      simp [ha', hb', hn, h]
    · rw [decide_eq_false h, cond_false]
      simp [ha', hb', hn, h]
end Go.Proofs.YtihkfliabchcmaaV
