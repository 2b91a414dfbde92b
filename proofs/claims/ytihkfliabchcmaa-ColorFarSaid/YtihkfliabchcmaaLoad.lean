/- Chapter 38: the load, cycle by cycle: the program's side with an interval. -/
import Derived.Test.YtihkfliabchcmaaL38c
set_option linter.unusedVariables false
set_option linter.unusedSimpArgs false
namespace Go.Proofs.YtihkfliabchcmaaV
open Go Go.Vm

/-- a list told by a function -/
def ltab (n : Nat) (f : Nat → Int) : List Int := (List.range n).map f
theorem tab_len (n : Nat) (f : Nat → Int) : (ltab n f).length = n := by simp [ltab]
theorem tab_rd {n : Nat} {f : Nat → Int} {c : Nat} (h : c < n) : rd (ltab n f) (c : Int) = f c := by
  rw [rd_eq (by rw [tab_len]; exact h)]
  simp [ltab]
theorem tab_congr {n : Nat} {f g : Nat → Int} (h : ∀ c, c < n → f c = g c) : ltab n f = ltab n g := by
  unfold ltab
  apply List.map_congr_left
  intro c hc
  exact h c (by simpa using hc)
theorem tab_set {n : Nat} {f : Nat → Int} {c : Nat} {v : Int} : (ltab n f).set c v = ltab n (fun d => if d = c then v else f d) := by
  apply List.ext_getElem
  · simp [ltab]
  · intro d h1 h2
    simp only [List.getElem_set, ltab, List.getElem_map, List.getElem_range]
    by_cases h : c = d
    · simp [h]
    · simp [h, Ne.symm h]
theorem tab_zero (n : Nat) : List.replicate n (0 : Int) = ltab n (fun _ => 0) := by
  apply List.ext_getElem <;> simp [ltab]

/-- how many of the first m spans contain a cycle -/
def cnt (l : List Span) (n c : Int) : Nat → Nat
  | 0 => 0
  | m + 1 => cnt l n c m + if HAS (rd l (m : Int)) n c then 1 else 0
def LOAD (l : List Span) (n c : Int) : Nat := cnt l n c l.length
theorem cnt_le (l : List Span) (n c : Int) : ∀ m, cnt l n c m ≤ m
  | 0 => Nat.le_refl _
  | m + 1 => by
    have := cnt_le l n c m
    unfold cnt
    split <;> omega

theorem hit_iff {f n c : Int} {j : Nat} (hn : 0 < n) (h0 : 0 ≤ c) (h1 : c < n) (hj : (j : Int) < n) : (f + (j : Int)) % n = c ↔ (c - f) % n = (j : Int) := by
  have e1 : ((f + (j : Int)) % n - f) % n = (j : Int) := by
    rw [Int.emod_sub_emod, show f + (j : Int) - f = j by omega, Int.emod_eq_of_lt (by omega) hj]
  have e2 : (f + ((c - f) % n)) % n = c := by
    rw [Int.add_emod_emod, show f + (c - f) = c by omega, Int.emod_eq_of_lt h0 h1]
  constructor
  · intro h; rw [← h]; exact e1
  · intro h; rw [← h]; exact e2

/-- one span, from one of its cycles on -/
theorem Load_inner {l : List Span} {n : Nat} (hn : 0 < n) (hn2 : n ≤ 256) {i : Nat} (s : Span) {R : List Int} {f : Nat → Int} (hf : ∀ c, c < n → -1000000000 ≤ f c ∧ f c ≤ 1000000000) :
    Ev (fun k => color_Load.c5 k (n : Int) l (l.length : Int) (w64 ((i : Int) + 1)) (ltab n fun c => f c + if ((c : Int) - fr s) % n < ln s n then 1 else 0)) R →
    Ev (fun k => color_Load.c9 k (n : Int) l (l.length : Int) (i : Int) (ln s n) 0 (ltab n f) (fr s, ln s n, ())) R := by
  intro hend
  have b1 := fr_b s
  have b2 := ln_b s (n : Int)
  have b3 := ln_n s (show (0 : Int) < n by omega)
  obtain ⟨L, hL⟩ : ∃ L : Nat, ln s n = (L : Int) := ⟨(ln s n).toNat, by omega⟩
  have start : ltab n f = ltab n fun c => f c + if ((c : Int) - fr s) % n < ((0 : Nat) : Int) then 1 else 0 := tab_congr fun c hc => by
    have := Int.emod_nonneg ((c : Int) - fr s) (show (n : Int) ≠ 0 by omega)
    rw [if_neg (by omega)]; omega
  rw [start]
  refine Ev.up (c := fun k j => color_Load.c9 k (n : Int) l (l.length : Int) (i : Int) (ln s n) (j : Int) (ltab n fun c => f c + if ((c : Int) - fr s) % n < (j : Int) then 1 else 0) (fr s, ln s n, ())) (n := L) ?_ ?_ 0 (Nat.zero_le _)
  · refine hend.step fun k => ?_
    show color_Load.c9 (k + 1) (n : Int) l (l.length : Int) (i : Int) (ln s n) (L : Int) _ _ = _
    conv => lhs; unfold color_Load.c9
    rw [decide_eq_false (by omega), cond_false, hL]
  · intro j hj hnext
    refine hnext.step fun k => ?_
    show color_Load.c9 (k + 1) (n : Int) l (l.length : Int) (i : Int) (ln s n) (j : Int) _ _ = _
    conv => lhs; unfold color_Load.c9
    rw [decide_eq_true (by omega), cond_true]
    simp only [Span.Start]
    rw [w64_id (by omega) (by omega), modulo_eq (by omega) (by omega)]
    simp only [Option.bind_some, tab_len]
    obtain ⟨p, hp⟩ : ∃ p : Nat, (fr s + (j : Int)) % n = (p : Int) := ⟨((fr s + (j : Int)) % n).toNat, by have := Int.emod_nonneg (fr s + (j : Int)) (show (n : Int) ≠ 0 by omega); omega⟩
    have hpn : p < n := by have := Int.emod_lt_of_pos (fr s + (j : Int)) (show (0 : Int) < n by omega); omega
    rw [hp, if_pos (by omega), if_pos (by omega), tab_rd hpn]
    have hb := hf p hpn
    rw [w64_id (by omega) (by omega), w64_id (by split <;> omega) (by split <;> omega), Int.toNat_natCast, tab_set]
    congr 1
    refine tab_congr fun c hc => ?_
    have hh := hit_iff (f := fr s) (n := n) (c := c) (j := j) (by omega) (by omega) (by omega) (by omega)
    rw [hp] at hh
    by_cases hcp : c = p
    · subst hcp
      have e := hh.1 rfl
      rw [if_pos rfl, e, if_neg (by omega), if_pos (by omega)]
      omega
    · have e : ¬ ((c : Int) - fr s) % n = (j : Int) := fun e => hcp (by have := hh.2 e; omega)
      rw [if_neg hcp]
      by_cases h1 : ((c : Int) - fr s) % n < (j : Int)
      · rw [if_pos h1, if_pos (by omega)]
      · rw [if_neg h1, if_neg (by omega)]

theorem Load_n (l : List Span) (ii : Int) (hl : l.length ≤ 1000000) (hn : 0 < iv ii) : Ev (fun k => color_Load.f k l ii) (ltab (iv ii).toNat fun c => (LOAD l (iv ii) c : Int)) := by
  have n1 := iv_b ii
  obtain ⟨n, hnn⟩ : ∃ n : Nat, iv ii = (n : Int) := ⟨(iv ii).toNat, by omega⟩
  simp only [color_Load.f, interval_eq, Option.bind_some]
  rw [hnn] at hn n1 ⊢
  simp only [hn, decide_true, cond_true, Int.toNat_natCast]
  simp only [show (0 : Int) ≤ n ∧ (n : Int) ≤ n ∧ (n : Int) ≤ 1073741824 by omega, and_self, if_true]
  rw [tab_zero]
  refine Ev.up (c := fun k i => color_Load.c5 k (n : Int) l (l.length : Int) (i : Int) (ltab n fun c => (cnt l n c i : Int))) (n := l.length) ?_ ?_ 0 (Nat.zero_le _)
  · refine .step (g := fun _ => _) (.ret _) fun k => ?_
    show color_Load.c5 (k + 1) (n : Int) l (l.length : Int) (l.length : Int) _ = _
    conv => lhs; unfold color_Load.c5
    rw [decide_eq_false (by omega), cond_false]
    rfl
  · intro i hi hnext
    have := Load_inner (l := l) (n := n) (by omega) (by omega) (i := i) (rd l (i : Int)) (R := ltab n fun c => (LOAD l n c : Int)) (f := fun c => (cnt l n c i : Int)) (fun c hc => by
      have := cnt_le l n c i
      omega) (by
      rw [w64_id (by omega) (by omega)]
      have e : (ltab n fun c => (cnt l n c i : Int) + if ((c : Int) - fr (rd l (i : Int))) % n < ln (rd l (i : Int)) n then 1 else 0) = ltab n fun c => (cnt l n c (i + 1) : Int) := tab_congr fun c hc => by
        show _ = ((cnt l n c i + if HAS (rd l (i : Int)) n c then 1 else 0 : Nat) : Int)
        have hz : ¬ (n : Int) = 0 := by omega
        by_cases h : ((c : Int) - fr (rd l (i : Int))) % n < ln (rd l (i : Int)) n
        · have h' : HAS (rd l (i : Int)) n c := by unfold HAS; rw [if_neg hz]; exact h
          rw [if_pos h, if_pos h']; omega
        · have h' : ¬ HAS (rd l (i : Int)) n c := by unfold HAS; rw [if_neg hz]; exact h
          rw [if_neg h, if_neg h']; omega
      rw [e]
      exact hnext)
    refine this.step fun k => ?_
    show color_Load.c5 (k + 1) (n : Int) l (l.length : Int) (i : Int) _ = _
    conv => lhs; unfold color_Load.c5
    rw [decide_eq_true (by omega), cond_true, if_pos (by omega), limited_eq]
    rfl
end Go.Proofs.YtihkfliabchcmaaV
