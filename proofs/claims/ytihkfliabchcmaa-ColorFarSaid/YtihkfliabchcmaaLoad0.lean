/- Chapter 38: the load without an interval: the program's side. -/
import Derived.Test.YtihkfliabchcmaaLoad
import Derived.Test.YtihkfliabchcmaaWp
set_option linter.unusedVariables false
set_option linter.unusedSimpArgs false
namespace Go.Proofs.YtihkfliabchcmaaV
open Go Go.Vm

def LOm (l : List Span) : Nat → Int
  | 0 => 1074790400
  | m + 1 => if 0 < ln (rd l (m : Int)) 0 then mn (LOm l m) (fr (rd l (m : Int))) else LOm l m
def HIm (l : List Span) : Nat → Int
  | 0 => -1073741824
  | m + 1 => if 0 < ln (rd l (m : Int)) 0 then mx (HIm l m) (fr (rd l (m : Int)) + ln (rd l (m : Int)) 0) else HIm l m
def LO (l : List Span) : Int := LOm l l.length
def HI (l : List Span) : Int := HIm l l.length
theorem LOm_b (l : List Span) : ∀ m, -1073741824 ≤ LOm l m ∧ LOm l m ≤ 1074790400
  | 0 => by simp [LOm]
  | m + 1 => by
    have := LOm_b l m
    have := fr_b (rd l (m : Int))
    have := mn_eq (LOm l m) (fr (rd l (m : Int)))
    unfold LOm; split <;> omega
theorem HIm_b (l : List Span) : ∀ m, -1073741824 ≤ HIm l m ∧ HIm l m ≤ 1074790400
  | 0 => by simp [HIm]
  | m + 1 => by
    have := HIm_b l m
    have := fr_b (rd l (m : Int))
    have := ln_b (rd l (m : Int)) 0
    have := mx_eq (HIm l m) (fr (rd l (m : Int)) + ln (rd l (m : Int)) 0)
    unfold HIm; split <;> omega
theorem LOm_le (l : List Span) : ∀ m j : Nat, j < m → 0 < ln (rd l (j : Int)) 0 → LOm l m ≤ fr (rd l (j : Int))
  | m + 1, j, h, p => by
    unfold LOm
    by_cases e : j = m
    · subst e; rw [if_pos p]; exact mn_le_r _ _
    · have := LOm_le l m j (by omega) p
      have := mn_le_l (LOm l m) (fr (rd l (m : Int)))
      split <;> omega
theorem le_HIm (l : List Span) : ∀ m j : Nat, j < m → 0 < ln (rd l (j : Int)) 0 → fr (rd l (j : Int)) + ln (rd l (j : Int)) 0 ≤ HIm l m
  | m + 1, j, h, p => by
    unfold HIm
    by_cases e : j = m
    · subst e; rw [if_pos p]; exact le_mx_r _ _
    · have := le_HIm l m j (by omega) p
      have := le_mx_l (HIm l m) (fr (rd l (m : Int)) + ln (rd l (m : Int)) 0)
      split <;> omega

/-- starts less ends at a cycle -/
def dif (l : List Span) (c : Int) : Nat → Int
  | 0 => 0
  | m + 1 => dif l c m + if 0 < ln (rd l (m : Int)) 0 then (if fr (rd l (m : Int)) = c then 1 else 0) - (if fr (rd l (m : Int)) + ln (rd l (m : Int)) 0 = c then 1 else 0) else 0
theorem dif_b (l : List Span) (c : Int) : ∀ m : Nat, -(m : Int) ≤ dif l c m ∧ dif l c m ≤ m
  | 0 => by simp [dif]
  | m + 1 => by
    have := dif_b l c m
    unfold dif
    repeat' split
    all_goals omega
theorem HAS0 (s : Span) (c : Int) : HAS s 0 c ↔ fr s ≤ c ∧ c < fr s + ln s 0 := by unfold HAS; rw [if_pos rfl]
theorem cnt_dif (l : List Span) (c : Int) : ∀ m, (cnt l 0 c m : Int) = cnt l 0 (c - 1) m + dif l c m
  | 0 => rfl
  | m + 1 => by
    have ih := cnt_dif l c m
    have := ln_b (rd l (m : Int)) 0
    unfold cnt dif
    by_cases h1 : HAS (rd l (m : Int)) 0 c <;> by_cases h2 : HAS (rd l (m : Int)) 0 (c - 1) <;> simp only [h1, h2, if_true, if_false] <;> rw [HAS0] at h1 h2 <;> repeat' split
    all_goals omega
theorem cnt_out (l : List Span) (c : Int) : ∀ m, (∀ j : Nat, j < m → 0 < ln (rd l (j : Int)) 0 → c < fr (rd l (j : Int))) → cnt l 0 c m = 0
  | 0, _ => rfl
  | m + 1, h => by
    have := cnt_out l c m (fun j hj => h j (by omega))
    have := ln_b (rd l (m : Int)) 0
    have hm := h m (by omega)
    unfold cnt
    rw [if_neg (by rw [HAS0]; omega)]
    omega

def LOAD0 (l : List Span) : List Int := if HI l ≤ LO l then [] else if 2097152 < HI l - LO l then [] else ltab (HI l - LO l).toNat fun c => (LOAD l 0 (LO l + c) : Int)

theorem Load_0 (l : List Span) (ii : Int) (hl : l.length ≤ 1000000) (hn : iv ii = 0) : Ev (fun k => color_Load.f k l ii) (LOAD0 l) := by
  simp only [color_Load.f, interval_eq, Option.bind_some]
  rw [hn]
  simp (disch := omega) only [↓cdF]
  refine Ev.up (c := fun k i => color_Load.c17 k l (LOm l i) (HIm l i) l (l.length : Int) (i : Int)) (n := l.length) ?_ ?_ 0 (Nat.zero_le _)
  · show Ev (fun k => color_Load.c17 k l (LO l) (HI l) l (l.length : Int) (l.length : Int)) (LOAD0 l)
    have b1 : -1073741824 ≤ LO l ∧ LO l ≤ 1074790400 := LOm_b l l.length
    have b2 : -1073741824 ≤ HI l ∧ HI l ≤ 1074790400 := HIm_b l l.length
    have lo := LOm_le l l.length
    have hi := le_HIm l l.length
    unfold LOAD0
    change ∀ j : Nat, _ → _ → LO l ≤ _ at lo
    change ∀ j : Nat, _ → _ → _ ≤ HI l at hi
    generalize LO l = lo' at *
    generalize HI l = hi' at *
    refine .succ ?_
    simp (disch := omega) only [color_Load.c17, ↓cdF]
    refine .dec (fun h => ?_) fun h => ?_
    · rw [if_pos h]; exact .ret _
    rw [if_neg h, w64_id (by omega) (by omega), w64_id (by omega) (by omega)]
    refine .dec (fun h => ?_) fun h => ?_
    · rw [if_pos h]; exact .ret _
    rw [if_neg h]
    obtain ⟨n, hnn⟩ : ∃ n : Nat, hi' - lo' = (n : Int) := ⟨(hi' - lo').toNat, by omega⟩
    simp (disch := omega) only [↓if_pos]
    rw [show (hi' - lo' + 1).toNat = n + 1 by omega, show (hi' - lo').toNat = n by omega, tab_zero]
    refine Ev.up (c := fun k i => color_Load.c27 k lo' hi' l (l.length : Int) (i : Int) (ltab (n + 1) fun c => dif l (lo' + c) i)) (n := l.length) ?_ ?_ 0 (Nat.zero_le _)
    · refine .succ ?_
      simp (disch := omega) only [color_Load.c27, ↓cdF]
      have first : (ltab (n + 1) fun c => dif l (lo' + c) l.length) = ltab (n + 1) fun c => if c < 1 then (LOAD l 0 (lo' + c) : Int) else dif l (lo' + c) l.length := tab_congr fun c hc => by
        split
        · have e : c = 0 := by omega
          subst e
          have := cnt_dif l (lo' + ((0 : Nat) : Int)) l.length
          rw [cnt_out l (lo' + ((0 : Nat) : Int) - 1) l.length (fun j hj p => by have := lo j hj p; omega)] at this
          unfold LOAD
          omega
        · rfl
      rw [first]
      refine Ev.upFrom (c := fun k i => color_Load.c35 k lo' hi' (i : Int) (ltab (n + 1) fun c => if c < i then (LOAD l 0 (lo' + c) : Int) else dif l (lo' + c) l.length)) (n := n + 1) 1 (by omega) ?_ ?_
      · refine .succ ?_
        simp (disch := omega) only [color_Load.c35, tab_len, ↓cdF]
        rw [w64_id (by omega) (by omega)]
        simp (disch := omega) only [↓if_pos]
        rw [show (hi' - lo').toNat = n by omega]
        have e : List.take n (ltab (n + 1) fun c => if c < n + 1 then (LOAD l 0 (lo' + c) : Int) else dif l (lo' + c) l.length) = ltab n fun c => (LOAD l 0 (lo' + c) : Int) := by
          apply List.ext_getElem
          · simp [ltab]
          · intro i h1 h2
            rw [List.getElem_take]
            simp only [ltab, List.getElem_map, List.getElem_range]
            simp only [ltab, List.length_map, List.length_range] at h2
            rw [if_pos (by omega)]
        rw [e]
        exact .ret _
      · intro i hi1 hi2 hnext
        refine .succ ?_
        have b1 := dif_b l (lo' + (i : Int)) l.length
        have b2 := cnt_le l 0 (lo' + ((i - 1 : Nat) : Int)) l.length
        have b3 := cnt_dif l (lo' + (i : Int)) l.length
        rw [show lo' + (i : Int) - 1 = lo' + ((i - 1 : Nat) : Int) by omega] at b3
        simp (disch := omega) only [color_Load.c35, tab_len, ↓cdT, w64_id, ↓if_pos]
        rw [show ((i : Int) - 1) = ((i - 1 : Nat) : Int) by omega, tab_rd (by omega), tab_rd (by omega), if_neg (by omega), if_pos (by omega), w64_id (by unfold LOAD; omega) (by unfold LOAD; omega), Int.toNat_natCast, tab_set]
        refine hnext.congr fun k => ?_
        show color_Load.c35 k lo' hi' ((i : Int) + 1) _ = color_Load.c35 k lo' hi' ((i : Int) + 1) _
        congr 1
        refine tab_congr fun c hc => ?_
        by_cases h1 : c = i
        · subst h1; rw [if_pos rfl, if_pos (by omega)]; unfold LOAD; omega
        · rw [if_neg h1]
          by_cases h2 : c < i
          · rw [if_pos h2, if_pos (by omega)]
          · rw [if_neg h2, if_neg (by omega)]
    · intro i hi1 hnext
      refine .succ ?_
      have f1 := fr_b (rd l (i : Int))
      have f2 := ln_b (rd l (i : Int)) 0
      simp (disch := omega) only [color_Load.c27, limited_eq, ↓cdT, ↓if_pos, Option.bind_some, tab_len, List.length_set]
      refine .dec (fun h => ?_) fun h => ?_
      · simp only [Span.Len] at h
        have g1 := lo i hi1 h
        have g2 := hi i hi1 h
        simp (disch := omega) only [Span.Start, Span.Len, w64_id, ↓if_pos]
        obtain ⟨p, hp⟩ : ∃ p : Nat, fr (rd l (i : Int)) - lo' = (p : Int) := ⟨(fr (rd l (i : Int)) - lo').toNat, by omega⟩
        obtain ⟨q, hq⟩ : ∃ q : Nat, fr (rd l (i : Int)) + ln (rd l (i : Int)) 0 - lo' = (q : Int) := ⟨(fr (rd l (i : Int)) + ln (rd l (i : Int)) 0 - lo').toNat, by omega⟩
        have d1 := dif_b l (lo' + (p : Int)) i
        have d2 := dif_b l (lo' + (q : Int)) i
        simp only [hp, hq]
        simp (disch := omega) only [Int.toNat_natCast, tab_rd, w64_id, tab_set, if_neg]
        refine hnext.congr fun k => ?_
        show color_Load.c27 k lo' hi' l (l.length : Int) ((i : Int) + 1) _ = color_Load.c27 k lo' hi' l (l.length : Int) ((i : Int) + 1) _
        congr 1
        refine tab_congr fun c hc => ?_
        show _ = dif l (lo' + (c : Int)) i + _
        rw [if_pos h]
        by_cases h1 : c = p
        · subst h1
          rw [if_neg (by omega), if_pos rfl, if_pos (by omega), if_neg (by omega)]; omega
        · by_cases h2 : c = q
          · subst h2
            rw [if_pos rfl, if_neg (by omega), if_pos (by omega)]; omega
          · rw [if_neg h2, if_neg h1, if_neg (by omega), if_neg (by omega)]; omega
      · simp only [Span.Len] at h
        rw [w64_id (by omega) (by omega)]
        refine hnext.congr fun k => ?_
        show color_Load.c27 k lo' hi' l (l.length : Int) ((i : Int) + 1) _ = color_Load.c27 k lo' hi' l (l.length : Int) ((i : Int) + 1) _
        congr 1
        refine tab_congr fun c hc => ?_
        show _ = dif l (lo' + (c : Int)) i + _
        rw [if_neg h]; omega
  · intro i hi hnext
    refine .succ ?_
    have f1 := fr_b (rd l (i : Int))
    have f2 := ln_b (rd l (i : Int)) 0
    simp (disch := omega) only [color_Load.c17, limited_eq, ↓cdT, ↓if_pos, Option.bind_some]
    simp (disch := omega) only [Span.Start, Span.Len, w64_id]
    refine .dec (fun h => ?_) fun h => ?_
    · refine hnext.congr fun k => ?_
      show _ = color_Load.c17 k l (if 0 < ln (rd l (i : Int)) 0 then _ else _) (if 0 < ln (rd l (i : Int)) 0 then _ else _) l (l.length : Int) ((i : Int) + 1)
      rw [if_pos h, if_pos h]
    · refine hnext.congr fun k => ?_
      show _ = color_Load.c17 k l (if 0 < ln (rd l (i : Int)) 0 then _ else _) (if 0 < ln (rd l (i : Int)) 0 then _ else _) l (l.length : Int) ((i : Int) + 1)
      rw [if_neg h, if_neg h]
end Go.Proofs.YtihkfliabchcmaaV
