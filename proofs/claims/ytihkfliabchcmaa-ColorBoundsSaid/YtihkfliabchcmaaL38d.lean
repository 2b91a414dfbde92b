/- Chapter 38: the load of the reference; few; ColorLoads. -/
import Derived.Test.YtihkfliabchcmaaLoad0
set_option linter.unusedVariables false
set_option linter.unusedSimpArgs false
namespace Go.Proofs.YtihkfliabchcmaaV
open Go Go.Vm

theorem LH (l : List Span) : ∀ m, (LOm l m = 1074790400 ∧ HIm l m = -1073741824) ∨ LOm l m < HIm l m
  | 0 => .inl ⟨rfl, rfl⟩
  | m + 1 => by
    have ih := LH l m
    by_cases h : 0 < ln (rd l (m : Int)) 0
    · right
      unfold LOm HIm
      rw [if_pos h, if_pos h]
      have := mn_le_r (LOm l m) (fr (rd l (m : Int)))
      have := le_mx_r (HIm l m) (fr (rd l (m : Int)) + ln (rd l (m : Int)) 0)
      omega
    · unfold LOm HIm
      rw [if_neg h, if_neg h]
      exact ih

theorem refLoad_lines (l : List Span) (ii : Int) (f : Int) (m : Nat) (hl : l.length ≤ 1000000) (hm : m ≤ 2097152) (hf : -1100000000 ≤ f) (hf2 : f ≤ 1100000000) :
    Ev (fun k => jacquardref38_Load.c18 k l (iv ii) (f + m - 1) f []) (ltab m fun c => (LOAD l (iv ii) (f + c) : Int)) := by
  refine Ev.up (c := fun k j => jacquardref38_Load.c18 k l (iv ii) (f + m - 1) (f + (j : Int)) (ltab j fun c => (LOAD l (iv ii) (f + c) : Int))) (n := m) ?_ ?_ 0 (Nat.zero_le _) |> fun h => by
    simpa [ltab] using h
  · refine .succ ?_
    simp (disch := omega) only [jacquardref38_Load.c18, ↓cdF]
    exact .ret _
  · intro j hj hnext
    refine .succ ?_
    simp (disch := omega) only [jacquardref38_Load.c18, ↓cdT]
    refine Ev.up (c := fun k i => jacquardref38_Load.c22 k l (iv ii) (f + m - 1) (f + (j : Int)) (cnt l (iv ii) (f + (j : Int)) i : Int) (l.length : Int) (i : Int) (ltab j fun c => (LOAD l (iv ii) (f + c) : Int))) (n := l.length) ?_ ?_ 0 (Nat.zero_le _)
    · refine .succ ?_
      simp (disch := first | omega | (simp only [tab_len, List.length_singleton]; omega)) only [jacquardref38_Load.c22, ↓cdF, ↓bleT, w64_id]
      have e : (ltab j fun c => (LOAD l (iv ii) (f + c) : Int)) ++ [(cnt l (iv ii) (f + (j : Int)) l.length : Int)] = ltab (j + 1) fun c => (LOAD l (iv ii) (f + c) : Int) := by
        unfold ltab; rw [List.range_succ, List.map_append]; rfl
      rw [e]
      refine hnext.congr fun k => ?_
      show _ = jacquardref38_Load.c18 k l (iv ii) (f + m - 1) (f + ((j : Int) + 1)) _
      rw [Int.add_assoc]
    · intro i hi hn
      refine .succ ?_
      have := cnt_le l (iv ii) (f + (j : Int)) i
      simp (disch := omega) only [jacquardref38_Load.c22, ↓cdT, ↓if_pos, Contains_eq, iv_iv, Option.bind_some, w64_id]
      refine .dec (fun h => ?_) fun h => ?_
      · refine hn.congr fun k => ?_
        show _ = jacquardref38_Load.c22 k l (iv ii) (f + m - 1) (f + (j : Int)) ((cnt l (iv ii) (f + (j : Int)) i + if HAS (rd l (i : Int)) (iv ii) (f + (j : Int)) then 1 else 0 : Nat) : Int) (l.length : Int) ((i : Int) + 1) _
        rw [if_pos h]; rfl
      · refine hn.congr fun k => ?_
        show _ = jacquardref38_Load.c22 k l (iv ii) (f + m - 1) (f + (j : Int)) ((cnt l (iv ii) (f + (j : Int)) i + if HAS (rd l (i : Int)) (iv ii) (f + (j : Int)) then 1 else 0 : Nat) : Int) (l.length : Int) ((i : Int) + 1) _
        rw [if_neg h]; rfl

def REF0 (l : List Span) : List Int := if HI l ≤ LO l then [] else ltab (HI l - LO l).toNat fun c => (LOAD l 0 (LO l + c) : Int)
theorem LOAD0_eq {l : List Span} (h : HI l - LO l ≤ 2097152) : LOAD0 l = REF0 l := by
  unfold LOAD0 REF0
  rw [if_neg (show ¬ 2097152 < HI l - LO l by omega)]
/-- what both sides answer, for few spans -/
def LOADS (l : List Span) (ii : Int) : List Int := if iv ii = 0 then REF0 l else ltab (iv ii).toNat fun c => (LOAD l (iv ii) c : Int)

theorem Load_ref (l : List Span) (ii : Int) (hl : l.length ≤ 1000000) (hb : iv ii = 0 → HI l - LO l ≤ 2097152) : Ev (fun k => jacquardref38_Load.f k l ii) (LOADS l ii) := by
  have n1 := iv_b ii
  unfold LOADS
  simp only [jacquardref38_Load.f, Interval_eq, Option.bind_some]
  refine .dec (fun h => ?_) fun h => ?_
  · rw [if_pos h, h]
    have hb := hb h
    refine Ev.up (c := fun k i => jacquardref38_Load.c7 k l 0 (if LOm l i < HIm l i then LOm l i else 1) (if LOm l i < HIm l i then HIm l i - 1 else 0) (l.length : Int) (i : Int)) (n := l.length) ?_ ?_ 0 (Nat.zero_le _)
    · refine .succ ?_
      simp (disch := omega) only [jacquardref38_Load.c7, ↓cdF]
      refine .succ ?_
      simp only [jacquardref38_Load.c16]
      have b1 : -1073741824 ≤ LO l ∧ LO l ≤ 1074790400 := LOm_b l l.length
      have b2 : -1073741824 ≤ HI l ∧ HI l ≤ 1074790400 := HIm_b l l.length
      show Ev (fun k => jacquardref38_Load.c18 k l 0 (if LO l < HI l then HI l - 1 else 0) (if LO l < HI l then LO l else 1) []) (REF0 l)
      unfold REF0
      by_cases hc : LO l < HI l
      · rw [if_pos hc, if_pos hc, if_neg (by omega)]
        obtain ⟨n, hnn⟩ : ∃ n : Nat, HI l - LO l = (n : Int) := ⟨(HI l - LO l).toNat, by omega⟩
        have := refLoad_lines l 0 (LO l) n hl (by omega) (by omega) (by omega)
        rw [iv_0] at this
        rw [show HI l - 1 = LO l + n - 1 by omega, show (HI l - LO l).toNat = n by omega]
        exact this
      · rw [if_neg hc, if_neg hc, if_pos (by omega)]
        refine .succ ?_
        simp (disch := omega) only [jacquardref38_Load.c18, ↓cdF]
        exact .ret _
    · intro i hi hn
      refine .succ ?_
      have f1 := fr_b (rd l (i : Int))
      have f2 := ln_b (rd l (i : Int)) 0
      have b1 := LOm_b l i
      have b2 := HIm_b l i
      have lh := LH l i
      simp (disch := omega) only [jacquardref38_Load.c7, ↓cdT, ↓if_pos, Len_eq, From_eq, iv_0, Option.bind_some]
      refine .dec (fun h => ?_) fun h => ?_
      · rw [w64_id (by omega) (by omega)]
        refine hn.congr fun k => ?_
        have q1 : LOm l (i + 1) = LOm l i := if_neg (by omega : ¬ 0 < ln (rd l (i : Int)) 0)
        have q2 : HIm l (i + 1) = HIm l i := if_neg (by omega : ¬ 0 < ln (rd l (i : Int)) 0)
        rw [q1, q2]
        rfl
      · have hp : 0 < ln (rd l (i : Int)) 0 := by omega
        -- the joined step
        have key : ∀ x5 x6 : Int, mn x5 (fr (rd l (i : Int))) = mn (LOm l i) (fr (rd l (i : Int))) → mx x6 (fr (rd l (i : Int)) + ln (rd l (i : Int)) 0 - 1) = mx (HIm l i) (fr (rd l (i : Int)) + ln (rd l (i : Int)) 0) - 1 → Ev (fun k => jacquardref38_Load.c13 k l 0 x5 x6 (i : Int) (l.length : Int) (i : Int)) (REF0 l) := by
          intro x5 x6 e1 e2
          refine .succ ?_
          simp (disch := omega) only [jacquardref38_Load.c13, ↓if_pos, From_eq, Len_eq, iv_0, Option.bind_some, w64_id]
          refine hn.congr fun k => ?_
          rw [e1, e2]
          have q1 : LOm l (i + 1) = mn (LOm l i) (fr (rd l (i : Int))) := if_pos hp
          have q2 : HIm l (i + 1) = mx (HIm l i) (fr (rd l (i : Int)) + ln (rd l (i : Int)) 0) := if_pos hp
          have q3 : LOm l (i + 1) < HIm l (i + 1) := by
            rw [q1, q2]
            have := mn_le_r (LOm l i) (fr (rd l (i : Int)))
            have := le_mx_r (HIm l i) (fr (rd l (i : Int)) + ln (rd l (i : Int)) 0)
            omega
          show _ = jacquardref38_Load.c7 k l 0 (if LOm l (i + 1) < HIm l (i + 1) then LOm l (i + 1) else 1) (if LOm l (i + 1) < HIm l (i + 1) then HIm l (i + 1) - 1 else 0) (l.length : Int) ((i : Int) + 1)
          rw [if_pos q3, if_pos q3, q1, q2]
        by_cases hc : LOm l i < HIm l i
        · simp only [if_pos hc]
          simp (disch := omega) only [↓cdF]
          exact key _ _ rfl (by unfold mx; repeat' split <;> omega)
        · simp only [if_neg hc]
          simp (disch := omega) only [↓cdT]
          obtain ⟨e1, e2⟩ : LOm l i = 1074790400 ∧ HIm l i = -1073741824 := by omega
          exact key _ _ (by rw [e1]; unfold mn; repeat' split <;> omega) (by rw [e2]; unfold mx; repeat' split <;> omega)
  · rw [if_neg h]
    refine .succ ?_
    simp only [jacquardref38_Load.c16]
    obtain ⟨n, hnn⟩ : ∃ n : Nat, iv ii = (n : Int) := ⟨(iv ii).toNat, by omega⟩
    have := refLoad_lines l ii 0 n hl (by omega) (by omega) (by omega)
    rw [w64_id (by omega) (by omega), show (iv ii).toNat = n by omega]
    simp only [Int.zero_add] at this
    rw [hnn] at this ⊢
    exact this

theorem Load_prog (l : List Span) (ii : Int) (hl : l.length ≤ 1000000) (hb : iv ii = 0 → HI l - LO l ≤ 2097152) : Ev (fun k => color_Load.f k l ii) (LOADS l ii) := by
  have n1 := iv_b ii
  unfold LOADS
  by_cases h : iv ii = 0
  · rw [if_pos h, ← LOAD0_eq (hb h)]
    exact Load_0 l ii hl h
  · rw [if_neg h]
    exact Load_n l ii hl (by omega)

def FEW (l : List Span) (ii : Int) (n : Int) : Prop := (l.length : Int) ≤ n ∧ ∀ i : Nat, i < l.length → iv ii = 0 → -500 ≤ fr (rd l (i : Int)) ∧ fr (rd l (i : Int)) ≤ 500 ∧ ln (rd l (i : Int)) 0 ≤ 500

theorem Few_ref (l : List Span) (ii n : Int) (hl : l.length < 4611686018427387904) : EvP (fun k => jacquardref38_Few.f k l ii n) (FEW l ii n) := by
  simp only [jacquardref38_Few.f]
  by_cases hlen : n < (l.length : Int)
  · simp (disch := omega) only [↓cdT]
    exact .ff fun q => by have := q.1; omega
  simp (disch := omega) only [↓cdF]
  have step : ∀ i : Nat, i < l.length → ∀ k, ((iv ii = 0 → -500 ≤ fr (rd l (i : Int)) ∧ fr (rd l (i : Int)) ≤ 500 ∧ ln (rd l (i : Int)) 0 ≤ 500) ∧ jacquardref38_Few.c4 (k + 1) l ii (l.length : Int) (i : Int) = jacquardref38_Few.c4 k l ii (l.length : Int) ((i + 1 : Nat) : Int)) ∨
      ((¬ (iv ii = 0 → -500 ≤ fr (rd l (i : Int)) ∧ fr (rd l (i : Int)) ≤ 500 ∧ ln (rd l (i : Int)) 0 ≤ 500)) ∧ jacquardref38_Few.c4 (k + 1) l ii (l.length : Int) (i : Int) = some false) := by
    intro i hi k
    simp (disch := omega) only [jacquardref38_Few.c4, ↓cdT, ↓if_pos, Interval_eq, From_eq, Len_eq, iv_0, Option.bind_some, w64_id]
    by_cases h0 : iv ii = 0
    · by_cases h1 : fr (rd l (i : Int)) < -500
      · right; exact ⟨fun h => by have := h h0; omega, by simp [h0, h1]⟩
      by_cases h2 : 500 < fr (rd l (i : Int))
      · right; exact ⟨fun h => by have := h h0; omega, by simp [h0, h1, h2]⟩
      by_cases h3 : 500 < ln (rd l (i : Int)) 0
      · right; exact ⟨fun h => by have := h h0; omega, by simp [h0, h1, h2, h3]⟩
      left
      exact ⟨fun _ => by omega, by simp [h0, h1, h2, h3]⟩
    · left
      exact ⟨fun h => absurd h h0, by simp [h0]⟩
  exact EvP.all' (c := fun k i => jacquardref38_Few.c4 k l ii (l.length : Int) (i : Int)) (n := l.length) (Q := FEW l ii n) 1 (fun i => iv ii = 0 → -500 ≤ fr (rd l (i : Int)) ∧ fr (rd l (i : Int)) ≤ 500 ∧ ln (rd l (i : Int)) 0 ≤ 500)
    (fun q => q.2) step (fun hall => .step (g := fun _ => some true) (.tt ⟨by omega, hall⟩) fun k => by
      simp (disch := omega) only [jacquardref38_Few.c4, ↓cdF])
theorem few_ev (l : List Span) (ii : Int) (hl : l.length < 4611686018427387904) : EvP (fun k => jacquardlaw38_few.f k l ii) (FEW l ii 30) := by
  obtain ⟨b, h1, h2⟩ := Few_ref l ii 30 hl
  exact ⟨b, by simp only [jacquardlaw38_few.f]; exact .bind h1 (.ret b), h2⟩

theorem FEW_b {l : List Span} {ii n : Int} (h : FEW l ii n) (h0 : iv ii = 0) : ∀ m, m ≤ l.length → (-500 ≤ LOm l m) ∧ (HIm l m ≤ 1000)
  | 0, _ => by simp [LOm, HIm]
  | m + 1, hm => by
    have ih := FEW_b h h0 m (by omega)
    have hh := h.2 m (by omega) h0
    have := mn_eq (LOm l m) (fr (rd l (m : Int)))
    have := mx_eq (HIm l m) (fr (rd l (m : Int)) + ln (rd l (m : Int)) 0)
    unfold LOm HIm
    split <;> omega
theorem FEW_HL {l : List Span} {ii n : Int} (h : FEW l ii n) (h0 : iv ii = 0) : HI l - LO l ≤ 2097152 := by
  have := FEW_b h h0 l.length (Nat.le_refl _)
  have : -500 ≤ LO l := this.1
  have : HI l ≤ 1000 := by exact (FEW_b h h0 l.length (Nat.le_refl _)).2
  omega

theorem PureColorLoads (l : List Span) (ii : Int) (g0 : Ty.good (.sl Span.T) l) (g1 : Ty.good (.int .i64) ii) : ∃ k, jacquardlaw38_ColorLoads.f k l ii = some true := by
  have hl : l.length ≤ 140737488351232 := g0.1
  refine Ev.ex (f := fun k => jacquardlaw38_ColorLoads.f k l ii) ?_
  simp only [jacquardlaw38_ColorLoads.f]
  have hend : Ev (fun k => (jacquardlaw38_awake.f k).bind fun y16 => some y16) true := Ev.bind awake_ev (.ret true)
  refine Ev.bind awake_ev ?_
  simp only [Bool.not_true, cond_false]
  refine Ev.test (few_ev l ii (by omega)) (fun hf => ?_) fun _ => hend
  simp only [Bool.not_true, cond_false]
  have h30 := hf.1
  refine Ev.bind (Load_prog l ii (by omega) (FEW_HL hf)) (Ev.bind (Load_ref l ii (by omega) (FEW_HL hf)) ?_)
  simp only [↓cnF]
  generalize hx : LOADS l ii = xs
  have hxl : xs.length ≤ 2097152 := by
    rw [← hx]; unfold LOADS REF0
    have := iv_b ii
    split
    · split
      · simp
      · rw [tab_len]; have := FEW_HL hf (by assumption); omega
    · rw [tab_len]; omega
  refine Ev.up (c := fun k i => jacquardlaw38_ColorLoads.c7 k (xs.length : Int) (i : Int) xs xs) (n := xs.length) ?_ ?_ 0 (Nat.zero_le _)
  · refine .succ ?_
    simp (disch := omega) only [jacquardlaw38_ColorLoads.c7, ↓cdF]
    exact .ret _
  · intro i hi hn
    refine .succ ?_
    simp (disch := omega) only [jacquardlaw38_ColorLoads.c7, ↓cdT, ↓if_pos, w64_id, ↓cnF]
    exact hn
end Go.Proofs.YtihkfliabchcmaaV
