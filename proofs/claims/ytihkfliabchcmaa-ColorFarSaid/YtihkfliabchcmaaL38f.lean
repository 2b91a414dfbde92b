/- Chapter 38: ColorBounds, ColorFar, ColorLeast. -/
import Derived.Test.YtihkfliabchcmaaColr
set_option linter.unusedVariables false
set_option linter.unusedSimpArgs false
namespace Go.Proofs.YtihkfliabchcmaaV
open Go Go.Vm

structure ENDS (xs : List Int) (r : Int × Int × Unit) : Prop where
  none : xs.length = 0 → r.1 = 0 ∧ r.2.1 = 0
  all : ∀ i : Nat, i < xs.length → rd xs (i : Int) ≤ r.1 ∧ r.2.1 ≤ rd xs (i : Int)
  most : 0 < xs.length → ∃ i : Nat, i < xs.length ∧ r.1 = rd xs (i : Int)
  least : 0 < xs.length → ∃ i : Nat, i < xs.length ∧ r.2.1 = rd xs (i : Int)

theorem Ends_ev (xs : List Int) (hl : xs.length ≤ 3000000) : W (fun k => jacquardref38_Ends.f k xs) (ENDS xs) := by
  simp only [jacquardref38_Ends.f]
  refine .dec (fun h => .ret ⟨fun _ => ⟨rfl, rfl⟩, fun i hi => by omega, fun h' => by omega, fun h' => by omega⟩) fun h => ?_
  simp (disch := omega) only [↓if_pos]
  have loop : ∀ (d i : Nat) (a b : Int), i + d = xs.length → (∀ j : Nat, j < i → rd xs (j : Int) ≤ a ∧ b ≤ rd xs (j : Int)) → (∃ j : Nat, j < xs.length ∧ a = rd xs (j : Int)) → (∃ j : Nat, j < xs.length ∧ b = rd xs (j : Int)) → W (fun k => jacquardref38_Ends.c5 k xs a b (xs.length : Int) (i : Int)) (ENDS xs) := by
    intro d
    induction d with
    | zero =>
      intro i a b hi h1 h2 h3
      refine .succ ?_
      simp (disch := omega) only [jacquardref38_Ends.c5, ↓cdF]
      exact .ret ⟨fun h' => by omega, fun j hj => h1 j (by omega), fun _ => h2, fun _ => h3⟩
    | succ d ih =>
      intro i a b hi h1 h2 h3
      refine .succ ?_
      simp (disch := omega) only [jacquardref38_Ends.c5, ↓cdT, ↓if_pos, w64_id]
      refine ih (i + 1) _ _ (by omega) (fun j hj => ?_) ?_ ?_
      · have a1 := le_mx_l a (rd xs (i : Int))
        have a2 := le_mx_r a (rd xs (i : Int))
        have b1 := mn_le_l b (rd xs (i : Int))
        have b2 := mn_le_r b (rd xs (i : Int))
        by_cases e : j = i
        · subst e; exact ⟨a2, b2⟩
        · have := h1 j (by omega); exact ⟨by omega, by omega⟩
      · rcases mx_eq a (rd xs (i : Int)) with e | e
        · rw [e]; exact h2
        · rw [e]; exact ⟨i, by omega, rfl⟩
      · rcases mn_eq b (rd xs (i : Int)) with e | e
        · rw [e]; exact h3
        · rw [e]; exact ⟨i, by omega, rfl⟩
  exact loop xs.length 0 _ _ (by omega) (fun j hj => absurd hj (Nat.not_lt_zero _)) ⟨0, by omega, rfl⟩ ⟨0, by omega, rfl⟩

theorem LOADS_len_b {l : List Span} {ii : Int} (hf : FEW l ii 30) : (LOADS l ii).length ≤ 2097152 := by
  have := iv_b ii
  rw [LOADS_len]
  split
  · have := FEW_HL hf (by assumption); omega
  · omega
theorem LOADS_nn {l : List Span} {ii : Int} {c : Nat} (h : c < (LOADS l ii).length) : 0 ≤ rd (LOADS l ii) (c : Int) ∧ rd (LOADS l ii) (c : Int) ≤ l.length := by
  rw [LOADS_rd h]
  split
  · have := cnt_le l 0 (LO l + c) l.length; unfold LOAD; omega
  · have := cnt_le l (iv ii) c l.length; unfold LOAD; omega
/-- the greatest load bounds them all -/
theorem LOADS_most {l : List Span} {ii : Int} {r : Int × Int × Unit} (h : ENDS (LOADS l ii) r) :
    0 ≤ r.1 ∧ r.1 ≤ l.length ∧ 0 ≤ r.2.1 ∧ r.2.1 ≤ l.length ∧ (iv ii = 0 → ∀ i : Nat, i < l.length → 0 < ln (rd l (i : Int)) 0 → (LOAD l 0 (fr (rd l (i : Int))) : Int) ≤ r.1) ∧ (0 < iv ii → ∀ x : Nat, (x : Int) < iv ii → (LOAD l (iv ii) x : Int) ≤ r.1) := by
  have hr1 : 0 ≤ r.1 ∧ r.1 ≤ l.length := by
    rcases Nat.eq_zero_or_pos (LOADS l ii).length with e | e
    · have := h.none e; omega
    · obtain ⟨i, h1, h2⟩ := h.most e
      have := LOADS_nn h1
      omega
  have hr2 : 0 ≤ r.2.1 ∧ r.2.1 ≤ l.length := by
    rcases Nat.eq_zero_or_pos (LOADS l ii).length with e | e
    · have := h.none e; omega
    · obtain ⟨i, h1, h2⟩ := h.least e
      have := LOADS_nn h1
      omega
  refine ⟨hr1.1, hr1.2, hr2.1, hr2.2, fun h0 i hi hp => ?_, fun hn x hx => ?_⟩
  · have g1 := LOm_le l l.length i hi hp
    have g2 := le_HIm l l.length i hi hp
    have e1 : LOm l l.length = LO l := rfl
    have e2 : HIm l l.length = HI l := rfl
    rw [e1] at g1
    rw [e2] at g2
    have hc : (fr (rd l (i : Int)) - LO l).toNat < (LOADS l ii).length := by rw [LOADS_len, if_pos h0]; omega
    have := (h.all _ hc).1
    rw [LOADS_rd hc, if_pos h0, Int.toNat_of_nonneg (by omega), show LO l + (fr (rd l (i : Int)) - LO l) = fr (rd l (i : Int)) by omega] at this
    exact this
  · have hc : x < (LOADS l ii).length := by rw [LOADS_len, if_neg (by omega)]; omega
    have := (h.all _ hc).1
    rwa [LOADS_rd hc, if_neg (by omega)] at this

theorem PureColorBounds (l : List Span) (ii : Int) (g0 : Ty.good (.sl Span.T) l) (g1 : Ty.good (.int .i64) ii) : ∃ k, jacquardlaw38_ColorBounds.f k l ii = some true := by
  have hll : l.length ≤ 140737488351232 := g0.1
  have n1 := iv_b ii
  refine Ev.ex (f := fun k => jacquardlaw38_ColorBounds.f k l ii) ?_
  simp only [jacquardlaw38_ColorBounds.f]
  have hend : Ev (fun k => (jacquardlaw38_awake.f k).bind fun y => some y) true := Ev.bind awake_ev (.ret true)
  refine Ev.bind awake_ev ?_
  simp only [Bool.not_true, cond_false]
  refine Ev.test (few_ev l ii (by omega)) (fun hf => ?_) fun _ => hend
  simp only [Bool.not_true, cond_false]
  have h30 := hf.1
  obtain ⟨r, hr1, hr2⟩ := Ends_ev (LOADS l ii) (by have := LOADS_len_b hf; omega)
  obtain ⟨m1, m2, m3, m4, m5, m6⟩ := LOADS_most hr2
  obtain ⟨c, hc1, hc2⟩ := Color_ev l ii r.1.toNat (by omega) (fun h0 i hi hp => by have := m5 h0 i hi hp; omega) (fun hn x hx => by have := m6 hn x hx; omega)
  refine Ev.bind hc1 (Ev.bind (Load_ref l ii (by omega) (FEW_HL hf)) (Ev.bind hr1 ?_))
  simp only [Interval_eq, Option.bind_some]
  obtain ⟨hP, F, F0, F1, hcol⟩ := hc2
  -- the checks, for a bound
  have main : ∀ B : Int, (∀ i : Nat, i < l.length → 0 < ln (rd l (i : Int)) (iv ii) → rd c (i : Int) < B) → Ev (fun k => jacquardlaw38_ColorBounds.c7 k l ii B c) true := by
    intro B hB
    refine .succ ?_
    simp only [jacquardlaw38_ColorBounds.c7]
    refine Ev.bind ((Proper_ref l ii c (by omega)).true hP) ?_
    simp only [Bool.not_true, cond_false]
    refine Ev.bind ((Proper_prog l ii c (by omega)).true hP) ?_
    simp only [Bool.not_true, cond_false]
    have hcl := hP.1
    refine Ev.up (c := fun k i => jacquardlaw38_ColorBounds.c10 k l ii B (c.length : Int) (i : Int) c) (n := c.length) ?_ ?_ 0 (Nat.zero_le _)
    · refine .succ ?_
      simp (disch := omega) only [jacquardlaw38_ColorBounds.c10, ↓cdF]
      exact .ret _
    · intro i hi hnext
      have hb := ln_b (rd l (i : Int)) (iv ii)
      refine .succ ?_
      simp (disch := omega) only [jacquardlaw38_ColorBounds.c10, ↓cdT, ↓if_pos, Len_eq, Option.bind_some]
      refine .dec (fun h => ?_) fun h => ?_
      · have := (hcol i (by omega)).1 h
        simp (disch := omega) only [↓cnF, ↓cdF, w64_id]
        exact hnext
      · have := hB i (by omega) (by omega)
        simp (disch := omega) only [↓cdT, ↓cdF, w64_id]
        exact hnext
  refine .dec (fun h => ?_) fun h => ?_
  · rw [w64_id (by omega) (by omega)]
    refine main _ fun i hi hp => ?_
    have h1 := (hcol i hi).2 hp
    have hne : 0 < (LOADS l ii).length := by rw [LOADS_len, if_neg (by omega)]; omega
    obtain ⟨x, x1, x2⟩ := hr2.least hne
    rw [LOADS_len, if_neg (by omega)] at x1
    rw [LOADS_rd (by rw [LOADS_len, if_neg (by omega)]; exact x1), if_neg (by omega)] at x2
    have := F1 h x (by omega)
    omega
  · refine main _ fun i hi hp => ?_
    have h1 := (hcol i hi).2 hp
    have := F0 (by omega)
    omega

/-! ### ColorFar -/
def MX (l : List Span) : Nat → Int
  | 0 => 0
  | i + 1 => mx (MX l i) (if 0 < ln (rd l (i : Int)) 0 then (LOAD l 0 (fr (rd l (i : Int))) : Int) else 0)
theorem MX_0 (l : List Span) : ∀ i, 0 ≤ MX l i ∧ MX l i ≤ l.length
  | 0 => ⟨Int.le_refl _, by simp [MX]⟩
  | i + 1 => by
    have := MX_0 l i
    have h2 := cnt_le l 0 (fr (rd l (i : Int))) l.length
    unfold MX
    have := le_mx_l (MX l i) (if 0 < ln (rd l (i : Int)) 0 then (LOAD l 0 (fr (rd l (i : Int))) : Int) else 0)
    rcases mx_eq (MX l i) (if 0 < ln (rd l (i : Int)) 0 then (LOAD l 0 (fr (rd l (i : Int))) : Int) else 0) with e | e
    · omega
    · rw [e] at this ⊢
      refine ⟨by omega, ?_⟩
      split
      · unfold LOAD; omega
      · omega
theorem le_MX (l : List Span) : ∀ i j : Nat, j < i → 0 < ln (rd l (j : Int)) 0 → (LOAD l 0 (fr (rd l (j : Int))) : Int) ≤ MX l i
  | i + 1, j, h, p => by
    unfold MX
    by_cases e : j = i
    · subst e; rw [if_pos p]; exact le_mx_r _ _
    · have := le_MX l i j (by omega) p
      have := le_mx_l (MX l i) (if 0 < ln (rd l (i : Int)) 0 then (LOAD l 0 (fr (rd l (i : Int))) : Int) else 0)
      omega

theorem PureColorFar (l : List Span) (g0 : Ty.good (.sl Span.T) l) : ∃ k, jacquardlaw38_ColorFar.f k l = some true := by
  have hll : l.length ≤ 140737488351232 := g0.1
  refine Ev.ex (f := fun k => jacquardlaw38_ColorFar.f k l) ?_
  simp only [jacquardlaw38_ColorFar.f]
  have hend : Ev (fun k => (jacquardlaw38_awake.f k).bind fun y => some y) true := Ev.bind awake_ev (.ret true)
  refine Ev.bind awake_ev ?_
  simp only [Bool.not_true, cond_false]
  refine .dec (fun _ => hend) fun h30 => ?_
  have mx0 := MX_0 l l.length
  obtain ⟨c, hc1, hc2⟩ := Color_ev l 0 (MX l l.length).toNat (by omega) (fun h0 i hi hp => by have := le_MX l l.length i hi hp; omega) (fun hn => by rw [iv_0] at hn; omega)
  rw [iv_0] at hc2
  obtain ⟨hP, F, F0, F1, hcol⟩ := hc2
  have hF := F0 rfl
  refine Ev.bind hc1 ?_
  refine Ev.up (c := fun k i => jacquardlaw38_ColorFar.c6 k l (MX l i) (l.length : Int) (i : Int) c) (n := l.length) ?_ ?_ 0 (Nat.zero_le _)
  · refine .succ ?_
    simp (disch := omega) only [jacquardlaw38_ColorFar.c6, ↓cdF]
    refine Ev.bind ((Proper_ref l 0 c (by omega)).true hP) ?_
    simp only [Bool.not_true, cond_false]
    have hcl := hP.1
    refine Ev.up (c := fun k i => jacquardlaw38_ColorFar.c20 k (MX l l.length) (c.length : Int) (i : Int) c) (n := c.length) ?_ ?_ 0 (Nat.zero_le _)
    · refine .succ ?_
      simp (disch := omega) only [jacquardlaw38_ColorFar.c20, ↓cdF]
      exact .ret _
    · intro i hi hnext
      have hb := ln_b (rd l (i : Int)) 0
      have h1 := (hcol i (by omega)).1
      have h2 := (hcol i (by omega)).2
      have m1 := le_mx_l (MX l l.length) 1
      have m2 := le_mx_r (MX l l.length) 1
      refine .succ ?_
      simp (disch := omega) only [jacquardlaw38_ColorFar.c20, ↓cdT, ↓if_pos, w64_id]
      have : ¬ mx (MX l l.length) 1 ≤ rd c (i : Int) := by
        by_cases e : ln (rd l (i : Int)) 0 = 0
        · have := h1 e; omega
        · have := h2 (by omega); omega
      simp (disch := omega) only [↓cdF]
      exact hnext
  · intro i hi hnext
    refine .succ ?_
    simp (disch := omega) only [jacquardlaw38_ColorFar.c6, ↓cdT]
    have hfi := fr_b (rd l (i : Int))
    refine Ev.up (c := fun k j => jacquardlaw38_ColorFar.c10 k l (MX l i) (i : Int) (if 0 < ln (rd l (i : Int)) 0 then (cnt l 0 (fr (rd l (i : Int))) j : Int) else 0) (l.length : Int) (i : Int) (l.length : Int) (j : Int) c) (n := l.length) ?_ ?_ 0 (Nat.zero_le _) |> fun h => by
      simpa [cnt] using h
    · refine .succ ?_
      simp (disch := omega) only [jacquardlaw38_ColorFar.c10, ↓cdF, w64_id]
      exact hnext
    · intro j hj hn
      have hcj := cnt_le l 0 (fr (rd l (i : Int))) j
      refine .succ ?_
      simp (disch := omega) only [jacquardlaw38_ColorFar.c10, ↓cdT, ↓if_pos, Len_eq, iv_0, From_eq, Contains_eq, Option.bind_some]
      refine .dec (fun h => ?_) fun h => ?_
      · simp only [h, if_true] at hn ⊢
        refine .dec (fun h' => ?_) fun h' => ?_
        · rw [w64_id (by omega) (by omega), w64_id (by omega) (by omega)]
          have e : cnt l 0 (fr (rd l (i : Int))) (j + 1) = cnt l 0 (fr (rd l (i : Int))) j + 1 := by show _ + _ = _; rw [if_pos h']
          rw [e] at hn
          exact hn
        · rw [w64_id (by omega) (by omega)]
          have e : cnt l 0 (fr (rd l (i : Int))) (j + 1) = cnt l 0 (fr (rd l (i : Int))) j := by show cnt l 0 (fr (rd l (i : Int))) j + _ = _; rw [if_neg h', Nat.add_zero]
          rw [e] at hn
          exact hn
      · simp only [h, if_false] at hn ⊢
        rw [w64_id (by omega) (by omega)]
        exact hn

/-! ### ColorLeast -/
def cp (P : Nat → Bool) : Nat → Nat
  | 0 => 0
  | m + 1 => cp P m + if P m then 1 else 0
theorem cnt_cp (l : List Span) (n c : Int) : ∀ m, cnt l n c m = cp (fun j => decide (HAS (rd l (j : Int)) n c)) m
  | 0 => rfl
  | m + 1 => by unfold cnt cp; rw [cnt_cp l n c m]; simp only [decide_eq_true_eq]
theorem cp_le (m : Nat) : ∀ (K : Nat) (P : Nat → Bool) (c : Nat → Int), (∀ i, i < m → P i = true → 0 ≤ c i ∧ c i < K) → (∀ i j, i < m → j < m → P i = true → P j = true → c i = c j → i = j) → cp P m ≤ K
  | 0, P, c, h, _ => by
    have : ∀ q, q ≤ m → cp P q = 0 := by
      intro q
      induction q with
      | zero => intro _; rfl
      | succ q ih =>
        intro hq
        unfold cp
        rw [ih (by omega), if_neg (fun hp => by have := h q (by omega) hp; omega)]
    rw [this m (Nat.le_refl _)]
    exact Nat.le_refl _
  | K + 1, P, c, h, hi => by
    obtain ⟨P', hP'⟩ : ∃ P' : Nat → Bool, ∀ i, P' i = true ↔ (P i = true ∧ c i ≠ K) := ⟨fun i => P i && decide (c i ≠ K), fun i => by simp⟩
    have ih := cp_le m K P' c (fun i hi' hp => by
      have := h i hi' ((hP' i).1 hp).1
      have := ((hP' i).1 hp).2
      omega) (fun i j h1 h2 p1 p2 e => hi i j h1 h2 ((hP' i).1 p1).1 ((hP' j).1 p2).1 e)
    have key : ∀ q, q ≤ m → cp P q ≤ cp P' q + 1 ∧ ((∀ i, i < q → P i = true → c i ≠ K) → cp P q ≤ cp P' q) := by
      intro q
      induction q with
      | zero => intro _; exact ⟨by simp [cp], fun _ => by simp [cp]⟩
      | succ q ihq =>
        intro hq
        obtain ⟨i1, i2⟩ := ihq (by omega)
        unfold cp
        by_cases p : P q = true
        · rw [if_pos p]
          by_cases e : c q = K
          · have hno : ∀ i, i < q → P i = true → c i ≠ K := fun i hiq pi ce => by
              have := hi i q (by omega) (by omega) pi p (by omega)
              omega
            have := i2 hno
            rw [if_neg (fun x => ((hP' q).1 x).2 e)]
            exact ⟨by omega, fun hh => absurd e (hh q (by omega) p)⟩
          · rw [if_pos ((hP' q).2 ⟨p, e⟩)]
            refine ⟨by omega, fun hh => ?_⟩
            have := i2 (fun i hiq => hh i (by omega))
            omega
        · rw [if_neg p]
          refine ⟨by omega, fun hh => ?_⟩
          have := i2 (fun i hiq => hh i (by omega))
          omega
    have := (key m (Nat.le_refl _)).1
    omega

theorem HAS_OVP {a b : Span} {n c : Int} (hc : n = 0 ∨ (0 < n ∧ 0 ≤ c ∧ c < n)) (ha : HAS a n c) (hb : HAS b n c) : OVP a b n := by
  rcases hc with rfl | ⟨hn, h0, h1⟩
  · rw [HAS0] at ha hb
    unfold OVP
    rw [if_pos rfl]
    omega
  · unfold HAS at ha hb
    rw [if_neg (by omega)] at ha hb
    have p1 := Int.emod_nonneg (c - fr a) (show n ≠ 0 by omega)
    have p2 := Int.emod_nonneg (c - fr b) (show n ≠ 0 by omega)
    unfold OVP
    rw [if_neg (by omega)]
    refine ⟨by omega, by omega, (meet_n hn (by omega) (by omega)).2 ⟨c.toNat, by omega, ?_, ?_⟩⟩
    · rw [Int.toNat_of_nonneg h0]; exact ha
    · rw [Int.toNat_of_nonneg h0]; exact hb
theorem CAN_load {l : List Span} {n c : Int} {K : Nat} (h : CAN l n K) (hc : n = 0 ∨ (0 < n ∧ 0 ≤ c ∧ c < n)) : LOAD l n c ≤ K := by
  obtain ⟨f, _, h2⟩ := h
  unfold LOAD
  rw [cnt_cp]
  refine cp_le l.length K _ f (fun i hi _ => ⟨(h2 i (Nat.zero_le _) hi).1, (h2 i (Nat.zero_le _) hi).2.1⟩) (fun i j hi hj p1 p2 e => ?_)
  simp only [decide_eq_true_eq] at p1 p2
  rcases Nat.lt_trichotomy i j with q | q | q
  · exact absurd (HAS_OVP hc p2 p1) ((h2 j (Nat.zero_le _) hj).2.2 i q e.symm)
  · exact q
  · exact absurd (HAS_OVP hc p1 p2) ((h2 i (Nat.zero_le _) hi).2.2 j q e)
/-- a proper list of colors -/
theorem CAN_of {l : List Span} {n : Int} {c : List Int} {K : Int} (h : PROPER l n c) (hK : ∀ i : Nat, i < l.length → rd c (i : Int) < K) : CAN l n K :=
  ⟨fun i => rd c (i : Int), fun j hj => absurd hj (Nat.not_lt_zero _), fun j _ hj => ⟨(h.2 j hj).1, hK j hj, fun m hm e => (h.2 j hj).2 m hm e⟩⟩

theorem PureColorLeast (l : List Span) (ii : Int) (g0 : Ty.good (.sl Span.T) l) (g1 : Ty.good (.int .i64) ii) : ∃ k, jacquardlaw38_ColorLeast.f k l ii = some true := by
  have hll : l.length ≤ 140737488351232 := g0.1
  have n1 := iv_b ii
  refine Ev.ex (f := fun k => jacquardlaw38_ColorLeast.f k l ii) ?_
  simp only [jacquardlaw38_ColorLeast.f]
  have hend : Ev (fun k => (jacquardlaw38_awake.f k).bind fun y => some y) true := Ev.bind awake_ev (.ret true)
  refine Ev.bind awake_ev ?_
  simp only [Bool.not_true, cond_false]
  refine Ev.test (few_ev l ii (by omega)) (fun hf => ?_) fun _ => hend
  simp only [Bool.not_true, cond_false]
  have h30 := hf.1
  by_cases h8 : 8 < l.length
  · have e : Ev (fun k => color_Least.f k l ii) (0, 5, ()) := by
      simp (disch := omega) only [color_Least.f, ↓cdT]
      exact .ret _
    refine Ev.bind e ?_
    simp (disch := omega) only [↓cdT, decide_true]
    exact .ret _
  · obtain ⟨K, hKl, hK⟩ := least_ex l (iv ii)
    refine Ev.bind (Least_prog l ii (by omega) hK hKl) ?_
    simp (disch := omega) only [↓cdF]
    obtain ⟨r, hr1, hr2⟩ := Ends_ev (LOADS l ii) (by have := LOADS_len_b hf; omega)
    obtain ⟨m1, m2, m3, m4, m5, m6⟩ := LOADS_most hr2
    refine Ev.bind (Load_ref l ii (by omega) (FEW_HL hf)) (Ev.bind hr1 (Ev.bind (Least_ref l ii (by omega) hK hKl) ?_))
    have hmost : r.1 ≤ K := by
      rcases Nat.eq_zero_or_pos (LOADS l ii).length with e | e
      · have := (hr2.none e).1; omega
      · obtain ⟨x, x1, x2⟩ := hr2.most e
        rw [x2, LOADS_rd x1]
        rw [LOADS_len] at x1
        by_cases h0 : iv ii = 0
        · rw [if_pos h0]
          have hk := hK.1
          rw [h0] at hk
          have := CAN_load (c := LO l + x) hk (.inl rfl)
          omega
        · rw [if_neg h0] at x1 ⊢
          have := CAN_load (c := (x : Int)) hK.1 (.inr ⟨by omega, by omega, by omega⟩)
          omega
    simp (disch := omega) only [decide_true, cond_true, ↓cdT, Interval_eq, Option.bind_some]
    refine .dec (fun h => .ret _) fun h => ?_
    refine .dec (fun h => .ret _) fun hm => ?_
    have h0 : iv ii = 0 := by omega
    obtain ⟨c, hc1, hc2⟩ := Color_ev l ii r.1.toNat (by omega) (fun h0 i hi hp => by have := m5 h0 i hi hp; omega) (fun hn x hx => by omega)
    obtain ⟨hP, F, F0, F1, hcol⟩ := hc2
    have hF := F0 h0
    have hcan : CAN l (iv ii) r.1.toNat := CAN_of hP fun i hi => by
      have hb := ln_b (rd l (i : Int)) (iv ii)
      have c1 := (hcol i hi).1
      have c2 := (hcol i hi).2
      by_cases e : ln (rd l (i : Int)) (iv ii) = 0
      · have := c1 e; omega
      · have := c2 (by omega); omega
    have : ¬ r.1.toNat < K := fun q => hK.2 _ q hcan
    rw [decide_eq_true (by omega)]
    exact .ret _
end Go.Proofs.YtihkfliabchcmaaV
