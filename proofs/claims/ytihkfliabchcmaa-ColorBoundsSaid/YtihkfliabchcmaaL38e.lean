/- Chapter 38: ColorAdds and ColorMoves. -/
import Derived.Test.YtihkfliabchcmaaLst2
set_option linter.unusedVariables false
set_option linter.unusedSimpArgs false
namespace Go.Proofs.YtihkfliabchcmaaV
open Go Go.Vm

theorem CAN_more {l : List Span} {s : Span} {n K : Int} (h : CAN (l ++ [s]) n K) : CAN l n K := by
  obtain ⟨c, h1, h2⟩ := h
  refine ⟨c, h1, fun j hj hl => ?_⟩
  obtain ⟨a, b, d⟩ := h2 j hj (by simp; omega)
  refine ⟨a, b, fun m hm e => ?_⟩
  have := d m hm e
  rwa [rd_app_l (by omega), rd_app_l (by omega)] at this
theorem CAN_adds {l : List Span} {s : Span} {n : Int} {K : Nat} (h : CAN l n K) : CAN (l ++ [s]) n (K + 1) := by
  obtain ⟨c, h1, h2⟩ := h
  refine ⟨fun j => if j < l.length then c j else K, fun j hj => absurd hj (Nat.not_lt_zero _), fun j _ hl => ?_⟩
  simp only [List.length_append, List.length_singleton] at hl
  by_cases e : j < l.length
  · obtain ⟨a, b, d⟩ := h2 j (Nat.zero_le _) e
    simp only [e, if_true]
    refine ⟨a, by omega, fun m hm q => ?_⟩
    rw [rd_app_l e, rd_app_l (by omega)]
    exact d m hm (by simpa [show m < l.length by omega] using q)
  · simp only [e, if_false]
    refine ⟨by omega, by omega, fun m hm q => ?_⟩
    have hm' : m < l.length := by omega
    have := (h2 m (Nat.zero_le _) hm').2.1
    have q' : (K : Int) = c m := by simpa [hm'] using q
    omega

theorem PureColorAdds (l : List Span) (s : Span) (ii : Int) (g0 : Ty.good (.sl Span.T) l) (g1 : Ty.good Span.T s) (g2 : Ty.good (.int .i64) ii) : ∃ k, jacquardlaw38_ColorAdds.f k l s ii = some true := by
  have hl : l.length ≤ 140737488351232 := g0.1
  refine Ev.ex (f := fun k => jacquardlaw38_ColorAdds.f k l s ii) ?_
  simp only [jacquardlaw38_ColorAdds.f]
  have hend : Ev (fun k => (jacquardlaw38_awake.f k).bind fun y => some y) true := Ev.bind awake_ev (.ret true)
  refine Ev.bind awake_ev ?_
  simp only [Bool.not_true, cond_false]
  refine .dec (fun _ => hend) fun h7 => ?_
  refine Ev.test (few_ev l ii (by omega)) (fun hf => ?_) fun _ => hend
  simp only [Bool.not_true, cond_false]
  refine Ev.test (few_ev [s] ii (by simp)) (fun _ => ?_) fun _ => hend
  simp only [Bool.not_true, cond_false]
  obtain ⟨K, hKl, hK⟩ := least_ex l (iv ii)
  obtain ⟨K', hKl', hK'⟩ := least_ex (l ++ [s]) (iv ii)
  refine Ev.bind (Least_prog l ii (by omega) hK hKl) ?_
  simp (disch := first | omega | (simp only [List.length_nil, List.length_append, List.length_singleton]; omega)) only [↓bleT, List.nil_append]
  refine Ev.bind (Least_prog (l ++ [s]) ii (by simp; omega) hK' hKl') ?_
  have h1 : K ≤ K' := by
    rcases Nat.lt_or_ge K' K with h | h
    · exact absurd (CAN_more hK'.1) (hK.2 K' h)
    · exact h
  have h2 : K' ≤ K + 1 := by
    rcases Nat.lt_or_ge (K + 1) K' with h | h
    · exact absurd (by have := CAN_adds (s := s) hK.1; exact this) (hK'.2 (K + 1) h)
    · exact h
  simp (disch := omega) only [decide_true, cond_true, w64_id]
  refine .dec (fun _ => .ret _) fun h => ?_
  rw [decide_eq_true (show (K' : Int) = K + 1 by omega)]
  exact .ret _

/-! ### moving -/
def mv (b : Int) (s : Span) : Span := (Span.Start s + b, Span.Len s, ())
def mvl (b : Int) (l : List Span) : List Span := l.map (mv b)
theorem mvl_len (b : Int) (l : List Span) : (mvl b l).length = l.length := by simp [mvl]
theorem rd_mvl {b : Int} {l : List Span} {j : Nat} (h : j < l.length) : rd (mvl b l) (j : Int) = mv b (rd l (j : Int)) := by
  rw [rd_eq (by rw [mvl_len]; exact h), rd_eq h]; simp [mvl]
def NEAR (s : Span) : Prop := -536870912 ≤ Span.Start s ∧ Span.Start s ≤ 536870912
theorem fr_mv {b : Int} {s : Span} (h : NEAR s) (hb : -32768 ≤ b ∧ b ≤ 32767) : fr (mv b s) = fr s + b := by
  obtain ⟨h1, h2⟩ := h
  unfold fr mv mn mx
  simp only [Span.Start] at *
  repeat' split
  all_goals omega
theorem ln_mv (b : Int) (s : Span) (n : Int) : ln (mv b s) n = ln s n := rfl

section
variable {l : List Span} {b : Int} (hl : ∀ j : Nat, j < l.length → NEAR (rd l (j : Int))) (hb : -32768 ≤ b ∧ b ≤ 32767)
include hl hb
theorem OVP_mv {n : Int} {i j : Nat} (hi : i < l.length) (hj : j < l.length) : OVP (rd (mvl b l) (i : Int)) (rd (mvl b l) (j : Int)) n ↔ OVP (rd l (i : Int)) (rd l (j : Int)) n := by
  unfold OVP
  rw [rd_mvl hi, rd_mvl hj, ln_mv, ln_mv, ln_mv, ln_mv, fr_mv (hl i hi) hb, fr_mv (hl j hj) hb]
  rw [show fr (rd l (j : Int)) + b - (fr (rd l (i : Int)) + b) = fr (rd l (j : Int)) - fr (rd l (i : Int)) by omega, show fr (rd l (i : Int)) + b - (fr (rd l (j : Int)) + b) = fr (rd l (i : Int)) - fr (rd l (j : Int)) by omega]
  refine and_congr Iff.rfl (and_congr Iff.rfl ?_)
  by_cases h : n = 0
  · rw [if_pos h, if_pos h]; omega
  · rw [if_neg h, if_neg h]
theorem CAN_mv {n K : Int} : CAN (mvl b l) n K ↔ CAN l n K := by
  unfold CAN EXT MAY
  rw [mvl_len]
  constructor
  · rintro ⟨c, h1, h2⟩
    exact ⟨c, h1, fun j hj hll => ⟨(h2 j hj hll).1, (h2 j hj hll).2.1, fun m hm e => fun q => (h2 j hj hll).2.2 m hm e ((OVP_mv hl hb hll (by omega)).2 q)⟩⟩
  · rintro ⟨c, h1, h2⟩
    exact ⟨c, h1, fun j hj hll => ⟨(h2 j hj hll).1, (h2 j hj hll).2.1, fun m hm e => fun q => (h2 j hj hll).2.2 m hm e ((OVP_mv hl hb hll (by omega)).1 q)⟩⟩
theorem ISLEAST_mv {n : Int} {K : Nat} (h : ISLEAST l n K) : ISLEAST (mvl b l) n K :=
  ⟨(CAN_mv hl hb).2 h.1, fun j hj hc => h.2 j hj ((CAN_mv hl hb).1 hc)⟩
theorem cnt_mv0 (c : Int) : ∀ m, m ≤ l.length → cnt (mvl b l) 0 (c + b) m = cnt l 0 c m
  | 0, _ => rfl
  | m + 1, hm => by
    have ih := cnt_mv0 c m (by omega)
    have e : HAS (rd (mvl b l) (m : Int)) 0 (c + b) ↔ HAS (rd l (m : Int)) 0 c := by
      rw [HAS0, HAS0, rd_mvl (by omega), ln_mv, fr_mv (hl m (by omega)) hb]; omega
    unfold cnt
    simp only [e, ih]
theorem cnt_mvn {n : Int} (hn : 0 < n) (c : Int) : ∀ m, m ≤ l.length → cnt (mvl b l) n ((c + b) % n) m = cnt l n c m
  | 0, _ => rfl
  | m + 1, hm => by
    have ih := cnt_mvn hn c m (by omega)
    have e : HAS (rd (mvl b l) (m : Int)) n ((c + b) % n) ↔ HAS (rd l (m : Int)) n c := by
      unfold HAS
      rw [if_neg (by omega), if_neg (by omega), rd_mvl (by omega), ln_mv, fr_mv (hl m (by omega)) hb, Int.emod_sub_emod, show c + b - (fr (rd l (m : Int)) + b) = c - fr (rd l (m : Int)) by omega]
    unfold cnt
    simp only [e, ih]
theorem LH_mv : ∀ m, m ≤ l.length → (LOm l m = 1074790400 ∧ HIm l m = -1073741824 ∧ LOm (mvl b l) m = 1074790400 ∧ HIm (mvl b l) m = -1073741824) ∨ (LOm l m < HIm l m ∧ LOm (mvl b l) m = LOm l m + b ∧ HIm (mvl b l) m = HIm l m + b ∧ LOm l m ≤ 600000000 ∧ -600000000 ≤ HIm l m)
  | 0, _ => .inl ⟨rfl, rfl, rfl, rfl⟩
  | m + 1, hm => by
    have ih := LH_mv m (by omega)
    have hf := fr_mv (hl m (by omega)) hb
    have hr := rd_mvl (b := b) (show m < l.length by omega)
    have hb1 := ln_b (rd l (m : Int)) 0
    have hnear : -536870912 ≤ fr (rd l (m : Int)) ∧ fr (rd l (m : Int)) ≤ 536870912 := by
      have := hl m (by omega)
      unfold NEAR at this
      unfold fr mn mx
      repeat' split
      all_goals omega
    unfold LOm HIm
    rw [hr, ln_mv, hf]
    by_cases h : 0 < ln (rd l (m : Int)) 0
    · simp only [if_pos h]
      right
      have a1 := mn_eq (LOm l m) (fr (rd l (m : Int)))
      have a2 := mx_eq (HIm l m) (fr (rd l (m : Int)) + ln (rd l (m : Int)) 0)
      unfold mn mx
      repeat' split
      all_goals omega
    · simp only [if_neg h]; exact ih
end

theorem LOADS_len (l : List Span) (ii : Int) : (LOADS l ii).length = if iv ii = 0 then (HI l - LO l).toNat else (iv ii).toNat := by
  unfold LOADS REF0
  split
  · split
    · have : (HI l - LO l).toNat = 0 := by omega
      rw [this]; rfl
    · rw [tab_len]
  · rw [tab_len]
theorem LOADS_rd {l : List Span} {ii : Int} {c : Nat} (h : c < (LOADS l ii).length) : rd (LOADS l ii) (c : Int) = (if iv ii = 0 then (LOAD l 0 (LO l + c) : Int) else (LOAD l (iv ii) c : Int)) := by
  have hlen := LOADS_len l ii
  unfold LOADS REF0 at *
  by_cases h0 : iv ii = 0
  · simp only [if_pos h0] at *
    by_cases h1 : HI l ≤ LO l
    · rw [if_pos h1] at h; simp at h
    · rw [if_neg h1] at *
      rw [tab_len] at h
      rw [tab_rd h]
  · simp only [if_neg h0] at *
    rw [tab_len] at h
    rw [tab_rd h]

theorem PureColorMoves (l : List Span) (ii b : Int) (g0 : Ty.good (.sl Span.T) l) (g1 : Ty.good (.int .i64) ii) (g2 : Ty.good (.int .i16) b) : ∃ k, jacquardlaw38_ColorMoves.f k l ii b = some true := by
  have hll : l.length ≤ 140737488351232 := g0.1
  have hb : -32768 ≤ b ∧ b ≤ 32767 := by
    have : (Lit.int IntKind.i16 b).wf = true := g2
    simp [Lit.wf, IntKind.min, IntKind.max, IntKind.signed, IntKind.bits] at this
    omega
  refine Ev.ex (f := fun k => jacquardlaw38_ColorMoves.f k l ii b) ?_
  simp only [jacquardlaw38_ColorMoves.f]
  have hend : Ev (fun k => (jacquardlaw38_awake.f k).bind fun y => some y) true := Ev.bind awake_ev (.ret true)
  refine Ev.bind awake_ev ?_
  simp only [Bool.not_true, cond_false]
  refine Ev.test (few_ev l ii (by omega)) (fun hf => ?_) fun _ => hend
  simp only [Bool.not_true, cond_false]
  refine .dec (fun _ => hend) fun h8 => ?_
  simp only [Interval_eq, Option.bind_some]
  have n1 := iv_b ii
  -- the moved list
  have loop : ∀ (d i : Nat), i + d = l.length → (∀ j : Nat, j < i → NEAR (rd l (j : Int))) → Ev (fun k => jacquardlaw38_ColorMoves.c6 k l ii b (iv ii) (l.length : Int) (i : Int) (mvl b (l.take i))) true := by
    intro d
    induction d with
    | zero =>
      intro i hi hn
      have hi' : i = l.length := by omega
      subst hi'
      rw [List.take_length]
      have lh := LH_mv hn hb l.length (Nat.le_refl _)
      have q1 : LOm l l.length = LO l := rfl
      have q2 : HIm l l.length = HI l := rfl
      have q3 : LOm (mvl b l) l.length = LO (mvl b l) := by unfold LO; rw [mvl_len]
      have q4 : HIm (mvl b l) l.length = HI (mvl b l) := by unfold HI; rw [mvl_len]
      rw [q1, q2, q3, q4] at lh
      refine .succ ?_
      simp (disch := omega) only [jacquardlaw38_ColorMoves.c6, ↓cdF]
      refine .bind (Load_prog l ii (by omega) (FEW_HL hf)) (.bind (Load_prog (mvl b l) ii (by rw [mvl_len]; omega) (fun h0 => by have := FEW_HL hf h0; omega)) ?_)
      have hlen : (LOADS (mvl b l) ii).length = (LOADS l ii).length := by
        rw [LOADS_len, LOADS_len]
        split
        · omega
        · rfl
      have hlb : (LOADS l ii).length ≤ 2097152 := by
        rw [LOADS_len]
        split
        · have := FEW_HL hf (by assumption); omega
        · omega
      rw [hlen]
      simp (disch := omega) only [↓cnF]
      refine Ev.up (c := fun k i => jacquardlaw38_ColorMoves.c16 k l ii b (iv ii) ((LOADS l ii).length : Int) (i : Int) (mvl b l) (LOADS l ii) (LOADS (mvl b l) ii)) (n := (LOADS l ii).length) ?_ ?_ 0 (Nat.zero_le _)
      · refine .succ ?_
        simp (disch := omega) only [jacquardlaw38_ColorMoves.c16, ↓cdF]
        obtain ⟨K, hKl, hK⟩ := least_ex l (iv ii)
        refine .bind (Least_prog l ii (by omega) hK hKl) (.bind (Least_prog (mvl b l) ii (by rw [mvl_len]; omega) (ISLEAST_mv hn hb hK) (by rw [mvl_len]; omega)) ?_)
        rw [decide_eq_true rfl]
        exact .ret _
      · intro i hi hnext
        have step : ∀ m : Nat, m < (LOADS l ii).length → rd (LOADS l ii) (i : Int) = rd (LOADS (mvl b l) ii) (m : Int) → Ev (fun k => jacquardlaw38_ColorMoves.c21 k l ii b (iv ii) (i : Int) (m : Int) ((LOADS l ii).length : Int) (i : Int) (mvl b l) (LOADS l ii) (LOADS (mvl b l) ii)) true := by
          intro m hm he
          refine .succ ?_
          rw [← hlen] at hm
          simp (disch := omega) only [jacquardlaw38_ColorMoves.c21, ↓if_pos, ↓cnF, w64_id]
          exact hnext
        refine .succ ?_
        simp (disch := omega) only [jacquardlaw38_ColorMoves.c16, ↓cdT]
        refine .dec (fun h => ?_) fun h => ?_
        · simp (disch := omega) only [w64_id, Mod_eq, Option.bind_some]
          obtain ⟨m, hm⟩ : ∃ m : Nat, ((i : Int) + b) % iv ii = (m : Int) := ⟨(((i : Int) + b) % iv ii).toNat, by have := Int.emod_nonneg ((i : Int) + b) (show iv ii ≠ 0 by omega); omega⟩
          have hmn := Int.emod_lt_of_pos ((i : Int) + b) h
          have hml : m < (LOADS l ii).length := by rw [LOADS_len, if_neg (by omega)]; omega
          rw [hm]
          refine step m hml ?_
          rw [LOADS_rd hi, LOADS_rd (by omega), if_neg (by omega), if_neg (by omega)]
          unfold LOAD
          rw [mvl_len, ← hm, cnt_mvn hn hb h _ _ (Nat.le_refl _)]
        · refine step i hi ?_
          have h0 : iv ii = 0 := by omega
          rw [LOADS_rd hi, LOADS_rd (by omega), if_pos h0, if_pos h0]
          rw [LOADS_len, if_pos h0] at hi
          unfold LOAD
          rw [mvl_len, show LO (mvl b l) + (i : Int) = LO l + (i : Int) + b by omega, cnt_mv0 hn hb _ _ (Nat.le_refl _)]
    | succ d ih =>
      intro i hi hn
      refine .succ ?_
      have hg := g0.2 (rd l (i : Int)) (rd_mem (by omega) (by omega))
      simp (disch := omega) only [jacquardlaw38_ColorMoves.c6, ↓cdT, ↓if_pos]
      refine .dec (fun _ => .ret _) fun h1 => ?_
      refine .dec (fun _ => .ret _) fun h2 => ?_
      simp (disch := first | omega | (simp only [mvl_len, List.length_take, List.length_singleton]; omega)) only [↓bleT, w64_id]
      have := ih (i + 1) (by omega) (fun j hj => by
        by_cases e : j = i
        · subst e; exact ⟨by omega, by omega⟩
        · exact hn j (by omega))
      have e : mvl b (l.take (i + 1)) = mvl b (l.take i) ++ [(Span.Start (rd l (i : Int)) + b, Span.Len (rd l (i : Int)), ())] := by
        unfold mvl
        rw [List.take_add_one, List.map_append, List.getElem?_eq_getElem (by omega), rd_eq (by omega)]
        rfl
      rw [e] at this
      exact this
  exact loop l.length 0 (by omega) (fun j hj => absurd hj (Nat.not_lt_zero _))
end Go.Proofs.YtihkfliabchcmaaV
