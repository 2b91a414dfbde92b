/- Chapter 38: the least number of colors: the reference's side. -/
import Derived.Test.YtihkfliabchcmaaLst
set_option linter.unusedVariables false
set_option linter.unusedSimpArgs false
namespace Go.Proofs.YtihkfliabchcmaaV
open Go Go.Vm

/-- one above the greatest of the first i colors, at least 0 -/
def USED (o : Nat → Int) : Nat → Int
  | 0 => 0
  | i + 1 => mx (USED o i) (o i + 1)
theorem USED_0 (o : Nat → Int) : ∀ i, 0 ≤ USED o i
  | 0 => by simp [USED]
  | i + 1 => by have := USED_0 o i; have := le_mx_l (USED o i) (o i + 1); unfold USED; omega
theorem lt_USED (o : Nat → Int) : ∀ i j : Nat, j < i → o j < USED o i
  | i + 1, j, h => by
    unfold USED
    by_cases e : j = i
    · subst e; have := le_mx_r (USED o j) (o j + 1); omega
    · have := lt_USED o i j (by omega); have := le_mx_l (USED o i) (o i + 1); omega
theorem USED_le (o : Nat → Int) (K : Int) (hK : 0 ≤ K) : ∀ i : Nat, (∀ j, j < i → o j < K) → USED o i ≤ K
  | 0, _ => by simp [USED, hK]
  | i + 1, h => by
    have := USED_le o K hK i (fun j hj => h j (by omega))
    have := h i (by omega)
    have := mx_eq (USED o i) (o i + 1)
    unfold USED; omega

/-- colors above the used ones are alike -/
theorem GOES_swap {l : List Span} {n K : Int} {i : Nat} {o : Nat → Int} {v : Int} (hi : i < l.length) (hv : USED o i < v) (hK : v < K) (h : GOES l n K i o v) : GOES l n K i o (USED o i) := by
  have h0 := USED_0 o i
  have hlt := lt_USED o i
  generalize USED o i = u at *
  refine ⟨fun m hm e => by have := hlt m hm; omega, ?_⟩
  obtain ⟨_, c, h1, h2⟩ := h
  let s : Int → Int := fun x => if x = u then v else if x = v then u else x
  have sinj : ∀ x y, s x = s y → x = y := by
    intro x y
    show (if x = u then v else if x = v then u else x) = (if y = u then v else if y = v then u else y) → x = y
    repeat' split
    all_goals omega
  have sK : ∀ x, 0 ≤ x → x < K → 0 ≤ s x ∧ s x < K := by
    intro x
    show _ → _ → 0 ≤ (if x = u then v else if x = v then u else x) ∧ (if x = u then v else if x = v then u else x) < K
    repeat' split
    all_goals omega
  have sid : ∀ x, x < u → s x = x := by
    intro x hx
    show (if x = u then v else if x = v then u else x) = x
    rw [if_neg (by omega), if_neg (by omega)]
  have hci : c i = v := by rw [h1 i (by omega)]; simp [upd]
  have hco : ∀ j, j < i → c j = o j := fun j hj => by rw [h1 j (by omega)]; simp [upd, Nat.ne_of_lt hj]
  refine ⟨fun j => s (c j), fun j hj => ?_, fun j hj hl => ?_⟩
  · show s (c j) = upd o i u j
    unfold upd
    by_cases e : j = i
    · rw [if_pos e, e, hci]
      show (if v = u then v else if v = v then u else v) = u
      rw [if_neg (by omega), if_pos rfl]
    · rw [if_neg e, hco j (by omega), sid _ (hlt j (by omega))]
  · obtain ⟨a, b, d⟩ := h2 j hj hl
    have := sK _ a b
    exact ⟨this.1, this.2, fun m hm e => d m hm (sinj _ _ e)⟩

theorem can_ev (l : List Span) (ii : Int) (K : Nat) (hl : l.length ≤ 1000000) (hK : K ≤ 1000000) : ∀ (d i : Nat), i + d = l.length → ∀ o : List Int, o.length = i → (∀ j, j < i → -1 ≤ ofL o j ∧ ofL o j < K) →
    W (fun k => jacquardref38_can.f k l ii (K : Int) o) (fun r => r.1 = true ↔ EXT l (iv ii) K i (ofL o))
  | 0, i, hd, o, ho, hb => by
    refine .succ ?_
    simp (disch := omega) only [jacquardref38_can.f, ↓cdT]
    refine .ret ⟨fun _ => ?_, fun _ => rfl⟩
    rw [show i = l.length by omega]
    exact EXT_full
  | d + 1, i, hd, o, ho, hb => by
    have ih := can_ev l ii K hl hK d (i + 1) (by omega)
    have hu0 := USED_0 (ofL o) i
    have hu1 := USED_le (ofL o) K (by omega) i (fun j hj => (hb j hj).2)
    refine .succ ?_
    simp (disch := omega) only [jacquardref38_can.f, ↓cdF, ho]
    refine W.up (c := fun k j => jacquardref38_can.c6 k l ii (K : Int) o (i : Int) (USED (ofL o) j) (i : Int) (j : Int)) (n := i) ?_ ?_
    · refine .succ ?_
      simp (disch := omega) only [jacquardref38_can.c6, ↓cdF]
      -- the colors from some color on
      have loop : ∀ (e v : Nat), v + e = K → W (fun k => jacquardref38_can.c11 k l ii (K : Int) o (i : Int) (USED (ofL o) i) (v : Int)) (fun r => r.1 = true ↔ (∃ w : Nat, v ≤ w ∧ w < K ∧ (w : Int) ≤ USED (ofL o) i ∧ GOES l (iv ii) K i (ofL o) (w : Int))) := by
        intro e
        induction e with
        | zero =>
          intro v hv
          refine .succ ?_
          simp (disch := omega) only [jacquardref38_can.c11, ↓cdF]
          exact .ret ⟨(fun h => by cases h), (fun ⟨w, h1, h2, _⟩ => by omega)⟩
        | succ e ihe =>
          intro v hv
          refine .succ ?_
          simp (disch := omega) only [jacquardref38_can.c11, ↓cdT]
          refine .dec (fun hvu => ?_) fun hvu => .ret ⟨(fun h => by cases h), (fun ⟨w, h1, h2, h3, _⟩ => by omega)⟩
          refine W.up (c := fun k j => jacquardref38_can.c15 k l ii (K : Int) o (i : Int) (USED (ofL o) i) (v : Int) (decide (∀ m, m < j → (v : Int) = ofL o m → ¬ OVP (rd l (i : Int)) (rd l (m : Int)) (iv ii))) (o.length : Int) (j : Int)) (n := i) ?_ ?_ |> fun h => by
            simpa using h
          · refine .succ ?_
            simp (disch := first | omega | (simp only [List.length_nil, List.length_append, List.length_singleton]; omega)) only [jacquardref38_can.c15, ↓cdF, ↓bleT, w64_id, List.nil_append]
            refine .dec (fun hok => ?_) fun hok => ?_
            · have hap : ∀ j, j < i + 1 → ofL (o ++ [(v : Int)]) j = upd (ofL o) i (v : Int) j := fun j hj => by
                unfold ofL upd
                by_cases e : j = i
                · rw [if_pos e, e, ← ho, rd_app_at]
                · rw [if_neg e, rd_app_l (by omega)]
              refine W.bind (ih (o ++ [(v : Int)]) (by simp [ho]) (fun j hj => ?_)) fun r hr => ?_
              · rw [hap j hj]; unfold upd
                by_cases e : j = i
                · rw [if_pos e]; omega
                · rw [if_neg e]; exact hb j (by omega)
              have hgo : GOES l (iv ii) K i (ofL o) (v : Int) ↔ r.1 = true := by
                rw [hr]
                exact ⟨fun g => EXT_congr (fun j hj => (hap j hj).symm) g.2, fun g => ⟨hok, EXT_congr hap g⟩⟩
              refine .cond (fun h => ?_) fun h => ?_
              · exact .ret ⟨fun _ => ⟨v, Nat.le_refl _, by omega, hvu, hgo.2 h⟩, fun _ => rfl⟩
              · refine (ihe (v + 1) (by omega)).mono fun z hz => hz.trans ⟨fun ⟨w, h1, h2⟩ => ⟨w, by omega, h2⟩, fun ⟨w, h1, h2⟩ => ⟨w, ?_, h2⟩⟩
                by_cases e : w = v
                · subst e
                  have := hgo.1 h2.2.2
                  rw [h] at this; cases this
                · omega
            · refine (ihe (v + 1) (by omega)).mono fun z hz => hz.trans ⟨fun ⟨w, h1, h2⟩ => ⟨w, by omega, h2⟩, fun ⟨w, h1, h2⟩ => ⟨w, ?_, h2⟩⟩
              by_cases e : w = v
              · subst e
                exact absurd h2.2.2.1 hok
              · omega
          · intro j hj y hy
            refine .succ ?_
            have hs : (∀ m, m < j + 1 → (v : Int) = ofL o m → ¬ OVP (rd l (i : Int)) (rd l (m : Int)) (iv ii)) ↔ (∀ m, m < j → (v : Int) = ofL o m → ¬ OVP (rd l (i : Int)) (rd l (m : Int)) (iv ii)) ∧ ((v : Int) = ofL o j → ¬ OVP (rd l (i : Int)) (rd l (j : Int)) (iv ii)) :=
              ⟨fun h => ⟨fun m hm => h m (by omega), h j (by omega)⟩, fun h m hm => by
                by_cases e : m = j
                · subst e; exact h.2
                · exact h.1 m (by omega)⟩
            have hrd : rd o (j : Int) = ofL o j := rfl
            simp (disch := omega) only [jacquardref38_can.c15, ↓cdT, ↓if_pos, w64_id, hrd]
            have hy' : ∀ b, decide (∀ m, m < j + 1 → (v : Int) = ofL o m → ¬ OVP (rd l (i : Int)) (rd l (m : Int)) (iv ii)) = b → Ev (fun k => jacquardref38_can.c15 k l ii (K : Int) o (i : Int) (USED (ofL o) i) (v : Int) b (o.length : Int) ((j : Int) + 1)) y := by
              rintro _ rfl; exact hy
            refine .dec (fun h1 => ?_) fun h1 => ?_
            · refine .test (Overlap_ref (rd l (j : Int)) (rd l (i : Int)) ii) (fun ho => ?_) fun ho => ?_
              · exact hy' false (decide_eq_false fun h => (hs.1 h).2 h1.symm ((OVP_comm _ _ _).1 ho))
              · refine hy' _ ?_
                rw [decide_eq_decide, hs]
                exact ⟨fun h => h.1, fun h => ⟨h, fun _ q => ho ((OVP_comm _ _ _).1 q)⟩⟩
            · refine hy' _ ?_
              rw [decide_eq_decide, hs]
              exact ⟨fun h => h.1, fun h => ⟨h, fun e => absurd e.symm h1⟩⟩
      refine (loop K 0 (by omega)).mono fun r hr => hr.trans ?_
      rw [EXT_step (by omega)]
      constructor
      · rintro ⟨w, _, h1, h2, h3⟩; exact ⟨(w : Int), by omega, by omega, h3⟩
      · rintro ⟨w, h0, h1, h2⟩
        by_cases hw : w ≤ USED (ofL o) i
        · exact ⟨w.toNat, by omega, by omega, by omega, by rw [Int.toNat_of_nonneg h0]; exact h2⟩
        · exact ⟨(USED (ofL o) i).toNat, by omega, by omega, by omega, by rw [Int.toNat_of_nonneg hu0]; exact GOES_swap (by omega) (by omega) h1 h2⟩
    · intro j hj y hy
      refine .succ ?_
      have := hb j hj
      have hrd : rd o (j : Int) = ofL o j := rfl
      simp (disch := omega) only [jacquardref38_can.c6, ↓cdT, ↓if_pos, w64_id, hrd]
      exact hy

theorem CAN_zero {l : List Span} {n : Int} (h : 0 < l.length) : ¬ CAN l n 0 := fun ⟨c, _, h2⟩ => by
  have := h2 0 (Nat.zero_le _) h
  omega
theorem Least_ref (l : List Span) (ii : Int) (hl : l.length ≤ 1000) {K : Nat} (hK : ISLEAST l (iv ii) K) (hKl : K ≤ l.length) : Ev (fun k => jacquardref38_Least.f k l ii) (K : Int) := by
  simp only [jacquardref38_Least.f]
  refine .dec (fun h => ?_) fun h => ?_
  · rw [show K = 0 by omega]; exact .ret _
  have hK1 : 0 < K := by
    rcases Nat.eq_zero_or_pos K with e | e
    · subst e; exact absurd hK.1 (CAN_zero (by omega))
    · exact e
  have loop : ∀ (d v : Nat), v + d = K → Ev (fun k => jacquardref38_Least.c4 k l ii (v : Int)) (K : Int) := by
    intro d
    induction d with
    | zero =>
      intro v hv
      obtain ⟨r, h1, h2⟩ := can_ev l ii v (by omega) (by omega) l.length 0 (by omega) [] rfl (fun j hj => absurd hj (Nat.not_lt_zero _))
      refine .succ ?_
      simp only [jacquardref38_Least.c4]
      refine .bind h1 ?_
      have : r.1 = true := h2.2 (EXT_congr (fun j hj => absurd hj (Nat.not_lt_zero _)) (by rw [show v = K by omega]; exact hK.1))
      simp only [this, Bool.not_true, cond_false]
      rw [show v = K by omega]
      exact .ret _
    | succ d ih =>
      intro v hv
      obtain ⟨r, h1, h2⟩ := can_ev l ii v (by omega) (by omega) l.length 0 (by omega) [] rfl (fun j hj => absurd hj (Nat.not_lt_zero _))
      refine .succ ?_
      simp only [jacquardref38_Least.c4]
      refine .bind h1 ?_
      have : r.1 = false := by
        cases hr : r.1
        · rfl
        · exact absurd (EXT_congr (fun j hj => absurd hj (Nat.not_lt_zero _)) (h2.1 hr)) (hK.2 v (by omega))
      simp (disch := omega) only [this, Bool.not_false, cond_true, w64_id]
      exact ih (v + 1) (by omega)
  exact loop (K - 1) 1 (by omega)
end Go.Proofs.YtihkfliabchcmaaV
