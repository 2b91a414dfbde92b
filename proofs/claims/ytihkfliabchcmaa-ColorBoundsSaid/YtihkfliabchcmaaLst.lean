/- Chapter 38: the least number of colors, by trying: the program's side and the reference's. -/
import Derived.Test.YtihkfliabchcmaaL38d
set_option linter.unusedVariables false
set_option linter.unusedSimpArgs false
namespace Go.Proofs.YtihkfliabchcmaaV
open Go Go.Vm

theorem W.up {α : Type} {c : Nat → Nat → Option α} {n : Nat} {Q : α → Prop} (hn : W (fun k => c k n) Q) (h : ∀ i, i < n → ∀ y, Ev (fun k => c k (i + 1)) y → Ev (fun k => c k i) y) : W (fun k => c k 0) Q := by
  obtain ⟨y, h1, h2⟩ := hn
  exact ⟨y, Ev.up h1 (fun i hi => h i hi y) 0 (Nat.zero_le _), h2⟩

/-- a color that one span may have behind those before -/
def MAY (l : List Span) (n : Int) (c : Nat → Int) (j : Nat) (v : Int) : Prop := ∀ m, m < j → v = c m → ¬ OVP (rd l (j : Int)) (rd l (m : Int)) n
/-- the first i colors can be continued -/
def EXT (l : List Span) (n K : Int) (i : Nat) (o : Nat → Int) : Prop := ∃ c : Nat → Int, (∀ j, j < i → c j = o j) ∧ ∀ j, i ≤ j → j < l.length → 0 ≤ c j ∧ c j < K ∧ MAY l n c j (c j)
def CAN (l : List Span) (n K : Int) : Prop := EXT l n K 0 (fun _ => 0)
theorem EXT_congr {l : List Span} {n K : Int} {i : Nat} {o o' : Nat → Int} (h : ∀ j, j < i → o j = o' j) (e : EXT l n K i o) : EXT l n K i o' := by
  obtain ⟨c, h1, h2⟩ := e
  exact ⟨c, fun j hj => (h1 j hj).trans (h j hj), h2⟩
theorem EXT_full {l : List Span} {n K : Int} {o : Nat → Int} : EXT l n K l.length o := ⟨o, fun _ _ => rfl, fun j h1 h2 => by omega⟩
def upd (o : Nat → Int) (i : Nat) (v : Int) : Nat → Int := fun j => if j = i then v else o j
/-- one color that goes on -/
def GOES (l : List Span) (n K : Int) (i : Nat) (o : Nat → Int) (v : Int) : Prop := MAY l n o i v ∧ EXT l n K (i + 1) (upd o i v)
theorem EXT_step {l : List Span} {n K : Int} {i : Nat} {o : Nat → Int} (hi : i < l.length) : EXT l n K i o ↔ ∃ v, 0 ≤ v ∧ v < K ∧ GOES l n K i o v := by
  constructor
  · rintro ⟨c, h1, h2⟩
    obtain ⟨a, b, d⟩ := h2 i (Nat.le_refl _) hi
    refine ⟨c i, a, b, fun m hm e => d m hm (by rw [h1 m hm]; exact e), c, fun j hj => ?_, fun j hj => h2 j (by omega)⟩
    unfold upd
    by_cases e : j = i
    · rw [if_pos e, e]
    · rw [if_neg e]; exact h1 j (by omega)
  · rintro ⟨v, a, b, d, c, h1, h2⟩
    have h3 : c i = v := by rw [h1 i (by omega)]; simp [upd]
    have h4 : ∀ j, j < i → c j = o j := fun j hj => by rw [h1 j (by omega)]; simp [upd, Nat.ne_of_lt hj]
    refine ⟨c, h4, fun j hj hl => ?_⟩
    by_cases e : j = i
    · subst e
      rw [h3]
      exact ⟨a, b, fun m hm e => d m hm (by rw [← h4 m hm]; exact e)⟩
    · exact h2 j (by omega) hl

/-- the colors of a list -/
def ofL (o : List Int) : Nat → Int := fun j => rd o (j : Int)

theorem GOES_congr {l : List Span} {n K : Int} {i : Nat} {o o' : Nat → Int} {v : Int} (h : ∀ j, j < i → o j = o' j) (e : GOES l n K i o v) : GOES l n K i o' v := by
  refine ⟨fun m hm q => e.1 m hm (by rw [h m hm]; exact q), EXT_congr (fun j hj => ?_) e.2⟩
  unfold upd
  by_cases e : j = i
  · simp [e]
  · rw [if_neg e, if_neg e]; exact h j (by omega)

/-- what a call of fits answers -/
def FIT (l : List Span) (n K : Int) (i : Nat) (o : List Int) (P : Prop) (r : Bool × List Int × Unit) : Prop := (r.1 = true ↔ P) ∧ r.2.1.length = o.length ∧ ∀ j, j < i → ofL r.2.1 j = ofL o j

theorem fits_ev (l : List Span) (ii : Int) (K : Nat) (hl : l.length ≤ 1000000) (hK : K ≤ 1000000) : ∀ (d i : Nat), i + d = l.length → ∀ o : List Int, o.length = l.length →
    W (fun k => color_Least_1_i1.f k (i : Int) (K : Int) l ii o) (FIT l (iv ii) K i o (EXT l (iv ii) K i (ofL o)))
  | 0, i, hd, o, ho => by
    refine .succ ?_
    simp (disch := omega) only [color_Least_1_i1.f, ↓cdT]
    refine .ret ⟨⟨fun _ => ?_, fun _ => rfl⟩, rfl, fun _ _ => rfl⟩
    rw [show i = l.length by omega]
    exact EXT_full
  | d + 1, i, hd, o, ho => by
    have ih := fits_ev l ii K hl hK d (i + 1) (by omega)
    refine .succ ?_
    simp (disch := omega) only [color_Least_1_i1.f, ↓cdF]
    -- the colors from some color on
    have loop : ∀ (e v : Nat), v + e = K → ∀ o' : List Int, o'.length = l.length → (∀ j, j < i → ofL o' j = ofL o j) →
        W (fun k => color_Least_1_i1.c4 k (i : Int) (K : Int) (K : Int) (v : Int) o' l ii) (FIT l (iv ii) K i o (∃ w : Nat, v ≤ w ∧ w < K ∧ GOES l (iv ii) K i (ofL o) (w : Int))) := by
      intro e
      induction e with
      | zero =>
        intro v hv o' ho' hag
        refine .succ ?_
        simp (disch := omega) only [color_Least_1_i1.c4, ↓cdF]
        exact .ret ⟨⟨(fun h => by cases h), (fun ⟨w, h1, h2, _⟩ => by omega)⟩, by simp [ho', ho], hag⟩
      | succ e ihe =>
        intro v hv o' ho' hag
        refine .succ ?_
        simp (disch := omega) only [color_Least_1_i1.c4, ↓cdT]
        refine W.up (c := fun k j => color_Least_1_i1.c8 k (i : Int) (K : Int) (v : Int) (decide (∀ m, m < j → (v : Int) = ofL o m → ¬ OVP (rd l (i : Int)) (rd l (m : Int)) (iv ii))) (K : Int) (v : Int) (i : Int) (j : Int) o' l ii) (n := i) ?_ ?_ |> fun h => by
          simpa using h
        · refine .succ ?_
          have hset : ∀ j, j < i + 1 → ofL (List.set o' i (v : Int)) j = upd (ofL o) i (v : Int) j := fun j hj => by
            unfold ofL upd
            rw [rd_set (by omega)]
            by_cases e : j = i
            · rw [if_pos e.symm, if_pos e]
            · rw [if_neg (Ne.symm e), if_neg e]; exact hag j (by omega)
          simp (disch := omega) only [color_Least_1_i1.c8, ↓cdF, ↓if_pos, Int.toNat_natCast, w64_id]
          refine .dec (fun hok => ?_) fun hok => ?_
          · refine W.bind (P := FIT l (iv ii) K (i + 1) (List.set o' i (v : Int)) (EXT l (iv ii) K (i + 1) (ofL (List.set o' i (v : Int))))) (ih (List.set o' i (v : Int)) (by simpa using ho')) fun r hr => ?_
            have hgo : GOES l (iv ii) K i (ofL o) (v : Int) ↔ r.1 = true := by
              rw [hr.1]
              exact ⟨fun g => EXT_congr (fun j hj => (hset j hj).symm) g.2, fun g => ⟨hok, EXT_congr hset g⟩⟩
            have hag' : ∀ j, j < i → ofL r.2.1 j = ofL o j := fun j hj => by
              rw [hr.2.2 j (by omega), hset j (by omega)]; simp [upd, Nat.ne_of_lt hj]
            have hlen : r.2.1.length = l.length := by rw [hr.2.1]; simpa using ho'
            refine .cond (fun h => ?_) fun h => ?_
            · exact .ret ⟨⟨fun _ => ⟨v, Nat.le_refl _, by omega, hgo.2 h⟩, fun _ => rfl⟩, by simp [hlen, ho], hag'⟩
            · refine (ihe (v + 1) (by omega) r.2.1 hlen hag').mono fun z hz => ⟨hz.1.trans ⟨fun ⟨w, h1, h2⟩ => ⟨w, by omega, h2⟩, fun ⟨w, h1, h2⟩ => ⟨w, ?_, h2⟩⟩, hz.2⟩
              by_cases e : w = v
              · subst e
                have := hgo.1 h2.2
                rw [h] at this; cases this
              · omega
          · refine (ihe (v + 1) (by omega) (List.set o' i (v : Int)) (by simpa using ho') (fun j hj => by rw [hset j (by omega)]; simp [upd, Nat.ne_of_lt hj])).mono fun z hz => ⟨hz.1.trans ⟨fun ⟨w, h1, h2⟩ => ⟨w, by omega, h2⟩, fun ⟨w, h1, h2⟩ => ⟨w, ?_, h2⟩⟩, hz.2⟩
            by_cases e : w = v
            · subst e
              exact absurd h2.2.1 hok
            · omega
        · intro j hj y hy
          refine .succ ?_
          have hs : (∀ m, m < j + 1 → (v : Int) = ofL o m → ¬ OVP (rd l (i : Int)) (rd l (m : Int)) (iv ii)) ↔ (∀ m, m < j → (v : Int) = ofL o m → ¬ OVP (rd l (i : Int)) (rd l (m : Int)) (iv ii)) ∧ ((v : Int) = ofL o j → ¬ OVP (rd l (i : Int)) (rd l (j : Int)) (iv ii)) :=
            ⟨fun h => ⟨fun m hm => h m (by omega), h j (by omega)⟩, fun h m hm => by
              by_cases e : m = j
              · subst e; exact h.2
              · exact h.1 m (by omega)⟩
          have hrd : rd o' (j : Int) = ofL o j := hag j hj
          simp (disch := omega) only [color_Least_1_i1.c8, ↓cdT, ↓if_pos, w64_id, Overlap_prog, Option.bind_some, hrd]
          have hy' : ∀ b, decide (∀ m, m < j + 1 → (v : Int) = ofL o m → ¬ OVP (rd l (i : Int)) (rd l (m : Int)) (iv ii)) = b → Ev (fun k => color_Least_1_i1.c8 k (i : Int) (K : Int) (v : Int) b (K : Int) (v : Int) (i : Int) ((j : Int) + 1) o' l ii) y := by
            rintro _ rfl; exact hy
          refine .dec (fun h1 => ?_) fun h1 => ?_
          · refine .dec (fun h2 => ?_) fun h2 => ?_
            · refine hy' _ ?_
              rw [← decide_not, decide_eq_decide, hs]
              exact ⟨fun h => h.2 h2.symm, fun h => ⟨h1, fun _ => h⟩⟩
            · exact hy' true (decide_eq_true (hs.2 ⟨h1, fun e => absurd e.symm h2⟩))
          · exact hy' false (decide_eq_false fun h => h1 (hs.1 h).1)
    refine (loop K 0 (by omega) o ho (fun _ _ => rfl)).mono fun r hr => ⟨hr.1.trans ?_, hr.2⟩
    rw [EXT_step (by omega)]
    constructor
    · rintro ⟨w, _, h1, h2⟩; exact ⟨(w : Int), by omega, by omega, h2⟩
    · rintro ⟨w, h0, h1, h2⟩; exact ⟨w.toNat, by omega, by omega, by rw [Int.toNat_of_nonneg h0]; exact h2⟩

def ISLEAST (l : List Span) (n : Int) (K : Nat) : Prop := CAN l n K ∧ ∀ j : Nat, j < K → ¬ CAN l n j
theorem ISLEAST_unique {l : List Span} {n : Int} {K K' : Nat} (h : ISLEAST l n K) (h' : ISLEAST l n K') : K = K' := by
  rcases Nat.lt_trichotomy K K' with q | q | q
  · exact absurd h.1 (h'.2 K q)
  · exact q
  · exact absurd h'.1 (h.2 K' q)
theorem CAN_len (l : List Span) (n : Int) : CAN l n l.length :=
  ⟨fun j => (j : Int), fun j hj => absurd hj (Nat.not_lt_zero _), fun j _ hj => ⟨by show (0 : Int) ≤ (j : Int); omega, by show (j : Int) < l.length; omega, fun m hm e => by have : (j : Int) = (m : Int) := e; omega⟩⟩
theorem CAN_mono {l : List Span} {n K K' : Int} (h : CAN l n K) (hk : K ≤ K') : CAN l n K' := by
  obtain ⟨c, h1, h2⟩ := h
  exact ⟨c, h1, fun j hj hl => ⟨(h2 j hj hl).1, by have := (h2 j hj hl).2.1; omega, (h2 j hj hl).2.2⟩⟩
theorem least_ex (l : List Span) (n : Int) : ∃ K, K ≤ l.length ∧ ISLEAST l n K := by
  have key : ∀ m : Nat, CAN l n m → ∃ K, K ≤ m ∧ ISLEAST l n K := by
    intro m
    induction m using Nat.strongRecOn with
    | _ m ih =>
      intro hm
      by_cases h : ∃ j : Nat, j < m ∧ CAN l n j
      · obtain ⟨j, hj, hc⟩ := h
        obtain ⟨K, h1, h2⟩ := ih j hj hc
        exact ⟨K, by omega, h2⟩
      · exact ⟨m, Nat.le_refl _, hm, fun j hj hc => h ⟨j, hj, hc⟩⟩
  exact key _ (CAN_len l n)

theorem Least_prog (l : List Span) (ii : Int) (hl : l.length ≤ 8) {K : Nat} (hK : ISLEAST l (iv ii) K) (hKl : K ≤ l.length) : Ev (fun k => color_Least.f k l ii) ((K : Int), 0, ()) := by
  simp only [color_Least.f]
  simp (disch := omega) only [↓cdF, ↓if_pos, Int.toNat_natCast]
  have loop : ∀ (d v : Nat), v + d = K → ∀ o : List Int, o.length = l.length → Ev (fun k => color_Least.c7 k (v : Int) l ii o) ((K : Int), 0, ()) := by
    intro d
    induction d with
    | zero =>
      intro v hv o ho
      obtain ⟨r, h1, h2⟩ := fits_ev l ii v (by omega) (by omega) l.length 0 (by omega) o ho
      refine .succ ?_
      simp only [color_Least.c7]
      refine .bind h1 ?_
      have : r.1 = true := h2.1.2 (EXT_congr (fun j hj => absurd hj (Nat.not_lt_zero _)) (by rw [show v = K by omega]; exact hK.1))
      simp only [this, Bool.not_true, cond_false]
      rw [show v = K by omega]
      exact .ret _
    | succ d ih =>
      intro v hv o ho
      obtain ⟨r, h1, h2⟩ := fits_ev l ii v (by omega) (by omega) l.length 0 (by omega) o ho
      refine .succ ?_
      simp only [color_Least.c7]
      refine .bind h1 ?_
      have : r.1 = false := by
        cases hr : r.1
        · rfl
        · exact absurd (EXT_congr (fun j hj => absurd hj (Nat.not_lt_zero _)) (h2.1.1 hr)) (hK.2 v (by omega))
      simp (disch := omega) only [this, Bool.not_false, cond_true, w64_id]
      exact ih (v + 1) (by omega) r.2.1 (by rw [h2.2.1, ho])
  exact loop K 0 (by omega) _ (by simp)
end Go.Proofs.YtihkfliabchcmaaV
