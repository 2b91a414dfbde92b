/- Chapter 38: color.Color: what it answers. -/
import Derived.Test.YtihkfliabchcmaaPaint
set_option linter.unusedVariables false
set_option linter.unusedSimpArgs false
namespace Go.Proofs.YtihkfliabchcmaaV
open Go Go.Vm

def gtab {α : Type} (n : Nat) (f : Nat → α) : List α := (List.range n).map f
theorem gtab_len {α : Type} (n : Nat) (f : Nat → α) : (gtab n f).length = n := by simp [gtab]
theorem gtab_rd {α : Type} [Inhabited α] {n : Nat} {f : Nat → α} {c : Nat} (h : c < n) : rd (gtab n f) (c : Int) = f c := by
  rw [rd_eq (by rw [gtab_len]; exact h)]
  simp [gtab]
theorem gtab_congr {α : Type} {n : Nat} {f g : Nat → α} (h : ∀ c, c < n → f c = g c) : gtab n f = gtab n g := by
  unfold gtab
  apply List.map_congr_left
  intro c hc
  exact h c (by simpa using hc)
theorem gtab_set {α : Type} {n : Nat} {f : Nat → α} {c : Nat} {v : α} : (gtab n f).set c v = gtab n (fun d => if d = c then v else f d) := by
  apply List.ext_getElem
  · simp [gtab]
  · intro d h1 h2
    simp only [List.getElem_set, gtab, List.getElem_map, List.getElem_range]
    by_cases h : c = d
    · simp [h]
    · simp [h, Ne.symm h]
theorem gtab_const {α : Type} (n : Nat) (v : α) : List.replicate n v = gtab n (fun _ => v) := by
  apply List.ext_getElem <;> simp [gtab]

theorem min_ev (xs : List Int) (h0 : 0 < xs.length) (hl : xs.length ≤ 1000000) : W (fun k => slices_Min_int_int.f k xs) (fun r => (∀ i : Nat, i < xs.length → r ≤ rd xs (i : Int)) ∧ ∃ i : Nat, i < xs.length ∧ r = rd xs (i : Int)) := by
  simp (disch := omega) only [slices_Min_int_int.f, ↓cdF]
  refine .succ ?_
  simp (disch := omega) only [slices_Min_int_int.c3, ↓if_pos]
  have loop : ∀ (d i : Nat) (v : Int), i + d = xs.length → (∀ j : Nat, j < i → v ≤ rd xs (j : Int)) → (∃ j : Nat, j < xs.length ∧ v = rd xs (j : Int)) → W (fun k => slices_Min_int_int.c5 k xs v (i : Int)) (fun r => (∀ i : Nat, i < xs.length → r ≤ rd xs (i : Int)) ∧ ∃ i : Nat, i < xs.length ∧ r = rd xs (i : Int)) := by
    intro d
    induction d with
    | zero =>
      intro i v hi h1 h2
      refine .succ ?_
      simp (disch := omega) only [slices_Min_int_int.c5, ↓cdF]
      exact .ret ⟨fun j hj => h1 j (by omega), h2⟩
    | succ d ih =>
      intro i v hi h1 h2
      refine .succ ?_
      simp (disch := omega) only [slices_Min_int_int.c5, ↓cdT, ↓if_pos, w64_id]
      refine ih (i + 1) _ (by omega) (fun j hj => ?_) ?_
      · by_cases e : j = i
        · subst e; exact mn_le_r _ _
        · have := h1 j (by omega); have := mn_le_l v (rd xs (i : Int)); omega
      · rcases mn_eq v (rd xs (i : Int)) with e | e
        · rw [e]; exact h2
        · rw [e]; exact ⟨i, by omega, rfl⟩
  exact loop (xs.length - 1) 1 _ (by omega) (fun j hj => by rw [show j = 0 by omega]; exact Int.le_refl _) ⟨0, h0, rfl⟩
theorem index_ev (xs : List Int) (v : Int) (hl : xs.length ≤ 1000000) (hv : ∃ i : Nat, i < xs.length ∧ rd xs (i : Int) = v) : W (fun k => slices_Index_int_int.f k xs v) (fun r => ∃ i : Nat, i < xs.length ∧ r = (i : Int) ∧ rd xs (i : Int) = v) := by
  simp only [slices_Index_int_int.f]
  have loop : ∀ (d i : Nat), i + d = xs.length → (∃ j : Nat, i ≤ j ∧ j < xs.length ∧ rd xs (j : Int) = v) → W (fun k => slices_Index_int_int.c2 k xs v (xs.length : Int) (i : Int)) (fun r => ∃ i : Nat, i < xs.length ∧ r = (i : Int) ∧ rd xs (i : Int) = v) := by
    intro d
    induction d with
    | zero => rintro i hi ⟨j, h1, h2, _⟩; omega
    | succ d ih =>
      rintro i hi ⟨j, h1, h2, h3⟩
      refine .succ ?_
      simp (disch := omega) only [slices_Index_int_int.c2, ↓cdT, ↓if_pos, w64_id]
      refine .dec (fun h => .ret ⟨i, by omega, rfl, h.symm⟩) fun h => ?_
      exact ih (i + 1) (by omega) ⟨j, by
        by_cases e : j = i
        · subst e; exact absurd h3.symm h
        · omega, h2, h3⟩
  obtain ⟨j, h1, h2⟩ := hv
  exact loop xs.length 0 (by omega) ⟨j, Nat.zero_le _, h1, h2⟩

/-- where a span starts on the line -/
def lst (n cut : Int) (s : Span) : Int := if n = 0 then fr s else (fr s - cut - 1) % n
def isF (n cut : Int) (s : Span) : Prop := 0 < n ∧ 0 < ln s n ∧ n ≤ lst n cut s + ln s n
def isG (n cut : Int) (s : Span) : Prop := 0 < ln s n ∧ ¬ (0 < n ∧ n ≤ lst n cut s + ln s n)
instance (n cut : Int) (s : Span) : Decidable (isF n cut s) := by unfold isF; infer_instance
instance (n cut : Int) (s : Span) : Decidable (isG n cut s) := by unfold isG; infer_instance
def fc (l : List Span) (n cut : Int) : Nat → Nat
  | 0 => 0
  | m + 1 => fc l n cut m + if isF n cut (rd l (m : Int)) then 1 else 0
theorem fc_le (l : List Span) (n cut : Int) : ∀ m, fc l n cut m ≤ m
  | 0 => Nat.le_refl _
  | m + 1 => by have := fc_le l n cut m; unfold fc; split <;> omega
theorem fc_mono (l : List Span) (n cut : Int) (i : Nat) : ∀ d, fc l n cut i ≤ fc l n cut (i + d)
  | 0 => Nat.le_refl _
  | d + 1 => by have := fc_mono l n cut i d; show _ ≤ fc l n cut (i + d) + _; omega
theorem fc_lt {l : List Span} {n cut : Int} {i j : Nat} (h : i < j) (hi : isF n cut (rd l (i : Int))) : fc l n cut i < fc l n cut j := by
  have := fc_mono l n cut (i + 1) (j - (i + 1))
  rw [show i + 1 + (j - (i + 1)) = j by omega] at this
  have e : fc l n cut (i + 1) = fc l n cut i + 1 := by show _ + _ = _; rw [if_pos hi]
  omega

theorem lst_b {n cut : Int} {s : Span} (hn : 0 ≤ n) : (n = 0 → -1073741824 ≤ lst n cut s ∧ lst n cut s ≤ 1073741824) ∧ (0 < n → 0 ≤ lst n cut s ∧ lst n cut s < n) := by
  unfold lst
  constructor
  · intro h; rw [if_pos h]; exact fr_b s
  · intro h; rw [if_neg (by omega)]
    exact ⟨Int.emod_nonneg _ (by omega), Int.emod_lt_of_pos _ h⟩

/-- a line's place is a cycle's -/
theorem has_line {n cut c : Int} {s : Span} (hn : 0 < n) : HAS s n c ↔ ((c - cut - 1) % n - lst n cut s) % n < ln s n := by
  unfold HAS lst
  rw [if_neg (by omega), if_neg (by omega), Int.emod_sub_emod, Int.sub_emod (c - cut - 1), Int.emod_emod, ← Int.sub_emod, show c - cut - 1 - (fr s - cut - 1) = c - fr s by omega]
theorem has_cut {n cut : Int} {s : Span} (hn : 0 < n) : HAS s n cut ↔ isF n cut s := by
  have hu := (lst_b (n := n) (cut := cut) (s := s) (by omega)).2 hn
  have hln := ln_b s n
  rw [has_line hn]
  unfold isF
  have e : ((cut - cut - 1) % n - lst n cut s) % n = n - 1 - lst n cut s := by
    rw [Int.emod_sub_emod, show cut - cut - 1 - lst n cut s = (n - 1 - lst n cut s) + n * (-1) by omega, Int.add_mul_emod_self_left, Int.emod_eq_of_lt (by omega) (by omega)]
  rw [e]
  omega
theorem has_G {n cut c : Int} {s : Span} (hn : 0 < n) (hg : isG n cut s) : HAS s n c ↔ lst n cut s ≤ (c - cut - 1) % n ∧ (c - cut - 1) % n < lst n cut s + ln s n := by
  have hu := (lst_b (n := n) (cut := cut) (s := s) (by omega)).2 hn
  have hy1 := Int.emod_nonneg (c - cut - 1) (show n ≠ 0 by omega)
  have hy2 := Int.emod_lt_of_pos (c - cut - 1) hn
  have hg2 := hg.2
  rw [has_line (cut := cut) hn]
  generalize (c - cut - 1) % n = y at *
  by_cases h : lst n cut s ≤ y
  · rw [Int.emod_eq_of_lt (by omega) (by omega)]; omega
  · rw [show y - lst n cut s = (y - lst n cut s + n) + n * (-1) by omega, Int.add_mul_emod_self_left, Int.emod_eq_of_lt (by omega) (by omega)]
    omega
theorem fc_cnt (l : List Span) {n cut : Int} (hn : 0 < n) : ∀ m, fc l n cut m = cnt l n cut m
  | 0 => rfl
  | m + 1 => by unfold fc cnt; rw [fc_cnt l hn m]; simp only [has_cut hn]

theorem apart_not {n cut : Int} {a b : Span} (hn : 0 ≤ n) (ga : isG n cut a) (gb : isG n cut b) (h : lst n cut a + ln a n ≤ lst n cut b) : ¬ OVP a b n := by
  rintro ⟨h1, h2, h3⟩
  by_cases h0 : n = 0
  · subst h0
    rw [if_pos rfl] at h3
    unfold lst at h
    rw [if_pos rfl, if_pos rfl] at h
    omega
  · have hn' : 0 < n := by omega
    rw [if_neg h0] at h3
    have ua := (lst_b (n := n) (cut := cut) (s := a) hn).2 hn'
    have ub := (lst_b (n := n) (cut := cut) (s := b) hn).2 hn'
    have ga2 := ga.2
    have gb2 := gb.2
    have e1 : (fr b - fr a) % n = (lst n cut b - lst n cut a) % n := by
      unfold lst
      rw [if_neg h0, if_neg h0, ← Int.sub_emod]; congr 1; omega
    have e2 : (fr a - fr b) % n = (lst n cut a - lst n cut b) % n := by
      unfold lst
      rw [if_neg h0, if_neg h0, ← Int.sub_emod]; congr 1; omega
    rw [e1, e2, Int.emod_eq_of_lt (by omega) (by omega), show lst n cut a - lst n cut b = (lst n cut a - lst n cut b + n) + n * (-1) by omega, Int.add_mul_emod_self_left, Int.emod_eq_of_lt (by omega) (by omega)] at h3
    omega

/-- distinct places with a cycle are counted -/
theorem inj_cnt (l : List Span) (n c : Int) : ∀ (m K : Nat) (g : Nat → Nat), (∀ j, j < K → g j < m ∧ HAS (rd l (g j : Int)) n c) → (∀ i j, i < K → j < K → g i = g j → i = j) → K ≤ cnt l n c m
  | 0, K, g, h, _ => by
    rcases Nat.eq_zero_or_pos K with e | e
    · omega
    · exact absurd (h 0 e).1 (Nat.not_lt_zero _)
  | m + 1, K, g, h, hi => by
    have ihm := inj_cnt l n c m
    unfold cnt
    by_cases hex : ∃ j0, j0 < K ∧ g j0 = m
    · obtain ⟨j0, hj0, e0⟩ := hex
      have hm := (h j0 hj0).2
      rw [e0] at hm
      rw [if_pos hm]
      have := ihm (K - 1) (fun j => if g j = m then g (K - 1) else g j) (fun j hj => by
        have h1 := h j (by omega)
        have h2 := h (K - 1) (by omega)
        show (if g j = m then g (K - 1) else g j) < m ∧ HAS (rd l ((if g j = m then g (K - 1) else g j : Nat) : Int)) n c
        by_cases q : g j = m
        · rw [if_pos q]
          have : g (K - 1) ≠ m := fun c' => by have := hi j (K - 1) (by omega) (by omega) (by omega); omega
          exact ⟨by omega, h2.2⟩
        · rw [if_neg q]; exact ⟨by omega, h1.2⟩) (fun i j hi1 hj1 => by
        show (if g i = m then g (K - 1) else g i) = (if g j = m then g (K - 1) else g j) → i = j
        by_cases c1 : g i = m <;> by_cases c2 : g j = m
        · intro _; exact hi i j (by omega) (by omega) (by omega)
        · rw [if_pos c1, if_neg c2]; intro q; have := hi (K - 1) j (by omega) (by omega) q; omega
        · rw [if_neg c1, if_pos c2]; intro q; have := hi i (K - 1) (by omega) (by omega) q; omega
        · rw [if_neg c1, if_neg c2]; exact hi i j (by omega) (by omega))
      omega
    · have := ihm K g (fun j hj => by
        have := h j hj
        have : g j ≠ m := fun e => hex ⟨j, hj, e⟩
        exact ⟨by omega, (h j hj).2⟩) hi
      omega

def LINE (l : List Span) (n cut : Int) (i : Nat) : List Span := gtab l.length fun j => if j < i ∧ isG n cut (rd l (j : Int)) then (lst n cut (rd l (j : Int)), ln (rd l (j : Int)) n, ()) else (0, 0, ())
def OUT (l : List Span) (n cut : Int) (i : Nat) : List Int := gtab l.length fun j => if j < i ∧ isF n cut (rd l (j : Int)) then (fc l n cut j : Int) else 0
def ORD (l : List Span) (n cut : Int) (i : Nat) : List Int := pick (fun j => decide (isG n cut (rd l (j : Int)))) (fun j => (j : Int)) i

/-- what Color answers -/
def COLORED (l : List Span) (n : Int) (M : Nat) (c : List Int) : Prop := PROPER l n c ∧ ∃ F : Nat, (n = 0 → F = 0) ∧ (0 < n → ∀ x : Nat, (x : Int) < n → F ≤ LOAD l n x) ∧ ∀ i : Nat, i < l.length → (ln (rd l (i : Int)) n = 0 → rd c (i : Int) = 0) ∧ (0 < ln (rd l (i : Int)) n → rd c (i : Int) < F + M)

theorem ORD_mem {l : List Span} {n cut : Int} {i : Nat} {x : Int} : x ∈ ORD l n cut i ↔ ∃ j : Nat, x = (j : Int) ∧ j < i ∧ isG n cut (rd l (j : Int)) := by
  unfold ORD pick
  simp only [List.mem_map, List.mem_filter, List.mem_range, decide_eq_true_eq]
  constructor
  · rintro ⟨j, ⟨h1, h2⟩, rfl⟩; exact ⟨j, rfl, h1, h2⟩
  · rintro ⟨j, rfl, h1, h2⟩; exact ⟨j, ⟨h1, h2⟩, rfl⟩
theorem ORD_nodup (l : List Span) (n cut : Int) (i : Nat) : (ORD l n cut i).Nodup := by
  unfold ORD pick
  refine List.Pairwise.map _ (fun a b h => ?_) (List.Pairwise.filter _ List.nodup_range)
  omega

theorem Color_end (l : List Span) (n : Int) (cut : Nat) (M : Nat) (hl : l.length ≤ 30) (hn : 0 ≤ n ∧ n ≤ 256) (hcut : 0 < n → (cut : Int) < n ∧ ∀ x : Nat, (x : Int) < n → LOAD l n cut ≤ LOAD l n x)
    (hM0 : n = 0 → ∀ i : Nat, i < l.length → 0 < ln (rd l (i : Int)) 0 → LOAD l 0 (fr (rd l (i : Int))) ≤ M) (hMn : 0 < n → ∀ x : Nat, (x : Int) < n → LOAD l n x ≤ M) :
    W (fun k => (color_paint_i2.f k (LINE l n cut l.length) (fc l n cut l.length : Int) (ORD l n cut l.length) (OUT l n cut l.length)).bind fun y => some y.2.2.1) (COLORED l n M) := by
  have hfc := fc_le l n cut l.length
  have hline : ∀ j : Nat, j < l.length → isG n cut (rd l (j : Int)) → rd (LINE l n cut l.length) (j : Int) = (lst n cut (rd l (j : Int)), ln (rd l (j : Int)) n, ()) := fun j hj hg => by
    unfold LINE; rw [gtab_rd hj, if_pos ⟨hj, hg⟩]
  have hbd : BD (LINE l n cut l.length) (ORD l n cut l.length) := fun x hx => by
    obtain ⟨j, rfl, h1, _⟩ := ORD_mem.1 hx
    unfold LINE; rw [gtab_len]
    exact ⟨by omega, by omega⟩
  refine W.bind (paint_ev (LINE l n cut l.length) (fc l n cut l.length : Int) M (ORD l n cut l.length) (OUT l n cut l.length) hbd (by unfold LINE OUT; rw [gtab_len, gtab_len]) (by unfold OUT; rw [gtab_len]; exact hl)
    (by have := pick_len (fun j => decide (isG n cut (rd l (j : Int)))) (fun j => (j : Int)) l.length; unfold ORD; omega) (ORD_nodup _ _ _ _) (by omega) (fun x hx => ?_) (fun x hx K g hg hinj => ?_)) fun r hr => ?_
  · obtain ⟨j, rfl, h1, h2⟩ := ORD_mem.1 hx
    unfold st
    rw [hline j h1 h2]
    simp only [Span.Start, Span.Len]
    have b1 := lst_b (n := n) (cut := cut) (s := rd l (j : Int)) (by omega)
    have b2 := ln_b (rd l (j : Int)) n
    have b3 := h2.1
    by_cases h0 : n = 0
    · have := b1.1 h0; omega
    · have := b1.2 (by omega); omega
  · obtain ⟨j, rfl, h1, h2⟩ := ORD_mem.1 hx
    have hst : st (LINE l n cut l.length) (j : Int) = lst n cut (rd l (j : Int)) := by unfold st; rw [hline j h1 h2]
    rw [hst] at hg
    have hg' : ∀ i, i < K → (g i).toNat < l.length ∧ ((g i).toNat : Int) = g i ∧ isG n cut (rd l ((g i).toNat : Int)) ∧ lst n cut (rd l ((g i).toNat : Int)) ≤ lst n cut (rd l (j : Int)) ∧ lst n cut (rd l (j : Int)) < lst n cut (rd l ((g i).toNat : Int)) + ln (rd l ((g i).toNat : Int)) n := fun i hi => by
      obtain ⟨m1, m2, m3⟩ := hg i hi
      obtain ⟨q, hq, q1, q2⟩ := ORD_mem.1 m1
      have e : (g i).toNat = q := by omega
      rw [hq] at m2 m3
      unfold st at m2
      unfold en at m3
      rw [hline q q1 q2] at m2 m3
      rw [e]
      exact ⟨q1, hq.symm, q2, m2, m3⟩
    have hinj' : ∀ a b, a < K → b < K → (g a).toNat = (g b).toNat → a = b := fun a b ha hb e => hinj a b ha hb (by rw [← (hg' a ha).2.1, ← (hg' b hb).2.1, e])
    by_cases h0 : n = 0
    · subst h0
      refine Nat.le_trans (inj_cnt l 0 (fr (rd l (j : Int))) l.length K (fun i => (g i).toNat) (fun i hi => ⟨(hg' i hi).1, ?_⟩) hinj') (hM0 rfl j h1 h2.1)
      rw [HAS0]
      have := (hg' i hi).2.2.2
      unfold lst at this
      rw [if_pos rfl, if_pos rfl] at this
      exact this
    · have hn' : 0 < n := by omega
      have hu := (lst_b (n := n) (cut := cut) (s := rd l (j : Int)) (by omega)).2 hn'
      obtain ⟨c, hc⟩ : ∃ c : Nat, (lst n cut (rd l (j : Int)) + cut + 1) % n = (c : Int) := ⟨((lst n cut (rd l (j : Int)) + cut + 1) % n).toNat, by have := Int.emod_nonneg (lst n cut (rd l (j : Int)) + cut + 1) (show n ≠ 0 by omega); omega⟩
      have hcn := Int.emod_lt_of_pos (lst n cut (rd l (j : Int)) + cut + 1) hn'
      have hy : ((c : Int) - cut - 1) % n = lst n cut (rd l (j : Int)) := by
        rw [← hc, show (lst n cut (rd l (j : Int)) + cut + 1) % n - (cut : Int) - 1 = (lst n cut (rd l (j : Int)) + cut + 1) % n - ((cut : Int) + 1) by omega, Int.emod_sub_emod, show lst n cut (rd l (j : Int)) + cut + 1 - ((cut : Int) + 1) = lst n cut (rd l (j : Int)) by omega, Int.emod_eq_of_lt hu.1 hu.2]
      refine Nat.le_trans (inj_cnt l n c l.length K (fun i => (g i).toNat) (fun i hi => ⟨(hg' i hi).1, ?_⟩) hinj') (hMn hn' c (by omega))
      have := hg' i hi
      rw [has_G hn' this.2.2.1, hy]
      exact this.2.2.2
  · -- the answer
    refine .ret ?_
    obtain ⟨plen, pold, prng, papart⟩ := hr
    generalize r.2.2.1 = c at *
    have hF : ∀ i : Nat, i < l.length → isF n cut (rd l (i : Int)) → rd c (i : Int) = fc l n cut i := fun i hi hf => by
      rw [pold i (fun hx => by
        obtain ⟨j, e, h1, h2⟩ := ORD_mem.1 hx
        have : i = j := by omega
        subst this
        exact h2.2 ⟨hf.1, hf.2.2⟩)]
      unfold OUT; rw [gtab_rd hi, if_pos ⟨hi, hf⟩]
    have hE : ∀ i : Nat, i < l.length → ln (rd l (i : Int)) n = 0 → rd c (i : Int) = 0 := fun i hi he => by
      rw [pold i (fun hx => by
        obtain ⟨j, e, h1, h2⟩ := ORD_mem.1 hx
        have : i = j := by omega
        subst this
        have := h2.1
        omega)]
      unfold OUT; rw [gtab_rd hi, if_neg (fun q => by have := q.2.2.1; omega)]
    have hG : ∀ i : Nat, i < l.length → isG n cut (rd l (i : Int)) → (fc l n cut l.length : Int) ≤ rd c (i : Int) ∧ rd c (i : Int) < fc l n cut l.length + M := fun i hi hg => prng _ (ORD_mem.2 ⟨i, rfl, hi, hg⟩)
    have hcase : ∀ i : Nat, ln (rd l (i : Int)) n = 0 ∨ isF n cut (rd l (i : Int)) ∨ isG n cut (rd l (i : Int)) := fun i => by
      have := ln_b (rd l (i : Int)) n
      unfold isF isG
      omega
    refine ⟨⟨by rw [plen]; unfold OUT; rw [gtab_len], fun i hi => ⟨?_, fun k hk he => ?_⟩⟩, fc l n cut l.length, fun h0 => ?_, fun hn' x hx => ?_, fun i hi => ⟨hE i hi, fun hp => ?_⟩⟩
    · rcases hcase i with h | h | h
      · rw [hE i hi h]; exact Int.le_refl _
      · rw [hF i hi h]; omega
      · have := hG i hi h; omega
    · have hkl : k < l.length := by omega
      rcases hcase i with h | h | h
      · exact fun q => by have := q.1; omega
      · rcases hcase k with h' | h' | h'
        · exact fun q => by have := q.2.1; omega
        · rw [hF i hi h, hF k hkl h'] at he
          have := fc_lt hk h'
          omega
        · rw [hF i hi h] at he
          have := hG k hkl h'
          have := fc_lt hi h
          omega
      · rcases hcase k with h' | h' | h'
        · exact fun q => by have := q.2.1; omega
        · rw [hF k hkl h'] at he
          have := hG i hi h
          have := fc_lt hkl h'
          omega
        · have := papart _ (ORD_mem.2 ⟨i, rfl, hi, h⟩) _ (ORD_mem.2 ⟨k, rfl, hkl, h'⟩) (by omega) he
          unfold en st at this
          rw [hline i hi h, hline k hkl h'] at this
          rcases this with this | this
          · exact apart_not (by omega) h h' this
          · intro q; exact apart_not (by omega) h' h this ((OVP_comm _ _ _).1 q)
    · have : ∀ m, fc l n cut m = 0 := by
        intro m
        induction m with
        | zero => rfl
        | succ m ih => show fc l n cut m + _ = 0; rw [ih, if_neg (fun q => by have := q.1; omega)]
      exact this _
    · rw [fc_cnt l hn']
      exact (hcut hn').2 x hx
    · rcases hcase i with h | h | h
      · omega
      · rw [hF i hi h]
        have := fc_lt hi h
        omega
      · exact (hG i hi h).2

theorem Color_ev (l : List Span) (ii : Int) (M : Nat) (hl : l.length ≤ 30)
    (hM0 : iv ii = 0 → ∀ i : Nat, i < l.length → 0 < ln (rd l (i : Int)) 0 → LOAD l 0 (fr (rd l (i : Int))) ≤ M) (hMn : 0 < iv ii → ∀ x : Nat, (x : Int) < iv ii → LOAD l (iv ii) x ≤ M) :
    W (fun k => color_Color.f k l ii) (COLORED l (iv ii) M) := by
  have n1 := iv_b ii
  simp (disch := omega) only [color_Color.f, interval_eq, Option.bind_some, ↓if_pos, Int.toNat_natCast]
  have main : ∀ cut : Nat, (0 < iv ii → (cut : Int) < iv ii ∧ ∀ x : Nat, (x : Int) < iv ii → LOAD l (iv ii) cut ≤ LOAD l (iv ii) x) → (iv ii = 0 → cut = 0) →
      W (fun k => color_Color.c9 k l (iv ii) 0 (cut : Int) (List.replicate l.length (0 : Int)) (List.replicate l.length ((0, 0, ()) : Span)) []) (COLORED l (iv ii) M) := by
    intro cut hcut hcut0
    have hcb : cut ≤ 256 := by
      by_cases h : iv ii = 0
      · have := hcut0 h; omega
      · have := hcut (by omega); omega
    refine .succ ?_
    simp only [color_Color.c9]
    generalize iv ii = n at *
    have start1 : List.replicate l.length (0 : Int) = OUT l n cut 0 := by
      unfold OUT; rw [gtab_const]; exact gtab_congr fun c hc => by rw [if_neg (by omega)]
    have start2 : List.replicate l.length ((0, 0, ()) : Span) = LINE l n cut 0 := by
      unfold LINE; rw [gtab_const]; exact gtab_congr fun c hc => by rw [if_neg (by omega)]
    rw [start1, start2, show ([] : List Int) = ORD l n cut 0 from rfl]
    refine W.up (c := fun k i => color_Color.c10 k n (fc l n cut i : Int) (cut : Int) l (l.length : Int) (i : Int) (OUT l n cut i) (LINE l n cut i) (ORD l n cut i)) (n := l.length) ?_ ?_
    · refine .succ ?_
      simp (disch := omega) only [color_Color.c10, ↓cdF]
      exact Color_end l n cut M hl n1 hcut hM0 hMn
    · intro i hi y hnext
      have f1 := fr_b (rd l (i : Int))
      have f2 := ln_b (rd l (i : Int)) n
      have hfc := fc_le l n cut i
      have hordl : (ORD l n cut i).length ≤ i := pick_len _ _ _
      have outE : ¬ isF n cut (rd l (i : Int)) → OUT l n cut (i + 1) = OUT l n cut i := fun h => by
        unfold OUT; exact gtab_congr fun c hc => by
          by_cases e : c = i
          · subst e; rw [if_neg (fun q => h q.2), if_neg (fun q => h q.2)]
          · by_cases q : c < i
            · simp [q, show c < i + 1 by omega]
            · simp [q, show ¬ c < i + 1 by omega]
      have lineE : ¬ isG n cut (rd l (i : Int)) → LINE l n cut (i + 1) = LINE l n cut i := fun h => by
        unfold LINE; exact gtab_congr fun c hc => by
          by_cases e : c = i
          · subst e; rw [if_neg (fun q => h q.2), if_neg (fun q => h q.2)]
          · by_cases q : c < i
            · simp [q, show c < i + 1 by omega]
            · simp [q, show ¬ c < i + 1 by omega]
      have ordE : ¬ isG n cut (rd l (i : Int)) → ORD l n cut (i + 1) = ORD l n cut i := fun h => by
        unfold ORD; rw [pick_succ]; simp [h]
      have fcE : ¬ isF n cut (rd l (i : Int)) → fc l n cut (i + 1) = fc l n cut i := fun h => by
        show fc l n cut i + _ = fc l n cut i; rw [if_neg h, Nat.add_zero]
      have toG : isG n cut (rd l (i : Int)) → Ev (fun k => color_Color.c19 k n (fc l n cut i : Int) (cut : Int) (i : Int) l (l.length : Int) (i : Int) (OUT l n cut i) (LINE l n cut i) (ORD l n cut i) (lst n cut (rd l (i : Int))) (ln (rd l (i : Int)) n)) y := fun hg => by
        have hnf : ¬ isF n cut (rd l (i : Int)) := fun q => hg.2 ⟨q.1, q.2.2⟩
        refine .succ ?_
        simp (disch := first | omega | (simp only [LINE, gtab_len, List.length_singleton]; omega)) only [color_Color.c19, ↓if_pos, ↓bleT, w64_id, Int.toNat_natCast]
        have e1 : (LINE l n cut i).set i (lst n cut (rd l (i : Int)), ln (rd l (i : Int)) n, ()) = LINE l n cut (i + 1) := by
          unfold LINE; rw [gtab_set]; exact gtab_congr fun c hc => by
            by_cases e : c = i
            · subst e; rw [if_pos rfl, if_pos ⟨by omega, hg⟩]
            · rw [if_neg e]
              by_cases q : c < i
              · simp [q, show c < i + 1 by omega]
              · simp [q, show ¬ c < i + 1 by omega]
        have e2 : ORD l n cut i ++ [(i : Int)] = ORD l n cut (i + 1) := by
          unfold ORD; rw [pick_succ]; simp [hg]
        rw [e1, e2, ← outE hnf, ← fcE hnf]
        exact hnext
      refine .succ ?_
      simp (disch := omega) only [color_Color.c10, ↓cdT, ↓if_pos, limited_eq, Option.bind_some, Span.Start, Span.Len, w64_id]
      refine .dec (fun h => ?_) fun h => ?_
      · have hnf : ¬ isF n cut (rd l (i : Int)) := fun q => by have := q.2.1; omega
        have hng : ¬ isG n cut (rd l (i : Int)) := fun q => by have := q.1; omega
        rw [← outE hnf, ← lineE hng, ← ordE hng, ← fcE hnf]
        exact hnext
      refine .dec (fun hn => ?_) fun hn => ?_
      · simp (disch := omega) only [modulo_eq, Option.bind_some]
        have hlst : (fr (rd l (i : Int)) - cut - 1) % n = lst n cut (rd l (i : Int)) := by unfold lst; rw [if_neg (by omega)]
        have hu := (lst_b (n := n) (cut := cut) (s := rd l (i : Int)) (by omega)).2 hn
        rw [hlst]
        simp (disch := omega) only [w64_id]
        refine .dec (fun hf => ?_) fun hf => ?_
        · have hF : isF n cut (rd l (i : Int)) := ⟨hn, by omega, hf⟩
          have hng : ¬ isG n cut (rd l (i : Int)) := fun q => q.2 ⟨hn, hf⟩
          simp (disch := first | omega | (simp only [OUT, gtab_len]; omega)) only [↓if_pos, Int.toNat_natCast]
          have e1 : (OUT l n cut i).set i (fc l n cut i : Int) = OUT l n cut (i + 1) := by
            unfold OUT; rw [gtab_set]; exact gtab_congr fun c hc => by
              by_cases e : c = i
              · subst e; rw [if_pos rfl, if_pos ⟨by omega, hF⟩]
              · rw [if_neg e]
                by_cases q : c < i
                · simp [q, show c < i + 1 by omega]
                · simp [q, show ¬ c < i + 1 by omega]
          have e2 : (fc l n cut i : Int) + 1 = (fc l n cut (i + 1) : Int) := by
            have : fc l n cut (i + 1) = fc l n cut i + 1 := by show _ + _ = _; rw [if_pos hF]
            omega
          rw [e1, e2, ← lineE hng, ← ordE hng]
          exact hnext
        · exact toG ⟨by omega, fun q => hf q.2⟩
      · have h0 : n = 0 := by omega
        have hlst : fr (rd l (i : Int)) = lst n cut (rd l (i : Int)) := by unfold lst; rw [if_pos h0]
        rw [hlst]
        exact toG ⟨by omega, fun q => hn q.1⟩
  by_cases h : 0 < iv ii
  · simp (disch := omega) only [↓cdT]
    have hi2 : iv (iv ii) = iv ii := iv_iv ii
    have hload := Load_n l (iv ii) (by omega) (by rw [hi2]; exact h)
    rw [hi2] at hload
    obtain ⟨n, hn⟩ : ∃ n : Nat, iv ii = (n : Int) := ⟨(iv ii).toNat, by omega⟩
    refine W.bindEv hload ?_
    have hlen : (ltab (iv ii).toNat fun c => (LOAD l (iv ii) c : Int)).length = n := by rw [tab_len]; omega
    refine W.bind (min_ev _ (by omega) (by omega)) fun m hm => ?_
    obtain ⟨m1, j, m2, m3⟩ := hm
    refine W.bind (index_ev _ m (by omega) ⟨j, m2, m3.symm⟩) fun r hr => ?_
    obtain ⟨i, i1, rfl, i3⟩ := hr
    refine main i (fun _ => ⟨by omega, fun x hx => ?_⟩) (fun h0 => by omega)
    have := m1 x (by omega)
    rw [← i3, tab_rd (by omega), tab_rd (by omega)] at this
    omega
  · simp (disch := omega) only [↓cdF]
    exact main 0 (fun q => absurd q h) (fun _ => rfl)
end Go.Proofs.YtihkfliabchcmaaV
