/- Positive, of the program and of the reference, told by paths. -/
import Derived.Test.YtehpelomfhaleaaDs
set_option linter.unusedVariables false
set_option linter.unusedSimpArgs false
namespace Go.Proofs.YtehpelomfhaleaaV.Diff
open Go Go.Vm

/-! ### maps -/
theorem mpGet_put {α : Type} (k x : Int) (v : α) : ∀ l : List (Int × α), mpGet (mpPut l k v) x = if x = k then some v else mpGet l x
  | [] => by
    show cond (decide (k = x)) (some v) none = _
    by_cases h : x = k
    · subst h; simp [mpGet]
    · simp [h, Ne.symm h, mpGet]
  | (a, y) :: l => by
    have ih := mpGet_put k x v l
    show mpGet (cond (decide (a = k)) ((a, v) :: l) ((a, y) :: mpPut l k v)) x = if x = k then some v else cond (decide (a = x)) (some y) (mpGet l x)
    by_cases ha : a = k
    · subst ha
      rw [decide_eq_true rfl, cond_true]
      show cond (decide (a = x)) (some v) (mpGet l x) = _
      by_cases hx : x = a
      · subst hx; simp
      · rw [decide_eq_false (Ne.symm hx)]; simp [hx]
    · rw [decide_eq_false ha, cond_false]
      show cond (decide (a = x)) (some y) (mpGet (mpPut l k v) x) = _
      rw [ih]
      by_cases hx : a = x
      · subst hx; simp [ha]
      · simp [hx]

/-- Arc number i of a list of indices. -/
def ca (arcs : List Arc) (c : List Int) (i : Int) : Arc := rd arcs (rd c i)
/-- The list is a cycle (or empty). -/
def CycOk (n : Int) (arcs : List Arc) (c : List Int) : Prop :=
  (∀ i : Int, 0 ≤ i → i < c.length → 0 ≤ rd c i ∧ rd c i < arcs.length ∧ Inn n (ca arcs c i)) ∧
  (∀ i : Int, 0 ≤ i → i < c.length → (Arc.To (ca arcs c i)) = (Arc.From (ca arcs c ((i + 1) % c.length)))) ∧
  (∀ i j : Int, 0 ≤ i → i < j → j < c.length → (Arc.From (ca arcs c i)) ≠ (Arc.From (ca arcs c j)))
theorem rd_cons_zero (x : Int) (c : List Int) : rd (x :: c) 0 = x := rfl
theorem rd_cons_succ (x : Int) (c : List Int) {i : Int} (h : 1 ≤ i) : rd (x :: c) i = rd c (i - 1) := by
  unfold rd
  have e : i.toNat = (i - 1).toNat + 1 := by omega
  rw [e]; simp [List.getD]
section
variable {n : Int} {arcs : List Arc} {ii : Int}
theorem path_of : ∀ (c : List Int), c ≠ [] → (∀ i : Int, 0 ≤ i → i < c.length → 0 ≤ rd c i ∧ rd c i < arcs.length ∧ Inn n (ca arcs c i)) → (∀ i : Int, 0 ≤ i → i + 1 < c.length → (Arc.To (ca arcs c i)) = (Arc.From (ca arcs c (i + 1)))) →
    Path n arcs c (Arc.From (ca arcs c 0)) (Arc.To (ca arcs c (c.length - 1)))
  | [], h, _, _ => absurd rfl h
  | [x], _, h1, _ => by
    obtain ⟨a1, a2, a3⟩ := h1 0 (by omega) (by simp)
    exact ⟨a1, a2, a3, rfl, rfl⟩
  | x :: y :: c, _, h1, h2 => by
    obtain ⟨a1, a2, a3⟩ := h1 0 (by omega) (by simp; omega)
    have e := h2 0 (by omega) (by simp; omega)
    have hs : ∀ i : Int, 1 ≤ i → ca arcs (x :: y :: c) i = ca arcs (y :: c) (i - 1) := fun i hi => by unfold ca; rw [rd_cons_succ x _ hi]
    have hr := path_of (y :: c) (by simp) (fun i i0 i1 => by
      have := h1 (i + 1) (by omega) (by simp at i1 ⊢; omega)
      rw [rd_cons_succ x _ (by omega), hs (i + 1) (by omega), show i + 1 - 1 = i by omega] at this
      exact this) (fun i i0 i1 => by
      have := h2 (i + 1) (by omega) (by simp at i1 ⊢; omega)
      rw [hs (i + 1) (by omega), hs (i + 1 + 1) (by omega), show i + 1 - 1 = i by omega, show i + 1 + 1 - 1 = i + 1 by omega] at this
      exact this)
    refine ⟨a1, a2, a3, rfl, ?_⟩
    rw [hs (0 + 1) (by omega)] at e
    rw [hs _ (by simp; omega)]
    have el : ((x :: y :: c).length : Int) - 1 - 1 = ((y :: c).length : Int) - 1 := by simp
    rw [el]
    have e' : (Arc.To (rd arcs x)) = (Arc.From (ca arcs (y :: c) 0)) := e
    rw [e']
    exact hr
theorem path_idx : ∀ {c : List Int} {u v : Int}, Path n arcs c u v → (∀ i : Int, 0 ≤ i → i < c.length → 0 ≤ rd c i ∧ rd c i < arcs.length ∧ Inn n (ca arcs c i)) ∧ (∀ i : Int, 0 ≤ i → i + 1 < c.length → (Arc.To (ca arcs c i)) = (Arc.From (ca arcs c (i + 1)))) ∧
    (c ≠ [] → (Arc.From (ca arcs c 0)) = u ∧ (Arc.To (ca arcs c (c.length - 1))) = v)
  | [], u, v, h => ⟨fun i h0 h1 => by simp at h1; omega, fun i h0 h1 => by simp at h1; omega, fun h => absurd rfl h⟩
  | x :: c, u, v, ⟨a1, a2, a3, a4, a5⟩ => by
    obtain ⟨b1, b2, b3⟩ := path_idx a5
    have hs : ∀ i : Int, 1 ≤ i → ca arcs (x :: c) i = ca arcs c (i - 1) := fun i hi => by unfold ca; rw [rd_cons_succ x _ hi]
    refine ⟨fun i i0 i1 => ?_, fun i i0 i1 => ?_, fun _ => ⟨a4, ?_⟩⟩
    · by_cases e : i = 0
      · subst e; exact ⟨a1, a2, a3⟩
      · have := b1 (i - 1) (by omega) (by simp at i1; omega)
        rw [rd_cons_succ x _ (by omega), hs i (by omega)]
        exact this
    · rw [hs (i + 1) (by omega), show i + 1 - 1 = i by omega]
      by_cases e : i = 0
      · subst e
        have hne : c ≠ [] := fun e => by subst e; simp at i1
        exact (b3 hne).1.symm
      · rw [hs i (by omega)]
        have := b2 (i - 1) (by omega) (by simp at i1; omega)
        rw [show i - 1 + 1 = i by omega] at this
        exact this
    · by_cases hne : c = []
      · subst hne; exact a5
      · have hp := List.length_pos_iff.2 hne
        rw [hs _ (by simp; omega), show ((x :: c).length : Int) - 1 - 1 = (c.length : Int) - 1 by simp]
        exact (b3 hne).2
theorem mod_next {i L : Int} (h0 : 0 ≤ i) (h1 : i + 1 < L) : (i + 1) % L = i + 1 := Int.emod_eq_of_lt (by omega) h1
theorem nodup_iff {c : List Int} {f : Int → Int} : (c.map f).Nodup ↔ ∀ i j : Int, 0 ≤ i → i < j → j < c.length → f (rd c i) ≠ f (rd c j) := by
  rw [List.Nodup, List.pairwise_map, List.pairwise_iff_getElem]
  constructor
  · intro h i j i0 ij j1
    have := h i.toNat j.toNat (by omega) (by omega) (by omega)
    rw [rd_eq (j := i.toNat) (by omega) (by omega), rd_eq (j := j.toNat) (by omega) (by omega)]
    exact this
  · intro h i j hi hj hij
    have := h i j (by omega) (by omega) (by omega)
    rw [rd_eq (j := i) rfl hi, rd_eq (j := j) rfl hj] at this
    exact this
theorem cyc_iff {c : List Int} : Cyc n arcs ii c ↔ c ≠ [] ∧ CycOk n arcs c ∧ 0 < sumw arcs ii c := by
  constructor
  · rintro ⟨h1, ⟨u, hu⟩, h3, h4⟩
    obtain ⟨b1, b2, b3⟩ := path_idx hu
    have hp := List.length_pos_iff.2 h1
    refine ⟨h1, ⟨b1, fun i i0 i1 => ?_, fun i j i0 ij j1 => nodup_iff.1 h3 i j i0 ij j1⟩, h4⟩
    by_cases e : i + 1 < c.length
    · rw [mod_next i0 e]; exact b2 i i0 e
    · have ei : i + 1 = c.length := by omega
      rw [ei, Int.emod_self, (b3 h1).1, show i = (c.length : Int) - 1 by omega, (b3 h1).2]
  · rintro ⟨h1, ⟨a1, a2, a3⟩, h4⟩
    have hp := List.length_pos_iff.2 h1
    have hpath := path_of c h1 a1 (fun i i0 i1 => by have := a2 i i0 (by omega); rw [mod_next i0 i1] at this; exact this)
    have e := a2 (c.length - 1) (by omega) (by omega)
    rw [show (c.length : Int) - 1 + 1 = c.length by omega, Int.emod_self] at e
    rw [e] at hpath
    exact ⟨h1, ⟨_, hpath⟩, nodup_iff.2 a3, h4⟩

/-- What Positive answers. -/
def Pos (n : Int) (arcs : List Arc) (ii : Int) (c : List Int) (r : Int × Bool × Unit) : Prop := (CycOk n arcs c ∧ r = (sumw arcs ii c, decide (0 < sumw arcs ii c), ())) ∨ (¬ CycOk n arcs c ∧ r = (0, false, ()))
theorem Pos.iff {c : List Int} {r : Int × Bool × Unit} (h : Pos n arcs ii c r) : r.2.1 = true ↔ Cyc n arcs ii c := by
  rcases h with ⟨a, b⟩ | ⟨a, b⟩
  · rw [b]
    constructor
    · intro ht
      have h3 : 0 < sumw arcs ii c := of_decide_eq_true ht
      refine cyc_iff.2 ⟨fun e => ?_, a, h3⟩
      subst e; simp [sumw] at h3
    · intro hc
      exact decide_eq_true (cyc_iff.1 hc).2.2
  · rw [b]
    constructor
    · intro ht; simp at ht
    · intro hc; exact absurd (cyc_iff.1 hc).2.1 a
theorem sumw_le : ∀ (c : List Int), -(269484032 * (c.length : Int)) ≤ sumw arcs ii c ∧ sumw arcs ii c ≤ 269484032 * c.length
  | [] => by simp [sumw]
  | x :: c => by
    have h := sumw_le c
    have hw := wt_le (rd arcs x) ii
    simp only [sumw, List.length_cons]
    omega
theorem take_succ_sum {c : List Int} {k : Nat} (h : k < c.length) : sumw arcs ii (c.take (k + 1)) = sumw arcs ii (c.take k) + wt (ca arcs c k) ii := by
  rw [List.take_succ_eq_append_getElem h, sumw_append]
  simp only [sumw]
  unfold ca
  rw [rd_eq (j := k) rfl h]; omega


/-! ### The program's Positive -/
theorem positive_c6 (c : List Int) (hlen : c.length ≤ 1000000) : ∀ (d k : Nat) (seen : List (Int × Bool)), k + d = c.length → (∀ x, (mpGet seen x).getD false = true ↔ ∃ i : Int, 0 ≤ i ∧ i < k ∧ (Arc.From (ca arcs c i)) = x) →
    (∀ i : Int, 0 ≤ i → i < k → 0 ≤ rd c i ∧ rd c i < arcs.length ∧ Inn n (ca arcs c i)) → (∀ i : Int, 0 ≤ i → i < k → (Arc.To (ca arcs c i)) = (Arc.From (ca arcs c ((i + 1) % c.length)))) → (∀ i j : Int, 0 ≤ i → i < j → j < k → (Arc.From (ca arcs c i)) ≠ (Arc.From (ca arcs c j))) →
    W (fun q => diffcons_Positive.c6 q n arcs ii c (sumw arcs ii (c.take k)) c (c.length : Int) (k : Int) seen) (Pos n arcs ii c) := by
  intro d
  induction d with
  | zero =>
    intro k seen hkd hs h1 h2 h3
    have ek : k = c.length := by omega
    refine .succ ?_
    simp (disch := omega) only [diffcons_Positive.c6, ↓cdF]
    refine .ret (Or.inl ⟨⟨fun i i0 i1 => h1 i i0 (by omega), fun i i0 i1 => h2 i i0 (by omega), fun i j i0 ij j1 => h3 i j i0 ij (by omega)⟩, ?_⟩)
    rw [ek, List.take_length]
  | succ d ih =>
    intro k seen hkd hs h1 h2 h3
    have hk : k < c.length := by omega
    obtain ⟨m, hm⟩ : ∃ m : Int, m = ((k : Int) + 1) % c.length := ⟨_, rfl⟩
    have hm0 : 0 ≤ m := by rw [hm]; exact Int.emod_nonneg _ (by omega)
    have hm1 : m < c.length := by rw [hm]; exact Int.emod_lt_of_pos _ (by omega)
    have et : Int.tmod ((k : Int) + 1) (c.length : Int) = m := by rw [hm, Int.tmod_eq_emod_of_nonneg (by omega)]
    have no : ¬ CycOk n arcs c → W (fun _ => some ((0 : Int), false, ())) (Pos n arcs ii c) := fun h => .ret (Or.inr ⟨h, rfl⟩)
    refine .succ ?_
    simp (disch := omega) only [diffcons_Positive.c6, ↓cdT, ↓if_pos, w64_id, et]
    refine .dec (fun c1 => no (fun h => by have := h.1 k (by omega) (by omega); omega)) fun c1 => ?_
    refine .dec (fun c2 => no (fun h => by have := h.1 k (by omega) (by omega); omega)) fun c2 => ?_
    refine .dec (fun c3 => no (fun h => by have := h.1 m hm0 hm1; omega)) fun c3 => ?_
    refine .dec (fun c4 => no (fun h => by have := h.1 m hm0 hm1; omega)) fun c4 => ?_
    simp (disch := omega) only [↓if_pos, within_f, Option.bind_some]
    by_cases c5 : Inn n (rd arcs (rd c k))
    · simp only [↓cnF c5]
      by_cases c6 : (Arc.To (rd arcs (rd c k))) = (Arc.From (rd arcs (rd c m)))
      · simp only [↓cnF c6]
        refine W.cond (fun c7 => ?_) fun c7 => ?_
        · obtain ⟨i, i0, i1, e⟩ := (hs _).1 c7
          exact no (fun h => h.2.2 i k i0 i1 (by omega) e)
        · simp only [weight_f, Option.bind_some]
          have hsl := sumw_le (arcs := arcs) (ii := ii) (c.take k)
          have hw := wt_le (rd arcs (rd c k)) ii
          have htl : ((c.take k).length : Int) ≤ 1000000 := by simp; omega
          have e : sumw arcs ii (c.take k) + wt (rd arcs (rd c k)) ii = sumw arcs ii (c.take (k + 1)) := (take_succ_sum hk).symm
          simp (disch := omega) only [w64_id, e]
          refine ih (k + 1) _ (by omega) (fun x => ?_) (fun i i0 i1 => ?_) (fun i i0 i1 => ?_) (fun i j i0 ij j1 => ?_)
          · rw [mpGet_put]
            by_cases hx : x = Arc.From (rd arcs (rd c (k : Int)))
            · rw [if_pos hx]
              exact ⟨fun _ => ⟨k, by omega, by omega, hx.symm⟩, fun _ => rfl⟩
            · rw [if_neg hx, hs]
              constructor
              · rintro ⟨i, i0, i1, e⟩
                exact ⟨i, i0, by omega, e⟩
              · rintro ⟨i, i0, i1, e⟩
                by_cases ei : i = k
                · subst ei; exact absurd e.symm hx
                · exact ⟨i, i0, by omega, e⟩
          · by_cases ei : i = k
            · subst ei; exact ⟨by omega, by omega, c5⟩
            · exact h1 i i0 (by omega)
          · by_cases ei : i = k
            · subst ei; rw [← hm]; exact c6
            · exact h2 i i0 (by omega)
          · by_cases ej : j = k
            · subst ej
              intro e
              have := (hs (Arc.From (rd arcs (rd c (k : Int))))).2 ⟨i, i0, ij, e⟩
              rw [c7] at this
              cases this
            · exact h3 i j i0 ij (by omega)
      · simp only [↓cnT c6]
        exact no (fun h => c6 (by have := h.2.1 k (by omega) (by omega); rw [← hm] at this; exact this))
    · simp only [↓cnT c5]
      exact no (fun h => c5 (h.1 k (by omega) (by omega)).2.2)
end
theorem positive_f {n0 : Int} {arcs : List Arc} {ii : Int} {c : List Int} (hlen : c.length ≤ 1000000) : W (fun q => diffcons_Positive.f q n0 arcs ii c) (Pos (nod n0) arcs ii c) := by
  simp only [diffcons_Positive.f, nodes_f, Option.bind_some]
  refine .dec (fun h0 => ?_) fun h0 => ?_
  · have e : c = [] := List.length_eq_zero_iff.1 (by omega)
    subst e
    exact .ret (Or.inl ⟨⟨fun i i0 i1 => by simp at i1; omega, fun i i0 i1 => by simp at i1; omega, fun i j i0 ij j1 => by simp at j1; omega⟩, rfl⟩)
  · exact positive_c6 (n := nod n0) (arcs := arcs) (ii := ii) c hlen c.length 0 [] (by omega) (fun x => by simp [mpGet]; omega) (fun i i0 i1 => by omega) (fun i i0 i1 => by omega) (fun i j i0 ij j1 => by omega)

/-! ### The reference's Positive -/
section
variable {n0 : Int} {arcs : List Arc} {ii : Int} {c : List Int}
theorem pos_l2 (hlen : c.length ≤ 1000000) (s : Int) (h1 : ∀ i : Int, 0 ≤ i → i < c.length → 0 ≤ rd c i ∧ rd c i < arcs.length ∧ Inn (nod n0) (ca arcs c i)) {k : Int} (k0 : 0 ≤ k) (k1 : k < c.length)
    (hk : (∀ i : Int, 0 ≤ i → i < k → (Arc.From (ca arcs c i)) ≠ (Arc.From (ca arcs c k))) → W (fun q => jacquardref30_Positive.c10 q arcs c s c.length (k + 1)) (Pos (nod n0) arcs ii c)) :
    ∀ (d : Nat) (i : Int), 0 ≤ i → i + d = k → (∀ j : Int, 0 ≤ j → j < i → (Arc.From (ca arcs c j)) ≠ (Arc.From (ca arcs c k))) → W (fun q => jacquardref30_Positive.c16 q arcs c s k c.length k k i) (Pos (nod n0) arcs ii c) := by
  intro d
  induction d with
  | zero =>
    intro i i0 hid hx
    obtain rfl : i = k := by omega
    refine .succ ?_
    simp (disch := omega) only [jacquardref30_Positive.c16, ↓cdF, w64_id]
    exact hk hx
  | succ d ih =>
    intro i i0 hid hx
    have a1 := h1 i i0 (by omega)
    have a2 := h1 k k0 k1
    refine .succ ?_
    simp (disch := omega) only [jacquardref30_Positive.c16, ↓cdT, ↓if_pos, w64_id]
    refine .dec (fun e => .ret (Or.inr ⟨fun h => h.2.2 i k i0 (by omega) k1 e, rfl⟩)) fun e => ?_
    exact ih (i + 1) (by omega) (by omega) (fun j j0 j1 => by
        by_cases ej : j = i
        · subst ej; exact e
        · exact hx j j0 (by omega))
theorem pos_l1 (hlen : c.length ≤ 1000000) (h1 : ∀ i : Int, 0 ≤ i → i < c.length → 0 ≤ rd c i ∧ rd c i < arcs.length ∧ Inn (nod n0) (ca arcs c i)) :
    ∀ (d : Nat) (k : Int), 0 ≤ k → k + d = c.length → (∀ i : Int, 0 ≤ i → i < k → (Arc.To (ca arcs c i)) = (Arc.From (ca arcs c ((i + 1) % c.length)))) → (∀ i j : Int, 0 ≤ i → i < j → j < k → (Arc.From (ca arcs c i)) ≠ (Arc.From (ca arcs c j))) →
      W (fun q => jacquardref30_Positive.c10 q arcs c (sumw arcs ii c) c.length k) (Pos (nod n0) arcs ii c) := by
  intro d
  induction d with
  | zero =>
    intro k k0 hkd h2 h3
    refine .succ ?_
    simp (disch := omega) only [jacquardref30_Positive.c10, ↓cdF]
    exact .ret (Or.inl ⟨⟨h1, fun i i0 i1 => h2 i i0 (by omega), fun i j i0 ij j1 => h3 i j i0 ij (by omega)⟩, rfl⟩)
  | succ d ih =>
    intro k k0 hkd h2 h3
    obtain ⟨m, hm⟩ : ∃ m : Int, m = (k + 1) % (c.length : Int) := ⟨_, rfl⟩
    have hm0 : 0 ≤ m := by rw [hm]; exact Int.emod_nonneg _ (by omega)
    have hm1 : m < c.length := by rw [hm]; exact Int.emod_lt_of_pos _ (by omega)
    have et : Int.tmod (k + 1) (c.length : Int) = m := by rw [hm, Int.tmod_eq_emod_of_nonneg (by omega)]
    have a1 := h1 k k0 (by omega)
    have a2 := h1 _ hm0 hm1
    refine .succ ?_
    simp (disch := omega) only [jacquardref30_Positive.c10, ↓cdT, ↓if_pos, w64_id, et]
    by_cases e : (Arc.To (rd arcs (rd c k))) = (Arc.From (rd arcs (rd c m)))
    · simp only [↓cnF e]
      exact pos_l2 (ii := ii) hlen (sumw arcs ii c) h1 k0 (by omega) (fun hx => ih (k + 1) (by omega) (by omega) (fun i i0 i1 => by
        by_cases ei : i = k
        · subst ei; rw [← hm]; exact e
        · exact h2 i i0 (by omega)) (fun i j i0 ij j1 => by
        by_cases ej : j = k
        · subst ej; exact hx i i0 ij
        · exact h3 i j i0 ij (by omega))) k.toNat 0 (by omega) (by omega) (fun j j0 j1 => by omega)
    · simp only [↓cnT e]
      exact .ret (Or.inr ⟨fun h => e (by have := h.2.1 k k0 (by omega); rw [← hm] at this; exact this), rfl⟩)
theorem pos_l0 (hlen : c.length ≤ 1000000) : ∀ (d k : Nat), k + d = c.length → (∀ i : Int, 0 ≤ i → i < k → 0 ≤ rd c i ∧ rd c i < arcs.length ∧ Inn (nod n0) (ca arcs c i)) →
    W (fun q => jacquardref30_Positive.c3 q n0 arcs ii c (sumw arcs ii (c.take k)) c.length k) (Pos (nod n0) arcs ii c) := by
  intro d
  induction d with
  | zero =>
    intro k hkd h1
    refine .succ ?_
    simp (disch := omega) only [jacquardref30_Positive.c3, ↓cdF]
    rw [List.take_of_length_le (by omega)]
    exact pos_l1 hlen (fun i i0 i1 => h1 i i0 (by omega)) c.length 0 (by omega) (by omega) (fun i i0 i1 => by omega) (fun i j i0 ij j1 => by omega)
  | succ d ih =>
    intro k hkd h1
    have hk : k < c.length := by omega
    refine .succ ?_
    simp (disch := omega) only [jacquardref30_Positive.c3, ↓cdT, ↓if_pos]
    refine .dec (fun c1 => .ret (Or.inr ⟨fun h => by have := h.1 k (by omega) (by omega); omega, rfl⟩)) fun c1 => ?_
    refine .dec (fun c2 => .ret (Or.inr ⟨fun h => by have := h.1 k (by omega) (by omega); omega, rfl⟩)) fun c2 => ?_
    simp (disch := omega) only [↓if_pos, counts_ref, weight_ref, Option.bind_some]
    by_cases c3 : Inn (nod n0) (rd arcs (rd c k))
    · simp only [↓cnF c3]
      have hsl := sumw_le (arcs := arcs) (ii := ii) (c.take k)
      have hw := wt_le (rd arcs (rd c k)) ii
      have htl : ((c.take k).length : Int) ≤ 1000000 := by simp; omega
      have e : sumw arcs ii (c.take k) + wt (rd arcs (rd c k)) ii = sumw arcs ii (c.take (k + 1)) := (take_succ_sum hk).symm
      simp (disch := omega) only [w64_id, e]
      exact ih (k + 1) (by omega) (fun i i0 i1 => by
        by_cases ei : i = k
        · subst ei; exact ⟨by omega, by omega, c3⟩
        · exact h1 i i0 (by omega))
    · simp only [↓cnT c3]
      exact .ret (Or.inr ⟨fun h => c3 (h.1 k (by omega) (by omega)).2.2, rfl⟩)
theorem positive_ref (hlen : c.length ≤ 1000000) : W (fun q => jacquardref30_Positive.f q n0 arcs ii c) (Pos (nod n0) arcs ii c) := by
  simp only [jacquardref30_Positive.f]
  exact pos_l0 (n0 := n0) (arcs := arcs) (ii := ii) hlen c.length 0 (by omega) (fun i i0 i1 => by omega)
end
end Go.Proofs.YtehpelomfhaleaaV.Diff
