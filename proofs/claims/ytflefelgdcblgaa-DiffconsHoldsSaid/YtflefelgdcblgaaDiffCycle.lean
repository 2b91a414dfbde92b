/- Positive, of the program and of the reference, told by paths. No condition beyond the sizes that are named. -/
import Derived.Test.YtflefelgdcblgaaRef30
import Derived.Test.YtflefelgdcblgaaQx9
import Derived.Test.YtflefelgdcblgaaQx10
namespace Go.Proofs.Ytflefelgdcblgaa.Diff
set_option linter.unusedVariables false
set_option linter.unusedSimpArgs false
open Go.RowKit Go.Proofs.YtflefelgdcblgaaW.PrintWords Go.Proofs.YtflefelgdcblgaaW.PrintMore Go.Proofs.Ytflefelgdcblgaa.Lib Go.Proofs.Ytflefelgdcblgaa.Q
def ca (arcs : List Arc) (c : List Int) (i : Int) : Arc := rd_T28 arcs (rd c i)
def CycOk (n : Int) (arcs : List Arc) (c : List Int) : Prop :=
  (∀ i : Int, 0 ≤ i → i < c.length → 0 ≤ rd c i ∧ rd c i < arcs.length ∧ Inn n (ca arcs c i)) ∧
  (∀ i : Int, 0 ≤ i → i < c.length → (ca arcs c i).f1 = (ca arcs c ((i + 1) % c.length)).f0) ∧
  (∀ i j : Int, 0 ≤ i → i < j → j < c.length → (ca arcs c i).f0 ≠ (ca arcs c j).f0)
theorem rd_cons_succ (x : Int) (c : List Int) {i : Int} (h : 1 ≤ i) : rd (x :: c) i = rd c (i - 1) := by
  unfold rd
  have e : i.toNat = (i - 1).toNat + 1 := by omega
  rw [e]; simp [List.getD]
section
variable {n : Int} {arcs : List Arc} {ii : Int}
theorem path_of : ∀ (c : List Int), c ≠ [] → (∀ i : Int, 0 ≤ i → i < c.length → 0 ≤ rd c i ∧ rd c i < arcs.length ∧ Inn n (ca arcs c i)) → (∀ i : Int, 0 ≤ i → i + 1 < c.length → (ca arcs c i).f1 = (ca arcs c (i + 1)).f0) →
    Path n arcs c (ca arcs c 0).f0 (ca arcs c (c.length - 1)).f1
  | [], h, _, _ => absurd rfl h
  | [x], _, h1, _ => by
    obtain ⟨a1, a2, a3⟩ := h1 0 (by omega) (by simp)
    exact ⟨a1, a2, a3, rfl, rfl⟩
  | x :: y :: c, _, h1, h2 => by
    obtain ⟨a1, a2, a3⟩ := h1 0 (by omega) (by simp; omega)
    have e := h2 0 (by omega) (by simp; omega)
    have hs : ∀ i : Int, 1 ≤ i → ca arcs (x :: y :: c) i = ca arcs (y :: c) (i - 1) := fun i hi => by unfold ca; rw [rd_cons_succ x _ hi]
    have hr := path_of (y :: c) (by simp) (fun i i0 i1 => by
      have := h1 (i + 1) (by omega) (by simp at i1 ⊢; omega)
      rw [rd_cons_succ x _ (by omega), hs (i + 1) (by omega), show i + 1 - 1 = i by omega] at this
      exact this) (fun i i0 i1 => by
      have := h2 (i + 1) (by omega) (by simp at i1 ⊢; omega)
      rw [hs (i + 1) (by omega), hs (i + 1 + 1) (by omega), show i + 1 - 1 = i by omega, show i + 1 + 1 - 1 = i + 1 by omega] at this
      exact this)
    refine ⟨a1, a2, a3, rfl, ?_⟩
    rw [hs (0 + 1) (by omega)] at e
    rw [hs _ (by simp; omega)]
    have el : ((x :: y :: c).length : Int) - 1 - 1 = ((y :: c).length : Int) - 1 := by simp
    rw [el]
    have e' : (rd_T28 arcs x).f1 = (ca arcs (y :: c) 0).f0 := e
    rw [e']
    exact hr
theorem path_idx : ∀ {c : List Int} {u v : Int}, Path n arcs c u v → (∀ i : Int, 0 ≤ i → i < c.length → 0 ≤ rd c i ∧ rd c i < arcs.length ∧ Inn n (ca arcs c i)) ∧ (∀ i : Int, 0 ≤ i → i + 1 < c.length → (ca arcs c i).f1 = (ca arcs c (i + 1)).f0) ∧
    (c ≠ [] → (ca arcs c 0).f0 = u ∧ (ca arcs c (c.length - 1)).f1 = v)
  | [], u, v, h => ⟨fun i h0 h1 => by simp at h1; omega, fun i h0 h1 => by simp at h1; omega, fun h => absurd rfl h⟩
  | x :: c, u, v, ⟨a1, a2, a3, a4, a5⟩ => by
    obtain ⟨b1, b2, b3⟩ := path_idx a5
    have hs : ∀ i : Int, 1 ≤ i → ca arcs (x :: c) i = ca arcs c (i - 1) := fun i hi => by unfold ca; rw [rd_cons_succ x _ hi]
    refine ⟨fun i i0 i1 => ?_, fun i i0 i1 => ?_, fun _ => ⟨a4, ?_⟩⟩
    · by_cases e : i = 0
      · subst e; exact ⟨a1, a2, a3⟩
      · have := b1 (i - 1) (by omega) (by simp at i1; omega)
        rw [rd_cons_succ x _ (by omega), hs i (by omega)]
        exact this
    · rw [hs (i + 1) (by omega), show i + 1 - 1 = i by omega]
      by_cases e : i = 0
      · subst e
        have hne : c ≠ [] := fun e => by subst e; simp at i1
        exact (b3 hne).1.symm
      · rw [hs i (by omega)]
        have := b2 (i - 1) (by omega) (by simp at i1; omega)
        rw [show i - 1 + 1 = i by omega] at this
        exact this
    · by_cases hne : c = []
      · subst hne; exact a5
      · have hp := List.length_pos_iff.2 hne
        rw [hs _ (by simp; omega), show ((x :: c).length : Int) - 1 - 1 = (c.length : Int) - 1 by simp]
        exact (b3 hne).2
theorem mod_next {i L : Int} (h0 : 0 ≤ i) (h1 : i + 1 < L) : (i + 1) % L = i + 1 := Int.emod_eq_of_lt (by omega) h1
theorem nodup_iff {c : List Int} {f : Int → Int} : (c.map f).Nodup ↔ ∀ i j : Int, 0 ≤ i → i < j → j < c.length → f (rd c i) ≠ f (rd c j) := by
  rw [List.Nodup, List.pairwise_map, List.pairwise_iff_getElem]
  constructor
  · intro h i j i0 ij j1
    have := h i.toNat j.toNat (by omega) (by omega) (by omega)
    rw [rd_eq (j := i.toNat) (by omega) (by omega), rd_eq (j := j.toNat) (by omega) (by omega)]
    exact this
  · intro h i j hi hj hij
    have := h i j (by omega) (by omega) (by omega)
    rw [rd_eq (j := i) rfl hi, rd_eq (j := j) rfl hj] at this
    exact this
theorem cyc_iff {c : List Int} : Cyc n arcs ii c ↔ c ≠ [] ∧ CycOk n arcs c ∧ 0 < sumw arcs ii c := by
  constructor
  · rintro ⟨h1, ⟨u, hu⟩, h3, h4⟩
    obtain ⟨b1, b2, b3⟩ := path_idx hu
    have hp := List.length_pos_iff.2 h1
    refine ⟨h1, ⟨b1, fun i i0 i1 => ?_, fun i j i0 ij j1 => nodup_iff.1 h3 i j i0 ij j1⟩, h4⟩
    by_cases e : i + 1 < c.length
    · rw [mod_next i0 e]; exact b2 i i0 e
    · have ei : i + 1 = c.length := by omega
      rw [ei, Int.emod_self, (b3 h1).1, show i = (c.length : Int) - 1 by omega, (b3 h1).2]
  · rintro ⟨h1, ⟨a1, a2, a3⟩, h4⟩
    have hp := List.length_pos_iff.2 h1
    have hpath := path_of c h1 a1 (fun i i0 i1 => by have := a2 i i0 (by omega); rw [mod_next i0 i1] at this; exact this)
    have e := a2 (c.length - 1) (by omega) (by omega)
    rw [show (c.length : Int) - 1 + 1 = c.length by omega, Int.emod_self] at e
    rw [e] at hpath
    exact ⟨h1, ⟨_, hpath⟩, nodup_iff.2 a3, h4⟩
def Pos (n : Int) (arcs : List Arc) (ii : Int) (c : List Int) (r : Int × Bool) : Prop := (CycOk n arcs c ∧ r = (sumw arcs ii c, decide (sumw arcs ii c > 0))) ∨ (¬ CycOk n arcs c ∧ r = (0, false))
theorem Pos.unique {c : List Int} {r r' : Int × Bool} (h : Pos n arcs ii c r) (h' : Pos n arcs ii c r') : r = r' := by
  rcases h with ⟨a, b⟩ | ⟨a, b⟩ <;> rcases h' with ⟨a', b'⟩ | ⟨a', b'⟩
  · rw [b, b']
  · exact absurd a a'
  · exact absurd a' a
  · rw [b, b']
theorem Pos.of_cyc {c : List Int} {r : Int × Bool} (h : Pos n arcs ii c r) (hc : Cyc n arcs ii c) : r.2 = true ∧ r.1 > 0 := by
  obtain ⟨_, h2, h3⟩ := cyc_iff.1 hc
  rcases h with ⟨a, b⟩ | ⟨a, b⟩
  · rw [b]; exact ⟨decide_eq_true h3, h3⟩
  · exact absurd h2 a
theorem Pos.cyc {c : List Int} {r : Int × Bool} (h : Pos n arcs ii c r) (ht : r.2 = true) : Cyc n arcs ii c := by
  rcases h with ⟨a, b⟩ | ⟨a, b⟩
  · rw [b] at ht
    have h3 : sumw arcs ii c > 0 := of_decide_eq_true ht
    refine cyc_iff.2 ⟨fun e => ?_, a, h3⟩
    subst e; simp [sumw] at h3
  · rw [b] at ht; simp at ht
theorem sumw_le : ∀ (c : List Int), -(269484032 * (c.length : Int)) ≤ sumw arcs ii c ∧ sumw arcs ii c ≤ 269484032 * c.length
  | [] => by simp [sumw]
  | x :: c => by
    have h := sumw_le c
    have hw := wt_le (rd_T28 arcs x) ii
    simp only [sumw, List.length_cons]
    omega
theorem take_succ_sum {c : List Int} {k : Nat} (h : k < c.length) : sumw arcs ii (c.take (k + 1)) = sumw arcs ii (c.take k) + wt (ca arcs c k) ii := by
  rw [List.take_succ_eq_append_getElem h, sumw_append]
  simp only [sumw]
  unfold ca
  rw [rd_eq (j := k) rfl h]; omega
theorem positive_go (c : List Int) (hlen : c.length ≤ 1000000) : ∀ (d k : Nat) (seen : List Int), k + d = c.length → (∀ x, x ∈ seen ↔ ∃ i : Int, 0 ≤ i ∧ i < k ∧ (ca arcs c i).f0 = x) →
    (∀ i : Int, 0 ≤ i → i < k → 0 ≤ rd c i ∧ rd c i < arcs.length ∧ Inn n (ca arcs c i)) → (∀ i : Int, 0 ≤ i → i < k → (ca arcs c i).f1 = (ca arcs c ((i + 1) % c.length)).f0) → (∀ i j : Int, 0 ≤ i → i < j → j < k → (ca arcs c i).f0 ≠ (ca arcs c j).f0) →
    ∃ r, diffcons_Positive.go n arcs ii c seen (sumw arcs ii (c.take k)) k d = some r ∧ Pos n arcs ii c r := by
  intro d
  induction d with
  | zero =>
    intro k seen hkd hs h1 h2 h3
    have ek : k = c.length := by omega
    refine ⟨_, rfl, Or.inl ⟨⟨fun i i0 i1 => h1 i i0 (by omega), fun i i0 i1 => h2 i i0 (by omega), fun i j i0 ij j1 => h3 i j i0 ij (by omega)⟩, ?_⟩⟩
    rw [ek, List.take_length]
  | succ d ih =>
    intro k seen hkd hs h1 h2 h3
    have hk : k < c.length := by omega
    have hm0 : 0 ≤ ((k : Int) + 1) % c.length := Int.emod_nonneg _ (by omega)
    have hm1 : ((k : Int) + 1) % c.length < c.length := Int.emod_lt_of_pos _ (by omega)
    have no : ¬ CycOk n arcs c → ∃ r, some ((0 : Int), false) = some r ∧ Pos n arcs ii c r := fun h => ⟨_, rfl, Or.inr ⟨h, rfl⟩⟩
    unfold diffcons_Positive.go
    by_cases c1 : rd c k < 0
    · rw [if_pos c1]; exact no (fun h => by have := h.1 k (by omega) (by omega); omega)
    rw [if_neg c1]
    by_cases c2 : rd c k ≥ (arcs.length : Int)
    · rw [if_pos c2]; exact no (fun h => by have := h.1 k (by omega) (by omega); omega)
    rw [if_neg c2]
    by_cases c3 : rd c (((k : Int) + 1) % c.length) < 0
    · rw [if_pos c3]; exact no (fun h => by have := h.1 _ hm0 hm1; omega)
    rw [if_neg c3]
    by_cases c4 : rd c (((k : Int) + 1) % c.length) ≥ (arcs.length : Int)
    · rw [if_pos c4]; exact no (fun h => by have := h.1 _ hm0 hm1; omega)
    rw [if_neg c4, within_f]
    simp only [Option.bind_some]
    by_cases c5 : Inn n (rd_T28 arcs (rd c k))
    · rw [decide_eq_true c5, if_pos rfl]
      by_cases c6 : (rd_T28 arcs (rd c k)).f1 = (rd_T28 arcs (rd c (((k : Int) + 1) % c.length))).f0
      · rw [if_pos c6]
        by_cases c7 : (rd_T28 arcs (rd c k)).f0 ∈ seen
        · rw [if_pos c7]
          obtain ⟨i, i0, i1, e⟩ := (hs _).1 c7
          exact no (fun h => h.2.2 i k i0 i1 (by omega) e)
        · rw [if_neg c7, weight_f]
          simp only [Option.bind_some]
          have hsl := sumw_le (arcs := arcs) (ii := ii) (c.take k)
          have hw := wt_le (rd_T28 arcs (rd c k)) ii
          have htl : ((c.take k).length : Int) ≤ 1000000 := by simp; omega
          rw [wrap_id (by omega) (by omega)]
          have e : sumw arcs ii (c.take k) + wt (rd_T28 arcs (rd c k)) ii = sumw arcs ii (c.take (k + 1)) := (take_succ_sum hk).symm
          rw [e]
          refine ih (k + 1) _ (by omega) (fun x => ?_) (fun i i0 i1 => ?_) (fun i i0 i1 => ?_) (fun i j i0 ij j1 => ?_)
          · rw [List.mem_cons, hs]
            constructor
            · rintro (rfl | ⟨i, i0, i1, e⟩)
              · exact ⟨k, by omega, by omega, rfl⟩
              · exact ⟨i, i0, by omega, e⟩
            · rintro ⟨i, i0, i1, e⟩
              by_cases ei : i = k
              · subst ei; exact Or.inl e.symm
              · exact Or.inr ⟨i, i0, by omega, e⟩
          · by_cases ei : i = k
            · subst ei; exact ⟨by omega, by omega, c5⟩
            · exact h1 i i0 (by omega)
          · by_cases ei : i = k
            · subst ei; exact c6
            · exact h2 i i0 (by omega)
          · by_cases ej : j = k
            · subst ej
              intro e
              exact c7 ((hs _).2 ⟨i, i0, ij, e⟩)
            · exact h3 i j i0 ij (by omega)
      · rw [if_neg c6]; exact no (fun h => c6 (h.2.1 k (by omega) (by omega)))
    · rw [decide_eq_false c5, if_neg (by decide)]; exact no (fun h => c5 (h.1 k (by omega) (by omega)).2.2)
end
theorem positive_f {n0 : Int} {arcs : List Arc} {ii : Int} {c : List Int} (hlen : c.length ≤ 1000000) : ∃ r, diffcons_Positive.f n0 arcs ii c = some r ∧ Pos (nod n0) arcs ii c r := by
  unfold diffcons_Positive.f
  rw [nodes_f]
  simp only [Option.bind_some]
  by_cases h0 : (c.length : Int) = 0
  · rw [if_pos h0]
    have e : c = [] := List.length_eq_zero_iff.1 (by omega)
    subst e
    exact ⟨_, rfl, Or.inl ⟨⟨fun i i0 i1 => by simp at i1; omega, fun i i0 i1 => by simp at i1; omega, fun i j i0 ij j1 => by simp at j1; omega⟩, rfl⟩⟩
  · rw [if_neg h0]
    exact positive_go (n := nod n0) (arcs := arcs) (ii := ii) c hlen c.length 0 [] (by omega) (fun x => by simp; omega) (fun i i0 i1 => by simp at i1; omega) (fun i i0 i1 => by simp at i1; omega) (fun i j i0 ij j1 => by simp at j1; omega)
section
variable {n0 : Int} {arcs : List Arc} {ii : Int} {c : List Int}
theorem pos_l2 (hlen : c.length ≤ 1000000) (s : Int) (h1 : ∀ i : Int, 0 ≤ i → i < c.length → 0 ≤ rd c i ∧ rd c i < arcs.length ∧ Inn (nod n0) (ca arcs c i)) {k : Int} (k0 : 0 ≤ k) (k1 : k < c.length)
    (hk : (∀ i : Int, 0 ≤ i → i < k → (ca arcs c i).f0 ≠ (ca arcs c k).f0) → EvP (fun q => jacquardref30_Positive.l1 q arcs c s c.length (k + 1)) (Pos (nod n0) arcs ii c)) :
    ∀ (d : Nat) (i : Int), 0 ≤ i → i + d = k → (∀ j : Int, 0 ≤ j → j < i → (ca arcs c j).f0 ≠ (ca arcs c k).f0) → EvP (fun q => jacquardref30_Positive.l2 q arcs c s k c.length k k i) (Pos (nod n0) arcs ii c) := by
  intro d
  induction d with
  | zero =>
    intro i i0 hid hx
    obtain rfl : i = k := by omega
    refine EvP.step (fun q => ?_) (hk hx)
    simp only [jacquardref30_Positive.l2]; rw [if_neg (by omega), wrap_id (by omega) (by omega)]
  | succ d ih =>
    intro i i0 hid hx
    have a1 := h1 i i0 (by omega)
    have a2 := h1 k k0 k1
    by_cases e : (ca arcs c i).f0 = (ca arcs c k).f0
    · refine EvP.ret1 (0, false) (fun q => ?_) (Or.inr ⟨fun h => h.2.2 i k i0 (by omega) k1 e, rfl⟩)
      simp only [jacquardref30_Positive.l2]
      rw [if_pos (by omega), if_pos i0, if_pos (by omega), if_pos a1.1, if_pos a1.2.1, if_pos k0, if_pos k1, if_pos a2.1, if_pos a2.2.1]
      exact if_pos e
    · refine EvP.step (fun q => ?_) (ih (i + 1) (by omega) (by omega) (fun j j0 j1 => by
        by_cases ej : j = i
        · subst ej; exact e
        · exact hx j j0 (by omega)))
      simp only [jacquardref30_Positive.l2]
      rw [if_pos (by omega), if_pos i0, if_pos (by omega), if_pos a1.1, if_pos a1.2.1, if_pos k0, if_pos k1, if_pos a2.1, if_pos a2.2.1, wrap_id (n := i + 1) (by omega) (by omega)]
      exact if_neg e
theorem pos_l1 (hlen : c.length ≤ 1000000) (h1 : ∀ i : Int, 0 ≤ i → i < c.length → 0 ≤ rd c i ∧ rd c i < arcs.length ∧ Inn (nod n0) (ca arcs c i)) :
    ∀ (d : Nat) (k : Int), 0 ≤ k → k + d = c.length → (∀ i : Int, 0 ≤ i → i < k → (ca arcs c i).f1 = (ca arcs c ((i + 1) % c.length)).f0) → (∀ i j : Int, 0 ≤ i → i < j → j < k → (ca arcs c i).f0 ≠ (ca arcs c j).f0) →
      EvP (fun q => jacquardref30_Positive.l1 q arcs c (sumw arcs ii c) c.length k) (Pos (nod n0) arcs ii c) := by
  intro d
  induction d with
  | zero =>
    intro k k0 hkd h2 h3
    refine EvP.ret1 (sumw arcs ii c, decide (sumw arcs ii c > 0)) (fun q => ?_) (Or.inl ⟨⟨h1, fun i i0 i1 => h2 i i0 (by omega), fun i j i0 ij j1 => h3 i j i0 ij (by omega)⟩, rfl⟩)
    simp only [jacquardref30_Positive.l1]; rw [if_neg (by omega)]
  | succ d ih =>
    intro k k0 hkd h2 h3
    have hm0 : 0 ≤ (k + 1) % (c.length : Int) := Int.emod_nonneg _ (by omega)
    have hm1 : (k + 1) % (c.length : Int) < c.length := Int.emod_lt_of_pos _ (by omega)
    have et : Int.tmod (wrap64 (k + 1)) (c.length : Int) = (k + 1) % c.length := by rw [wrap_id (by omega) (by omega), Int.tmod_eq_emod_of_nonneg (by omega)]
    have a1 := h1 k k0 (by omega)
    have a2 := h1 _ hm0 hm1
    by_cases e : (ca arcs c k).f1 = (ca arcs c ((k + 1) % c.length)).f0
    · refine EvP.step (fun q => ?_) (pos_l2 (ii := ii) hlen (sumw arcs ii c) h1 k0 (by omega) (fun hx => ih (k + 1) (by omega) (by omega) (fun i i0 i1 => by
        by_cases ei : i = k
        · subst ei; exact e
        · exact h2 i i0 (by omega)) (fun i j i0 ij j1 => by
        by_cases ej : j = k
        · subst ej; exact hx i i0 ij
        · exact h3 i j i0 ij (by omega))) k.toNat 0 (by omega) (by omega) (fun j j0 j1 => by omega))
      simp only [jacquardref30_Positive.l1]
      rw [et, if_pos (by omega), if_neg (by omega), if_pos hm0, if_pos hm1, if_pos k0, if_pos (by omega), if_pos a1.1, if_pos a1.2.1, if_pos a2.1, if_pos a2.2.1]
      exact if_pos e
    · refine EvP.ret1 (0, false) (fun q => ?_) (Or.inr ⟨fun h => e (h.2.1 k k0 (by omega)), rfl⟩)
      simp only [jacquardref30_Positive.l1]
      rw [et, if_pos (by omega), if_neg (by omega), if_pos hm0, if_pos hm1, if_pos k0, if_pos (by omega), if_pos a1.1, if_pos a1.2.1, if_pos a2.1, if_pos a2.2.1]
      exact if_neg e
theorem pos_l0 (hlen : c.length ≤ 1000000) : ∀ (d k : Nat), k + d = c.length → (∀ i : Int, 0 ≤ i → i < k → 0 ≤ rd c i ∧ rd c i < arcs.length ∧ Inn (nod n0) (ca arcs c i)) →
    EvP (fun q => jacquardref30_Positive.l0 q n0 arcs ii c (sumw arcs ii (c.take k)) c.length k) (Pos (nod n0) arcs ii c) := by
  intro d
  induction d with
  | zero =>
    intro k hkd h1
    refine EvP.step (f := fun q => jacquardref30_Positive.l1 q arcs c (sumw arcs ii c) c.length 0) (fun q => ?_) (pos_l1 hlen (fun i i0 i1 => h1 i i0 (by omega)) c.length 0 (by omega) (by omega) (fun i i0 i1 => by omega) (fun i j i0 ij j1 => by omega))
    simp only [jacquardref30_Positive.l0]
    rw [if_neg (by omega), List.take_of_length_le (by omega)]
  | succ d ih =>
    intro k hkd h1
    have hk : k < c.length := by omega
    by_cases c1 : rd c k < 0
    · refine EvP.ret1 (0, false) (fun q => ?_) (Or.inr ⟨fun h => by have := h.1 k (by omega) (by omega); omega, rfl⟩)
      simp only [jacquardref30_Positive.l0]
      rw [if_pos (by omega), if_pos (by omega), if_pos (by omega), if_pos c1]
    by_cases c2 : rd c k ≥ (arcs.length : Int)
    · refine EvP.ret1 (0, false) (fun q => ?_) (Or.inr ⟨fun h => by have := h.1 k (by omega) (by omega); omega, rfl⟩)
      simp only [jacquardref30_Positive.l0]
      rw [if_pos (by omega), if_pos (by omega), if_pos (by omega), if_neg c1, if_pos c2]
    by_cases c3 : Inn (nod n0) (rd_T28 arcs (rd c k))
    · have hsl := sumw_le (arcs := arcs) (ii := ii) (c.take k)
      have hw := wt_le (rd_T28 arcs (rd c k)) ii
      have htl : ((c.take k).length : Int) ≤ 1000000 := by simp; omega
      have e : sumw arcs ii (c.take k) + wt (rd_T28 arcs (rd c k)) ii = sumw arcs ii (c.take (k + 1)) := (take_succ_sum hk).symm
      refine EvP.step (fun q => ?_) (ih (k + 1) (by omega) (fun i i0 i1 => by
        by_cases ei : i = k
        · subst ei; exact ⟨by omega, by omega, c3⟩
        · exact h1 i i0 (by omega)))
      simp only [jacquardref30_Positive.l0]
      rw [if_pos (by omega), if_pos (by omega), if_pos (by omega), if_neg c1, if_neg c2, if_pos (by omega), if_pos (by omega), counts_ref, decide_eq_true c3]
      simp only [Option.bind_some, if_true]
      rw [weight_ref]
      simp only [Option.bind_some]
      rw [wrap_id (by omega) (by omega), e, wrap_id (n := (k : Int) + 1) (by omega) (by omega)]
      rfl
    · refine EvP.ret1 (0, false) (fun q => ?_) (Or.inr ⟨fun h => c3 (h.1 k (by omega) (by omega)).2.2, rfl⟩)
      simp only [jacquardref30_Positive.l0]
      rw [if_pos (by omega), if_pos (by omega), if_pos (by omega), if_neg c1, if_neg c2, if_pos (by omega), if_pos (by omega), counts_ref, decide_eq_false c3]
      simp
theorem positive_ref (hlen : c.length ≤ 1000000) : EvP (fun q => jacquardref30_Positive.f q n0 arcs ii c) (Pos (nod n0) arcs ii c) := by
  unfold jacquardref30_Positive.f
  exact pos_l0 (n0 := n0) (arcs := arcs) (ii := ii) hlen c.length 0 (by omega) (fun i i0 i1 => by simp at i1; omega)
end
end Go.Proofs.Ytflefelgdcblgaa.Diff
