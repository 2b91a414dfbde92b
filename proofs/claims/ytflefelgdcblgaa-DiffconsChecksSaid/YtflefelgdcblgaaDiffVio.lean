/- Violated, of the program and of the reference. No condition beyond the sizes that are named. -/
import Derived.Test.YtflefelgdcblgaaRef30
import Derived.Test.YtflefelgdcblgaaQx16
import Derived.Test.YtflefelgdcblgaaQx21
namespace Go.Proofs.Ytflefelgdcblgaa.Diff
set_option linter.unusedVariables false
set_option linter.unusedSimpArgs false
open Go.RowKit Go.Proofs.YtflefelgdcblgaaW.PrintWords Go.Proofs.YtflefelgdcblgaaW.PrintMore Go.Proofs.Ytflefelgdcblgaa.Lib Go.Proofs.Ytflefelgdcblgaa.Q
def tm (l : List Int) (v : Int) : Int := if v ≥ (l.length : Int) then 0 else mn (mx (rd l v) (-1099511627776)) 1099511627776
theorem tm_le (l : List Int) (v : Int) : -1099511627776 ≤ tm l v ∧ tm l v ≤ 1099511627776 := by
  unfold tm
  split
  · omega
  · exact clamp_le _ _ _ (by omega)
def Vio (n : Int) (arcs : List Arc) (ii : Int) (l : List Int) (v : Int) : Prop :=
  (v = -1 ∧ Feas n arcs ii (tm l)) ∨ (0 ≤ v ∧ v < arcs.length ∧ Inn n (rd_T28 arcs v) ∧ tm l (rd_T28 arcs v).f1 - tm l (rd_T28 arcs v).f0 < wt (rd_T28 arcs v) ii ∧
    ∀ i : Int, 0 ≤ i → i < v → Inn n (rd_T28 arcs i) → tm l (rd_T28 arcs i).f0 + wt (rd_T28 arcs i) ii ≤ tm l (rd_T28 arcs i).f1)
theorem Vio.unique {n : Int} {arcs : List Arc} {ii : Int} {l : List Int} {v v' : Int} (h : Vio n arcs ii l v) (h' : Vio n arcs ii l v') : v = v' := by
  rcases h with ⟨a1, a2⟩ | ⟨a1, a2, a3, a4, a5⟩ <;> rcases h' with ⟨b1, b2⟩ | ⟨b1, b2, b3, b4, b5⟩
  · rw [a1, b1]
  · have := a2 v' b1 b2 b3; omega
  · have := b2 v a1 a2 a3; omega
  · by_cases c1 : v < v'
    · have := b5 v a1 c1 a3; omega
    · by_cases c2 : v' < v
      · have := a5 v' b1 c2 b3; omega
      · omega
theorem at_f {l : List Int} {v : Int} (h : 0 ≤ v) : diffcons_Violated.at_ l v = some (tm l v) := by
  unfold diffcons_Violated.at_ tm diffcons_limit.f
  by_cases h1 : v ≥ (l.length : Int)
  · rw [if_pos h1, if_pos h1]
  · rw [if_neg h1, if_neg h1, if_pos h]
theorem time_ref {l : List Int} {v : Int} (h : 0 ≤ v) : jacquardref30_time.f l v = some (tm l v) := by
  unfold jacquardref30_time.f tm
  by_cases h1 : v ≥ (l.length : Int)
  · rw [if_pos h1, if_pos h1]
  · rw [if_neg h1, if_neg h1, if_pos h, if_pos (by omega)]
theorem violated_go {n : Int} {arcs : List Arc} {ii : Int} {l : List Int} (hlen : arcs.length ≤ 1000000) : ∀ (d k : Nat), k + d = arcs.length → (∀ i : Int, 0 ≤ i → i < k → Inn n (rd_T28 arcs i) → tm l (rd_T28 arcs i).f0 + wt (rd_T28 arcs i) ii ≤ tm l (rd_T28 arcs i).f1) →
    ∃ r, diffcons_Violated.go n ii l arcs k d = some r ∧ Vio n arcs ii l r := by
  intro d
  induction d with
  | zero =>
    intro k hkd hx
    exact ⟨_, rfl, Or.inl ⟨rfl, fun i i0 i1 hi => hx i i0 (by omega) hi⟩⟩
  | succ d ih =>
    intro k hkd hx
    unfold diffcons_Violated.go diffcons_Violated.pred
    rw [within_f]
    simp only [Option.bind_some]
    by_cases c1 : Inn n (rd_T28 arcs k)
    · rw [decide_eq_true c1]
      simp only [if_true]
      rw [at_f c1.2.2.1, at_f c1.1, weight_f]
      simp only [Option.bind_some]
      have t1 := tm_le l (rd_T28 arcs k).f1
      have t0 := tm_le l (rd_T28 arcs k).f0
      have hw := wt_le (rd_T28 arcs k) ii
      rw [wrap_id (by omega) (by omega)]
      by_cases c2 : tm l (rd_T28 arcs k).f1 - tm l (rd_T28 arcs k).f0 < wt (rd_T28 arcs k) ii
      · rw [decide_eq_true c2]
        exact ⟨k, by simp, Or.inr ⟨by omega, by omega, c1, c2, hx⟩⟩
      · rw [decide_eq_false c2]
        simp only [Bool.false_eq_true, if_false]
        refine ih (k + 1) (by omega) (fun i i0 i1 hi => ?_)
        by_cases ei : i = k
        · subst ei; omega
        · exact hx i i0 (by omega) hi
    · rw [decide_eq_false c1]
      simp only [Bool.false_eq_true, if_false, Option.bind_some]
      refine ih (k + 1) (by omega) (fun i i0 i1 hi => ?_)
      by_cases ei : i = k
      · subst ei; exact absurd hi c1
      · exact hx i i0 (by omega) hi
theorem violated_f {n0 : Int} {arcs : List Arc} {ii : Int} {l : List Int} (hlen : arcs.length ≤ 1000000) : ∃ r, diffcons_Violated.f n0 arcs ii l = some r ∧ Vio (nod n0) arcs ii l r := by
  unfold diffcons_Violated.f
  rw [nodes_f]
  simp only [Option.bind_some]
  exact violated_go hlen arcs.length 0 (by omega) (fun i i0 i1 => by simp at i1; omega)
theorem violated_ref_l0 {n0 : Int} {arcs : List Arc} {ii : Int} {l : List Int} (hlen : arcs.length ≤ 1000000) : ∀ (d : Nat) (k : Int), 0 ≤ k → k + d = arcs.length → (∀ i : Int, 0 ≤ i → i < k → Inn (nod n0) (rd_T28 arcs i) → tm l (rd_T28 arcs i).f0 + wt (rd_T28 arcs i) ii ≤ tm l (rd_T28 arcs i).f1) →
    EvP (fun q => jacquardref30_Violated.l0 q n0 arcs ii l arcs.length k) (Vio (nod n0) arcs ii l) := by
  intro d
  induction d with
  | zero =>
    intro k k0 hkd hx
    refine EvP.ret1 (-1) (fun q => ?_) (Or.inl ⟨rfl, fun i i0 i1 hi => hx i i0 (by omega) hi⟩)
    simp only [jacquardref30_Violated.l0]; rw [if_neg (by omega)]
  | succ d ih =>
    intro k k0 hkd hx
    have hwk : wrap64 (k + 1) = k + 1 := wrap_id (by omega) (by omega)
    by_cases c1 : Inn (nod n0) (rd_T28 arcs k)
    · have t1 := tm_le l (rd_T28 arcs k).f1
      have t0 := tm_le l (rd_T28 arcs k).f0
      have hw := wt_le (rd_T28 arcs k) ii
      have hws : wrap64 (tm l (rd_T28 arcs k).f1 - tm l (rd_T28 arcs k).f0) = tm l (rd_T28 arcs k).f1 - tm l (rd_T28 arcs k).f0 := wrap_id (by omega) (by omega)
      by_cases c2 : tm l (rd_T28 arcs k).f1 - tm l (rd_T28 arcs k).f0 < wt (rd_T28 arcs k) ii
      · refine EvP.ret1 k (fun q => ?_) (Or.inr ⟨k0, by omega, c1, c2, hx⟩)
        simp only [jacquardref30_Violated.l0]
        rw [if_pos (by omega), if_pos k0, if_pos (by omega), counts_ref, decide_eq_true c1]
        simp only [Option.bind_some, if_true]
        rw [time_ref c1.2.2.1, time_ref c1.1, weight_ref]
        simp only [Option.bind_some]
        rw [hws, if_pos c2]
      · refine EvP.step (fun q => ?_) (ih (k + 1) (by omega) (by omega) (fun i i0 i1 hi => by
          by_cases ei : i = k
          · subst ei; omega
          · exact hx i i0 (by omega) hi))
        simp only [jacquardref30_Violated.l0]
        rw [if_pos (by omega), if_pos k0, if_pos (by omega), counts_ref, decide_eq_true c1]
        simp only [Option.bind_some, if_true]
        rw [time_ref c1.2.2.1, time_ref c1.1, weight_ref]
        simp only [Option.bind_some]
        rw [hws, if_neg c2, hwk]
    · refine EvP.step (fun q => ?_) (ih (k + 1) (by omega) (by omega) (fun i i0 i1 hi => by
        by_cases ei : i = k
        · subst ei; exact absurd hi c1
        · exact hx i i0 (by omega) hi))
      simp only [jacquardref30_Violated.l0]
      rw [if_pos (by omega), if_pos k0, if_pos (by omega), counts_ref, decide_eq_false c1]
      simp only [Option.bind_some, Bool.false_eq_true, if_false]
      rw [hwk]
theorem violated_ref {n0 : Int} {arcs : List Arc} {ii : Int} {l : List Int} (hlen : arcs.length ≤ 1000000) : EvP (fun q => jacquardref30_Violated.f q n0 arcs ii l) (Vio (nod n0) arcs ii l) := by
  unfold jacquardref30_Violated.f
  exact violated_ref_l0 hlen arcs.length 0 (by omega) (by omega) (fun i i0 i1 => by omega)
end Go.Proofs.Ytflefelgdcblgaa.Diff
