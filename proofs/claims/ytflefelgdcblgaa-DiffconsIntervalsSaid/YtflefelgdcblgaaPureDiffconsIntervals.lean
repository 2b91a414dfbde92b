import Derived.Test.YtflefelgdcblgaaLaw30
import Derived.Test.YtflefelgdcblgaaQx5
namespace Go.Proofs.Ytflefelgdcblgaa.Pure
open Go.RowKit Go.Proofs.Ytflefelgdcblgaa.Q Go.Proofs.YtflefelgdcblgaaW.PrintWords Go.Proofs.YtflefelgdcblgaaW.PrintLast Go.Proofs.YtflefelgdcblgaaW.PrintMore Go.Proofs.Ytflefelgdcblgaa.Lib Go.Proofs.Ytflefelgdcblgaa.Diff Go.Proofs.Ytflefelgdcblgaa.Law30

theorem wt_mono {a : Arc} {ii ij : Int} (hd : 0 ≤ a.f3) (h : ii ≤ ij) : wt a ij ≤ wt a ii := by
  unfold wt
  have h0 : 0 ≤ mn (mx a.f3 (-1048576)) 1048576 := by unfold mn mx; omega
  have h1 : mn (mx ii 0) 256 ≤ mn (mx ij 0) 256 := by unfold mn mx; omega
  have := Int.mul_le_mul_of_nonneg_right h1 h0
  omega

theorem less_loop (xs ys : List Int) (hl : xs.length = ys.length) (hs : xs.length ≤ 8192) (hle : ∀ v : Int, 0 ≤ v → v < xs.length → rd ys v ≤ rd xs v) : ∀ (d : Nat) (i : Int), 0 ≤ i → i + d = xs.length →
    EvP (fun k => jacquardlaw30_DiffconsIntervals.l1 k xs ys xs.length i) (fun r => r = true) := by
  intro d
  induction d with
  | zero =>
    intro i h0 hd
    refine EvP.ret1 true (fun k => ?_) rfl
    simp only [jacquardlaw30_DiffconsIntervals.l1]; rw [if_neg (by omega)]
  | succ d ih =>
    intro i h0 hd
    refine EvP.step (fun k => ?_) (ih (i + 1) (by omega) (by omega))
    have := hle i h0 (by omega)
    simp only [jacquardlaw30_DiffconsIntervals.l1]
    rw [if_pos (by omega), if_pos h0, if_pos (by omega), if_pos (by omega), if_neg (by omega), wrap_id (by omega) (by omega)]

theorem arcs_loop (x1 n ii : Int) (l : List Arc) (hs : (l.length : Int) ≤ 60) (hk : (∀ i : Int, 0 ≤ i → i < l.length → 0 ≤ (rd_T28 l i).f3) → EvP (fun k => jacquardlaw30_DiffconsIntervals.l0 k x1 l.length l.length n l ii) (fun r => r = true)) :
    ∀ (d : Nat) (i : Int), 0 ≤ i → i + d = l.length → (∀ j : Int, 0 ≤ j → j < i → 0 ≤ (rd_T28 l j).f3) → EvP (fun k => jacquardlaw30_DiffconsIntervals.l0 k x1 l.length i n l ii) (fun r => r = true) := by
  intro d
  induction d with
  | zero =>
    intro i h0 hd hx
    obtain rfl : i = l.length := by omega
    exact hk hx
  | succ d ih =>
    intro i h0 hd hx
    by_cases hneg : (rd_T28 l i).f3 < 0
    · refine EvP.ret1 true (fun k => ?_) rfl
      simp only [jacquardlaw30_DiffconsIntervals.l0]
      rw [if_pos (by omega), if_pos h0, if_pos (by omega), if_pos hneg]
    · refine EvP.step (fun k => ?_) (ih (i + 1) (by omega) (by omega) (fun j h1 h2 => by
        by_cases e : j = i
        · subst e; omega
        · exact hx j h1 (by omega)))
      simp only [jacquardlaw30_DiffconsIntervals.l0]
      rw [if_pos (by omega), if_pos h0, if_pos (by omega), if_neg hneg, wrap_id (by omega) (by omega)]

theorem DiffconsIntervals : ∀ (a0_0 : Int) (l0_1 : List (S28)) (a0_2 : Int) (a1 : Int), (Lit.int .i64 a0_0).wf = true → (l0_1.length ≤ maxLen ∧ l0_1.length * 32 ≤ 140737488351232 ∧ ∀ x ∈ l0_1, ((Lit.int .i64 x.f0).wf = true ∧ (Lit.int .i64 x.f1).wf = true ∧ (Lit.int .i64 x.f2).wf = true ∧ (Lit.int .i64 x.f3).wf = true)) → (Lit.int .i64 a0_2).wf = true → (Lit.int .u8 a1).wf = true → ∃ k, jacquardlaw30_DiffconsIntervals.f k a0_0 l0_1 a0_2 a1 = some true := by
  intro n l ii more _ _ hii hmore
  have hii := wf64 hii
  have hmore := wfu8 hmore
  refine EvP.rounds (r := true) ?_
  have hj0 : EvP (fun k => jacquardlaw30_DiffconsIntervals.j0 k more true n l ii) (fun r => r = true) := by
    refine EvP.step (f := fun k => (jacquardlaw30_awake.f k).bind fun t165 => some t165) (fun k => ?_) (EvP.bind awake_ev (fun a ha => EvP.ret a (fun _ => rfl) ha))
    simp only [jacquardlaw30_DiffconsIntervals.j0]; rfl
  unfold jacquardlaw30_DiffconsIntervals.f
  refine EvP.bind awake_ev (fun a ha => ?_)
  subst ha
  simp only [if_true]
  rw [few_f]
  simp only [Option.bind_some]
  by_cases hf : nod n ≤ 20 ∧ (l.length : Int) ≤ 60
  · simp only [decide_eq_true hf, if_true]
    by_cases h0 : ii < 0
    · simp only [if_pos h0]; exact hj0
    · simp only [if_neg h0]
      by_cases h2 : ii > 200
      · simp only [decide_eq_true h2]; exact hj0
      · simp only [decide_eq_false h2]
        refine EvP.step (f := fun k => jacquardlaw30_DiffconsIntervals.l0 k more l.length 0 n l ii) (fun k => ?_) (arcs_loop more n ii l hf.2 (fun hpos => ?_) l.length 0 (by omega) (by omega) (fun j h1 h2 => by omega))
        · simp only [jacquardlaw30_DiffconsIntervals.j0]; rfl
        · have hm : Int.tmod more 56 = more % 56 := Int.tmod_eq_emod_of_nonneg hmore.1
          have hw : wrap64 (ii + (wrap64 (Int.tmod more 56))) = ii + more % 56 := by
            rw [hm, wrap_id (n := more % 56) (by omega) (by omega), wrap_id (by omega) (by omega)]
          have hnod := nod_le n
          have hfeas : ∀ p, Feas (nod n) l ii p → Feas (nod n) l (ii + more % 56) p := by
            intro p hp i h1 h2 h3
            have a1 := hp i h1 h2 h3
            have a2 := wt_mono (a := rd_T28 l i) (ii := ii) (ij := ii + more % 56) (hpos i h1 h2) (by omega)
            omega
          refine EvP.step (f := fun k => (diffcons_Earliest.f k n l ii).bind fun bt167 => ((diffcons_Earliest.f k n l (ii + more % 56)).bind fun bt173 => (if (bt167.2.length : Int) > 0 then (some ((bt167.1.length : Int) == 0)) else (if (bt173.2.length : Int) > 0 then (jacquardlaw30_DiffconsIntervals.j2 k bt167.1 bt173.1 true) else (jacquardlaw30_DiffconsIntervals.j2 k bt167.1 bt173.1 ((bt167.1.length : Int) != (bt173.1.length : Int))))))) (fun k => ?_) (EvP.bind (earliest_f (few_len hf)) (fun a ha => EvP.bind (earliest_f (few_len hf)) (fun b hb => ?_)))
          · simp only [jacquardlaw30_DiffconsIntervals.l0]
            rw [if_neg (by omega), hw]
          · rcases ha with ⟨a1, a2, a3, a4, a5⟩ | ⟨a1, a2⟩
            · rcases hb with ⟨b1, b2, b3, b4, b5⟩ | ⟨b1, b2⟩
              · have hlen : a.1.length = b.1.length := by omega
                simp only [a1, b1, List.length_nil, if_neg (show ¬ ((0 : Nat) : Int) > 0 by omega)]
                refine EvP.step (f := fun k => jacquardlaw30_DiffconsIntervals.l1 k a.1 b.1 a.1.length 0) (fun k => ?_) (less_loop a.1 b.1 hlen (by omega) (fun v h1 h2 => b5 _ (hfeas _ a4) a3 v h1 (by omega)) a.1.length 0 (by omega) (by omega))
                simp only [jacquardlaw30_DiffconsIntervals.j2]
                rw [hlen]; simp
              · exact absurd (b2.not_feas (hfeas _ a4)) id
            · have : a.2 ≠ [] := a2.1
              have hpos : (a.2.length : Int) > 0 := by have := List.length_pos_iff.2 this; omega
              simp only [if_pos hpos, a1]
              exact EvP.ret true (fun _ => rfl) rfl
  · simp only [decide_eq_false hf, Bool.false_eq_true, if_false]
    exact hj0
end Go.Proofs.Ytflefelgdcblgaa.Pure
