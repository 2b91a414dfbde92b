/- DiffconsTurns, its plain part: Latest is After of the turned system with negative times. No condition. -/
import Derived.Test.YtflefelgdcblgaaLaw30
import Derived.Test.YtflefelgdcblgaaDiffLatest
import Derived.Test.YtflefelgdcblgaaQx11
namespace Go.Proofs.Ytflefelgdcblgaa.Pure
open Go.RowKit Go.Proofs.Ytflefelgdcblgaa.Q Go.Proofs.YtflefelgdcblgaaW.PrintWords Go.Proofs.YtflefelgdcblgaaW.PrintLast Go.Proofs.YtflefelgdcblgaaW.PrintMore Go.Proofs.Ytflefelgdcblgaa.Lib Go.Proofs.Ytflefelgdcblgaa.Diff Go.Proofs.Ytflefelgdcblgaa.Law30

theorem turns_l2 (ys : List Int) (hs : ys.length ≤ 8192) : ∀ (d : Nat) (i : Int), 0 ≤ i → i + d = ys.length →
    EvP (fun k => jacquardlaw30_DiffconsTurns.l2 k (ys.map fun x => wrap64 (-x)) ys ys.length i) (fun r => r = true) := by
  intro d
  induction d with
  | zero =>
    intro i h0 hd
    refine EvP.ret1 true (fun k => ?_) rfl
    simp only [jacquardlaw30_DiffconsTurns.l2]; rw [if_neg (by omega)]
  | succ d ih =>
    intro i h0 hd
    refine EvP.step (fun k => ?_) (ih (i + 1) (by omega) (by omega))
    simp only [jacquardlaw30_DiffconsTurns.l2]
    rw [if_pos (by omega), if_pos h0, if_pos (by rw [List.length_map]; omega), if_pos (by omega), if_pos (rd_map (f := fun x => wrap64 (-x)) h0 (by omega)), wrap_id (n := i + 1) (by omega) (by omega)]
theorem bound_ref {l : List Int} {v : Int} (h : 0 ≤ v) : jacquardref30_Bound.f l v = some (bnd l v) := by
  unfold jacquardref30_Bound.f bnd
  by_cases h1 : v ≥ (l.length : Int)
  · rw [if_pos h1, if_pos h1]
  · rw [if_neg h1, if_neg h1, if_pos h, if_pos (by omega)]
theorem turns_l1 (n ii : Int) (l t : List Arc) (upper : List Int) (hu : upper.length ≤ 30) (hk : EvP (fun k => jacquardlaw30_DiffconsTurns.l1 k upper t (lower0 upper.length upper) upper.length upper.length n l ii) (fun r => r = true)) :
    ∀ (d : Nat) (i : Nat), i + d = upper.length → EvP (fun k => jacquardlaw30_DiffconsTurns.l1 k upper t ((List.range i).map fun v : Nat => -(bnd upper v)) upper.length i n l ii) (fun r => r = true) := by
  intro d
  induction d with
  | zero =>
    intro i hd
    obtain rfl : i = upper.length := by omega
    exact hk
  | succ d ih =>
    intro i hd
    have hb := bnd_le upper i
    refine EvP.step (fun k => ?_) (ih (i + 1) (by omega))
    simp only [jacquardlaw30_DiffconsTurns.l1]
    rw [if_pos (by omega), bound_ref (by omega)]
    simp only [Option.bind_some]
    rw [if_pos (by simp; omega), wrap_id (n := (i : Int) + 1) (by omega) (by omega), wrap_id (by omega) (by omega), List.range_succ, List.map_append]
    rfl
theorem turns_l0 (n ii : Int) (l : List Arc) (upper : List Int) (hl : l.length ≤ 60) (hk : EvP (fun k => jacquardlaw30_DiffconsTurns.l0 k upper (l.map turn) l.length l.length n l ii) (fun r => r = true)) :
    ∀ (d : Nat) (i : Nat), i + d = l.length → EvP (fun k => jacquardlaw30_DiffconsTurns.l0 k upper ((l.take i).map turn) l.length i n l ii) (fun r => r = true) := by
  intro d
  induction d with
  | zero =>
    intro i hd
    obtain rfl : i = l.length := by omega
    rw [List.take_length]
    exact hk
  | succ d ih =>
    intro i hd
    refine EvP.step (fun k => ?_) (ih (i + 1) (by omega))
    simp only [jacquardlaw30_DiffconsTurns.l0]
    rw [if_pos (by omega), if_pos (by omega), if_pos (by omega), if_pos (by simp; omega), wrap_id (n := (i : Int) + 1) (by omega) (by omega), List.take_succ_eq_append_getElem (by omega), List.map_append]
    have : rd_T28 l (i : Int) = l[i] := by unfold rd_T28; simp [List.getD, show i < l.length by omega]
    rw [this]
    rfl

theorem DiffconsTurns : ∀ (a0_0 : Int) (l0_1 : List (S28)) (a0_2 : Int) (l1 : List Int), (Lit.int .i64 a0_0).wf = true → (l0_1.length ≤ maxLen ∧ l0_1.length * 32 ≤ 140737488351232 ∧ ∀ x ∈ l0_1, ((Lit.int .i64 x.f0).wf = true ∧ (Lit.int .i64 x.f1).wf = true ∧ (Lit.int .i64 x.f2).wf = true ∧ (Lit.int .i64 x.f3).wf = true)) → (Lit.int .i64 a0_2).wf = true → (l1.length ≤ maxLen ∧ l1.length * 8 ≤ 140737488351232 ∧ ∀ x ∈ l1, (Lit.int .i64 x).wf = true) → ∃ k, jacquardlaw30_DiffconsTurns.f k a0_0 l0_1 a0_2 l1 = some true := by
  intro n l ii upper _ _ _ _
  refine EvP.rounds (r := true) ?_
  have hj0 : EvP (fun k => jacquardlaw30_DiffconsTurns.j0 k upper true n l ii) (fun r => r = true) := by
    refine EvP.step (f := fun k => (jacquardlaw30_awake.f k).bind fun t165 => some t165) (fun k => ?_) (EvP.bind awake_ev (fun a ha => EvP.ret a (fun _ => rfl) ha))
    simp only [jacquardlaw30_DiffconsTurns.j0]; rfl
  unfold jacquardlaw30_DiffconsTurns.f
  refine EvP.bind awake_ev (fun a ha => ?_)
  subst ha
  simp only [if_true]
  rw [few_f]
  simp only [Option.bind_some]
  by_cases hf : nod n ≤ 20 ∧ (l.length : Int) ≤ 60
  · simp only [decide_eq_true hf, if_true]
    by_cases h2 : (upper.length : Int) > 30
    · simp only [decide_eq_true h2]; exact hj0
    · simp only [decide_eq_false h2]
      have hnod := nod_le n
      refine EvP.step (f := fun k => jacquardlaw30_DiffconsTurns.l0 k upper [] l.length 0 n l ii) (fun k => ?_) (turns_l0 n ii l upper (by omega) ?_ l.length 0 (by omega))
      · simp only [jacquardlaw30_DiffconsTurns.j0]; rfl
      refine EvP.step (f := fun k => jacquardlaw30_DiffconsTurns.l1 k upper (l.map turn) [] upper.length 0 n l ii) (fun k => ?_) (turns_l1 n ii l (l.map turn) upper (by omega) ?_ upper.length 0 (by omega))
      · simp only [jacquardlaw30_DiffconsTurns.l0]; rw [if_neg (by omega)]
      have hlen : (nod (nod n) + 2) * (l.map turn).length ≤ 10000000000 := by rw [nod_nod, List.length_map]; exact few_len hf
      obtain ⟨r, ha, h1, h2⟩ := after_same (n0 := nod n) (n1 := n) (ii := ii) (arcs := l.map turn) (lower := lower0 (nod n) upper) (lower' := lower0 upper.length upper) (nod_nod n).symm (fun v a b => by
        rw [nod_nod] at b
        rw [bnd_lower0 a b]
        by_cases hv : v < upper.length
        · exact bnd_lower0 a hv
        · have e1 : bnd (lower0 upper.length upper) v = 0 := by unfold bnd; rw [if_pos (by simp [lower0]; omega)]
          have e2 : bnd upper v = 0 := by unfold bnd; rw [if_pos (by omega)]
          rw [e1, e2]; rfl) hlen
      rw [nod_nod] at ha
      have hq := answer_len (by omega) (by omega) ha
      have hL := latest_of (n0 := n) (upper := upper) (l := l) (by omega) h1 (fun a e => by rw [e]; exact hq)
      refine EvP.step (f := fun k => (diffcons_Latest.f k n l ii upper).bind fun bt326 => ((diffcons_After.f k n (l.map turn) ii (lower0 upper.length upper)).bind fun bt332 => (if (bt326.2.length : Int) > 0 then (if (bt332.2.length : Int) > 0 then (jacquardlaw30_DiffconsTurns.j3 k bt326.1 bt332.1 ((bt326.1.length : Int) != (bt332.1.length : Int))) else (jacquardlaw30_DiffconsTurns.j3 k bt326.1 bt332.1 true)) else (if (bt332.2.length : Int) > 0 then (jacquardlaw30_DiffconsTurns.j3 k bt326.1 bt332.1 true) else (jacquardlaw30_DiffconsTurns.j3 k bt326.1 bt332.1 ((bt326.1.length : Int) != (bt332.1.length : Int))))))) (fun k => ?_) (EvP.bind hL (fun a ha => EvP.bind h2 (fun b hb => ?_)))
      · simp only [jacquardlaw30_DiffconsTurns.l1]; rw [if_neg (by omega)]
      · obtain ⟨a', e', e2⟩ := ha
        rw [e'] at e2
        subst e2; subst hb
        have hend : EvP (fun k => jacquardlaw30_DiffconsTurns.j3 k (b.1.map fun x => wrap64 (-x)) b.1 false) (fun r => r = true) := by
          refine EvP.step (f := fun k => jacquardlaw30_DiffconsTurns.l2 k (b.1.map fun x => wrap64 (-x)) b.1 b.1.length 0) (fun k => ?_) (turns_l2 b.1 hq.1 b.1.length 0 (by omega) (by omega))
          simp only [jacquardlaw30_DiffconsTurns.j3, List.length_map]; rfl
        simp only [negrev, List.length_reverse, List.length_map, bne_self_eq_false]
        by_cases hc : (b.2.length : Int) > 0
        · simp only [if_pos hc]; exact hend
        · simp only [if_neg hc]; exact hend
  · simp only [decide_eq_false hf, Bool.false_eq_true, if_false]
    exact hj0
end Go.Proofs.Ytflefelgdcblgaa.Pure
