/- DiffconsChecks, its plain part: Weight, Positive and Violated are as specified for any arcs, cycles and start times. No condition. -/
import Derived.Test.YtflefelgdcblgaaLaw30b
import Derived.Test.YtflefelgdcblgaaDiffVio
import Derived.Test.YtflefelgdcblgaaQx22
namespace Go.Proofs.Ytflefelgdcblgaa.Pure
set_option linter.unusedVariables false
set_option linter.unusedSimpArgs false
open Go.RowKit Go.Proofs.Ytflefelgdcblgaa.Q Go.Proofs.YtflefelgdcblgaaW.PrintWords Go.Proofs.YtflefelgdcblgaaW.PrintLast Go.Proofs.YtflefelgdcblgaaW.PrintMore Go.Proofs.Ytflefelgdcblgaa.Lib Go.Proofs.Ytflefelgdcblgaa.Diff Go.Proofs.Ytflefelgdcblgaa.Law30
theorem checks_l0 (la lb : List Int) (n ii : Int) (l : List Arc) (hl : l.length ≤ 60) (hla : la.length ≤ 30) : ∀ (d : Nat) (i : Int), 0 ≤ i → i + d = l.length → EvP (fun k => jacquardlaw30_DiffconsChecks.l0 k la lb l.length i n l ii) (fun r => r = true) := by
 intro d
 induction d with
 | zero =>
  intro i i0 hid
  obtain ⟨q, hq, hp⟩ := positive_f (n0 := n) (arcs := l) (ii := ii) (c := la) (by omega)
  obtain ⟨v, hv, hvio⟩ := violated_f (n0 := n) (arcs := l) (ii := ii) (l := lb) (by omega)
  refine EvP.step (f := fun k => (jacquardref30_Positive.f k n l ii la).bind fun bt418 => (if q.1 = bt418.1 then (if (q.2 == bt418.2) = true then ((jacquardref30_Violated.f k n l ii lb).bind fun t421 => (some (v == t421))) else (some false)) else (some false))) (fun k => ?_)
   (EvP.bind (positive_ref (n0 := n) (arcs := l) (ii := ii) (c := la) (by omega)) (fun r hr => ?_))
  · simp only [jacquardlaw30_DiffconsChecks.l0]
    rw [if_neg (by omega), hq, hv]
    simp only [Option.bind_some]
  · have e := hp.unique hr
    subst e
    simp only [if_true, beq_self_eq_true]
    refine EvP.bind (violated_ref (n0 := n) (arcs := l) (ii := ii) (l := lb) (by omega)) (fun x hx => ?_)
    have e := hvio.unique hx
    subst e
    exact EvP.ret true (fun _ => by simp) rfl
 | succ d ih =>
  intro i i0 hid
  refine EvP.step (fun k => ?_) (ih (i + 1) (by omega) (by omega))
  simp only [jacquardlaw30_DiffconsChecks.l0]
  rw [if_pos (by omega), if_pos i0, if_pos (by omega), weight_f, weight_ref]
  simp only [Option.bind_some, if_true]
  rw [wrap_id (by omega) (by omega)]
theorem DiffconsChecks : ∀ (a0_0 : Int) (l0_1 : List (S28)) (a0_2 : Int) (l1 : List Int) (l2 : List Int), (Lit.int .i64 a0_0).wf = true → (l0_1.length ≤ maxLen ∧ l0_1.length * 32 ≤ 140737488351232 ∧ ∀ x ∈ l0_1, ((Lit.int .i64 x.f0).wf = true ∧ (Lit.int .i64 x.f1).wf = true ∧ (Lit.int .i64 x.f2).wf = true ∧ (Lit.int .i64 x.f3).wf = true)) → (Lit.int .i64 a0_2).wf = true → (l1.length ≤ maxLen ∧ l1.length * 8 ≤ 140737488351232 ∧ ∀ x ∈ l1, (Lit.int .i64 x).wf = true) → (l2.length ≤ maxLen ∧ l2.length * 8 ≤ 140737488351232 ∧ ∀ x ∈ l2, (Lit.int .i64 x).wf = true) → ∃ k, jacquardlaw30_DiffconsChecks.f k a0_0 l0_1 a0_2 l1 l2 = some true := by
 intro n l ii la lb _ _ _ _ _
 refine EvP.rounds (r := true) ?_
 have hj0 : EvP (fun k => jacquardlaw30_DiffconsChecks.j0 k la lb true n l ii) (fun r => r = true) := by
  refine EvP.step (f := fun k => (jacquardlaw30_awake.f k).bind fun t165 => some t165) (fun k => ?_) (EvP.bind awake_ev (fun a ha => EvP.ret a (fun _ => rfl) ha))
  simp only [jacquardlaw30_DiffconsChecks.j0]; rfl
 unfold jacquardlaw30_DiffconsChecks.f
 refine EvP.bind awake_ev (fun a ha => ?_)
 subst ha
 simp only [if_true]
 rw [few_f]
 simp only [Option.bind_some]
 by_cases hf : nod n ≤ 20 ∧ (l.length : Int) ≤ 60
 · simp only [decide_eq_true hf, if_true]
   by_cases h1 : (la.length : Int) > 30
   · simp only [if_pos h1]; exact hj0
   · simp only [if_neg h1]
     by_cases h2 : (lb.length : Int) > 30
     · simp only [decide_eq_true h2]; exact hj0
     · simp only [decide_eq_false h2]
       refine EvP.step (f := fun k => jacquardlaw30_DiffconsChecks.l0 k la lb l.length 0 n l ii) (fun k => ?_) (checks_l0 la lb n ii l (by omega) (by omega) l.length 0 (by omega) (by omega))
       simp only [jacquardlaw30_DiffconsChecks.j0]; rfl
 · simp only [decide_eq_false hf, Bool.false_eq_true, if_false]
   exact hj0
end Go.Proofs.Ytflefelgdcblgaa.Pure
