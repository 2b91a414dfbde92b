/- DiffconsSound, its plain part: a system whose arcs some times satisfy has no cycle with a positive weight. No condition. -/
import Derived.Test.YtflefelgdcblgaaLaw30b
import Derived.Test.YtflefelgdcblgaaDiffVio
import Derived.Test.YtflefelgdcblgaaQx23
namespace Go.Proofs.Ytflefelgdcblgaa.Pure
set_option linter.unusedVariables false
set_option linter.unusedSimpArgs false
open Go.RowKit Go.Proofs.Ytflefelgdcblgaa.Q Go.Proofs.YtflefelgdcblgaaW.PrintWords Go.Proofs.YtflefelgdcblgaaW.PrintLast Go.Proofs.YtflefelgdcblgaaW.PrintMore Go.Proofs.Ytflefelgdcblgaa.Lib Go.Proofs.Ytflefelgdcblgaa.Diff Go.Proofs.Ytflefelgdcblgaa.Law30
theorem DiffconsSound : ∀ (a0_0 : Int) (l0_1 : List (S28)) (a0_2 : Int) (l1 : List Int) (l2 : List Int), (Lit.int .i64 a0_0).wf = true → (l0_1.length ≤ maxLen ∧ l0_1.length * 32 ≤ 140737488351232 ∧ ∀ x ∈ l0_1, ((Lit.int .i64 x.f0).wf = true ∧ (Lit.int .i64 x.f1).wf = true ∧ (Lit.int .i64 x.f2).wf = true ∧ (Lit.int .i64 x.f3).wf = true)) → (Lit.int .i64 a0_2).wf = true → (l1.length ≤ maxLen ∧ l1.length * 8 ≤ 140737488351232 ∧ ∀ x ∈ l1, (Lit.int .i64 x).wf = true) → (l2.length ≤ maxLen ∧ l2.length * 8 ≤ 140737488351232 ∧ ∀ x ∈ l2, (Lit.int .i64 x).wf = true) → ∃ k, jacquardlaw30_DiffconsSound.f k a0_0 l0_1 a0_2 l1 l2 = some true := by
 intro n l ii la lb _ _ _ _ _
 refine EvP.rounds (r := true) ?_
 have hj0 : EvP (fun k => jacquardlaw30_DiffconsSound.j0 k la lb true n l ii) (fun r => r = true) := by
  refine EvP.step (f := fun k => (jacquardlaw30_awake.f k).bind fun t165 => some t165) (fun k => ?_) (EvP.bind awake_ev (fun a ha => EvP.ret a (fun _ => rfl) ha))
  simp only [jacquardlaw30_DiffconsSound.j0]; rfl
 unfold jacquardlaw30_DiffconsSound.f
 refine EvP.bind awake_ev (fun a ha => ?_)
 subst ha
 simp only [if_true]
 rw [few_f]
 simp only [Option.bind_some]
 by_cases hf : nod n ≤ 20 ∧ (l.length : Int) ≤ 60
 · simp only [decide_eq_true hf, if_true]
   by_cases h1 : (lb.length : Int) > 30
   · simp only [if_pos h1]; exact hj0
   · simp only [if_neg h1]
     by_cases h2 : (la.length : Int) > 30
     · simp only [decide_eq_true h2]; exact hj0
     · simp only [decide_eq_false h2]
       obtain ⟨q, hq, hp⟩ := positive_f (n0 := n) (arcs := l) (ii := ii) (c := lb) (by omega)
       obtain ⟨v, hv, hvio⟩ := violated_f (n0 := n) (arcs := l) (ii := ii) (l := la) (by omega)
       refine EvP.ret1 true (fun k => ?_) rfl
       simp only [jacquardlaw30_DiffconsSound.j0, hq, hv, Option.bind_some, Bool.false_eq_true, if_false]
       by_cases ht : q.2 = true
       · rw [if_pos ht]
         rcases hvio with ⟨e1, e2⟩ | ⟨e1, _⟩
         · exact absurd e2 (fun h => (hp.cyc ht).not_feas h)
         · rw [decide_eq_true e1]
       · rw [if_neg ht]
 · simp only [decide_eq_false hf, Bool.false_eq_true, if_false]
   exact hj0
end Go.Proofs.Ytflefelgdcblgaa.Pure
