/- DiffconsAfter, its plain part: After returns the least solution above lower bounds, or a cycle with a positive weight. No condition. -/
import Derived.Test.YtflefelgdcblgaaLaw30b
import Derived.Test.YtflefelgdcblgaaQx13
namespace Go.Proofs.Ytflefelgdcblgaa.Pure
set_option linter.unusedVariables false
set_option linter.unusedSimpArgs false
open Go.RowKit Go.Proofs.Ytflefelgdcblgaa.Q Go.Proofs.YtflefelgdcblgaaW.PrintWords Go.Proofs.YtflefelgdcblgaaW.PrintLast Go.Proofs.YtflefelgdcblgaaW.PrintMore Go.Proofs.Ytflefelgdcblgaa.Lib Go.Proofs.Ytflefelgdcblgaa.Diff Go.Proofs.Ytflefelgdcblgaa.Law30
theorem DiffconsAfter : ∀ (a0_0 : Int) (l0_1 : List (S28)) (a0_2 : Int) (l1 : List Int), (Lit.int .i64 a0_0).wf = true → (l0_1.length ≤ maxLen ∧ l0_1.length * 32 ≤ 140737488351232 ∧ ∀ x ∈ l0_1, ((Lit.int .i64 x.f0).wf = true ∧ (Lit.int .i64 x.f1).wf = true ∧ (Lit.int .i64 x.f2).wf = true ∧ (Lit.int .i64 x.f3).wf = true)) → (Lit.int .i64 a0_2).wf = true → (l1.length ≤ maxLen ∧ l1.length * 8 ≤ 140737488351232 ∧ ∀ x ∈ l1, (Lit.int .i64 x).wf = true) → ∃ k, jacquardlaw30_DiffconsAfter.f k a0_0 l0_1 a0_2 l1 = some true := by
 intro n l ii lower _ _ _ _
 refine EvP.rounds (r := true) ?_
 have hj0 : EvP (fun k => jacquardlaw30_DiffconsAfter.j0 k lower true n l ii) (fun r => r = true) := by
  refine EvP.step (f := fun k => (jacquardlaw30_awake.f k).bind fun t165 => some t165) (fun k => ?_) (EvP.bind awake_ev (fun a ha => EvP.ret a (fun _ => rfl) ha))
  simp only [jacquardlaw30_DiffconsAfter.j0]; rfl
 unfold jacquardlaw30_DiffconsAfter.f
 refine EvP.bind awake_ev (fun a ha => ?_)
 subst ha
 simp only [if_true]
 rw [few_f]
 simp only [Option.bind_some]
 by_cases hf : nod n ≤ 20 ∧ (l.length : Int) ≤ 60
 · simp only [decide_eq_true hf, if_true]
   by_cases h2 : (lower.length : Int) > 30
   · simp only [decide_eq_true h2]; exact hj0
   · simp only [decide_eq_false h2]
     refine EvP.step (f := fun k => (diffcons_After.f k n l ii lower).bind fun bt283 => ((jacquardref30_After.f k n l ii lower).bind fun bt289 => (if bt289.2 = true then ((jacquardlaw30_same.f k bt283.1 bt289.1).bind fun t293 => (if t293 = true then (some ((bt283.2.length : Int) == 0)) else (some false))) else ((jacquardlaw30_refused.f k n l ii bt283.1 bt283.2).bind fun t294 => (some t294))))) (fun k => ?_)
      (EvP.bind (after_f (few_len hf)) (fun a ha => EvP.bind (after_ref_f hf.1 (by omega)) (fun b hb => ?_)))
     · simp only [jacquardlaw30_DiffconsAfter.j0]; rfl
     · rcases answer_same (nod_le n).2 ha hb with ⟨c1, c2, c3, c4, c5⟩ | ⟨c1, c2, c3⟩
       · simp only [c1, if_true, c2]
         refine EvP.bind (same_f c3 c4 c5) (fun t ht => ?_)
         subst ht
         exact EvP.ret true (fun _ => rfl) rfl
       · simp only [c1, Bool.false_eq_true, if_false, c2]
         exact EvP.bind (refused_f hf.1 c3) (fun t ht => EvP.ret t (fun _ => rfl) ht)
 · simp only [decide_eq_false hf, Bool.false_eq_true, if_false]
   exact hj0
end Go.Proofs.Ytflefelgdcblgaa.Pure
