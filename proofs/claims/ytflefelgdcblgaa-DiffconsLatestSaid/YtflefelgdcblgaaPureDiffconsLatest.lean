/- DiffconsLatest, its plain part: Latest returns the greatest solution below upper bounds, or a cycle with a positive weight. No condition. -/
import Derived.Test.YtflefelgdcblgaaLaw30b
import Derived.Test.YtflefelgdcblgaaDiffLatest
import Derived.Test.YtflefelgdcblgaaRef30Latest
import Derived.Test.YtflefelgdcblgaaQx19
namespace Go.Proofs.Ytflefelgdcblgaa.Pure
set_option linter.unusedVariables false
set_option linter.unusedSimpArgs false
open Go.RowKit Go.Proofs.Ytflefelgdcblgaa.Q Go.Proofs.YtflefelgdcblgaaW.PrintWords Go.Proofs.YtflefelgdcblgaaW.PrintLast Go.Proofs.YtflefelgdcblgaaW.PrintMore Go.Proofs.Ytflefelgdcblgaa.Lib Go.Proofs.Ytflefelgdcblgaa.Diff Go.Proofs.Ytflefelgdcblgaa.Law30
theorem latest_same {n ii : Int} {arcs : List Arc} {hi : Int → Int} {a : List Int × List Int} {b : List Int × Bool} (hn : n ≤ 8192) (ha : AnswerU n arcs ii hi a) (hb : AnswerL n arcs ii hi b) :
 (b.2 = true ∧ a.2 = [] ∧ a.1.length = b.1.length ∧ a.1.length ≤ 1000000 ∧ ∀ i : Int, 0 ≤ i → i < a.1.length → rd a.1 i = rd b.1 i) ∨ (b.2 = false ∧ a.1 = [] ∧ Cyc n arcs ii a.2) := by
 rcases ha with ⟨a1, a2, a3, a4, a5⟩ | ⟨a1, a2⟩ <;> rcases hb with ⟨b1, b2, b3, b4, b5⟩ | ⟨b1, b2, b3⟩
 · refine Or.inl ⟨b1, a1, by omega, by omega, fun i i0 i1 => ?_⟩
   have e1 := a5 _ b4 (fun v h0 h1 => (b3 v h0 h1).1) i i0 (by omega)
   have e2 := b5 _ a4 (fun v h0 h1 => (a3 v h0 h1).1) i i0 (by omega)
   omega
 · exact absurd a4 (b3 _)
 · exact absurd b4 (fun h => a2.not_feas h)
 · exact Or.inr ⟨b1, a1, a2⟩
theorem DiffconsLatest : ∀ (a0_0 : Int) (l0_1 : List (S28)) (a0_2 : Int) (l1 : List Int), (Lit.int .i64 a0_0).wf = true → (l0_1.length ≤ maxLen ∧ l0_1.length * 32 ≤ 140737488351232 ∧ ∀ x ∈ l0_1, ((Lit.int .i64 x.f0).wf = true ∧ (Lit.int .i64 x.f1).wf = true ∧ (Lit.int .i64 x.f2).wf = true ∧ (Lit.int .i64 x.f3).wf = true)) → (Lit.int .i64 a0_2).wf = true → (l1.length ≤ maxLen ∧ l1.length * 8 ≤ 140737488351232 ∧ ∀ x ∈ l1, (Lit.int .i64 x).wf = true) → ∃ k, jacquardlaw30_DiffconsLatest.f k a0_0 l0_1 a0_2 l1 = some true := by
 intro n l ii upper _ _ _ _
 refine EvP.rounds (r := true) ?_
 have hj0 : EvP (fun k => jacquardlaw30_DiffconsLatest.j0 k upper true n l ii) (fun r => r = true) := by
  refine EvP.step (f := fun k => (jacquardlaw30_awake.f k).bind fun t165 => some t165) (fun k => ?_) (EvP.bind awake_ev (fun a ha => EvP.ret a (fun _ => rfl) ha))
  simp only [jacquardlaw30_DiffconsLatest.j0]; rfl
 unfold jacquardlaw30_DiffconsLatest.f
 refine EvP.bind awake_ev (fun a ha => ?_)
 subst ha
 simp only [if_true]
 rw [few_f]
 simp only [Option.bind_some]
 by_cases hf : nod n ≤ 20 ∧ (l.length : Int) ≤ 60
 · simp only [decide_eq_true hf, if_true]
   by_cases h2 : (upper.length : Int) > 30
   · simp only [decide_eq_true h2]; exact hj0
   · simp only [decide_eq_false h2]
     refine EvP.step (f := fun k => (diffcons_Latest.f k n l ii upper).bind fun bt283 => ((jacquardref30_Latest.f k n l ii upper).bind fun bt289 => (if bt289.2 = true then ((jacquardlaw30_same.f k bt283.1 bt289.1).bind fun t293 => (if t293 = true then (some ((bt283.2.length : Int) == 0)) else (some false))) else ((jacquardlaw30_refused.f k n l ii bt283.1 bt283.2).bind fun t294 => (some t294))))) (fun k => ?_)
      (EvP.bind (latest_answer (few_len hf) (by omega)) (fun a ha => EvP.bind (latest_ref_f hf.1 (by omega)) (fun b hb => ?_)))
     · simp only [jacquardlaw30_DiffconsLatest.j0]; rfl
     · rcases latest_same (nod_le n).2 ha hb with ⟨c1, c2, c3, c4, c5⟩ | ⟨c1, c2, c3⟩
       · simp only [c1, if_true, c2]
         refine EvP.bind (same_f c3 c4 c5) (fun t ht => ?_)
         subst ht
         exact EvP.ret true (fun _ => rfl) rfl
       · simp only [c1, Bool.false_eq_true, if_false, c2]
         exact EvP.bind (refused_f hf.1 c3) (fun t ht => EvP.ret t (fun _ => rfl) ht)
 · simp only [decide_eq_false hf, Bool.false_eq_true, if_false]
   exact hj0
end Go.Proofs.Ytflefelgdcblgaa.Pure
