/- What the statements on difference constraints share beside the example: lists that are the same, refusals. No condition. -/
import Derived.Test.YtflefelgdcblgaaLaw30
import Derived.Test.YtflefelgdcblgaaRef30After
import Derived.Test.YtflefelgdcblgaaDiffCycle
import Derived.Test.YtflefelgdcblgaaQx11
import Derived.Test.YtflefelgdcblgaaQx10
namespace Go.Proofs.Ytflefelgdcblgaa.Law30
set_option linter.unusedVariables false
set_option linter.unusedSimpArgs false
open Go.RowKit Go.Proofs.YtflefelgdcblgaaW.PrintWords Go.Proofs.YtflefelgdcblgaaW.PrintMore Go.Proofs.Ytflefelgdcblgaa.Lib Go.Proofs.Ytflefelgdcblgaa.Q Go.Proofs.Ytflefelgdcblgaa.Diff
theorem same_l0 {xs ys : List Int} (hl : xs.length = ys.length) (hs : xs.length ≤ 1000000) (h : ∀ i : Int, 0 ≤ i → i < xs.length → rd xs i = rd ys i) : ∀ (d : Nat) (i : Int), 0 ≤ i → i + d = xs.length → EvP (fun k => jacquardlaw30_same.l0 k xs ys xs.length i) (fun r => r = true) := by
  intro d
  induction d with
  | zero =>
    intro i i0 hid
    refine EvP.ret1 true (fun k => ?_) rfl
    simp only [jacquardlaw30_same.l0]; rw [if_neg (by omega)]
  | succ d ih =>
    intro i i0 hid
    refine EvP.step (fun k => ?_) (ih (i + 1) (by omega) (by omega))
    simp only [jacquardlaw30_same.l0]
    rw [if_pos (by omega), if_pos i0, if_pos (by omega), if_pos (by omega), if_pos (h i i0 (by omega)), wrap_id (by omega) (by omega)]
theorem same_f {xs ys : List Int} (hl : xs.length = ys.length) (hs : xs.length ≤ 1000000) (h : ∀ i : Int, 0 ≤ i → i < xs.length → rd xs i = rd ys i) : EvP (fun k => jacquardlaw30_same.f k xs ys) (fun r => r = true) := by
  unfold jacquardlaw30_same.f
  simp only [if_pos (show (xs.length : Int) = ys.length by omega)]
  exact same_l0 hl hs h xs.length 0 (by omega) (by omega)
theorem refused_f {n ii : Int} {arcs : List Arc} {c : List Int} (hn : nod n ≤ 20) (hc : Cyc (nod n) arcs ii c) : EvP (fun k => jacquardlaw30_refused.f k n arcs ii [] c) (fun r => r = true) := by
  have hlen := hc.length_le (nod_le n).1
  unfold jacquardlaw30_refused.f
  refine EvP.bind (positive_ref (n0 := n) (arcs := arcs) (ii := ii) (c := c) (by omega)) (fun r hr => ?_)
  obtain ⟨q, hq, hp⟩ := positive_f (n0 := n) (arcs := arcs) (ii := ii) (c := c) (by omega)
  have h1 := hr.of_cyc hc
  have h2 := hp.of_cyc hc
  simp only [hq, Option.bind_some, h1.1, h2.1, List.length_nil, if_true, decide_eq_true h2.2]
  exact EvP.ret true (fun _ => rfl) rfl
theorem answer_same {n ii : Int} {arcs : List Arc} {lo : Int → Int} {a : List Int × List Int} {b : List Int × Bool} (hn : n ≤ 8192) (ha : Answer n arcs ii lo a) (hb : AnswerR n arcs ii lo b) :
    (b.2 = true ∧ a.2 = [] ∧ a.1.length = b.1.length ∧ a.1.length ≤ 1000000 ∧ ∀ i : Int, 0 ≤ i → i < a.1.length → rd a.1 i = rd b.1 i) ∨ (b.2 = false ∧ a.1 = [] ∧ Cyc n arcs ii a.2) := by
  rcases ha with ⟨a1, a2, a3, a4, a5⟩ | ⟨a1, a2⟩ <;> rcases hb with ⟨b1, b2, b3, b4, b5⟩ | ⟨b1, b2, b3⟩
  · refine Or.inl ⟨b1, a1, by omega, by omega, fun i i0 i1 => ?_⟩
    have e1 := a5 _ b4 (fun v h0 h1 => (b3 v h0 h1).1) i i0 (by omega)
    have e2 := b5 _ a4 (fun v h0 h1 => (a3 v h0 h1).1) i i0 (by omega)
    omega
  · exact absurd a4 (b3 _)
  · exact absurd b4 (fun h => a2.not_feas h)
  · exact Or.inr ⟨b1, a1, a2⟩
end Go.Proofs.Ytflefelgdcblgaa.Law30
