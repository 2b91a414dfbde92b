/- DiffconsHolds, its plain part: the start times satisfy all arcs, and those of another solution with greater bounds are not less. No condition. -/
import Derived.Test.YtflefelgdcblgaaLaw30b
import Derived.Test.YtflefelgdcblgaaDiffVio
import Derived.Test.YtflefelgdcblgaaQx17
namespace Go.Proofs.Ytflefelgdcblgaa.Pure
set_option linter.unusedVariables false
set_option linter.unusedSimpArgs false
open Go.RowKit Go.Proofs.Ytflefelgdcblgaa.Q Go.Proofs.YtflefelgdcblgaaW.PrintWords Go.Proofs.YtflefelgdcblgaaW.PrintLast Go.Proofs.YtflefelgdcblgaaW.PrintMore Go.Proofs.Ytflefelgdcblgaa.Lib Go.Proofs.Ytflefelgdcblgaa.Diff Go.Proofs.Ytflefelgdcblgaa.Law30
def more (n : Int) (la lb : List Int) : List Int := (List.range n.toNat).map fun v : Nat => mx (bnd la v) (bnd lb v)
theorem bnd_more {n : Int} {la lb : List Int} {v : Int} (h0 : 0 ≤ v) (h1 : v < n) : bnd (more n la lb) v = mx (bnd la v) (bnd lb v) := by
 have h2 := bnd_le la v
 have h3 := bnd_le lb v
 have hl : ((more n la lb).length : Int) = n := by simp [more]; omega
 have e : rd (more n la lb) v = mx (bnd la v) (bnd lb v) := by rw [more, rd_range (f := fun v => mx (bnd la v) (bnd lb v)) h0 (by omega)]
 conv => lhs; unfold bnd
 rw [if_neg (by omega), e]
 unfold mn mx; omega
theorem holds_l1 {la : List Int} {n : Int} {xs ys : List Int} (hn : n ≤ 8192) (hx : (xs.length : Int) = n) (hy : (ys.length : Int) = n) (h : ∀ v, 0 ≤ v → v < n → bnd la v ≤ rd xs v ∧ rd xs v ≤ rd ys v) : ∀ (d : Nat) (i : Int), 0 ≤ i → i + d = n → EvP (fun k => jacquardlaw30_DiffconsHolds.l1 k la xs ys n i) (fun r => r = true) := by
 intro d
 induction d with
 | zero =>
  intro i i0 hid
  refine EvP.ret1 true (fun k => ?_) rfl
  simp only [jacquardlaw30_DiffconsHolds.l1]; rw [if_neg (by omega)]
 | succ d ih =>
  intro i i0 hid
  have := h i i0 (by omega)
  refine EvP.step (fun k => ?_) (ih (i + 1) (by omega) (by omega))
  simp only [jacquardlaw30_DiffconsHolds.l1]
  rw [if_pos (by omega), if_pos i0, if_pos (by omega), bound_ref i0]
  simp only [Option.bind_some]
  rw [if_neg (by omega), if_pos (by omega), if_neg (by omega), wrap_id (by omega) (by omega)]
theorem holds_l0 {la lb xs : List Int} {n0 n ii : Int} {l : List Arc} (hn0 : 0 ≤ n) (hn : n ≤ 8192) (hk : EvP (fun k => jacquardlaw30_DiffconsHolds.l0 k la lb xs n (more n la lb) n n n0 l ii) (fun r => r = true)) : ∀ (d : Nat) (i : Nat), (i : Int) + d = n →
 EvP (fun k => jacquardlaw30_DiffconsHolds.l0 k la lb xs n ((List.range i).map fun v : Nat => mx (bnd la v) (bnd lb v)) n i n0 l ii) (fun r => r = true) := by
 intro d
 induction d with
 | zero =>
  intro i hid
  have e : i = n.toNat := by omega
  subst e
  rw [show ((n.toNat : Nat) : Int) = n by omega]
  exact hk
 | succ d ih =>
  intro i hid
  refine EvP.step (fun k => ?_) (ih (i + 1) (by omega))
  simp only [jacquardlaw30_DiffconsHolds.l0]
  rw [if_pos (by omega), bound_ref (by omega), bound_ref (by omega)]
  simp only [Option.bind_some]
  rw [if_pos (by simp; omega), wrap_id (n := (i : Int) + 1) (by omega) (by omega), List.range_succ, List.map_append]
  rfl
theorem DiffconsHolds : ∀ (a0_0 : Int) (l0_1 : List (S28)) (a0_2 : Int) (l1 : List Int) (l2 : List Int), (Lit.int .i64 a0_0).wf = true → (l0_1.length ≤ maxLen ∧ l0_1.length * 32 ≤ 140737488351232 ∧ ∀ x ∈ l0_1, ((Lit.int .i64 x.f0).wf = true ∧ (Lit.int .i64 x.f1).wf = true ∧ (Lit.int .i64 x.f2).wf = true ∧ (Lit.int .i64 x.f3).wf = true)) → (Lit.int .i64 a0_2).wf = true → (l1.length ≤ maxLen ∧ l1.length * 8 ≤ 140737488351232 ∧ ∀ x ∈ l1, (Lit.int .i64 x).wf = true) → (l2.length ≤ maxLen ∧ l2.length * 8 ≤ 140737488351232 ∧ ∀ x ∈ l2, (Lit.int .i64 x).wf = true) → ∃ k, jacquardlaw30_DiffconsHolds.f k a0_0 l0_1 a0_2 l1 l2 = some true := by
 intro n l ii la lb _ _ _ _ _
 refine EvP.rounds (r := true) ?_
 have hj0 : EvP (fun k => jacquardlaw30_DiffconsHolds.j0 k la lb true n l ii) (fun r => r = true) := by
  refine EvP.step (f := fun k => (jacquardlaw30_awake.f k).bind fun t165 => some t165) (fun k => ?_) (EvP.bind awake_ev (fun a ha => EvP.ret a (fun _ => rfl) ha))
  simp only [jacquardlaw30_DiffconsHolds.j0]; rfl
 unfold jacquardlaw30_DiffconsHolds.f
 refine EvP.bind awake_ev (fun a ha => ?_)
 subst ha
 simp only [if_true]
 rw [few_f]
 simp only [Option.bind_some]
 by_cases hf : nod n ≤ 20 ∧ (l.length : Int) ≤ 60
 · simp only [decide_eq_true hf, if_true]
   by_cases h1 : (la.length : Int) > 30
   · simp only [if_pos h1]; exact hj0
   · simp only [if_neg h1]
     by_cases h2 : (lb.length : Int) > 30
     · simp only [decide_eq_true h2]; exact hj0
     · simp only [decide_eq_false h2]
       have hnod := nod_le n
       refine EvP.step (f := fun k => (diffcons_After.f k n l ii la).bind fun bt347 => (if (bt347.2.length : Int) > 0 then (some ((bt347.1.length : Int) == 0)) else (if (bt347.1.length : Int) = nod n then ((diffcons_Violated.f n l ii bt347.1).bind fun t354 => (jacquardlaw30_DiffconsHolds.j1 k la lb bt347.1 (nod n) (t354 != (-1)) n l ii)) else (jacquardlaw30_DiffconsHolds.j1 k la lb bt347.1 (nod n) true n l ii)))) (fun k => ?_)
        (EvP.bind (after_f (few_len hf)) (fun a ha => ?_))
       · simp only [jacquardlaw30_DiffconsHolds.j0, Diff.nodes_ref, Option.bind_some]; rfl
       · rcases ha with ⟨a1, a2, a3, a4, a5⟩ | ⟨a1, a2⟩
         · obtain ⟨v, hv, hvio⟩ := violated_f (n0 := n) (arcs := l) (ii := ii) (l := a.1) (by omega)
           have htm : ∀ w, 0 ≤ w → w < nod n → tm a.1 w = rd a.1 w := fun w w0 w1 => by
            have b1 := (a3 w w0 w1).1
            have b2 := bnd_le la w
            have b3 := (a3 w w0 w1).2
            have b4 : (nod n + 2) * (l.length : Int) ≤ 22 * 60 := Int.mul_le_mul (by omega) hf.2 (by omega) (by omega)
            unfold tm
            rw [if_neg (by omega)]
            unfold mn mx; omega
           have ev : v = -1 := by
            rcases hvio with ⟨e1, _⟩ | ⟨e1, e2, e3, e4, e5⟩
            · exact e1
            · have := a4 v e1 e2 e3
              rw [htm _ e3.1 e3.2.1, htm _ e3.2.2.1 e3.2.2.2] at e4
              omega
           simp only [a1, List.length_nil, if_neg (show ¬ ((0 : Nat) : Int) > 0 by omega), if_pos a2, hv, ev, Option.bind_some, bne_self_eq_false]
           refine EvP.step (f := fun k => jacquardlaw30_DiffconsHolds.l0 k la lb a.1 (nod n) [] (nod n) ((0 : Nat) : Int) n l ii) (fun k => ?_) (holds_l0 hnod.1 hnod.2 ?_ (nod n).toNat 0 (by omega))
           · simp only [jacquardlaw30_DiffconsHolds.j1]; rfl
           · refine EvP.step (f := fun k => (diffcons_After.f k n l ii (more (nod n) la lb)).bind fun bt360 => (if (bt360.1.length : Int) = nod n then (jacquardlaw30_DiffconsHolds.l1 k la a.1 bt360.1 (nod n) 0) else (some false))) (fun k => ?_) (EvP.bind (after_f (few_len hf)) (fun b hb => ?_))
             · simp only [jacquardlaw30_DiffconsHolds.l0]; rw [if_neg (by omega)]
             · rcases hb with ⟨b1, b2, b3, b4, b5⟩ | ⟨b1, b2⟩
               · simp only [if_pos b2]
                 refine holds_l1 hnod.2 a2 b2 (fun w w0 w1 => ⟨(a3 w w0 w1).1, a5 _ b4 (fun x x0 x1 => ?_) w w0 w1⟩) (nod n).toNat 0 (by omega) (by omega)
                 have := (b3 x x0 x1).1
                 rw [bnd_more x0 x1] at this
                 unfold mx at this; split at this <;> omega
               · exact absurd a4 (fun h => b2.not_feas h)
         · have hne : a.2 ≠ [] := a2.1
           have hpos : (a.2.length : Int) > 0 := by have := List.length_pos_iff.2 hne; omega
           simp only [if_pos hpos, a1]
           exact EvP.ret true (fun _ => rfl) rfl
 · simp only [decide_eq_false hf, Bool.false_eq_true, if_false]
   exact hj0
end Go.Proofs.Ytflefelgdcblgaa.Pure
