/- Chapter 38: ColorProper. -/
import Derived.Test.YtihkfliabchcmaaProper
set_option linter.unusedVariables false
set_option linter.unusedSimpArgs false
namespace Go.Proofs.YtihkfliabchcmaaV
open Go Go.Vm

theorem Proper_ref (l : List Span) (ii : Int) (cs : List Int) (hl : l.length < 4611686018427387904) : EvP (fun k => jacquardref38_Proper.f k l ii cs) (PROPER l (iv ii) cs) := by
  simp only [jacquardref38_Proper.f]
  by_cases hlen : (cs.length : Int) = (l.length : Int)
  · simp only [hlen, decide_true, Bool.not_true, cond_false]
    have hlen' : cs.length = l.length := by omega
    have pass : ∀ i, i < l.length → ∀ j, j < i → (rd cs (i : Int) = rd cs (j : Int) → ¬ OVP (rd l (i : Int)) (rd l (j : Int)) (iv ii)) → ∀ b, Ev (fun k => jacquardref38_Proper.c9 k l ii cs (i : Int) (l.length : Int) (i : Int) (i : Int) ((j + 1 : Nat) : Int)) b →
        Ev (fun k => jacquardref38_Proper.c9 k l ii cs (i : Int) (l.length : Int) (i : Int) (i : Int) (j : Int)) b := fun i hi j hj hp b hb => by
      obtain ⟨r, h1, h2⟩ := Overlap_ref (rd l (j : Int)) (rd l (i : Int)) ii
      have hg : Ev (fun k => bif decide (rd cs (j : Int) = rd cs (i : Int)) then (jacquardref38_Overlap.f k (rd l (j : Int)) (rd l (i : Int)) ii).bind fun y => bif y then some false else jacquardref38_Proper.c9 k l ii cs (i : Int) (l.length : Int) (i : Int) (i : Int) ((j + 1 : Nat) : Int)
          else jacquardref38_Proper.c9 k l ii cs (i : Int) (l.length : Int) (i : Int) (i : Int) ((j + 1 : Nat) : Int)) b := by
        by_cases he : rd cs (j : Int) = rd cs (i : Int)
        · have hr : r = false := by
            cases r
            · rfl
            · exact absurd ((OVP_comm _ _ _).1 (h2.1 rfl)) (hp he.symm)
          subst hr
          simp only [he, decide_true, cond_true]
          exact Ev.bind h1 hb
        · simp only [he, decide_false, cond_false]
          exact hb
      refine hg.step fun k => ?_
      show jacquardref38_Proper.c9 (k + 1) l ii cs (i : Int) (l.length : Int) (i : Int) (i : Int) (j : Int) = _
      conv => lhs; unfold jacquardref38_Proper.c9
      rw [decide_eq_true (show (j : Int) < i by omega), cond_true, if_pos (by omega), if_pos (by omega), if_pos (by omega), if_pos (by omega), w64_id (by omega) (by omega)]
      rfl
    have stop : ∀ i, i < l.length → ∀ j, j < i → ¬ (rd cs (i : Int) = rd cs (j : Int) → ¬ OVP (rd l (i : Int)) (rd l (j : Int)) (iv ii)) → Ev (fun k => jacquardref38_Proper.c9 k l ii cs (i : Int) (l.length : Int) (i : Int) (i : Int) (j : Int)) false := fun i hi j hj hp => by
      obtain ⟨he, ho⟩ : rd cs (i : Int) = rd cs (j : Int) ∧ OVP (rd l (i : Int)) (rd l (j : Int)) (iv ii) := Classical.not_imp.1 hp |>.imp id Classical.not_not.1
      obtain ⟨r, h1, h2⟩ := Overlap_ref (rd l (j : Int)) (rd l (i : Int)) ii
      have hr : r = true := h2.2 ((OVP_comm _ _ _).1 ho)
      subst hr
      have hg : Ev (fun k => (jacquardref38_Overlap.f k (rd l (j : Int)) (rd l (i : Int)) ii).bind fun y => bif y then some false else jacquardref38_Proper.c9 k l ii cs (i : Int) (l.length : Int) (i : Int) (i : Int) (w64 ((j : Int) + 1))) false :=
        Ev.bind h1 (.ret false)
      refine hg.step fun k => ?_
      show jacquardref38_Proper.c9 (k + 1) l ii cs (i : Int) (l.length : Int) (i : Int) (i : Int) (j : Int) = _
      conv => lhs; unfold jacquardref38_Proper.c9
      rw [decide_eq_true (show (j : Int) < i by omega), cond_true, if_pos (by omega), if_pos (by omega), if_pos (by omega), if_pos (by omega), decide_eq_true he.symm, cond_true]
    refine EvP.all (c := fun k i => jacquardref38_Proper.c4 k l ii cs (l.length : Int) (i : Int)) (n := l.length) (Q := PROPER l (iv ii) cs) (ROW l (iv ii) cs) (fun q => q.2) ?_ ?_ ?_
    · intro i hi hr b hb
      refine (inner_yes (c := fun k j => jacquardref38_Proper.c9 k l ii cs (i : Int) (l.length : Int) (i : Int) (i : Int) (j : Int)) (n := i) (b := b) (fun j => rd cs (i : Int) = rd cs (j : Int) → ¬ OVP (rd l (i : Int)) (rd l (j : Int)) (iv ii)) (pass i hi)
        (hb.step fun k => by
          show jacquardref38_Proper.c9 (k + 1) l ii cs (i : Int) (l.length : Int) (i : Int) (i : Int) (i : Int) = _
          conv => lhs; unfold jacquardref38_Proper.c9
          rw [decide_eq_false (by omega), cond_false, w64_id (by omega) (by omega)]
          rfl) hr.2).step fun k => ?_
      show jacquardref38_Proper.c4 (k + 1) l ii cs (l.length : Int) (i : Int) = _
      conv => lhs; unfold jacquardref38_Proper.c4
      have := hr.1
      rw [decide_eq_true (by omega), cond_true, if_pos (by omega), decide_eq_false (by omega), cond_false]
      rfl
    · intro i hi hr
      by_cases hneg : rd cs (i : Int) < 0
      · refine (Ev.ret false).step fun k => ?_
        show jacquardref38_Proper.c4 (k + 1) l ii cs (l.length : Int) (i : Int) = _
        conv => lhs; unfold jacquardref38_Proper.c4
        rw [decide_eq_true (by omega), cond_true, if_pos (by omega), decide_eq_true hneg, cond_true]
      · refine (inner_no (c := fun k j => jacquardref38_Proper.c9 k l ii cs (i : Int) (l.length : Int) (i : Int) (i : Int) (j : Int)) (n := i) (fun j => rd cs (i : Int) = rd cs (j : Int) → ¬ OVP (rd l (i : Int)) (rd l (j : Int)) (iv ii)) (pass i hi) (stop i hi)
          (fun hall => hr ⟨by omega, hall⟩)).step fun k => ?_
        show jacquardref38_Proper.c4 (k + 1) l ii cs (l.length : Int) (i : Int) = _
        conv => lhs; unfold jacquardref38_Proper.c4
        rw [decide_eq_true (by omega), cond_true, if_pos (by omega), decide_eq_false hneg, cond_false]
        rfl
    · intro hall
      refine .step (g := fun _ => some true) (.ret (by simp [PROPER, hlen']; exact hall)) fun k => ?_
      show jacquardref38_Proper.c4 (k + 1) l ii cs (l.length : Int) (l.length : Int) = _
      conv => lhs; unfold jacquardref38_Proper.c4
      rw [decide_eq_false (by omega), cond_false]
  · simp only [hlen, decide_false, Bool.not_false, cond_true]
    exact .ff fun q => hlen (by have := q.1; omega)

theorem PureColorProper (l : List Span) (ii : Int) (cs : List Int) (g0 : Ty.good (.sl Span.T) l) (g1 : Ty.good (.int .i64) ii) (g2 : Ty.good (.sl (.int .i64)) cs) : ∃ k, jacquardlaw38_ColorProper.f k l ii cs = some true := by
  have hl : l.length ≤ 140737488351232 := g0.1
  refine Ev.ex (f := fun k => jacquardlaw38_ColorProper.f k l ii cs) ?_
  simp only [jacquardlaw38_ColorProper.f]
  have hend : Ev (fun k => (jacquardlaw38_awake.f k).bind fun y19 => some y19) true := Ev.bind awake_ev (.ret true)
  refine Ev.bind awake_ev ?_
  simp only [Bool.not_true, cond_false]
  refine Ev.cond (fun _ => hend) fun _ => Ev.cond (fun _ => hend) fun _ => ?_
  obtain ⟨r, h1, h2⟩ := Proper_prog l ii cs (by omega)
  obtain ⟨r', h1', h2'⟩ := Proper_ref l ii cs (by omega)
  have e : r = r' := by cases r <;> cases r' <;> simp_all
  subst e
  refine Ev.bind h1 (Ev.bind h1' ?_)
  simp only [beq_self_eq_true]
  exact .ret true
end Go.Proofs.YtihkfliabchcmaaV
