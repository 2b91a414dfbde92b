/- Chapter 38: Proper, on both sides. -/
import Derived.Test.YtihkfliabchcmaaL38b
set_option linter.unusedVariables false
set_option linter.unusedSimpArgs false
namespace Go.Proofs.YtihkfliabchcmaaV
open Go Go.Vm

/-- what one place must be -/
def ROW (l : List Span) (n : Int) (cs : List Int) (i : Nat) : Prop := 0 ≤ rd cs (i : Int) ∧ ∀ k : Nat, k < i → rd cs (i : Int) = rd cs (k : Int) → ¬ OVP (rd l (i : Int)) (rd l (k : Int)) n
def PROPER (l : List Span) (n : Int) (cs : List Int) : Prop := cs.length = l.length ∧ ∀ i : Nat, i < l.length → ROW l n cs i

/-- a loop in a loop: the inner one passes on, or says no -/
theorem inner_yes {c : Nat → Nat → Option Bool} {n : Nat} {b : Bool} (P : Nat → Prop) (h : ∀ i, i < n → P i → ∀ b, Ev (fun k => c k (i + 1)) b → Ev (fun k => c k i) b) (hn : Ev (fun k => c k n) b) (hall : ∀ i, i < n → P i) : Ev (fun k => c k 0) b :=
  Ev.up hn (fun i hi => h i hi (hall i hi) b) 0 (Nat.zero_le _)
theorem inner_no {c : Nat → Nat → Option Bool} {n : Nat} (P : Nat → Prop) (h : ∀ i, i < n → P i → ∀ b, Ev (fun k => c k (i + 1)) b → Ev (fun k => c k i) b) (h0 : ∀ i, i < n → ¬ P i → Ev (fun k => c k i) false)
    (hnot : ¬ ∀ i, i < n → P i) : Ev (fun k => c k 0) false := by
  have := EvP.all (c := c) (n := n) (Q := ∀ i, i < n → P i) P (fun q => q) h h0 (fun hall => absurd hall hnot)
  exact this.false hnot

theorem Proper_prog (l : List Span) (ii : Int) (cs : List Int) (hl : l.length < 4611686018427387904) : EvP (fun k => color_Proper.f k l ii cs) (PROPER l (iv ii) cs) := by
  simp only [color_Proper.f]
  by_cases hlen : (cs.length : Int) = (l.length : Int)
  · simp only [hlen, decide_true, Bool.not_true, cond_false]
    have hlen' : cs.length = l.length := by omega
    have pass : ∀ i, i < l.length → ∀ j, j < i → (rd cs (i : Int) = rd cs (j : Int) → ¬ OVP (rd l (i : Int)) (rd l (j : Int)) (iv ii)) → ∀ b, Ev (fun k => color_Proper.c9 k l ii cs (i : Int) l (l.length : Int) (i : Int) (i : Int) ((j + 1 : Nat) : Int) (rd l (i : Int))) b →
        Ev (fun k => color_Proper.c9 k l ii cs (i : Int) l (l.length : Int) (i : Int) (i : Int) (j : Int) (rd l (i : Int))) b := fun i hi j hj hp b hb => hb.step fun k => by
      show color_Proper.c9 (k + 1) l ii cs (i : Int) l (l.length : Int) (i : Int) (i : Int) (j : Int) (rd l (i : Int)) = _
      conv => lhs; unfold color_Proper.c9
      rw [decide_eq_true (by omega), cond_true, if_pos (by omega), if_pos (by omega), if_pos (by omega), Overlap_prog, w64_id (by omega) (by omega)]
      by_cases he : rd cs (i : Int) = rd cs (j : Int)
      · have := hp he
        simp [he, this]
      · simp [he]
    have stop : ∀ i, i < l.length → ∀ j, j < i → ¬ (rd cs (i : Int) = rd cs (j : Int) → ¬ OVP (rd l (i : Int)) (rd l (j : Int)) (iv ii)) → Ev (fun k => color_Proper.c9 k l ii cs (i : Int) l (l.length : Int) (i : Int) (i : Int) (j : Int) (rd l (i : Int))) false := fun i hi j hj hp => by
      obtain ⟨he, ho⟩ : rd cs (i : Int) = rd cs (j : Int) ∧ OVP (rd l (i : Int)) (rd l (j : Int)) (iv ii) := Classical.not_imp.1 hp |>.imp id Classical.not_not.1
      refine (Ev.ret false).step fun k => ?_
      show color_Proper.c9 (k + 1) l ii cs (i : Int) l (l.length : Int) (i : Int) (i : Int) (j : Int) (rd l (i : Int)) = _
      conv => lhs; unfold color_Proper.c9
      rw [decide_eq_true (by omega), cond_true, if_pos (by omega), if_pos (by omega), if_pos (by omega), Overlap_prog]
      simp [he, ho]
    refine EvP.all (c := fun k i => color_Proper.c4 k l ii cs l (l.length : Int) (i : Int)) (n := l.length) (Q := PROPER l (iv ii) cs) (ROW l (iv ii) cs) (fun q => q.2) ?_ ?_ ?_
    · intro i hi hr b hb
      refine (inner_yes (c := fun k j => color_Proper.c9 k l ii cs (i : Int) l (l.length : Int) (i : Int) (i : Int) (j : Int) (rd l (i : Int))) (n := i) (b := b) (fun j => rd cs (i : Int) = rd cs (j : Int) → ¬ OVP (rd l (i : Int)) (rd l (j : Int)) (iv ii)) (pass i hi)
        (hb.step fun k => by
          show color_Proper.c9 (k + 1) l ii cs (i : Int) l (l.length : Int) (i : Int) (i : Int) (i : Int) (rd l (i : Int)) = _
          conv => lhs; unfold color_Proper.c9
          rw [decide_eq_false (by omega), cond_false, w64_id (by omega) (by omega)]
          rfl) hr.2).step fun k => ?_
      show color_Proper.c4 (k + 1) l ii cs l (l.length : Int) (i : Int) = _
      conv => lhs; unfold color_Proper.c4
      have := hr.1
      rw [decide_eq_true (by omega), cond_true, if_pos (by omega), if_pos (by omega), decide_eq_false (by omega), cond_false]
      rfl
    · intro i hi hr
      by_cases hneg : rd cs (i : Int) < 0
      · refine (Ev.ret false).step fun k => ?_
        show color_Proper.c4 (k + 1) l ii cs l (l.length : Int) (i : Int) = _
        conv => lhs; unfold color_Proper.c4
        rw [decide_eq_true (by omega), cond_true, if_pos (by omega), if_pos (by omega), decide_eq_true hneg, cond_true]
      · refine (inner_no (c := fun k j => color_Proper.c9 k l ii cs (i : Int) l (l.length : Int) (i : Int) (i : Int) (j : Int) (rd l (i : Int))) (n := i) (fun j => rd cs (i : Int) = rd cs (j : Int) → ¬ OVP (rd l (i : Int)) (rd l (j : Int)) (iv ii)) (pass i hi) (stop i hi)
          (fun hall => hr ⟨by omega, hall⟩)).step fun k => ?_
        show color_Proper.c4 (k + 1) l ii cs l (l.length : Int) (i : Int) = _
        conv => lhs; unfold color_Proper.c4
        rw [decide_eq_true (by omega), cond_true, if_pos (by omega), if_pos (by omega), decide_eq_false hneg, cond_false]
        rfl
    · intro hall
      refine .step (g := fun _ => some true) (.ret (by simp [PROPER, hlen']; exact hall)) fun k => ?_
      show color_Proper.c4 (k + 1) l ii cs l (l.length : Int) (l.length : Int) = _
      conv => lhs; unfold color_Proper.c4
      rw [decide_eq_false (by omega), cond_false]
  · simp only [hlen, decide_false, Bool.not_false, cond_true]
    exact .ff fun q => hlen (by have := q.1; omega)
end Go.Proofs.YtihkfliabchcmaaV
