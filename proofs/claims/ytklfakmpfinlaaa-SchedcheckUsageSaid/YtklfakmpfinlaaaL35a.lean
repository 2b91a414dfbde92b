/- Chapter 35: the laws Legal, Clashes, Agrees, Arcs, as plain statements. -/
import Derived.Test.YtklfakmpfinlaaaChk
set_option linter.unusedVariables false
set_option linter.unusedSimpArgs false
namespace Go.Proofs.YtklfakmpfinlaaaV
open Go Go.Vm
open Classical

theorem awake35 : Ev (fun k => jacquardlaw35_awake.f k) true := ⟨60, fun k hk => by
  obtain ⟨m, rfl⟩ := Nat.exists_eq_add_of_le' hk
  kernel_rfl⟩

section
variable {f : Flow} {s : Sched}

theorem few35 (g0 : Ty.good Flow.T f) (g1 : Ty.good Sched.T s) : EvP (fun k => jacquardlaw35_few.f k f s) (FEW f s) := by
  obtain ⟨_, _, _, ⟨ga, _⟩, _, ⟨gn, _⟩, _⟩ := g0
  have ga : (Flow.Arcs f).length ≤ 140737488351232 := ga
  have gn : (Flow.Needs f).length ≤ 140737488351232 := gn
  simp only [jacquardlaw35_few.f]
  refine .test (small_ref 20 8 ga gn) (fun q => ?_) (fun q => ?_)
  · simp only [cond_true]
    refine .cond (fun q1 => .cond (fun q2 => .cond (fun q3 => .dec ?_) fun q3 => .ff fun v => ?_) fun q2 => .ff fun v => ?_) fun q1 => .ff fun v => ?_
    · have q1 := of_decide_eq_true q1
      have q2 := of_decide_eq_true q2
      have q3 := of_decide_eq_true q3
      exact ⟨fun h => ⟨q.insts, q.params, q.arcs, q.res, by omega, by omega, by omega, by omega, q.arc, q.busy⟩, fun v => by have := v.needs; omega⟩
    · have := v.parms; have := of_decide_eq_false q3; omega
    · have := v.unit; have := of_decide_eq_false q2; omega
    · have := v.start; have := of_decide_eq_false q1; omega
  · simp only [cond_false]
    exact .ff fun v => q ⟨v.insts, v.params, v.arcs, v.res, v.arc, v.busy⟩

theorem FEW.sizes (w : FEW f s) : SIZES f := ⟨by have := w.arcs; omega, by have := w.res; omega, by have := w.needs; omega⟩
theorem FEW.ssizes (w : FEW f s) : SSIZES s := ⟨by have := w.start; omega, by have := w.unit; omega, by have := w.parms; omega⟩

theorem lawfits (w : FEW f s) : EvP (fun k => jacquardlaw35_fits.f k f s) (VALID f ∧ FITS f s) := by
  simp only [jacquardlaw35_fits.f]
  refine .test (valid_ref w.sizes) (fun V => ?_) (fun q => ?_)
  · simp only [cond_true]
    exact .test (fits_ref V w.ssizes) (fun F => .tt ⟨V, F⟩) (fun q => .ff fun h => q h.2)
  · simp only [cond_false]
    exact .ff fun h => q h.1

/-- how each law of the chapter begins -/
theorem begin35 {g : Nat → Option Bool} (g0 : Ty.good Flow.T f) (g1 : Ty.good Sched.T s) (h : FEW f s → Ev g true) : Ev (fun k => (jacquardlaw35_awake.f k).bind fun y6 => bif (!y6) then (jacquardlaw35_awake.f k).bind fun y14 => some y14 else (jacquardlaw35_few.f k f s).bind fun y11 => bif (!y11) then (jacquardlaw35_awake.f k).bind fun y14 => some y14 else g k) true := by
  refine .bind awake35 ?_
  simp only [Bool.not_true, cond_false]
  refine .test (few35 g0 g1) (fun w => ?_) (fun w => ?_)
  · simp only [Bool.not_true, cond_false]
    exact h w
  · simp only [Bool.not_false, cond_true]
    exact .bind awake35 (.ret _)

theorem fits_in (w : FEW f s) : (fun k => schedcheck_Fits.f k f s) = fun k => schedcheck_Fits.f k f s := rfl

theorem legal8 (w : FEW f s) (x : Int) (hx : x = if VALID f ∧ FITS f s then (if LEGAL f s then 0 else 20) else 3) : Ev (fun k => jacquardlaw35_SchedcheckLegal.c8 k x f s) true := by
  have body : Ev (fun k => (schedcheck_Check.f k f s).bind fun y27 => bif (decide (y27 = x)) then (schedcheck_Fits.f k f s).bind fun y33 => some (y33 == (!decide (x = 3))) else some false) true := by
    refine .bind (check_prog w.sizes w.ssizes) ?_
    rw [← hx]
    simp only [decide_true, cond_true]
    refine .test (fits_prog w.sizes w.ssizes) (fun q => ?_) (fun q => ?_)
    · rw [if_pos q] at hx
      have : x ≠ 3 := by rw [hx]; split <;> omega
      simp only [decide_eq_false this]
      exact .ret _
    · rw [if_neg q] at hx
      simp only [decide_eq_true hx]
      exact .ret _
  refine body.step fun k => ?_
  simp only [jacquardlaw35_SchedcheckLegal.c8]

theorem PureSchedcheckLegal (f : Flow) (s : Sched) (g0 : Ty.good Flow.T f) (g1 : Ty.good Sched.T s) : ∃ k, jacquardlaw35_SchedcheckLegal.f k f s = some true := by
  refine Ev.ex (f := fun k => jacquardlaw35_SchedcheckLegal.f k f s) ?_
  simp only [jacquardlaw35_SchedcheckLegal.f]
  refine begin35 g0 g1 fun w => ?_
  refine .test (lawfits w) (fun q => ?_) (fun q => ?_)
  · simp only [Bool.not_true, cond_false]
    refine .test (legal_ref w.sizes w.ssizes q.1) (fun L => ?_) (fun L => ?_)
    · simp only [Bool.not_true, cond_false]
      exact legal8 w 0 (by rw [if_pos q, if_pos L.2])
    · simp only [Bool.not_false, cond_true]
      exact legal8 w 20 (by rw [if_pos q, if_neg (fun h => L ⟨q.2, h⟩)])
  · simp only [Bool.not_false, cond_true]
    exact legal8 w 3 (by rw [if_neg q])

theorem clashes_not (w : FEW f s) (q : ¬ (VALID f ∧ FITS f s)) : Ev (fun k => schedcheck_Clashes.f k f s) [] := by
  simp only [schedcheck_Clashes.f]
  exact .test (fits_prog w.sizes w.ssizes) (fun h => absurd h q) (fun _ => .ret _)
theorem slack_not (w : FEW f s) (q : ¬ (VALID f ∧ FITS f s)) : Ev (fun k => schedcheck_Slack.f k f s) [] := by
  simp only [schedcheck_Slack.f]
  exact .test (fits_prog w.sizes w.ssizes) (fun h => absurd h q) (fun _ => .ret _)
theorem late_not (w : FEW f s) (q : ¬ (VALID f ∧ FITS f s)) : Ev (fun k => schedcheck_Late.f k f s) [] := by
  simp only [schedcheck_Late.f]
  refine .bind (slack_not w q) (Ev.step (.ret []) fun k => ?_)
  simp [schedcheck_Late.c3]
theorem times_not (w : FEW f s) (q : ¬ (VALID f ∧ FITS f s)) : Ev (fun k => schedcheck_Times.f k f s) [] := by
  simp only [schedcheck_Times.f]
  exact .test (fits_prog w.sizes w.ssizes) (fun h => absurd h q) (fun _ => .ret _)

theorem clList_len (V : VALID f) : (clList f s).length ≤ 20000000 := by
  have := acc_len (f := f) (s := s) (Flow.Insts f).toNat V.i1
  have := V.i1
  unfold clList
  omega

theorem eqPair {a b : Arr2_3} : eqB Arr2_3.T a b = true ↔ a = b := by
  obtain ⟨a1, a2, _⟩ := a
  obtain ⟨b1, b2, _⟩ := b
  simp [eqB]

theorem PureSchedcheckClashes (f : Flow) (s : Sched) (g0 : Ty.good Flow.T f) (g1 : Ty.good Sched.T s) : ∃ k, jacquardlaw35_SchedcheckClashes.f k f s = some true := by
  refine Ev.ex (f := fun k => jacquardlaw35_SchedcheckClashes.f k f s) ?_
  simp only [jacquardlaw35_SchedcheckClashes.f]
  refine begin35 g0 g1 fun w => ?_
  by_cases q : VALID f ∧ FITS f s
  · refine .bind (clashes_prog w.sizes w.ssizes q.1 q.2) (.bind ((lawfits w).true q) ?_)
    simp only [Bool.not_true, cond_false]
    refine .bind (clashes_ref q.1 q.2) ?_
    simp only [decide_true, Bool.not_true, cond_false]
    have hl := clList_len (s := s) q.1
    refine Ev.up (c := fun k i => jacquardlaw35_SchedcheckClashes.c10 k ((clList f s).length : Int) (i : Int) (clList f s) (clList f s)) (n := (clList f s).length) ?_ (fun i hi ih => ?_) 0 (Nat.zero_le _)
    · refine Ev.step (.ret _) fun k => ?_
      simp only [jacquardlaw35_SchedcheckClashes.c10]
      rw [decide_eq_false (by omega)]
      rfl
    · refine ih.step fun k => ?_
      have b : 0 ≤ (i : Int) ∧ (i : Int) < ((clList f s).length : Int) := by omega
      simp only [jacquardlaw35_SchedcheckClashes.c10, natC]
      rw [decide_eq_true b.2, if_pos b, if_pos b, eqPair.2 rfl, w64_id (by omega) (by omega)]
      rfl
  · refine .bind (clashes_not w q) (.bind ((lawfits w).false q) ?_)
    exact .ret _

/-- the parameters, one by one -/
theorem agrees5 (w : FEW f s) (q : VALID f ∧ FITS f s) (b : Bool) (hb : b = true ↔ Sched.II s ≤ Sched.Depth s ∧ (∀ i, i < (Flow.Arcs f).length → 0 ≤ slk f s i) ∧ clList f s = []) :
    Ev (fun k => jacquardlaw35_SchedcheckAgrees.c5 k b ((Sched.Params s).length : Int) 0 f s) true := by
  have hs := w.parms
  have up := Ev.up (c := fun k i => jacquardlaw35_SchedcheckAgrees.c5 k (decide (b = true ∧ (Flow.Loop f = false → ∀ p : Nat, p < i → rd (Sched.Params s) (p : Int) = 0))) ((Sched.Params s).length : Int) (i : Int) f s) (n := (Sched.Params s).length) (y := true) ?_ (fun i hi ih => ?_) 0 (Nat.zero_le _)
  · have e : decide (b = true ∧ (Flow.Loop f = false → ∀ p : Nat, p < 0 → rd (Sched.Params s) (p : Int) = 0)) = b := by
      cases b <;> simp
    rw [e] at up
    exact up
  · refine Ev.step (g := fun k => (schedcheck_Check.f k f s).bind fun y64 => some (decide (b = true ∧ (Flow.Loop f = false → ∀ p, p < (Sched.Params s).length → rd (Sched.Params s) (p : Int) = 0)) == decide (y64 = 0))) ?_ fun k => ?_
    · refine .bind (check_prog w.sizes w.ssizes) ?_
      rw [if_pos q]
      by_cases L : LEGAL f s
      · rw [if_pos L, decide_eq_true ⟨hb.2 ⟨L.depth, L.late, L.clash⟩, L.params⟩]
        exact .ret _
      · rw [if_neg L, decide_eq_false (fun h => L ⟨(hb.1 h.1).1, (hb.1 h.1).2.1, (hb.1 h.1).2.2, h.2⟩)]
        exact .ret _
    · simp only [jacquardlaw35_SchedcheckAgrees.c5]
      rw [decide_eq_false (show ¬ ((Sched.Params s).length : Int) < ((Sched.Params s).length : Int) by omega)]
      rfl
  · refine ih.step fun k => ?_
    simp only [jacquardlaw35_SchedcheckAgrees.c5, natC]
    rw [decide_eq_true (show (i : Int) < ((Sched.Params s).length : Int) by omega), w64_id (by omega) (by omega)]
    simp only [cond_true]
    by_cases h : b = true ∧ (Flow.Loop f = false → ∀ p : Nat, p < i → rd (Sched.Params s) (p : Int) = 0)
    · rw [decide_eq_true h]
      simp only [cond_true]
      cases hl : Flow.Loop f
      · simp only [cond_false]
        rw [if_pos (by omega)]
        congr 1
        by_cases h2 : rd (Sched.Params s) (i : Int) = 0
        · rw [decide_eq_true h2, decide_eq_true]
          refine ⟨h.1, fun _ p hp => ?_⟩
          by_cases hpi : p = i
          · rw [hpi]; exact h2
          · exact h.2 hl p (by omega)
        · rw [decide_eq_false h2, decide_eq_false]
          exact fun h3 => h2 (h3.2 trivial i (by omega))
      · simp only [cond_true]
        congr 1
        symm
        rw [decide_eq_true]
        exact ⟨h.1, fun h => by cases h⟩
    · rw [decide_eq_false h]
      simp only [cond_false]
      congr 1
      symm
      rw [decide_eq_false]
      exact fun h3 => h ⟨h3.1, fun hl p hp => h3.2 hl p (by omega)⟩

theorem PureSchedcheckAgrees (f : Flow) (s : Sched) (g0 : Ty.good Flow.T f) (g1 : Ty.good Sched.T s) : ∃ k, jacquardlaw35_SchedcheckAgrees.f k f s = some true := by
  refine Ev.ex (f := fun k => jacquardlaw35_SchedcheckAgrees.f k f s) ?_
  simp only [jacquardlaw35_SchedcheckAgrees.f]
  refine begin35 g0 g1 fun w => ?_
  refine .test (fits_prog w.sizes w.ssizes) (fun q => ?_) (fun q => ?_)
  · simp only [Bool.not_true, cond_false]
    refine .bind (late_prog w.sizes w.ssizes q.1 q.2) (.cond (fun h => ?_) (fun h => ?_))
    · have hl := late_nil.1 (len_zero.1 (of_decide_eq_true h))
      refine .bind (clashes_prog w.sizes w.ssizes q.1 q.2) (.cond (fun h => ?_) (fun h => ?_))
      · have hc := len_zero.1 (of_decide_eq_true h)
        exact agrees5 w q _ (by simp [hc]; exact fun _ => hl)
      · have hc := of_decide_eq_false h
        rw [len_zero] at hc
        exact agrees5 w q false ⟨(fun h => by cases h), fun h => absurd h.2.2 hc⟩
    · have hl := of_decide_eq_false h
      rw [len_zero, late_nil] at hl
      exact agrees5 w q false ⟨(fun h => by cases h), fun h => absurd h.2.1 hl⟩
  · simp only [Bool.not_false, cond_true]
    exact .bind awake35 (.ret _)

theorem same35 {a : List Int} (h : a.length ≤ 1000000000) : Ev (fun k => jacquardlaw35_same.f k a a) true := by
  simp only [jacquardlaw35_same.f, decide_true, Bool.not_true, cond_false]
  refine Ev.up (c := fun k i => jacquardlaw35_same.c4 k a a (a.length : Int) (i : Int)) (n := a.length) ?_ (fun i hi ih => ?_) 0 (Nat.zero_le _)
  · refine Ev.step (.ret _) fun k => ?_
    simp only [jacquardlaw35_same.c4]
    rw [decide_eq_false (by omega)]
    rfl
  · refine ih.step fun k => ?_
    have b : 0 ≤ (i : Int) ∧ (i : Int) < (a.length : Int) := by omega
    simp only [jacquardlaw35_same.c4, natC]
    rw [decide_eq_true b.2, if_pos b, if_pos b, w64_id (by omega) (by omega)]
    simp

theorem PureSchedcheckArcs (f : Flow) (s : Sched) (g0 : Ty.good Flow.T f) (g1 : Ty.good Sched.T s) : ∃ k, jacquardlaw35_SchedcheckArcs.f k f s = some true := by
  refine Ev.ex (f := fun k => jacquardlaw35_SchedcheckArcs.f k f s) ?_
  simp only [jacquardlaw35_SchedcheckArcs.f]
  refine begin35 g0 g1 fun w => ?_
  by_cases q : VALID f ∧ FITS f s
  · obtain ⟨V, F⟩ := q
    have hN : Flow.N f = Flow.Insts f + Flow.Params f := rfl
    have i0 := V.i0
    have i1 := V.i1
    have p0 := V.p0
    have p1 := V.p1
    have ha := w.arcs
    obtain ⟨l, hl, hlen, hrd⟩ := times_prog F V
    have ht : Ev (fun k => schedcheck_Times.f k f s) l := by
      simp only [schedcheck_Times.f]
      refine .bind ((fits_prog w.sizes w.ssizes).true ⟨V, F⟩) ?_
      simp only [Bool.not_true, cond_false, hl, Option.bind_some]
      exact .ret _
    refine .bind ht (.bind (late_prog w.sizes w.ssizes V F) (.bind (slack_prog w.sizes w.ssizes V F) (.bind ((lawfits w).true ⟨V, F⟩) ?_)))
    have hsl : (pick (fun _ => true) (fun i => slk f s i) (Flow.Arcs f).length).length = (Flow.Arcs f).length := by rw [pick_all]; simp
    have hlt := pick_len (fun i => decide (slk f s i < 0)) (fun i => (i : Int)) (Flow.Arcs f).length
    simp only [Bool.not_true, cond_false, jacquardref28_End.f, Option.bind_some, hsl]
    simp (disch := omega) only [w64_id]
    rw [decide_eq_true (show (l.length : Int) = Flow.Insts f + Flow.Params f + 1 + 1 by omega)]
    simp only [Bool.not_true, cond_false, decide_true]
    refine .bind (late_ref w.sizes w.ssizes V F) (.bind (same35 (by omega)) ?_)
    simp only [Bool.not_true, cond_false]
    -- the arcs
    have arcs : Ev (fun k => jacquardlaw35_SchedcheckArcs.c15 k ((Flow.Arcs f).length : Int) 0 f s l (pick (fun _ => true) (fun i => slk f s i) (Flow.Arcs f).length)) true := by
      refine Ev.up (c := fun k i => jacquardlaw35_SchedcheckArcs.c15 k ((Flow.Arcs f).length : Int) (i : Int) f s l (pick (fun _ => true) (fun i => slk f s i) (Flow.Arcs f).length)) (n := (Flow.Arcs f).length) ?_ (fun i hi ih => ?_) 0 (Nat.zero_le _)
      · refine Ev.step (.ret _) fun k => ?_
        simp only [jacquardlaw35_SchedcheckArcs.c15]
        rw [decide_eq_false (by omega)]
        rfl
      · refine ih.step fun k => ?_
        obtain ⟨a1, a2, a3, a4, a5, a6, d0, d1, _⟩ := V.arcs i hi
        have hm := arc_mul F V hi
        have t1 := tm_bound F V a1
        have t2 := tm_bound F V a3
        have hsb := slk_bound F V hi
        have b : 0 ≤ (i : Int) ∧ (i : Int) < ((Flow.Arcs f).length : Int) := by omega
        have e1 : rd (pick (fun _ => true) (fun i => slk f s i) (Flow.Arcs f).length) (i : Int) = slk f s i := by
          rw [pick_all, rd_eq (by simpa using hi)]
          simp
        simp only [jacquardlaw35_SchedcheckArcs.c15, natC, hsl, jacquardref28_Weight.f, Option.bind_some]
        rw [decide_eq_true b.2, if_pos b, if_pos b, if_pos (by omega), if_pos (by omega), hrd _ a3 a4, hrd _ a1 (by omega), e1]
        rw [w64_id (n := Sched.II s * _) (by omega) (by omega), w64_id (n := _ - Sched.II s * _) (by omega) (by omega), w64_id (n := tm f s _ - tm f s _) (by omega) (by omega), w64_id (n := (i : Int) + 1) (by omega) (by omega)]
        have e : tm f s (Arc.To (rd (Flow.Arcs f) (i : Int))) - tm f s (Arc.From (rd (Flow.Arcs f) (i : Int))) - (Arc.Lat (rd (Flow.Arcs f) (i : Int)) - Sched.II s * Arc.Dist (rd (Flow.Arcs f) (i : Int))) = slk f s i := rfl
        rw [e, w64_id (by omega) (by omega)]
        simp
    refine Ev.up (c := fun k i => jacquardlaw35_SchedcheckArcs.c9 k (l.length : Int) (i : Int) f s l (pick (fun _ => true) (fun i => slk f s i) (Flow.Arcs f).length)) (n := l.length) ?_ (fun i hi ih => ?_) 0 (Nat.zero_le _)
    · refine arcs.step fun k => ?_
      simp only [jacquardlaw35_SchedcheckArcs.c9]
      rw [decide_eq_false (by omega)]
      rfl
    · refine ih.step fun k => ?_
      have b : 0 ≤ (i : Int) ∧ (i : Int) < (l.length : Int) := by omega
      simp only [jacquardlaw35_SchedcheckArcs.c9, natC, time_ref F V b.1, Option.bind_some]
      rw [decide_eq_true b.2, if_pos b, hrd _ b.1 (by omega), w64_id (by omega) (by omega)]
      simp
  · refine .bind (times_not w q) (.bind (late_not w q) (.bind (slack_not w q) (.bind ((lawfits w).false q) ?_)))
    simp only [Bool.not_false, cond_true]
    exact Ev.ret true
end
end Go.Proofs.YtklfakmpfinlaaaV
