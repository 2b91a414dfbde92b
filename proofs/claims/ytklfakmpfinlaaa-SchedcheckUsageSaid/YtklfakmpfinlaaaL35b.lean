/- Chapter 35: the laws Moves, Fewer, Busy, as plain statements. -/
import Derived.Test.YtklfakmpfinlaaaL35a
set_option linter.unusedVariables false
set_option linter.unusedSimpArgs false
namespace Go.Proofs.YtklfakmpfinlaaaV
open Go Go.Vm
open Classical

/-- flows with the same instructions clash alike -/
theorem clList_congr {f g : Flow} {s t : Sched} (hI : Flow.Insts f = Flow.Insts g) (hS : ∀ i : Nat, (i : Int) < Flow.Insts f → (SELF f s i ↔ SELF g t i)) (hC : ∀ i k : Nat, (i : Int) < Flow.Insts f → (k : Int) < Flow.Insts f → (CL f s i k ↔ CL g t i k)) : clList f s = clList g t := by
  unfold clList
  rw [← hI]
  have : ∀ n, n ≤ (Flow.Insts f).toNat → (List.range n).flatMap (row f s) = (List.range n).flatMap (row g t) := by
    intro n
    induction n with
    | zero => intro _; rfl
    | succ n ih =>
      intro hn
      rw [List.range_succ, List.flatMap_append, List.flatMap_append, ih (by omega), List.flatMap_singleton, List.flatMap_singleton]
      congr 1
      unfold row
      rw [← hI]
      congr 1
      · by_cases h : SELF f s n
        · rw [if_pos h, if_pos ((hS n (by omega)).1 h)]
        · rw [if_neg h, if_neg (fun h2 => h ((hS n (by omega)).2 h2))]
      · refine pick_congr (fun m hm => ?_) (fun _ _ => rfl)
        rw [decide_eq_decide]
        exact hC n (n + 1 + m) (by omega) (by omega)
  exact this _ (Nat.le_refl _)

section
variable {f : Flow} {s : Sched}

/-! ### Moves -/
def moved (s : Sched) (by' : Int) : Sched := (Sched.II s, Sched.Depth s, pick (fun _ => true) (fun i => rd (Sched.Start s) (i : Int) + by') (Sched.Start s).length, pick (fun _ => true) (fun i => rd (Sched.Params s) (i : Int) + by') (Sched.Params s).length, Sched.Unit s, ())

theorem pick_rd {g : Nat → Int} {n i : Nat} (h : i < n) : rd (pick (fun _ => true) g n) (i : Int) = g i := by
  rw [pick_all, rd_eq (by simpa using h)]
  simp
theorem pick_full {α : Type} {g : Nat → α} {n : Nat} : (pick (fun _ => true) g n).length = n := by rw [pick_all]; simp

theorem moved_tm (V : VALID f) (F : FITS f s) {b : Int} {v : Int} (h0 : 0 ≤ v) : tm f (moved s b) v = tm f s v + if v < Flow.N f then b else 0 := by
  have h1 := F.start
  have h2 := F.params
  have hN : Flow.N f = Flow.Insts f + Flow.Params f := rfl
  have p0 := V.p0
  obtain ⟨n, rfl⟩ : ∃ n : Nat, v = (n : Int) := ⟨v.toNat, by omega⟩
  unfold tm
  by_cases g1 : (n : Int) < Flow.Insts f
  · rw [if_pos g1, if_pos g1, if_pos (by omega)]
    exact pick_rd (by omega)
  · rw [if_neg g1, if_neg g1]
    by_cases g2 : (n : Int) < Flow.N f
    · rw [if_pos g2, if_pos g2, if_pos g2, show (n : Int) - Flow.Insts f = (((n : Int) - Flow.Insts f).toNat : Nat) by omega]
      exact pick_rd (by omega)
    · rw [if_neg g2, if_neg g2, if_neg g2, Int.add_zero]
      rfl

theorem moved_slk (V : VALID f) (F : FITS f s) {b : Int} {i : Nat} (hi : i < (Flow.Arcs f).length) : slk f (moved s b) i = slk f s i + ((if Flow.N f ≤ Arc.From (rd (Flow.Arcs f) (i : Int)) then b else 0) - (if Flow.N f ≤ Arc.To (rd (Flow.Arcs f) (i : Int)) then b else 0)) := by
  obtain ⟨a1, a2, a3, a4, _⟩ := V.arcs i hi
  unfold slk
  rw [moved_tm V F a1, moved_tm V F a3]
  have e : Sched.II (moved s b) = Sched.II s := rfl
  rw [e]
  generalize Sched.II s * Arc.Dist (rd (Flow.Arcs f) (i : Int)) = m
  split <;> split <;> split <;> split <;> omega

theorem moved_clash (V : VALID f) (F : FITS f s) {b : Int} : clList f (moved s b) = clList f s := by
  have h1 := F.start
  refine clList_congr rfl (fun i hi => Iff.rfl) (fun i k hi hk => ?_)
  unfold CL
  have e1 : rd (Sched.Start (moved s b)) (i : Int) = rd (Sched.Start s) (i : Int) + b := pick_rd (by omega)
  have e2 : rd (Sched.Start (moved s b)) (k : Int) = rd (Sched.Start s) (k : Int) + b := pick_rd (by omega)
  have e3 : Sched.II (moved s b) = Sched.II s := rfl
  have e4 : Sched.Unit (moved s b) = Sched.Unit s := rfl
  rw [e1, e2, e3, e4, show rd (Sched.Start s) (k : Int) + b - (rd (Sched.Start s) (i : Int) + b) = rd (Sched.Start s) (k : Int) - rd (Sched.Start s) (i : Int) by omega, show rd (Sched.Start s) (i : Int) + b - (rd (Sched.Start s) (k : Int) + b) = rd (Sched.Start s) (i : Int) - rd (Sched.Start s) (k : Int) by omega]

theorem PureSchedcheckMoves (f : Flow) (s : Sched) (b : Int) (g0 : Ty.good Flow.T f) (g1 : Ty.good Sched.T s) (g2 : (Lit.int .u8 b).wf = true) : ∃ k, jacquardlaw35_SchedcheckMoves.f k f s b = some true := by
  refine Ev.ex (f := fun k => jacquardlaw35_SchedcheckMoves.f k f s b) ?_
  have hb : 0 ≤ b ∧ b ≤ 255 := by
    simp [Lit.wf, IntKind.min, IntKind.max, IntKind.signed, IntKind.bits] at g2
    omega
  have wb : w64 b = b := w64_id (by omega) (by omega)
  simp only [jacquardlaw35_SchedcheckMoves.f]
  refine begin35 g0 g1 fun w => ?_
  refine .test (fits_prog w.sizes w.ssizes) (fun q => ?_) (fun q => ?_)
  · simp only [Bool.not_true, cond_false]
    obtain ⟨V, F⟩ := q
    refine .cond (fun _ => .bind awake35 (.ret _)) (fun hl => ?_)
    have hs := w.start
    have hp := w.parms
    have ha := w.arcs
    have hN : Flow.N f = Flow.Insts f + Flow.Params f := rfl
    have i0 := V.i0
    have i1 := V.i1
    have p0 := V.p0
    have p1 := V.p1
    -- the slacks
    have c27 : ∀ (F' : FITS f (moved s b)), Ev (fun k => jacquardlaw35_SchedcheckMoves.c27 k b ((pick (fun _ => true) (fun i => slk f s i) (Flow.Arcs f).length).length : Int) 0 f (pick (fun _ => true) (fun i => slk f s i) (Flow.Arcs f).length) (pick (fun _ => true) (fun i => slk f (moved s b) i) (Flow.Arcs f).length)) true := fun F' => by
      rw [pick_full]
      refine Ev.up (c := fun k i => jacquardlaw35_SchedcheckMoves.c27 k b ((Flow.Arcs f).length : Int) (i : Int) f (pick (fun _ => true) (fun i => slk f s i) (Flow.Arcs f).length) (pick (fun _ => true) (fun i => slk f (moved s b) i) (Flow.Arcs f).length)) (n := (Flow.Arcs f).length) ?_ (fun i hi ih => ?_) 0 (Nat.zero_le _)
      · refine Ev.step (.ret true) fun k => ?_
        simp only [jacquardlaw35_SchedcheckMoves.c27]
        rw [decide_eq_false (by omega), pick_full, pick_full]
        simp
      · refine ih.steps 3 fun k => ?_
        show jacquardlaw35_SchedcheckMoves.c27 (k + 1 + 1 + 1) _ _ _ _ _ _ = _
        have bb : 0 ≤ (i : Int) ∧ (i : Int) < ((Flow.Arcs f).length : Int) := by omega
        have sb := slk_bound F V hi
        have e := moved_slk (b := b) V F hi
        simp only [jacquardlaw35_SchedcheckMoves.c27, jacquardlaw35_SchedcheckMoves.c32, jacquardlaw35_SchedcheckMoves.c34, natC, pick_full, pick_rd hi, if_pos bb, wb]
        rw [decide_eq_true bb.2, w64_id (n := Flow.Insts f + Flow.Params f) (by omega) (by omega), w64_id (n := 0 + b) (by omega) (by omega), w64_id (n := (i : Int) + 1) (by omega) (by omega), ← hN]
        simp only [cond_true]
        by_cases h1 : Flow.N f ≤ Arc.From (rd (Flow.Arcs f) (i : Int)) <;> by_cases h2 : Flow.N f ≤ Arc.To (rd (Flow.Arcs f) (i : Int))
        · simp only [decide_eq_true h1, decide_eq_true h2, cond_true]
          simp only [if_pos h1, if_pos h2] at e
          rw [w64_id (n := 0 + b - b) (by omega) (by omega), w64_id (by omega) (by omega), decide_eq_true (by omega)]
          rfl
        · simp only [decide_eq_true h1, decide_eq_false h2, cond_true, cond_false]
          simp only [if_pos h1, if_neg h2] at e
          rw [w64_id (by omega) (by omega), decide_eq_true (by omega)]
          rfl
        · simp only [decide_eq_false h1, decide_eq_true h2, cond_true, cond_false]
          simp only [if_neg h1, if_pos h2] at e
          rw [w64_id (n := 0 - b) (by omega) (by omega), w64_id (by omega) (by omega), decide_eq_true (by omega)]
          rfl
        · simp only [decide_eq_false h1, decide_eq_false h2, cond_false]
          simp only [if_neg h1, if_neg h2] at e
          rw [w64_id (by omega) (by omega), decide_eq_true (by omega)]
          rfl
    -- what follows once the schedule is moved
    have St : SSIZES (moved s b) := ⟨by show (pick _ _ _).length ≤ _; rw [pick_full]; omega, by have := w.unit; show (Sched.Unit s).length ≤ _; omega, by show (pick _ _ _).length ≤ _; rw [pick_full]; omega⟩
    have rest : Ev (fun k => (schedcheck_Fits.f k f (moved s b)).bind fun y86 => bif (!y86) then some true else (schedcheck_Clashes.f k f s).bind fun y90 => (schedcheck_Clashes.f k f (moved s b)).bind fun y93 => bif (!decide ((y90.length : Int) = (y93.length : Int))) then some false else
        jacquardlaw35_SchedcheckMoves.c20 k b (y90.length : Int) 0 f s (Sched.II s) (Sched.Depth s) (Sched.Unit s) y90 y93 (Sched.Start (moved s b)) (Sched.Params (moved s b))) true := by
      refine .test (fits_prog w.sizes St) (fun q' => ?_) (fun _ => .ret _)
      simp only [Bool.not_true, cond_false]
      refine .bind (clashes_prog w.sizes w.ssizes V F) (.bind (clashes_prog w.sizes St q'.1 q'.2) ?_)
      rw [moved_clash V F]
      simp only [decide_true, Bool.not_true, cond_false]
      have hlen := clList_len (s := s) V
      refine Ev.up (c := fun k i => jacquardlaw35_SchedcheckMoves.c20 k b ((clList f s).length : Int) (i : Int) f s (Sched.II s) (Sched.Depth s) (Sched.Unit s) (clList f s) (clList f s) (Sched.Start (moved s b)) (Sched.Params (moved s b))) (n := (clList f s).length) ?_ (fun i hi ih => ?_) 0 (Nat.zero_le _)
      · refine Ev.step (g := fun k => (schedcheck_Slack.f k f s).bind fun y116 => (schedcheck_Slack.f k f (moved s b)).bind fun y119 => jacquardlaw35_SchedcheckMoves.c27 k b (y116.length : Int) 0 f y116 y119) (.bind (slack_prog w.sizes w.ssizes V F) (.bind (slack_prog w.sizes St q'.1 q'.2) (c27 q'.2))) fun k => ?_
        simp only [jacquardlaw35_SchedcheckMoves.c20]
        rw [decide_eq_false (by omega)]
        rfl
      · refine ih.step fun k => ?_
        have bb : 0 ≤ (i : Int) ∧ (i : Int) < ((clList f s).length : Int) := by omega
        simp only [jacquardlaw35_SchedcheckMoves.c20, natC]
        rw [decide_eq_true bb.2, if_pos bb, if_pos bb, eqPair.2 rfl, w64_id (by omega) (by omega)]
        rfl
    have c10 : Ev (fun k => jacquardlaw35_SchedcheckMoves.c10 k b ((Sched.Params s).length : Int) 0 f s (Sched.II s) (Sched.Depth s) (Sched.Unit s) (Sched.Start (moved s b)) []) true := by
      refine Ev.up (c := fun k i => jacquardlaw35_SchedcheckMoves.c10 k b ((Sched.Params s).length : Int) (i : Int) f s (Sched.II s) (Sched.Depth s) (Sched.Unit s) (Sched.Start (moved s b)) (pick (fun _ => true) (fun i => rd (Sched.Params s) (i : Int) + b) i)) (n := (Sched.Params s).length) ?_ (fun i hi ih => ?_) 0 (Nat.zero_le _)
      · refine rest.step fun k => ?_
        simp only [jacquardlaw35_SchedcheckMoves.c10]
        rw [decide_eq_false (by omega)]
        rfl
      · refine ih.step fun k => ?_
        have bd := F.parms i hi
        have bb : 0 ≤ (i : Int) ∧ (i : Int) < ((Sched.Params s).length : Int) := by omega
        simp only [jacquardlaw35_SchedcheckMoves.c10, natC, wb]
        rw [decide_eq_true bb.2, if_pos bb, w64_id (n := _ + b) (by omega) (by omega), w64_id (n := (i : Int) + 1) (by omega) (by omega), pick_succ, if_pos rfl]
        have hble : Nat.ble ((pick (fun _ => true) (fun i => rd (Sched.Params s) (i : Int) + b) i).length + [rd (Sched.Params s) (i : Int) + b].length) 1073741824 = true := by
          rw [Nat.ble_eq, pick_full, List.length_singleton]; omega
        rw [hble]
        rfl
    refine Ev.up (c := fun k i => jacquardlaw35_SchedcheckMoves.c5 k b ((Sched.Start s).length : Int) (i : Int) f s (Sched.II s) (Sched.Depth s) (Sched.Unit s) (pick (fun _ => true) (fun i => rd (Sched.Start s) (i : Int) + b) i)) (n := (Sched.Start s).length) ?_ (fun i hi ih => ?_) 0 (Nat.zero_le _)
    · refine c10.step fun k => ?_
      simp only [jacquardlaw35_SchedcheckMoves.c5]
      rw [decide_eq_false (by omega)]
      rfl
    · refine ih.step fun k => ?_
      have bd := F.starts i hi
      have bb : 0 ≤ (i : Int) ∧ (i : Int) < ((Sched.Start s).length : Int) := by omega
      simp only [jacquardlaw35_SchedcheckMoves.c5, natC, wb]
      rw [decide_eq_true bb.2, if_pos bb, w64_id (n := _ + b) (by omega) (by omega), w64_id (n := (i : Int) + 1) (by omega) (by omega), pick_succ, if_pos rfl]
      have hble : Nat.ble ((pick (fun _ => true) (fun i => rd (Sched.Start s) (i : Int) + b) i).length + [rd (Sched.Start s) (i : Int) + b].length) 1073741824 = true := by
        rw [Nat.ble_eq, pick_full, List.length_singleton]; omega
      rw [hble]
      rfl
  · simp only [Bool.not_false, cond_true]
    exact .bind awake35 (.ret _)

/-! ### Fewer -/
def moreUnits (r : Resource) : Resource := (Resource.Kind r, Resource.Index r, Resource.Width r, mn (Resource.Count r + 1) 1024, ())
def fewer (f : Flow) (arcs : List Arc) : Flow := (Flow.Insts f, Flow.Params f, Flow.Loop f, arcs, (Flow.Res f).map moreUnits, Flow.Needs f, ())

theorem more_rd {f : Flow} {i : Int} (h0 : 0 ≤ i) (h : i < ((Flow.Res f).length : Int)) : rd ((Flow.Res f).map moreUnits) i = moreUnits (rd (Flow.Res f) i) := by
  obtain ⟨n, rfl⟩ : ∃ n : Nat, i = (n : Int) := ⟨i.toNat, by omega⟩
  rw [rd_eq (by simpa using h), rd_eq (by omega)]
  simp

theorem fewer_ok (V : VALID f) (F : FITS f s) (L : LEGAL f s) {arcs : List Arc} (hlen : 2 * Flow.N f + 1 ≤ (arcs.length : Int)) (hmem : ∀ i, i < arcs.length → ∃ j, j < (Flow.Arcs f).length ∧ rd arcs (i : Int) = rd (Flow.Arcs f) (j : Int)) (hpre : ∀ i : Nat, (i : Int) < 2 * Flow.N f + 1 → rd arcs (i : Int) = rd (Flow.Arcs f) (i : Int)) :
    VALID (fewer f arcs) ∧ FITS (fewer f arcs) s ∧ LEGAL (fewer f arcs) s := by
  have hN : Flow.N (fewer f arcs) = Flow.N f := rfl
  have hNe : Flow.N f = Flow.Insts f + Flow.Params f := rfl
  have i0 := V.i0
  have p0 := V.p0
  have hrl : (Flow.Res (fewer f arcs)).length = (Flow.Res f).length := List.length_map _
  have cnt : ∀ r : Resource, VRes r → VRes (moreUnits r) ∧ Resource.Count r ≤ Resource.Count (moreUnits r) := fun r ⟨r1, r2, r3, r4⟩ => by
    have e : Resource.Count (moreUnits r) = mn (Resource.Count r + 1) 1024 := rfl
    refine ⟨⟨r1, r2, ?_, ?_⟩, ?_⟩ <;> rw [e] <;> unfold mn <;> split <;> omega
  have hresrd : ∀ i : Nat, i < (Flow.Res f).length → rd (Flow.Res (fewer f arcs)) (i : Int) = moreUnits (rd (Flow.Res f) (i : Int)) := fun i hi => more_rd (by omega) (by omega)
  refine ⟨⟨V.i0, V.i1, V.p0, V.p1, V.needs, fun i hi => ?_, hlen, fun v hv => ?_, fun i hi => ?_, fun v hv => ?_, fun i hi => ?_⟩, ⟨F.start, F.unit, F.params, F.ii, F.loop, F.depth, F.starts, F.parms, fun i hi => ?_⟩, ⟨L.depth, fun i hi => ?_, ?_, L.params⟩⟩
  · obtain ⟨j, hj, e⟩ := hmem i hi
    show VArc _ (rd arcs (i : Int))
    rw [e]
    exact V.arcs j hj
  · have := V.head v hv
    unfold VHead at this ⊢
    show rd arcs (v : Int) = _
    rw [hpre v (by rw [hN] at hv; omega)]
    exact this
  · rw [hrl] at hi
    rw [hresrd i hi]
    exact (cnt _ (V.res i hi)).1
  · have := V.tail v hv
    unfold VTail at this ⊢
    rw [hN] at hv ⊢
    have e : rd (Flow.Arcs (fewer f arcs)) (Flow.N f + 1 + (v : Int)) = rd (Flow.Arcs f) (Flow.N f + 1 + (v : Int)) := by
      have := hpre (Flow.N f + 1 + (v : Int)).toNat (by omega)
      rw [show (((Flow.N f + 1 + (v : Int)).toNat : Nat) : Int) = Flow.N f + 1 + (v : Int) by omega] at this
      exact this
    rw [e]
    exact this
  · have := V.need i hi
    unfold VNeed at this ⊢
    rw [hrl]
    exact this
  · obtain ⟨u1, u2⟩ := F.units i hi
    refine ⟨u1, fun h => ?_⟩
    have h : 0 ≤ Need.Res (rd (Flow.Needs f) (i : Int)) := h
    obtain ⟨u3, u4⟩ := u2 h
    have hn := V.needs
    have hu := F.unit
    have vn := V.need i (by omega)
    have hr : Need.Res (rd (Flow.Needs f) (i : Int)) < ((Flow.Res f).length : Int) := by
      rcases vn with ⟨a, _⟩ | ⟨_, a, _⟩
      · have h : 0 ≤ Need.Res (rd (Flow.Needs f) (i : Int)) := h; omega
      · exact a
    refine ⟨u3, ?_⟩
    show _ < Resource.Count (rd ((Flow.Res f).map moreUnits) (Need.Res (rd (Flow.Needs f) (i : Int))))
    rw [more_rd h hr]
    have := V.res (Need.Res (rd (Flow.Needs f) (i : Int))).toNat (by omega)
    rw [show (((Need.Res (rd (Flow.Needs f) (i : Int))).toNat : Nat) : Int) = Need.Res (rd (Flow.Needs f) (i : Int)) by omega] at this
    have := (cnt _ this).2
    omega
  · obtain ⟨j, hj, e⟩ := hmem i hi
    have := L.late j hj
    unfold slk at this ⊢
    have e2 : rd (Flow.Arcs (fewer f arcs)) (i : Int) = rd (Flow.Arcs f) (j : Int) := e
    rw [e2]
    exact this
  · rw [← L.clash]
    exact clList_congr rfl (fun i _ => Iff.rfl) (fun i k _ _ => Iff.rfl)

theorem PureSchedcheckFewer (f : Flow) (s : Sched) (at' : Int) (g0 : Ty.good Flow.T f) (g1 : Ty.good Sched.T s) (g2 : (Lit.int .u8 at').wf = true) : ∃ k, jacquardlaw35_SchedcheckFewer.f k f s at' = some true := by
  refine Ev.ex (f := fun k => jacquardlaw35_SchedcheckFewer.f k f s at') ?_
  have hb : 0 ≤ at' ∧ at' ≤ 255 := by
    simp [Lit.wf, IntKind.min, IntKind.max, IntKind.signed, IntKind.bits] at g2
    omega
  have wb : w64 at' = at' := w64_id (by omega) (by omega)
  simp only [jacquardlaw35_SchedcheckFewer.f]
  refine begin35 g0 g1 fun w => ?_
  refine .bind (check_prog w.sizes w.ssizes) ?_
  by_cases q : VALID f ∧ FITS f s
  rotate_left
  · rw [if_neg q]
    exact .bind awake35 (.ret _)
  rw [if_pos q]
  by_cases L : LEGAL f s
  rotate_left
  · rw [if_neg L]
    exact .bind awake35 (.ret _)
  rw [if_pos L]
  simp only [decide_true, Bool.not_true, cond_false]
  obtain ⟨V, F⟩ := q
  have hN : Flow.N f = Flow.Insts f + Flow.Params f := rfl
  have i0 := V.i0
  have i1 := V.i1
  have p0 := V.p0
  have p1 := V.p1
  have ha := w.arcs
  have hr := w.res
  have hVl := V.len
  -- behind the arcs
  have go : ∀ arcs : List Arc, arcs.length ≤ 1000 → VALID (fewer f arcs) ∧ FITS (fewer f arcs) s ∧ LEGAL (fewer f arcs) s → ∀ rs, Ev (fun k => jacquardlaw35_SchedcheckFewer.c8 k f s (Flow.Insts f) (Flow.Params f) (Flow.Loop f) arcs rs (Flow.Needs f)) true := fun arcs hal hok rs => by
    have S' : SIZES (fewer f arcs) := ⟨by show arcs.length ≤ _; omega, by show ((Flow.Res f).map moreUnits).length ≤ _; rw [List.length_map]; omega, w.sizes.needs⟩
    have last : Ev (fun k => (schedcheck_Check.f k (fewer f arcs) s).bind fun y89 => some (decide (y89 = 0))) true := by
      refine .bind (check_prog S' w.ssizes) ?_
      rw [if_pos ⟨hok.1, hok.2.1⟩, if_pos hok.2.2]
      exact .ret _
    have e : (Flow.Res f).map moreUnits = pick (fun _ => true) (fun i => moreUnits (rd (Flow.Res f) (i : Int))) (Flow.Res f).length := by
      rw [pick_all]
      apply List.ext_getElem
      · simp
      · intro i h1 h2
        simp only [List.getElem_map, List.getElem_range]
        rw [rd_eq (by simpa using h1)]
    refine Ev.step (g := fun k => jacquardlaw35_SchedcheckFewer.c10 k ((Flow.Res f).length : Int) 0 f s (Flow.Insts f) (Flow.Params f) (Flow.Loop f) arcs (Flow.Needs f) []) ?_ (fun k => by simp only [jacquardlaw35_SchedcheckFewer.c8])
    refine Ev.up (c := fun k i => jacquardlaw35_SchedcheckFewer.c10 k ((Flow.Res f).length : Int) (i : Int) f s (Flow.Insts f) (Flow.Params f) (Flow.Loop f) arcs (Flow.Needs f) (pick (fun _ => true) (fun i => moreUnits (rd (Flow.Res f) (i : Int))) i)) (n := (Flow.Res f).length) ?_ (fun i hi ih => ?_) 0 (Nat.zero_le _)
    · refine last.step fun k => ?_
      simp only [jacquardlaw35_SchedcheckFewer.c10]
      rw [decide_eq_false (by omega), ← e]
      rfl
    · refine ih.step fun k => ?_
      have bb : 0 ≤ (i : Int) ∧ (i : Int) < ((Flow.Res f).length : Int) := by omega
      obtain ⟨_, _, c1, c2⟩ := V.res i hi
      simp only [jacquardlaw35_SchedcheckFewer.c10, natC]
      rw [decide_eq_true bb.2, if_pos bb, w64_id (n := Resource.Count _ + 1) (by omega) (by omega), w64_id (n := (i : Int) + 1) (by omega) (by omega), pick_succ, if_pos rfl]
      have hble : ∀ x : Resource, Nat.ble ((pick (fun _ => true) (fun i => moreUnits (rd (Flow.Res f) (i : Int))) i).length + [x].length) 1073741824 = true := fun x => by
        rw [Nat.ble_eq, pick_full, List.length_singleton]; omega
      rw [hble]
      rfl
  rw [w64_id (n := Flow.Insts f + Flow.Params f) (by omega) (by omega), ← hN, w64_id (n := 2 * Flow.N f) (by omega) (by omega), w64_id (n := 2 * Flow.N f + 1) (by omega) (by omega), wb]
  refine .cond (fun h => ?_) (fun h => ?_)
  · have h := of_decide_eq_true h
    generalize hm : ((Flow.Arcs f).length : Int) - (2 * Flow.N f + 1) = m
    have mpos : 0 < m := by omega
    rw [w64_id (n := m) (by omega) (by omega)]
    have t1 := Int.tmod_nonneg m hb.1
    have t2 := Int.tmod_lt_of_pos at' mpos
    generalize hi : Int.tmod at' m = i at *
    rw [w64_id (n := 2 * Flow.N f + 1 + i) (by omega) (by omega), w64_id (n := 2 * Flow.N f + 1 + i + 1) (by omega) (by omega)]
    generalize hx : (2 * Flow.N f + 1 + i).toNat = x
    have hx2 : (2 * Flow.N f + 1 + i + 1).toNat = x + 1 := by omega
    rw [hx2]
    have b1 : Nat.ble (([] : List Arc).length + (List.take x (Flow.Arcs f)).length) 1073741824 = true := by
      rw [Nat.ble_eq, List.length_take]; simp; omega
    have b2 : Nat.ble ((([] : List Arc) ++ List.take x (Flow.Arcs f)).length + (List.drop (x + 1) (Flow.Arcs f)).length) 1073741824 = true := by
      rw [Nat.ble_eq, List.nil_append, List.length_take, List.length_drop]; omega
    rw [b1, b2]
    refine Ev.pos (by omega) (Ev.pos (by omega) ?_)
    simp only [cond_true]
    refine Ev.pos (by omega) ?_
    rw [List.nil_append]
    have alen : (List.take x (Flow.Arcs f) ++ List.drop (x + 1) (Flow.Arcs f)).length = (Flow.Arcs f).length - 1 := by
      rw [List.length_append, List.length_take, List.length_drop]; omega
    have ard : ∀ n : Nat, n < (Flow.Arcs f).length - 1 → rd (List.take x (Flow.Arcs f) ++ List.drop (x + 1) (Flow.Arcs f)) (n : Int) = rd (Flow.Arcs f) ((if n < x then n else n + 1 : Nat) : Int) := fun n hn => by
      unfold rd
      simp only [Int.toNat_natCast, List.getD_eq_getElem?_getD]
      by_cases hnx : n < x
      · rw [List.getElem?_append_left (by rw [List.length_take]; omega), List.getElem?_take, if_pos hnx, if_pos hnx]
      · rw [List.getElem?_append_right (by rw [List.length_take]; omega), List.length_take, Nat.min_eq_left (by omega), List.getElem?_drop, if_neg hnx]
        congr 2
        omega
    refine go _ (by omega) (fewer_ok V F L (by omega) (fun n hn => ?_) (fun n hn => ?_)) _
    · rw [alen] at hn
      refine ⟨if n < x then n else n + 1, by split <;> omega, ard n hn⟩
    · rw [ard n (by omega), if_pos (by omega)]
  · exact go _ (by omega) (fewer_ok V F L V.len (fun n hn => ⟨n, hn, rfl⟩) (fun n hn => rfl)) _
end
end Go.Proofs.YtklfakmpfinlaaaV
