/- Chapter 31: certificates: BoundsRecurrence, BoundsAccepts. -/
import Derived.Test.YtehpelomfhaleaaV31e
set_option linter.unusedVariables false
set_option linter.unusedSimpArgs false
namespace Go.Proofs.YtehpelomfhaleaaV
open Go Go.Vm Diff

section
variable {f : Flow} {b : Bound}

theorem max_iff (r : Int) {x : Int} (hx : 1 ≤ x) : ∀ m : Nat, x ≤ maxN (Flow.Needs f) r m ↔ ∃ i : Nat, i < m ∧ Need.Res (rd (Flow.Needs f) (i : Int)) = r ∧ x ≤ Need.Busy (rd (Flow.Needs f) (i : Int))
  | 0 => by
    constructor
    · intro h; simp [maxN] at h; omega
    · rintro ⟨i, hi, _⟩; omega
  | m + 1 => by
    have ih := max_iff r hx m
    rw [maxN_succ]
    by_cases hr : Need.Res (rd (Flow.Needs f) (m : Int)) = r
    · rw [if_pos hr]
      constructor
      · intro h
        rcases mx_eq (maxN (Flow.Needs f) r m) (Need.Busy (rd (Flow.Needs f) (m : Int))) with e | e <;> rw [e] at h
        · obtain ⟨i, h1, h2⟩ := ih.1 h
          exact ⟨i, by omega, h2⟩
        · exact ⟨m, by omega, hr, h⟩
      · rintro ⟨i, hi, h1, h2⟩
        by_cases e : i = m
        · subst e; have := le_mx_r (maxN (Flow.Needs f) r i) (Need.Busy (rd (Flow.Needs f) (i : Int))); omega
        · have := ih.2 ⟨i, by omega, h1, h2⟩
          have := le_mx_l (maxN (Flow.Needs f) r m) (Need.Busy (rd (Flow.Needs f) (m : Int)))
          omega
    · rw [if_neg hr, ih]
      constructor
      · rintro ⟨i, hi, h⟩; exact ⟨i, by omega, h⟩
      · rintro ⟨i, hi, h1, h2⟩
        by_cases e : i = m
        · subst e; exact absurd h1 hr
        · exact ⟨i, by omega, h1, h2⟩

theorem check1 (x : Need) (b : Bound) : bounds_Check_1.f x b = some (decide (Need.Res x = Bound.Res b ∧ Bound.II b ≤ Need.Busy x), ()) := by
  unfold bounds_Check_1.f
  by_cases h : Need.Res x = Bound.Res b <;> simp [h]

theorem contains (V : VALID f) (hn : (Flow.Needs f).length ≤ 1000000) (b : Bound) : W (fun k => api_Need.f k (Flow.Needs f) b) (fun r => r.1 = true ↔ ∃ i : Nat, i < (Flow.Needs f).length ∧ Need.Res (rd (Flow.Needs f) (i : Int)) = Bound.Res b ∧ Bound.II b ≤ Need.Busy (rd (Flow.Needs f) (i : Int))) := by
  have loop : ∀ (d i : Nat), i + d = (Flow.Needs f).length → (∀ t : Nat, t < i → ¬ (Need.Res (rd (Flow.Needs f) (t : Int)) = Bound.Res b ∧ Bound.II b ≤ Need.Busy (rd (Flow.Needs f) (t : Int)))) →
      W (fun k => api_Need_i1.c2 k (Flow.Needs f) ((Flow.Needs f).length : Int) (i : Int) b) (fun r => 0 ≤ r.1 ↔ ∃ i : Nat, i < (Flow.Needs f).length ∧ Need.Res (rd (Flow.Needs f) (i : Int)) = Bound.Res b ∧ Bound.II b ≤ Need.Busy (rd (Flow.Needs f) (i : Int))) := by
    intro d
    induction d with
    | zero =>
      intro i hi hN
      refine .succ ?_
      simp (disch := omega) only [api_Need_i1.c2, ↓cdF]
      refine .ret ⟨(fun q => by simp at q), ?_⟩
      rintro ⟨t, ht, h⟩
      exact absurd h (hN t (by omega))
    | succ d ih =>
      intro i hi hN
      refine .succ ?_
      simp (disch := omega) only [api_Need_i1.c2, ↓cdT, ↓if_pos, check1, Option.bind_some, w64_id]
      refine .dec (fun c => .ret ⟨fun _ => ⟨i, by omega, c⟩, fun _ => by show (0 : Int) ≤ (i : Int); omega⟩) fun c => ?_
      refine ih (i + 1) (by omega) (fun t ht h => ?_)
      by_cases e : t = i
      · subst e; exact c h
      · exact hN t (by omega) h
  simp only [api_Need.f, api_Need_i1.f]
  refine W.bind (loop (Flow.Needs f).length 0 (by omega) (fun t ht => by omega)) fun r hr => ?_
  exact .ret ⟨fun q => hr.1 (of_decide_eq_true q), fun q => decide_eq_true (hr.2 q)⟩

/-- the certificates that are accepted -/
def ACC (f : Flow) (b : Bound) : Prop := 1 ≤ Bound.II b ∧ Bound.II b ≤ 256 ∧
  ((Bound.Kind b = 1 ∧ Bound.II b = 1) ∨ (Bound.Kind b = 2 ∧ 2 ≤ Bound.II b ∧ Cyc (Flow.N f + 2) (Flow.Arcs f) (Bound.II b - 1) (Bound.Cycle b)) ∨
   (Bound.Kind b = 3 ∧ 0 ≤ Bound.Res b ∧ Bound.Res b < ((Flow.Res f).length : Int) ∧ (Bound.II b - 1) * Resource.Count (rd (Flow.Res f) (Bound.Res b)) < SUM f (Bound.Res b)) ∨
   (Bound.Kind b = 4 ∧ 0 ≤ Bound.Res b ∧ Bound.Res b < ((Flow.Res f).length : Int) ∧ Bound.II b ≤ MAX f (Bound.Res b)))

theorem acc1 (h0 : 1 ≤ Bound.II b) (h1 : Bound.II b ≤ 256) (k : Bound.Kind b = 1) : Bound.II b = 1 ↔ ACC f b := by
  constructor
  · intro h; exact ⟨h0, h1, .inl ⟨k, h⟩⟩
  · rintro ⟨_, _, ⟨_, h⟩ | ⟨q, _⟩ | ⟨q, _⟩ | ⟨q, _⟩⟩ <;> omega
theorem acc2 (h0 : 1 ≤ Bound.II b) (h1 : Bound.II b ≤ 256) (k : Bound.Kind b = 2) : (2 ≤ Bound.II b ∧ Cyc (Flow.N f + 2) (Flow.Arcs f) (Bound.II b - 1) (Bound.Cycle b)) ↔ ACC f b := by
  constructor
  · intro h; exact ⟨h0, h1, .inr (.inl ⟨k, h⟩)⟩
  · rintro ⟨_, _, ⟨q, _⟩ | ⟨_, h⟩ | ⟨q, _⟩ | ⟨q, _⟩⟩
    · omega
    · exact h
    · omega
    · omega
theorem acc3 (h0 : 1 ≤ Bound.II b) (h1 : Bound.II b ≤ 256) (k : Bound.Kind b = 3) : (0 ≤ Bound.Res b ∧ Bound.Res b < ((Flow.Res f).length : Int) ∧ (Bound.II b - 1) * Resource.Count (rd (Flow.Res f) (Bound.Res b)) < SUM f (Bound.Res b)) ↔ ACC f b := by
  constructor
  · intro h; exact ⟨h0, h1, .inr (.inr (.inl ⟨k, h⟩))⟩
  · rintro ⟨_, _, ⟨q, _⟩ | ⟨q, _⟩ | ⟨_, h⟩ | ⟨q, _⟩⟩
    · omega
    · omega
    · exact h
    · omega
theorem acc4 (h0 : 1 ≤ Bound.II b) (h1 : Bound.II b ≤ 256) (k : Bound.Kind b = 4) : (0 ≤ Bound.Res b ∧ Bound.Res b < ((Flow.Res f).length : Int) ∧ Bound.II b ≤ MAX f (Bound.Res b)) ↔ ACC f b := by
  constructor
  · intro h; exact ⟨h0, h1, .inr (.inr (.inr ⟨k, h⟩))⟩
  · rintro ⟨_, _, ⟨q, _⟩ | ⟨q, _⟩ | ⟨q, _⟩ | ⟨_, h⟩⟩
    · omega
    · omega
    · omega
    · exact h
theorem acc_no (k : Bound.Kind b ≠ 1) (k2 : Bound.Kind b ≠ 2) (k3 : Bound.Kind b ≠ 3) (k4 : Bound.Kind b ≠ 4) : ¬ ACC f b := by
  rintro ⟨_, _, ⟨q, _⟩ | ⟨q, _⟩ | ⟨q, _⟩ | ⟨q, _⟩⟩ <;> omega

theorem prod_b (V : VALID f) (h0 : 1 ≤ Bound.II b) (h1 : Bound.II b ≤ 256) (r0 : 0 ≤ Bound.Res b) (r1 : Bound.Res b < ((Flow.Res f).length : Int)) :
    w64 ((w64 (Bound.II b - 1)) * (Resource.Count (rd (Flow.Res f) (Bound.Res b)))) = (Bound.II b - 1) * Resource.Count (rd (Flow.Res f) (Bound.Res b)) := by
  obtain ⟨j, hj⟩ : ∃ j : Nat, Bound.Res b = (j : Int) := ⟨(Bound.Res b).toNat, by omega⟩
  obtain ⟨_, _, c0, c1⟩ := V.res j (by omega)
  rw [hj, w64_id (n := Bound.II b - 1) (by omega) (by omega)]
  have e1 := Int.mul_nonneg (show 0 ≤ Bound.II b - 1 by omega) (show 0 ≤ Resource.Count (rd (Flow.Res f) (j : Int)) by omega)
  have e2 := Int.mul_le_mul (show Bound.II b - 1 ≤ 256 by omega) c1 (by omega) (by omega)
  exact w64_id (by omega) (by omega)

theorem check_prog (V : VALID f) (h : FEW f) (hl : Flow.Loop f = true) (b : Bound) (hc : (Bound.Cycle b).length ≤ 1000000) : EvP (fun k => bounds_Check.f k f b) (ACC f b) := by
  have hres := h.1.res
  have no : ¬ ACC f b → W (fun _ => some false) (fun x => x = true ↔ ACC f b) := fun q => .ret ⟨(fun q => by cases q), fun r => absurd r q⟩
  have dc : ∀ {p : Prop} [Decidable p], (p ↔ ACC f b) → W (fun _ => some (decide p)) (fun x => x = true ↔ ACC f b) := fun q => .ret ⟨fun r => q.1 (of_decide_eq_true r), fun r => decide_eq_true (q.2 r)⟩
  simp only [bounds_Check.f]
  refine W.p (W.bindEv (loop_prog V h hl) ?_)
  simp only [decide_true, Bool.not_true, cond_false]
  refine .dec (fun c => no (fun q => by have := q.1; omega)) fun b0 => ?_
  refine .dec (fun c => no (fun q => by have := q.2.1; omega)) fun b1 => ?_
  have b0 : 1 ≤ Bound.II b := by omega
  have b1 : Bound.II b ≤ 256 := by omega
  have two : Bound.Kind b = 2 → W (fun k => (dataflow_Nodes.f f).bind fun y45 => (diffcons_Positive.f k y45 (Flow.Arcs f) (w64 ((Bound.II b) - 1)) (Bound.Cycle b)).bind fun y53 => bif (decide (2 ≤ (Bound.II b))) then some y53.2.1 else some false) (fun x => x = true ↔ ACC f b) := by
    intro k2
    simp (disch := omega) only [nodes_eq V, Option.bind_some, w64_id]
    have hP := positive_f (n0 := Flow.N f + 2) (arcs := Flow.Arcs f) (ii := Bound.II b - 1) (c := Bound.Cycle b) hc
    rw [nod_of V] at hP
    refine W.bind hP fun r hr => ?_
    refine .dec (fun c => .ret ?_) fun c => no (fun q => c ((acc2 b0 b1 k2).2 q).1)
    rw [hr.iff]
    exact ⟨fun q => (acc2 b0 b1 k2).1 ⟨c, q⟩, fun q => ((acc2 b0 b1 k2).2 q).2⟩
  refine .dec (fun r0 => ?_) fun r0 => ?_
  · refine .dec (fun k1 => dc (acc1 b0 b1 k1)) fun k1 => ?_
    refine .dec (fun k2 => two k2) fun k2 => ?_
    refine .dec (fun k3 => ?_) fun k3 => ?_
    · refine W.bind (usage_ev V (by omega)) fun u hu => ?_
      refine .dec (fun r1 => ?_) fun r1 => no (fun q => r1 ((acc3 b0 b1 k3).2 q).2.1)
      obtain ⟨u1, u2, u3⟩ := hu
      simp (disch := omega) only [↓if_pos]
      rw [prod_b V b0 b1 r0 r1]
      have e := (u3 (Bound.Res b).toNat (by omega)).1
      rw [show (((Bound.Res b).toNat : Nat) : Int) = Bound.Res b by omega] at e
      rw [e]
      exact dc ⟨fun q => (acc3 b0 b1 k3).1 ⟨r0, r1, q⟩, fun q => ((acc3 b0 b1 k3).2 q).2.2⟩
    · refine .dec (fun k4 => ?_) fun k4 => no (acc_no k1 k2 k3 k4)
      refine .dec (fun r1 => ?_) fun r1 => no (fun q => r1 ((acc4 b0 b1 k4).2 q).2.1)
      refine W.bind (contains V (by have := h.2; omega) b) fun r hr => ?_
      refine .ret ?_
      rw [hr, ← max_iff (Bound.Res b) b0 (Flow.Needs f).length]
      exact ⟨fun q => (acc4 b0 b1 k4).1 ⟨r0, r1, q⟩, fun q => ((acc4 b0 b1 k4).2 q).2.2⟩
  · refine .dec (fun k1 => dc (acc1 b0 b1 k1)) fun k1 => ?_
    refine .dec (fun k2 => two k2) fun k2 => ?_
    refine .dec (fun k3 => ?_) fun k3 => ?_
    · refine W.bind (usage_ev V (by omega)) fun u hu => no (fun q => r0 ((acc3 b0 b1 k3).2 q).1)
    · refine .dec (fun k4 => no (fun q => r0 ((acc4 b0 b1 k4).2 q).1)) fun k4 => no (acc_no k1 k2 k3 k4)

theorem acc_ref (V : VALID f) (h : FEW f) (b : Bound) (hc : (Bound.Cycle b).length ≤ 1000000) : EvP (fun k => jacquardref31_Accepts.f k f b) (ACC f b) := by
  have hres := h.1.res
  have hi0 := V.i0; have hp0 := V.p0; have hi1 := h.1.insts; have hp1 := h.1.params
  have hN : Flow.N f = Flow.Insts f + Flow.Params f := rfl
  have no : ¬ ACC f b → W (fun _ => some false) (fun x => x = true ↔ ACC f b) := fun q => .ret ⟨(fun q => by cases q), fun r => absurd r q⟩
  have dc : ∀ {p : Prop} [Decidable p], (p ↔ ACC f b) → W (fun _ => some (decide p)) (fun x => x = true ↔ ACC f b) := fun q => .ret ⟨fun r => q.1 (of_decide_eq_true r), fun r => decide_eq_true (q.2 r)⟩
  simp only [jacquardref31_Accepts.f]
  refine W.p ?_
  refine .dec (fun c => no (fun q => by have := q.1; omega)) fun b0 => ?_
  refine .dec (fun c => no (fun q => by have := q.2.1; omega)) fun b1 => ?_
  have b0 : 1 ≤ Bound.II b := by omega
  have b1 : Bound.II b ≤ 256 := by omega
  refine .dec (fun k1 => dc (acc1 b0 b1 k1)) fun k1 => ?_
  refine .dec (fun k2 => ?_) fun k2 => ?_
  · simp (disch := omega) only [end_ref V, Option.bind_some, w64_id]
    rw [show Flow.N f + 1 + 1 = Flow.N f + 2 by omega]
    have hP := positive_ref (n0 := Flow.N f + 2) (arcs := Flow.Arcs f) (ii := Bound.II b - 1) (c := Bound.Cycle b) hc
    rw [nod_of V] at hP
    refine W.bind hP fun r hr => ?_
    refine .dec (fun c => .ret ?_) fun c => no (fun q => c ((acc2 b0 b1 k2).2 q).1)
    rw [hr.iff]
    exact ⟨fun q => (acc2 b0 b1 k2).1 ⟨c, q⟩, fun q => ((acc2 b0 b1 k2).2 q).2⟩
  have c11 : (Bound.Kind b = 3 ∨ Bound.Kind b = 4) → W (fun k => jacquardref31_Accepts.c11 k f b) (fun x => x = true ↔ ACC f b) := by
    intro k34
    refine .succ ?_
    simp only [jacquardref31_Accepts.c11]
    refine .dec (fun c => no (fun q => ?_)) fun r0 => ?_
    · rcases k34 with k3 | k4
      · have := ((acc3 b0 b1 k3).2 q).1; omega
      · have := ((acc4 b0 b1 k4).2 q).1; omega
    refine .dec (fun c => no (fun q => ?_)) fun r1 => ?_
    · rcases k34 with k3 | k4
      · have := ((acc3 b0 b1 k3).2 q).2.1; omega
      · have := ((acc4 b0 b1 k4).2 q).2.1; omega
    have r0 : 0 ≤ Bound.Res b := by omega
    have r1 : Bound.Res b < ((Flow.Res f).length : Int) := by omega
    refine W.bindEv (Sum_ref V (Bound.Res b)) ?_
    refine .dec (fun k3 => ?_) fun k3 => ?_
    · simp (disch := omega) only [↓if_pos]
      rw [prod_b V b0 b1 r0 r1]
      exact dc ⟨fun q => (acc3 b0 b1 k3).1 ⟨r0, r1, q⟩, fun q => ((acc3 b0 b1 k3).2 q).2.2⟩
    · have k4 : Bound.Kind b = 4 := by omega
      exact dc ⟨fun q => (acc4 b0 b1 k4).1 ⟨r0, r1, q⟩, fun q => ((acc4 b0 b1 k4).2 q).2.2⟩
  refine .dec (fun k3 => c11 (.inl k3)) fun k3 => ?_
  exact .dec (fun k4 => c11 (.inr k4)) fun k4 => no (acc_no k1 k2 k3 k4)

theorem check_off (h : FEW f) (hn : ¬ (VALID f ∧ Flow.Loop f = true)) (b : Bound) : Ev (fun k => bounds_Check.f k f b) false := by
  simp only [bounds_Check.f, bounds_loop.f]
  by_cases V : VALID f
  · have hl : Flow.Loop f = false := by
      cases e : Flow.Loop f with
      | false => rfl
      | true => exact absurd ⟨V, e⟩ hn
    refine Ev.bind (x := 1) (Ev.bind ((valid_prog (sizes_of h)).true V) ?_) ?_
    · simp only [hl, Bool.not_true, Bool.not_false, cond_false, cond_true]
      exact .ret _
    · exact .ret _
  · refine Ev.bind (x := 3) (Ev.bind ((valid_prog (sizes_of h)).false V) ?_) ?_
    · simp only [Bool.not_false, cond_true]
      exact .ret _
    · exact .ret _

theorem loop_law (h : FEW f) : EvP (fun k => jacquardlaw31_loop.f k f) (VALID f ∧ Flow.Loop f = true) := by
  simp only [jacquardlaw31_loop.f]
  refine EvP.test (valid_ref (sizes_of h)) (fun V => ?_) fun V => ?_
  · simp only [cond_true]
    exact .ret ⟨fun q => ⟨V, q⟩, fun q => q.2⟩
  · simp only [cond_false]
    exact .ff (fun q => V q.1)
end

theorem PureBoundsAccepts (f : Flow) (b : Bound) (g0 : Ty.good Flow.T f) (g1 : Ty.good Bound.T b) : ∃ k, jacquardlaw31_BoundsAccepts.f k f b = some true := by
  have ga : (Flow.Arcs f).length ≤ 140737488351232 := g0.2.2.2.1.1
  have gn : (Flow.Needs f).length ≤ 140737488351232 := g0.2.2.2.2.2.1.1
  refine Ev.ex (f := fun k => jacquardlaw31_BoundsAccepts.f k f b) ?_
  simp only [jacquardlaw31_BoundsAccepts.f]
  have hend : Ev (fun k => (jacquardlaw31_awake.f k).bind fun y => some y) true := Ev.bind awake_ev (.ret true)
  refine Ev.bind awake_ev ?_
  simp only [Bool.not_true, cond_false]
  refine Ev.test (few_ev ga gn) (fun hf => ?_) fun _ => hend
  simp only [Bool.not_true, cond_false]
  refine .dec (fun _ => hend) fun hc => ?_
  by_cases hv : VALID f ∧ Flow.Loop f = true
  · obtain ⟨x, h1, h2⟩ := check_prog hv.1 hf hv.2 b (by omega)
    obtain ⟨y, h3, h4⟩ := acc_ref hv.1 hf b (by omega)
    refine Ev.bind h1 (Ev.bind ((loop_law hf).true hv) ?_)
    simp only [cond_true]
    refine Ev.bind h3 ?_
    have e : x = y := by
      rw [Bool.eq_iff_iff, h2, h4]
    rw [e, beq_self_eq_true]
    exact .ret _
  · refine Ev.bind (check_off hf hv b) (Ev.bind ((loop_law hf).false hv) ?_)
    simp only [cond_false]
    exact .ret _

theorem PureBoundsRecurrence (f : Flow) (g0 : Ty.good Flow.T f) : ∃ k, jacquardlaw31_BoundsRecurrence.f k f = some true := by
  have ga : (Flow.Arcs f).length ≤ 140737488351232 := g0.2.2.2.1.1
  have gn : (Flow.Needs f).length ≤ 140737488351232 := g0.2.2.2.2.2.1.1
  refine Ev.ex (f := fun k => jacquardlaw31_BoundsRecurrence.f k f) ?_
  simp only [jacquardlaw31_BoundsRecurrence.f]
  have hend : Ev (fun k => (jacquardlaw31_awake.f k).bind fun y => some y) true := Ev.bind awake_ev (.ret true)
  refine Ev.bind awake_ev ?_
  simp only [Bool.not_true, cond_false]
  refine Ev.test (few_ev ga gn) (fun hf => ?_) fun _ => hend
  simp only [Bool.not_true, cond_false]
  have S := sizes_of hf
  by_cases V : VALID f
  · cases hl : Flow.Loop f with
    | false =>
      have e : Ev (fun k => bounds_Recurrence.f k f) ((0, 0, [], 0, ()), 1, ()) := by
        simp only [bounds_Recurrence.f, bounds_loop.f]
        refine Ev.bind (x := 1) (Ev.bind ((valid_prog S).true V) ?_) ?_
        · simp only [hl, Bool.not_true, Bool.not_false, cond_false, cond_true]
          exact .ret _
        · exact .ret _
      refine Ev.bind e (Ev.bind ((valid_ref S).true V) ?_)
      simp only [Bool.not_true, Bool.not_false, cond_false, cond_true, decide_true]
      exact .ret _
    | true =>
      obtain ⟨r, h1, h2⟩ := rec_prog V hf hl
      obtain ⟨R, h3, h4⟩ := rec_ref V hf
      refine Ev.bind h1 (Ev.bind ((valid_ref S).true V) ?_)
      simp only [Bool.not_true, cond_false]
      refine Ev.bind h3 ?_
      rcases h2 with ⟨rfl, p1⟩ | ⟨rfl, p1⟩ | ⟨Q, c, q0, q1, q2, q3, q4, rfl⟩
      · rcases h4 with ⟨rfl, _⟩ | ⟨r0, r1, r2, r3⟩
        · exact .ret _
        · exact absurd (FS.mono V (by omega) r1 (by omega) r2) p1
      · rcases h4 with ⟨rfl, n1⟩ | ⟨r0, r1, r2, r3⟩
        · exact absurd (FS.mono V (by omega) (by omega) (by omega) p1) n1
        · have e : R = 1 := by
            by_cases e : R = 1
            · exact e
            · exact absurd p1 (r3 1 (by omega) (by omega))
          subst e
          exact .ret _
      · rcases h4 with ⟨rfl, n1⟩ | ⟨r0, r1, r2, r3⟩
        · exact absurd (FS.mono V (by omega) q1 (by omega) q2) n1
        · have e : R = Q := by
            rcases Int.lt_trichotomy R Q with h | h | h
            · exact absurd r2 (q3 R r0 h)
            · exact h
            · exact absurd q2 (r3 Q (by omega) h)
          subst e
          have hcl : (c.length : Int) ≤ Flow.N f + 2 := q4.length_le (by have := V.i0; have := V.p0; have hN : Flow.N f = Flow.Insts f + Flow.Params f := rfl; omega)
          have hN : Flow.N f = Flow.Insts f + Flow.Params f := rfl
          have hi1 := hf.1.insts; have hp1 := hf.1.params
          have hA : ACC f (2, R, c, 0, ()) := ⟨by show 1 ≤ R; omega, q1, .inr (.inl ⟨rfl, q0, q4⟩)⟩
          simp (disch := first | omega | rfl) only [↓cdF, ↓cdT]
          refine Ev.bind ((acc_ref V hf (2, R, c, 0, ()) (by show c.length ≤ 1000000; omega)).true hA) ?_
          simp only [cond_true]
          refine Ev.bind ((check_prog V hf hl (2, R, c, 0, ()) (by show c.length ≤ 1000000; omega)).true hA) ?_
          exact .ret _
  · have e : Ev (fun k => bounds_Recurrence.f k f) ((0, 0, [], 0, ()), 3, ()) := by
      simp only [bounds_Recurrence.f, bounds_loop.f]
      refine Ev.bind (x := 3) (Ev.bind ((valid_prog S).false V) ?_) ?_
      · simp only [Bool.not_false, cond_true]
        exact .ret _
      · exact .ret _
    refine Ev.bind e (Ev.bind ((valid_ref S).false V) ?_)
    simp only [Bool.not_false, cond_true]
    exact .ret _
end Go.Proofs.YtehpelomfhaleaaV
