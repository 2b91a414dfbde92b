/- Chapter 31: resources, the greatest bound, legal schedules: BoundsResources, BoundsLower, BoundsSound. -/
import Derived.Test.YtehpelomfhaleaaV31f
set_option linter.unusedVariables false
set_option linter.unusedSimpArgs false
namespace Go.Proofs.YtehpelomfhaleaaV
open Go Go.Vm Diff

section
variable {f : Flow} {b : Bound} {s : Sched}

/-! ### the bounds by resources -/
theorem sum_b (V : VALID f) (h : FEW f) (r : Int) : 0 ≤ SUM f r ∧ SUM f r ≤ 100000 := by
  have hs := sumN_b V r (Flow.Needs f).length (Nat.le_refl _)
  have hn := h.2
  unfold SUM
  omega
theorem shr_eq (V : VALID f) (h : FEW f) {r : Nat} (hr : r < (Flow.Res f).length) : shr f r = (SUM f r + Resource.Count (rd (Flow.Res f) (r : Int)) - 1) / Resource.Count (rd (Flow.Res f) (r : Int)) ∧ 0 ≤ shr f r ∧ shr f r ≤ 200000 := by
  obtain ⟨s0, s1⟩ := sum_b V h (r : Int)
  obtain ⟨_, _, c0, c1⟩ := V.res r hr
  unfold shr
  generalize Resource.Count (rd (Flow.Res f) (r : Int)) = C at *
  generalize SUM f r = S at *
  rw [w64_id (n := S + C) (by omega) (by omega), w64_id (n := S + C - 1) (by omega) (by omega), Int.tdiv_eq_ediv_of_nonneg (by omega)]
  have h2 : 0 ≤ (S + C - 1) / C := Int.ediv_nonneg (by omega) (by omega)
  have h3 : (S + C - 1) / C ≤ S + C - 1 := Int.ediv_le_self _ (by omega)
  rw [w64_id (by omega) (by omega)]
  exact ⟨rfl, h2, by omega⟩
theorem shr_ge (V : VALID f) (h : FEW f) {r : Nat} (hr : r < (Flow.Res f).length) (hs : SUM f r ≠ 0) : 1 ≤ shr f r ∧ (shr f r - 1) * Resource.Count (rd (Flow.Res f) (r : Int)) < SUM f r := by
  obtain ⟨s0, s1⟩ := sum_b V h (r : Int)
  obtain ⟨_, _, c0, c1⟩ := V.res r hr
  rw [(shr_eq V h hr).1]
  generalize Resource.Count (rd (Flow.Res f) (r : Int)) = C at *
  generalize SUM f r = S at *
  have h1 : (S + C - 1) / C * C ≤ S + C - 1 := Int.ediv_mul_le _ (by omega)
  have h2 : 1 ≤ (S + C - 1) / C := Int.le_ediv_of_mul_le (by omega) (by omega)
  refine ⟨h2, ?_⟩
  rw [Int.sub_mul]
  omega

def RB (f : Flow) (i : Nat) : Bound := if SUM f i = 0 then (1, 1, [], (i : Int), ()) else if MAX f i ≤ shr f i then (3, shr f i, [], (i : Int), ()) else (4, MAX f i, [], (i : Int), ())
theorem RB_res (i : Nat) : Bound.Res (RB f i) = i := by unfold RB; repeat' split
                                                        all_goals rfl
theorem RB_cycle (i : Nat) : Bound.Cycle (RB f i) = [] := by unfold RB; repeat' split
                                                             all_goals rfl
theorem RB_acc (V : VALID f) (h : FEW f) {i : Nat} (hi : i < (Flow.Res f).length) (h256 : Bound.II (RB f i) ≤ 256) : ACC f (RB f i) := by
  unfold RB at *
  split
  · exact ⟨by show (1 : Int) ≤ 1; omega, by show (1 : Int) ≤ 256; omega, .inl ⟨rfl, rfl⟩⟩
  · rename_i hs
    obtain ⟨g1, g2⟩ := shr_ge V h hi hs
    rw [if_neg hs] at h256
    split
    · rename_i hm
      rw [if_pos hm] at h256
      exact ⟨g1, h256, .inr (.inr (.inl ⟨rfl, by show (0 : Int) ≤ (i : Int); omega, by show (i : Int) < _; omega, g2⟩))⟩
    · rename_i hm
      rw [if_neg hm] at h256
      exact ⟨by show 1 ≤ MAX f i; omega, h256, .inr (.inr (.inr ⟨rfl, by show (0 : Int) ≤ (i : Int); omega, by show (i : Int) < _; omega, Int.le_refl _⟩))⟩

theorem res_ref (V : VALID f) {i : Nat} (hi : i < (Flow.Res f).length) : Ev (fun k => jacquardref31_Resource.f k f (i : Int)) (RB f i) := by
  obtain ⟨_, _, c0, c1⟩ := V.res i hi
  simp only [jacquardref31_Resource.f]
  refine Ev.bind (Sum_ref V (i : Int)) ?_
  simp (disch := omega) only [↓if_pos]
  refine .dec (fun h0 => ?_) fun h0 => ?_
  · have e : RB f i = (1, 1, [], (i : Int), ()) := by unfold RB; rw [if_pos h0]
    rw [e]; exact .ret _
  · refine .dec (fun h1 => ?_) fun h1 => ?_
    · have e : RB f i = (3, shr f i, [], (i : Int), ()) := by unfold RB; rw [if_neg h0]; exact if_pos h1
      rw [e]; exact .ret _
    · have e : RB f i = (4, MAX f i, [], (i : Int), ()) := by unfold RB; rw [if_neg h0]; exact if_neg h1
      rw [e]; exact .ret _

theorem needed_ev (V : VALID f) (hr : (Flow.Res f).length ≤ 1000000) : W (fun k => bounds_needed.f k f) (fun o => o.length = (Flow.Res f).length ∧ ∀ q : Nat, q < (Flow.Res f).length → (rd o (q : Int) = true ↔ SUM f q ≠ 0)) := by
  have hn := V.needs
  have hi1 := V.i1
  simp (disch := omega) only [bounds_needed.f, ↓if_pos]
  have loop : ∀ (d i : Nat) (o : List Bool), i + d = (Flow.Needs f).length → o.length = (Flow.Res f).length → (∀ q : Nat, q < (Flow.Res f).length → (rd o (q : Int) = true ↔ sumN (Flow.Needs f) q i ≠ 0)) →
      W (fun k => bounds_needed.c3 k (Flow.Needs f) ((Flow.Needs f).length : Int) (i : Int) o) (fun o => o.length = (Flow.Res f).length ∧ ∀ q : Nat, q < (Flow.Res f).length → (rd o (q : Int) = true ↔ SUM f q ≠ 0)) := by
    intro d
    induction d with
    | zero =>
      intro i o hi ho hx
      have e : i = (Flow.Needs f).length := by omega
      subst e
      refine .succ ?_
      simp (disch := omega) only [bounds_needed.c3, ↓cdF]
      exact .ret ⟨ho, hx⟩
    | succ d ih =>
      intro i o hi ho hx
      refine .succ ?_
      simp (disch := omega) only [bounds_needed.c3, ↓cdT, ↓if_pos, w64_id (n := (i : Int) + 1)]
      have hv := V.need i (by omega)
      refine .dec (fun h => ?_) fun h => ?_
      · have hv' : 0 ≤ Need.Res (rd (Flow.Needs f) (i : Int)) ∧ Need.Res (rd (Flow.Needs f) (i : Int)) < ((Flow.Res f).length : Int) ∧ 1 ≤ Need.Busy (rd (Flow.Needs f) (i : Int)) := by
          rcases hv with ⟨q, _⟩ | ⟨q1, q2, q3, _⟩
          · omega
          · exact ⟨q1, q2, q3⟩
        obtain ⟨q, hq⟩ : ∃ q : Nat, Need.Res (rd (Flow.Needs f) (i : Int)) = (q : Int) := ⟨(Need.Res (rd (Flow.Needs f) (i : Int))).toNat, by omega⟩
        rw [hq] at hv'
        simp (disch := omega) only [hq, ↓if_pos, Int.toNat_natCast]
        refine ih (i + 1) _ (by omega) (by simpa using ho) fun p hp => ?_
        rw [Go.Vm.rd_set (by omega), sumN_succ, hq]
        by_cases e : q = p
        · subst e
          have sb := sumN_b V q i (by omega)
          rw [if_pos rfl, if_pos rfl]
          exact ⟨fun _ => by omega, fun _ => rfl⟩
        · have e' : ¬ (q : Int) = (p : Int) := by omega
          rw [if_neg e, if_neg e']
          exact hx p hp
      · refine ih (i + 1) o (by omega) ho fun p hp => ?_
        rw [sumN_succ]
        have e' : ¬ Need.Res (rd (Flow.Needs f) (i : Int)) = (p : Int) := by omega
        rw [if_neg e']
        exact hx p hp
  rw [Int.toNat_natCast]
  exact loop (Flow.Needs f).length 0 _ (by omega) (by simp) fun q hq => by rw [Go.Vm.rd_replicate hq]; simp [sumN]

def RBS (f : Flow) : List Bound := (List.range (Flow.Res f).length).map fun i => RB f i
theorem RBS_len : (RBS f).length = (Flow.Res f).length := by simp [RBS]
theorem RBS_rd {i : Nat} (hi : i < (Flow.Res f).length) : rd (RBS f) (i : Int) = RB f i := by
  rw [Diff.rd_eq (j := i) rfl (by rw [RBS_len]; exact hi)]
  simp [RBS]

theorem resources_prog (V : VALID f) (h : FEW f) (hl : Flow.Loop f = true) : Ev (fun k => bounds_Resources.f k f) (RBS f) := by
  have hres := h.1.res
  simp only [bounds_Resources.f]
  refine Ev.bind (loop_prog V h hl) ?_
  simp only [decide_true, Bool.not_true, cond_false]
  obtain ⟨u, hu, u1, u2, u3⟩ := usage_ev V (by omega)
  obtain ⟨o, ho, o1, o2⟩ := needed_ev V (by omega)
  refine Ev.bind hu (Ev.bind ho ?_)
  have loop : ∀ (d i : Nat), i + d = (Flow.Res f).length → Ev (fun k => bounds_Resources.c7 k (Flow.Res f) ((Flow.Res f).length : Int) (i : Int) u.1 u.2.1 o ((List.range i).map fun i => RB f i)) (RBS f) := by
    intro d
    induction d with
    | zero =>
      intro i hi
      have e : i = (Flow.Res f).length := by omega
      subst e
      refine .succ ?_
      simp (disch := omega) only [bounds_Resources.c7, ↓cdF]
      exact .ret _
    | succ d ih =>
      intro i hi
      have hir : i < (Flow.Res f).length := by omega
      obtain ⟨_, _, c0, c1⟩ := V.res i hir
      have e1 := (u3 i hir).1
      have e2 := (u3 i hir).2
      have e3 := o2 i hir
      have hsh : bounds_share.f (SUM f i) (Resource.Count (rd (Flow.Res f) (i : Int))) = some (shr f i) := by
        unfold bounds_share.f
        rw [if_pos (by omega)]
        rfl
      have hacc : ((List.range i).map fun i => RB f i).length = i := by simp
      have next := ih (i + 1) (by omega)
      rw [List.range_succ, List.map_append] at next
      refine .succ ?_
      simp (disch := omega) only [bounds_Resources.c7, ↓cdT, ↓if_pos, w64_id (n := (i : Int) + 1), e1, e2, hsh, Option.bind_some]
      refine Ev.cond (fun hb => ?_) fun hb => ?_
      · have hs := e3.1 hb
        refine .dec (fun hm => ?_) fun hm => ?_
        · have e : RB f i = (4, MAX f i, [], (i : Int), ()) := by unfold RB; rw [if_neg hs, if_neg (by omega)]
          rw [List.map_singleton, e] at next
          simp (disch := (simp only [List.length_map, List.length_range, List.length_cons, List.length_nil]; omega)) only [↓bleT]
          exact next
        · have e : RB f i = (3, shr f i, [], (i : Int), ()) := by unfold RB; rw [if_neg hs, if_pos (by omega)]
          rw [List.map_singleton, e] at next
          simp (disch := (simp only [List.length_map, List.length_range, List.length_cons, List.length_nil]; omega)) only [↓bleT]
          exact next
      · have hs : SUM f i = 0 := by
          by_cases q : SUM f i = 0
          · exact q
          · rw [e3.2 q] at hb; cases hb
        have e : RB f i = (1, 1, [], (i : Int), ()) := by unfold RB; rw [if_pos hs]
        rw [List.map_singleton, e] at next
        simp (disch := (simp only [List.length_map, List.length_range, List.length_cons, List.length_nil]; omega)) only [↓bleT]
        exact next
  exact loop (Flow.Res f).length 0 (by omega)

/-! ### the greatest bound -/
def best (l : List Bound) (b : Bound) : Nat → Bound
  | 0 => b
  | n + 1 => if Bound.II (best l b n) < Bound.II (rd l (n : Int)) then rd l (n : Int) else best l b n
theorem best_in {P : Bound → Prop} {l : List Bound} {b : Bound} (hb : P b) : ∀ n : Nat, (∀ i : Nat, i < n → P (rd l (i : Int))) → P (best l b n)
  | 0, _ => hb
  | n + 1, h => by
    unfold best
    split
    · exact h n (by omega)
    · exact best_in hb n (fun i hi => h i (by omega))
def fin31 (b : Bound) : Bound × Int × Unit := if 256 < Bound.II b then ((0, 0, [], 0, ()), 14, ()) else (b, 0, ())

theorem lower_c5 (l : List Bound) (b : Bound) (hl : l.length ≤ 1000000) : Ev (fun k => bounds_Lower.c5 k l (l.length : Int) 0 0 0 0 (Bound.Kind b) (Bound.II b) (Bound.Cycle b) (Bound.Res b)) (fin31 (best l b l.length)) := by
  refine Ev.up (c := fun k i => bounds_Lower.c5 k l (l.length : Int) (i : Int) 0 0 0 (Bound.Kind (best l b i)) (Bound.II (best l b i)) (Bound.Cycle (best l b i)) (Bound.Res (best l b i))) (n := l.length) ?_ ?_ 0 (Nat.zero_le _)
  · refine .succ ?_
    simp (disch := omega) only [bounds_Lower.c5, ↓cdF]
    unfold fin31
    refine .dec (fun h => ?_) fun h => ?_
    · rw [if_pos h]; exact .ret _
    · rw [if_neg h]; exact .ret _
  · intro i hi hnext
    refine .succ ?_
    simp (disch := omega) only [bounds_Lower.c5, ↓cdT, ↓if_pos, w64_id]
    refine .dec (fun h => ?_) fun h => ?_
    · have e : best l b (i + 1) = rd l (i : Int) := if_pos h
      rw [e] at hnext
      exact hnext
    · have e : best l b (i + 1) = best l b i := if_neg h
      rw [e] at hnext
      exact hnext

/-- Recurrence, of any flow -/
theorem rec_any (h : FEW f) : W (fun k => bounds_Recurrence.f k f) (fun r => r.2.1 ≠ 0 ∨ (r.2.1 = 0 ∧ VALID f ∧ Flow.Loop f = true ∧ ACC f r.1 ∧ Bound.II r.1 ≤ 256 ∧ (Bound.Cycle r.1).length ≤ 1000000)) := by
  have S := sizes_of h
  by_cases V : VALID f
  · cases hl : Flow.Loop f with
    | false =>
      refine Ev.w (y := ((0, 0, [], 0, ()), 1, ())) ?_ (.inl (by show (1 : Int) ≠ 0; omega))
      simp only [bounds_Recurrence.f, bounds_loop.f]
      refine Ev.bind (x := 1) (Ev.bind ((valid_prog S).true V) ?_) ?_
      · simp only [hl, Bool.not_true, Bool.not_false, cond_false, cond_true]
        exact .ret _
      · exact .ret _
    | true =>
      refine (rec_prog V h hl).mono fun r hr => ?_
      rcases hr with ⟨rfl, p1⟩ | ⟨rfl, p1⟩ | ⟨Q, c, q0, q1, q2, q3, q4, rfl⟩
      · exact .inl (by show (14 : Int) ≠ 0; omega)
      · exact .inr ⟨rfl, V, rfl, ⟨by show (1 : Int) ≤ 1; omega, by show (1 : Int) ≤ 256; omega, .inl ⟨rfl, rfl⟩⟩, by show (1 : Int) ≤ 256; omega, Nat.zero_le _⟩
      · have hcl : (c.length : Int) ≤ Flow.N f + 2 := q4.length_le (by have := V.i0; have := V.p0; have hN : Flow.N f = Flow.Insts f + Flow.Params f := rfl; omega)
        have hN : Flow.N f = Flow.Insts f + Flow.Params f := rfl
        have hi1 := h.1.insts; have hp1 := h.1.params
        exact .inr ⟨rfl, V, rfl, ⟨by show 1 ≤ Q; omega, q1, .inr (.inl ⟨rfl, q0, q4⟩)⟩, q1, by show c.length ≤ 1000000; omega⟩
  · refine Ev.w (y := ((0, 0, [], 0, ()), 3, ())) ?_ (.inl (by show (3 : Int) ≠ 0; omega))
    simp only [bounds_Recurrence.f, bounds_loop.f]
    refine Ev.bind (x := 3) (Ev.bind ((valid_prog S).false V) ?_) ?_
    · simp only [Bool.not_false, cond_true]
      exact .ret _
    · exact .ret _

theorem lower_bad {r : Bound × Int × Unit} (hr : Ev (fun k => bounds_Recurrence.f k f) r) (h0 : r.2.1 ≠ 0) : Ev (fun k => bounds_Lower.f k f) ((0, 0, [], 0, ()), r.2.1, ()) := by
  simp only [bounds_Lower.f]
  refine Ev.bind hr ?_
  simp only [↓cnT h0]
  exact .ret _
theorem lower_ok (V : VALID f) (h : FEW f) (hl : Flow.Loop f = true) {r : Bound × Int × Unit} (hr : Ev (fun k => bounds_Recurrence.f k f) r) (h0 : r.2.1 = 0) : Ev (fun k => bounds_Lower.f k f) (fin31 (best (RBS f) r.1 (RBS f).length)) := by
  simp only [bounds_Lower.f]
  refine Ev.bind hr ?_
  simp only [↓cnF h0]
  refine Ev.bind (resources_prog V h hl) ?_
  exact lower_c5 (RBS f) r.1 (by rw [RBS_len]; have := h.1.res; omega)

/-! ### legal schedules -/
theorem acc_sound (V : VALID f) (hl : Flow.Loop f = true) (F : FITS f s) (L : LEGAL f s) (hA : ACC f b) : Bound.II b ≤ Sched.II s := by
  obtain ⟨a0, a1, hA⟩ := hA
  have hii := F.loop.2 hl
  have hii2 := F.ii
  rcases hA with ⟨_, h⟩ | ⟨_, h1, h2⟩ | ⟨_, h1, h2, h3⟩ | ⟨_, h1, h2, h3⟩
  · omega
  · by_cases hc : Bound.II b ≤ Sched.II s
    · exact hc
    · exact absurd (FS.mono V (by omega) (by omega) (by omega) ⟨_, feas_tm V F L.late⟩) (cyc_no h2)
  · obtain ⟨j, hj⟩ : ∃ j : Nat, Bound.Res b = (j : Int) := ⟨(Bound.Res b).toNat, by omega⟩
    rw [hj] at h2 h3
    have e := sum_le V F L (r := j) (by omega)
    obtain ⟨_, _, c0, c1⟩ := V.res j (by omega)
    have ec : cycs f s = Sched.II s := if_pos hl
    rw [ec] at e
    by_cases hc : Bound.II b ≤ Sched.II s
    · exact hc
    · have := Int.mul_le_mul_of_nonneg_right (show Sched.II s ≤ Bound.II b - 1 by omega) (show 0 ≤ Resource.Count (rd (Flow.Res f) (j : Int)) by omega)
      omega
  · obtain ⟨i, i1, i2, i3⟩ := (max_iff (Bound.Res b) a0 (Flow.Needs f).length).1 h3
    have hn := V.needs
    have hs := (clList_nil V L.clash).1 i (by omega)
    by_cases hc : Bound.II b ≤ Sched.II s
    · exact hc
    · exact absurd ⟨hii, by omega, by omega⟩ hs

theorem RB_sound (V : VALID f) (h : FEW f) (hl : Flow.Loop f = true) (F : FITS f s) (L : LEGAL f s) {i : Nat} (hi : i < (Flow.Res f).length) : Bound.II (RB f i) ≤ Sched.II s := by
  have hii := F.loop.2 hl
  have ec : cycs f s = Sched.II s := if_pos hl
  unfold RB
  repeat' split
  · show (1 : Int) ≤ _; omega
  · have := shr_le V h F L hi
    rw [ec] at this
    exact this
  · rename_i h1 h2
    have e0 := (shr_ge V h hi h1).1
    obtain ⟨j, i1, i2, i3⟩ := (max_iff (f := f) (i : Int) (x := MAX f i) (by omega) (Flow.Needs f).length).1 (Int.le_refl _)
    have hn := V.needs
    have hs := (clList_nil V L.clash).1 j (by omega)
    show MAX f i ≤ _
    by_cases hc : MAX f i ≤ Sched.II s
    · exact hc
    · exact absurd ⟨hii, by omega, by omega⟩ hs
end

theorem PureBoundsResources (f : Flow) (g0 : Ty.good Flow.T f) : ∃ k, jacquardlaw31_BoundsResources.f k f = some true := by
  have ga : (Flow.Arcs f).length ≤ 140737488351232 := g0.2.2.2.1.1
  have gn : (Flow.Needs f).length ≤ 140737488351232 := g0.2.2.2.2.2.1.1
  refine Ev.ex (f := fun k => jacquardlaw31_BoundsResources.f k f) ?_
  simp only [jacquardlaw31_BoundsResources.f]
  have hend : Ev (fun k => (jacquardlaw31_awake.f k).bind fun y => some y) true := Ev.bind awake_ev (.ret true)
  refine Ev.bind awake_ev ?_
  simp only [Bool.not_true, cond_false]
  refine Ev.test (few_ev ga gn) (fun hf => ?_) fun _ => hend
  simp only [Bool.not_true, cond_false]
  have hres := hf.1.res
  by_cases hv : VALID f ∧ Flow.Loop f = true
  · obtain ⟨V, hl⟩ := hv
    refine Ev.bind (resources_prog V hf hl) (Ev.bind ((loop_law hf).true ⟨V, hl⟩) ?_)
    simp only [Bool.not_true, cond_false]
    have hlen : ((RBS f).length : Int) = ((Flow.Res f).length : Int) := by rw [RBS_len]
    simp only [↓cnF hlen]
    refine Ev.up (c := fun k i => jacquardlaw31_BoundsResources.c9 k ((RBS f).length : Int) (i : Int) f (RBS f)) (n := (RBS f).length) ?_ ?_ 0 (Nat.zero_le _)
    · refine .succ ?_
      simp (disch := omega) only [jacquardlaw31_BoundsResources.c9, ↓cdF]
      exact .ret _
    · intro i hi hnext
      have hir : i < (Flow.Res f).length := by rw [RBS_len] at hi; exact hi
      refine .succ ?_
      simp (disch := omega) only [jacquardlaw31_BoundsResources.c9, ↓cdT]
      refine Ev.bind (res_ref V hir) ?_
      simp (disch := omega) only [↓if_pos, RBS_rd hir, ↓cnF, RB_res, RB_cycle, List.length_nil, w64_id]
      simp (disch := simp) only [↓cdF]
      refine .dec (fun h256 => ?_) fun _ => hnext
      have hA := RB_acc V hf hir h256
      have hck := (check_prog V hf hl (RB f i) (by rw [RB_cycle]; simp)).true hA
      have eb : RB f i = ((Bound.Kind (RB f i), Bound.II (RB f i), [], (i : Int), ()) : Bound) := by
        conv => lhs; rw [show RB f i = ((Bound.Kind (RB f i), Bound.II (RB f i), Bound.Cycle (RB f i), Bound.Res (RB f i), ()) : Bound) from rfl]
        rw [RB_cycle, RB_res]
      refine Ev.bind (x := true) (by rw [eb] at hck; exact hck) ?_
      simp only [Bool.not_true, cond_false]
      exact hnext
  · have e : Ev (fun k => bounds_Resources.f k f) [] := by
      simp only [bounds_Resources.f, bounds_loop.f]
      by_cases V : VALID f
      · have hl : Flow.Loop f = false := by
          cases e : Flow.Loop f with
          | false => rfl
          | true => exact absurd ⟨V, e⟩ hv
        refine Ev.bind (x := 1) (Ev.bind ((valid_prog (sizes_of hf)).true V) ?_) ?_
        · simp only [hl, Bool.not_true, Bool.not_false, cond_false, cond_true]
          exact .ret _
        · exact .ret _
      · refine Ev.bind (x := 3) (Ev.bind ((valid_prog (sizes_of hf)).false V) ?_) ?_
        · simp only [Bool.not_false, cond_true]
          exact .ret _
        · exact .ret _
    refine Ev.bind e (Ev.bind ((loop_law hf).false hv) ?_)
    simp only [Bool.not_false, cond_true]
    exact .ret _

theorem PureBoundsLower (f : Flow) (g0 : Ty.good Flow.T f) : ∃ k, jacquardlaw31_BoundsLower.f k f = some true := by
  have ga : (Flow.Arcs f).length ≤ 140737488351232 := g0.2.2.2.1.1
  have gn : (Flow.Needs f).length ≤ 140737488351232 := g0.2.2.2.2.2.1.1
  refine Ev.ex (f := fun k => jacquardlaw31_BoundsLower.f k f) ?_
  simp only [jacquardlaw31_BoundsLower.f]
  have hend : Ev (fun k => (jacquardlaw31_awake.f k).bind fun y => some y) true := Ev.bind awake_ev (.ret true)
  refine Ev.bind awake_ev ?_
  simp only [Bool.not_true, cond_false]
  refine Ev.test (few_ev ga gn) (fun hf => ?_) fun _ => hend
  simp only [Bool.not_true, cond_false]
  have hres := hf.1.res
  obtain ⟨r, hr, hr2⟩ := rec_any hf
  rcases hr2 with h0 | ⟨h0, V, hl, hA, hA2, hA3⟩
  · refine Ev.bind (lower_bad hr h0) (Ev.bind hr ?_)
    simp only [↓cnT h0, decide_true, cond_true]
    exact .ret _
  · refine Ev.bind (lower_ok V hf hl hr h0) (Ev.bind hr ?_)
    simp only [↓cnF h0]
    refine Ev.bind (resources_prog V hf hl) ?_
    obtain ⟨B, hB⟩ : ∃ B, B = best (RBS f) r.1 (RBS f).length := ⟨_, rfl⟩
    rw [← hB]
    have hBA : Bound.II B ≤ 256 → ACC f B := by
      rw [hB]
      refine best_in (P := fun b => Bound.II b ≤ 256 → ACC f b) (fun _ => hA) _ (fun i hi => ?_)
      rw [RBS_len] at hi
      rw [RBS_rd hi]
      exact RB_acc V hf hi
    have hBC : (Bound.Cycle B).length ≤ 1000000 := by
      rw [hB]
      refine best_in (P := fun b => (Bound.Cycle b).length ≤ 1000000) hA3 _ (fun i hi => ?_)
      rw [RBS_len] at hi
      rw [RBS_rd hi, RB_cycle]
      simp
    have hlen : (RBS f).length ≤ 1000000 := by rw [RBS_len]; omega
    refine Ev.up (c := fun k i => jacquardlaw31_BoundsLower.c9 k (fin31 B).2.1 (RBS f) ((RBS f).length : Int) (i : Int) f (Bound.Kind (fin31 B).1) (Bound.II (fin31 B).1) (Bound.Cycle (fin31 B).1) (Bound.Res (fin31 B).1) (Bound.Kind (best (RBS f) r.1 i)) (Bound.II (best (RBS f) r.1 i)) (Bound.Cycle (best (RBS f) r.1 i)) (Bound.Res (best (RBS f) r.1 i))) (n := (RBS f).length) ?_ ?_ 0 (Nat.zero_le _)
    · refine .succ ?_
      simp (disch := omega) only [jacquardlaw31_BoundsLower.c9, ↓cdF]
      rw [← hB]
      refine .dec (fun h => ?_) fun h => ?_
      · have e : fin31 B = ((0, 0, [], 0, ()), 14, ()) := if_pos h
        rw [e]
        exact .ret _
      · have e : fin31 B = (B, 0, ()) := if_neg h
        rw [e]
        simp only [decide_true, cond_true]
        refine Ev.bind ((check_prog V hf hl B hBC).true (hBA (by omega))) ?_
        exact .ret _
    · intro i hi hnext
      refine .succ ?_
      simp (disch := omega) only [jacquardlaw31_BoundsLower.c9, ↓cdT, ↓if_pos, w64_id]
      refine .dec (fun h => ?_) fun h => ?_
      · have e : best (RBS f) r.1 (i + 1) = rd (RBS f) (i : Int) := if_pos h
        rw [e] at hnext
        exact hnext
      · have e : best (RBS f) r.1 (i + 1) = best (RBS f) r.1 i := if_neg h
        rw [e] at hnext
        exact hnext

theorem PureBoundsSound (f : Flow) (s : Sched) (b : Bound) (g0 : Ty.good Flow.T f) (g1 : Ty.good Sched.T s) (g2 : Ty.good Bound.T b) : ∃ k, jacquardlaw31_BoundsSound.f k f s b = some true := by
  have ga : (Flow.Arcs f).length ≤ 140737488351232 := g0.2.2.2.1.1
  have gn : (Flow.Needs f).length ≤ 140737488351232 := g0.2.2.2.2.2.1.1
  refine Ev.ex (f := fun k => jacquardlaw31_BoundsSound.f k f s b) ?_
  simp only [jacquardlaw31_BoundsSound.f]
  have hend : Ev (fun k => (jacquardlaw31_awake.f k).bind fun y => some y) true := Ev.bind awake_ev (.ret true)
  refine Ev.bind awake_ev ?_
  simp only [Bool.not_true, cond_false]
  refine Ev.test (few_ev ga gn) (fun hf => ?_) fun _ => hend
  simp only [Bool.not_true, cond_false]
  refine .dec (fun _ => hend) fun hc => ?_
  refine Ev.test (loop_law hf) (fun hv => ?_) fun _ => hend
  obtain ⟨V, hl⟩ := hv
  simp only [Bool.not_true, cond_false]
  refine .dec (fun _ => hend) fun q1 => .dec (fun _ => hend) fun q2 => .dec (fun _ => hend) fun q3 => ?_
  have S := sizes_of hf
  have SS : SSIZES s := ⟨by omega, by omega, by omega⟩
  refine Ev.test (legal_ref S SS V) (fun hL => ?_) fun _ => hend
  obtain ⟨F, L⟩ := hL
  simp only [Bool.not_true, cond_false]
  have hii := F.loop.2 hl
  have hii2 := F.ii
  have hfs : FS f 256 := FS.mono V (by omega) hii2.2 (by omega) ⟨_, feas_tm V F L.late⟩
  obtain ⟨r, hr, hr2⟩ := rec_prog V hf hl
  have hr3 : r.2.1 = 0 ∧ ACC f r.1 := by
    rcases hr2 with ⟨rfl, p1⟩ | ⟨rfl, p1⟩ | ⟨Q, c, p0, p1, p2, p3, p4, rfl⟩
    · exact absurd hfs p1
    · exact ⟨rfl, by show (1 : Int) ≤ 1; omega, by show (1 : Int) ≤ 256; omega, .inl ⟨rfl, rfl⟩⟩
    · exact ⟨rfl, by show 1 ≤ Q; omega, p1, .inr (.inl ⟨rfl, p0, p4⟩)⟩
  have hB : Bound.II (best (RBS f) r.1 (RBS f).length) ≤ Sched.II s := by
    refine best_in (P := fun b => Bound.II b ≤ Sched.II s) (acc_sound V hl F L hr3.2) _ (fun i hi => ?_)
    rw [RBS_len] at hi
    rw [RBS_rd hi]
    exact RB_sound V hf hl F L hi
  refine Ev.bind (lower_ok V hf hl hr hr3.1) ?_
  have e : fin31 (best (RBS f) r.1 (RBS f).length) = (best (RBS f) r.1 (RBS f).length, 0, ()) := if_neg (by omega)
  rw [e]
  simp only [decide_true, cond_true]
  simp (disch := exact hB) only [↓cdT]
  obtain ⟨x, h1, h2⟩ := check_prog V hf hl b (by omega)
  refine Ev.bind h1 ?_
  cases x with
  | false =>
    simp only [Bool.not_false, cond_true]
    exact .ret _
  | true =>
    simp only [Bool.not_true, cond_false]
    rw [decide_eq_true (acc_sound V hl F L (h2.1 rfl))]
    exact .ret _
end Go.Proofs.YtehpelomfhaleaaV
