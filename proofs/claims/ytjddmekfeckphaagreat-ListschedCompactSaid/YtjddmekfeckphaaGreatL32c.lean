/- Chapter 32: schedules that fit, and legal ones, as listsched sees them. -/
import Derived.Test.YtjddmekfeckphaaGreatL32b
import Derived.Test.YtjddmekfeckphaaGreatSchV
set_option linter.unusedVariables false
set_option linter.unusedSimpArgs false
namespace Go.Proofs.YtjddmekfeckphaaGreatV
open Go Go.Vm

theorem clone_f {xs : List Int} (h : xs.length ≤ 1000000000) : slices_Clone_int_int.f xs = some xs := by
  unfold slices_Clone_int_int.f
  have hb : Nat.ble (List.length ([] : List Int) + List.length xs) 1073741824 = true := by rw [Nat.ble_eq]; simp; omega
  rw [hb]
  cases xs with
  | nil => simp [both_same]
  | cons x l => rfl
theorem btw_f (n lo hi : Int) : listsched_between.f n lo hi = some (decide (lo ≤ n ∧ n ≤ hi)) := by
  unfold listsched_between.f
  by_cases h : lo ≤ n
  · by_cases h2 : n ≤ hi <;> simp [h, h2]
  · simp [h]

section
variable {f : Flow} {s : Sched}

theorem fits10 (V : VALID f) (S : SSIZES s) (hu : ((Sched.Unit s).length : Int) = Flow.Insts f) : EvP (fun k => listsched_fits.c10 k (Sched.Unit s) ((Sched.Unit s).length : Int) 0 f) (∀ i, i < (Sched.Unit s).length → (Need.Res (rd (Flow.Needs f) (i : Int)) < 0 → rd (Sched.Unit s) (i : Int) = -1) ∧
    (0 ≤ Need.Res (rd (Flow.Needs f) (i : Int)) → 0 ≤ rd (Sched.Unit s) (i : Int) ∧ rd (Sched.Unit s) (i : Int) < Resource.Count (rd (Flow.Res f) (Need.Res (rd (Flow.Needs f) (i : Int)))))) := by
  have hn := V.needs
  have hl := S.unit
  refine EvP.all' 1 (c := fun k i => listsched_fits.c10 k (Sched.Unit s) ((Sched.Unit s).length : Int) (i : Int) f) (n := (Sched.Unit s).length) (P := fun i => (Need.Res (rd (Flow.Needs f) (i : Int)) < 0 → rd (Sched.Unit s) (i : Int) = -1) ∧
    (0 ≤ Need.Res (rd (Flow.Needs f) (i : Int)) → 0 ≤ rd (Sched.Unit s) (i : Int) ∧ rd (Sched.Unit s) (i : Int) < Resource.Count (rd (Flow.Res f) (Need.Res (rd (Flow.Needs f) (i : Int)))))) (fun q => q) (fun i hi k => ?_) (fun h => ?_)
  · have b := need_at V (i := i) (by omega)
    have hc : 0 ≤ Need.Res (rd (Flow.Needs f) (i : Int)) → 1 ≤ Resource.Count (rd (Flow.Res f) (Need.Res (rd (Flow.Needs f) (i : Int)))) ∧ Resource.Count (rd (Flow.Res f) (Need.Res (rd (Flow.Needs f) (i : Int)))) ≤ 1024 := fun h0 => by
      obtain ⟨m, hm⟩ : ∃ m : Nat, Need.Res (rd (Flow.Needs f) (i : Int)) = (m : Int) := ⟨(Need.Res (rd (Flow.Needs f) (i : Int))).toNat, by omega⟩
      rw [hm]
      have := V.res m (by omega)
      exact ⟨this.2.2.1, this.2.2.2⟩
    simp (disch := omega) only [listsched_fits.c10, ↓cdT, ↓if_pos, natC, w64_id (n := (i : Int) + 1), btw_f, Option.bind_some]
    by_cases h0 : Need.Res (rd (Flow.Needs f) (i : Int)) < 0
    · simp (disch := omega) only [↓cdT, ↓cdF]
      by_cases h1 : rd (Sched.Unit s) (i : Int) = -1
      · simp (disch := omega) only [↓cnF]
        exact .inl ⟨⟨fun _ => h1, fun h => by omega⟩, trivial⟩
      · simp (disch := omega) only [↓cnT]
        exact .inr ⟨fun q => h1 (q.1 h0), trivial⟩
    · have hcc := hc (by omega)
      simp (disch := omega) only [↓cdT, ↓cdF, ↓if_pos, w64_id]
      by_cases h1 : 0 ≤ rd (Sched.Unit s) (i : Int) ∧ rd (Sched.Unit s) (i : Int) ≤ Resource.Count (rd (Flow.Res f) (Need.Res (rd (Flow.Needs f) (i : Int)))) - 1
      · simp (disch := exact h1) only [↓cnF]
        exact .inl ⟨⟨fun h => by omega, fun _ => by omega⟩, trivial⟩
      · simp (disch := exact h1) only [↓cnT]
        exact .inr ⟨fun q => h1 (by have := q.2 (by omega); omega), trivial⟩
  · refine EvP.step (.tt h) fun k => ?_
    simp (disch := omega) only [listsched_fits.c10, ↓cdF]

theorem fits_prog (V : VALID f) (S : SSIZES s) : EvP (fun k => listsched_fits.f k f s) (FITS f s) := by
  have hs1 := S.start
  have hs2 := S.params
  simp only [listsched_fits.f, btw_f, Option.bind_some]
  simp (disch := omega) only [clone_f, Option.bind_some]
  by_cases h1 : ((Sched.Start s).length : Int) = Flow.Insts f
  rotate_left
  · simp (disch := exact h1) only [↓cnT]
    exact .ff fun v => h1 v.start
  by_cases h2 : ((Sched.Unit s).length : Int) = Flow.Insts f
  rotate_left
  · simp (disch := first | exact h1 | exact h2) only [↓cnF, ↓cnT]
    exact .ff fun v => h2 v.unit
  by_cases h3 : ((Sched.Params s).length : Int) = Flow.Params f
  rotate_left
  · simp (disch := first | exact h1 | exact h2 | exact h3) only [↓cnF, ↓cnT]
    exact .ff fun v => h3 v.params
  simp (disch := first | exact h1 | exact h2 | exact h3) only [↓cnF]
  refine .cond (fun h4 => .ff fun v => ?_) fun h4 => ?_
  · have := v.loop
    cases hl : Flow.Loop f <;> rw [hl] at h4 this <;> simp at h4 this <;> omega
  have h4 : 0 < Sched.II s ↔ Flow.Loop f = true := by
    cases hl : Flow.Loop f <;> rw [hl] at h4 <;> simp at h4 ⊢ <;> omega
  by_cases h5 : 0 ≤ Sched.II s ∧ Sched.II s ≤ 256
  rotate_left
  · simp (disch := exact h5) only [↓cnT]
    exact .ff fun v => h5 v.ii
  by_cases h6 : 1 ≤ Sched.Depth s ∧ Sched.Depth s ≤ 4096
  rotate_left
  · simp (disch := first | exact h5 | exact h6) only [↓cnF, ↓cnT]
    exact .ff fun v => h6 v.depth
  simp (disch := first | exact h5 | exact h6) only [↓cnF]
  have i1 := V.i1
  have p1 := V.p1
  simp (disch := omega) only [↓bleT]
  refine EvP.all' 1 (c := fun k i => listsched_fits.c4 k ((Sched.Start s ++ Sched.Params s).length : Int) (i : Int) f s (Sched.Start s ++ Sched.Params s)) (n := (Sched.Start s ++ Sched.Params s).length)
    (P := fun i => 0 ≤ rd (Sched.Start s ++ Sched.Params s) (i : Int) ∧ rd (Sched.Start s ++ Sched.Params s) (i : Int) ≤ 4096) (fun F i hi => ?_) (fun i hi k => ?_) (fun h => ?_)
  · rw [List.length_append] at hi
    by_cases hlt : i < (Sched.Start s).length
    · rw [rd_app_l hlt]; exact F.starts i hlt
    · rw [rd_app_r (by omega)]; exact F.parms _ (by omega)
  · have hlen : (Sched.Start s ++ Sched.Params s).length ≤ 2000000000 := by rw [List.length_append]; omega
    simp (disch := omega) only [listsched_fits.c4, ↓cdT, ↓if_pos, natC, w64_id, btw_f, Option.bind_some]
    by_cases h7 : 0 ≤ rd (Sched.Start s ++ Sched.Params s) (i : Int) ∧ rd (Sched.Start s ++ Sched.Params s) (i : Int) ≤ 4096
    · simp (disch := exact h7) only [↓cnF]
      exact .inl ⟨h7, trivial⟩
    · simp (disch := exact h7) only [↓cnT]
      exact .inr ⟨h7, trivial⟩
  · refine EvP.step (.iff (fits10 V S h2) ?_) fun k => ?_
    · constructor
      · intro hu
        refine ⟨h1, h2, h3, h5, h4, h6, fun i hi => ?_, fun i hi => ?_, hu⟩
        · have := h i (by rw [List.length_append]; omega)
          rwa [rd_app_l hi] at this
        · have := h ((Sched.Start s).length + i) (by rw [List.length_append]; omega)
          rw [rd_app_r (by omega)] at this
          rwa [show (Sched.Start s).length + i - (Sched.Start s).length = i by omega] at this
      · exact fun F => F.units
    · simp (disch := omega) only [listsched_fits.c4, ↓cdF]

theorem at_f (V : VALID f) (F : FITS f s) {v : Int} (h0 : 0 ≤ v) (h1 : v ≤ Flow.N f + 1) : listsched_at.f f s v = some (tm f s v) := by
  have i0 := V.i0; have i1 := V.i1; have p0 := V.p0; have p1 := V.p1
  have a1 := F.start; have a2 := F.params
  have hN : Flow.N f = Flow.Insts f + Flow.Params f := rfl
  simp only [listsched_at.f, dataflow_Source.f, dataflow_End.f, Option.bind_some]
  simp (disch := omega) only [w64_id (n := Flow.Insts f + Flow.Params f), w64_id (n := Flow.Insts f + Flow.Params f + 1)]
  unfold tm
  by_cases c1 : v < Flow.Insts f
  · simp (disch := omega) only [↓cdT, ↓if_pos]
  · simp (disch := omega) only [↓cdF, if_neg c1]
    by_cases c2 : v < Flow.N f
    · rw [hN] at c2
      simp (disch := omega) only [↓cdT, ↓if_pos, w64_id, hN]
    · rw [hN] at c2 h1
      simp (disch := omega) only [↓cdF, hN, if_neg c2]
      by_cases c3 : v = Flow.Insts f + Flow.Params f
      · rw [if_pos c3]
        simp (disch := omega) only [↓cdF]
      · rw [if_neg c3]
        simp (disch := omega) only [↓cdT]

/-- an instruction occupies its unit together with another one -/
def KL (f : Flow) (s : Sched) (i k : Nat) : Prop := k ≠ i ∧ Need.Res (rd (Flow.Needs f) (k : Int)) = Need.Res (rd (Flow.Needs f) (i : Int)) ∧ rd (Sched.Unit s) (k : Int) = rd (Sched.Unit s) (i : Int) ∧
  rd (Sched.Start s) (k : Int) < rd (Sched.Start s) (i : Int) + Need.Busy (rd (Flow.Needs f) (i : Int)) ∧ rd (Sched.Start s) (i : Int) < rd (Sched.Start s) (k : Int) + Need.Busy (rd (Flow.Needs f) (k : Int))
def CLA (f : Flow) (s : Sched) (i : Nat) : Prop := 0 ≤ Need.Res (rd (Flow.Needs f) (i : Int)) ∧ ∃ k : Nat, k < (Flow.Needs f).length ∧ KL f s i k
theorem KL.symm {i k : Nat} (h : KL f s i k) : KL f s k i := ⟨h.1.symm, h.2.1.symm, h.2.2.1.symm, h.2.2.2.2, h.2.2.2.1⟩

theorem busy_at (V : VALID f) {i : Nat} (hi : i < (Flow.Needs f).length) : 0 ≤ Need.Busy (rd (Flow.Needs f) (i : Int)) ∧ Need.Busy (rd (Flow.Needs f) (i : Int)) ≤ 256 := by
  rcases V.need i hi with ⟨_, a⟩ | ⟨_, _, a, b⟩ <;> omega

theorem clashes_prog (V : VALID f) (F : FITS f s) {i : Nat} (hi : i < (Flow.Needs f).length) : EvP (fun k => listsched_clashes.f k f s (i : Int)) (CLA f s i) := by
  have hn := V.needs
  have i1 := V.i1
  have a1 := F.start
  have a2 := F.unit
  simp (disch := omega) only [listsched_clashes.f, ↓if_pos]
  by_cases h0 : Need.Res (rd (Flow.Needs f) (i : Int)) < 0
  · simp (disch := omega) only [↓cdT]
    exact .ff fun q => by have := q.1; omega
  simp (disch := omega) only [↓cdF]
  refine EvP.any' (c := fun k j => listsched_clashes.c5 k (i : Int) (Flow.Needs f) ((Flow.Needs f).length : Int) (j : Int) s (rd (Flow.Needs f) (i : Int))) (n := (Flow.Needs f).length) (P := fun j => KL f s i j)
    (fun j hj h => ⟨by omega, j, hj, h⟩) (fun j hj hp b ih => ?_) (fun j hj hp => ?_) (fun hall => ?_)
  · have bi := busy_at V hi
    have bj := busy_at V hj
    have si := F.starts i (by omega)
    have sj := F.starts j (by omega)
    simp only [natC] at ih
    refine .succ ?_
    simp (disch := omega) only [listsched_clashes.c5, ↓cdT, ↓if_pos, w64_id]
    refine .cond (fun e1 => ?_) fun _ => ih
    refine .dec (fun e2 => ?_) fun _ => ih
    refine .dec (fun e3 => ?_) fun _ => ih
    refine .dec (fun e4 => ?_) fun _ => ih
    refine .dec (fun e5 => ?_) fun _ => ih
    have e1 : ¬ (j : Int) = (i : Int) := by simpa using e1
    exact absurd ⟨by omega, e2, e3, e4, e5⟩ hp
  · have bi := busy_at V hi
    have bj := busy_at V hj
    have si := F.starts i (by omega)
    have sj := F.starts j (by omega)
    obtain ⟨e1, e2, e3, e4, e5⟩ := hp
    refine .succ ?_
    simp (disch := omega) only [listsched_clashes.c5, ↓cdT, ↓if_pos, w64_id, ↓cnT]
    exact .ret _
  · refine EvP.step (.ff fun q => ?_) fun k => ?_
    · obtain ⟨_, k, hk, h⟩ := q
      exact hall k hk h
    · simp (disch := omega) only [listsched_clashes.c5, ↓cdF]

/-- legal, of a flow that is no loop -/
structure LG (f : Flow) (s : Sched) : Prop where
  params : ∀ p : Nat, p < (Sched.Params s).length → rd (Sched.Params s) (p : Int) = 0
  arcs : ∀ i : Nat, i < (Flow.Arcs f).length → Arc.Lat (rd (Flow.Arcs f) (i : Int)) ≤ tm f s (Arc.To (rd (Flow.Arcs f) (i : Int))) - tm f s (Arc.From (rd (Flow.Arcs f) (i : Int)))
  free : ∀ i : Nat, i < (Sched.Start s).length → ¬ CLA f s i

theorem none_zero (xs : List Int) (hl : xs.length ≤ 1000000000) : W (fun k => slices_ContainsFunc_int_int_i2.f k xs) (fun r => r.1 = true ↔ ∃ p : Nat, p < xs.length ∧ rd xs (p : Int) ≠ 0) := by
  simp only [slices_ContainsFunc_int_int_i2.f, slices_IndexFunc_int_int_i3.f]
  have loop : ∀ (d i : Nat), i + d = xs.length → (∀ p : Nat, p < i → rd xs (p : Int) = 0) → W (fun k => slices_IndexFunc_int_int_i3.c2 k xs (xs.length : Int) (i : Int)) (fun r => 0 ≤ r.1 ↔ ∃ p : Nat, p < xs.length ∧ rd xs (p : Int) ≠ 0) := by
    intro d
    induction d with
    | zero =>
      intro i hi h
      refine .succ ?_
      simp (disch := omega) only [slices_IndexFunc_int_int_i3.c2, ↓cdF]
      refine .ret ⟨fun h => ?_, fun ⟨p, h1, h2⟩ => absurd (h p (by omega)) h2⟩
      have h' : (0 : Int) ≤ -1 := h
      omega
    | succ d ih =>
      intro i hi h
      refine .succ ?_
      simp (disch := omega) only [slices_IndexFunc_int_int_i3.c2, ↓cdT, ↓if_pos, listsched_legal_1.f, Option.bind_some, w64_id]
      by_cases e : rd xs (i : Int) = 0
      · simp (disch := exact e) only [↓cnF]
        have := ih (i + 1) (by omega) fun p hp => by
          rcases Nat.lt_or_eq_of_le (Nat.le_of_lt_succ hp) with h1 | h1
          · exact h p h1
          · rw [h1]; exact e
        simpa only [natC] using this
      · simp (disch := exact e) only [↓cnT]
        exact .ret ⟨fun _ => ⟨i, by omega, e⟩, fun _ => by show (0 : Int) ≤ (i : Int); omega⟩
  refine .bind (loop xs.length 0 (by omega) fun p hp => by omega) fun r hr => .ret ?_
  rw [decide_eq_true_iff]
  exact hr

theorem legal_prog (V : VALID f) (SF : SIZES f) (F : FITS f s) : EvP (fun k => listsched_legal.f k f s) (LG f s) := by
  have hn := V.needs
  have i1 := V.i1
  have p1 := V.p1
  have a1 := F.start
  have a3 := F.params
  have ha := SF.arcs
  simp only [listsched_legal.f]
  obtain ⟨r, hr, hq⟩ := none_zero (Sched.Params s) (by omega)
  refine .bind hr ?_
  refine .cond (fun h => .ff fun L => ?_) fun h => ?_
  · obtain ⟨p, h1, h2⟩ := hq.1 h
    exact h2 (L.params p h1)
  have hp : ∀ p : Nat, p < (Sched.Params s).length → rd (Sched.Params s) (p : Int) = 0 := fun p hp => Classical.byContradiction fun hne => by
    have := hq.2 ⟨p, hp, hne⟩
    rw [this] at h
    cases h
  refine EvP.all' 1 (c := fun k i => listsched_legal.c4 k (Flow.Arcs f) ((Flow.Arcs f).length : Int) (i : Int) f s) (n := (Flow.Arcs f).length)
    (P := fun i => Arc.Lat (rd (Flow.Arcs f) (i : Int)) ≤ tm f s (Arc.To (rd (Flow.Arcs f) (i : Int))) - tm f s (Arc.From (rd (Flow.Arcs f) (i : Int)))) (fun L => L.arcs) (fun i hi k => ?_) (fun h1 => ?_)
  · obtain ⟨v1, v2, v3, v4, _⟩ := V.arcs i hi
    have t1 := tm_bound F V v1
    have t2 := tm_bound F V v3
    have e1 := at_f V F v1 (by omega)
    have e2 := at_f V F v3 v4
    simp (disch := omega) only [listsched_legal.c4, ↓cdT, ↓if_pos, natC, w64_id, e1, e2, Option.bind_some]
    by_cases h2 : tm f s (Arc.To (rd (Flow.Arcs f) (i : Int))) - tm f s (Arc.From (rd (Flow.Arcs f) (i : Int))) < Arc.Lat (rd (Flow.Arcs f) (i : Int))
    · simp (disch := omega) only [↓cdT]
      exact .inr ⟨by omega, trivial⟩
    · simp (disch := omega) only [↓cdF]
      exact .inl ⟨by omega, trivial⟩
  · refine EvP.step (g := fun k => listsched_legal.c10 k ((Sched.Start s).length : Int) 0 f s) ?_ fun k => ?_
    · refine EvP.all (c := fun k i => listsched_legal.c10 k ((Sched.Start s).length : Int) (i : Int) f s) (n := (Sched.Start s).length) (P := fun i => ¬ CLA f s i) (fun L => L.free) (fun i hi hp b ih => ?_) (fun i hi hnp => ?_) (fun h2 => ?_)
      · refine .succ ?_
        simp only [natC] at ih
        simp (disch := omega) only [listsched_legal.c10, ↓cdT, w64_id]
        refine .bind ((clashes_prog V F (by omega)).false hp) ?_
        exact ih
      · refine .succ ?_
        simp (disch := omega) only [listsched_legal.c10, ↓cdT, w64_id]
        refine .bind ((clashes_prog V F (by omega)).true (Classical.not_not.1 hnp)) ?_
        exact .ret _
      · refine EvP.step (.tt ⟨hp, h1, h2⟩) fun k => ?_
        simp (disch := omega) only [listsched_legal.c10, ↓cdF]
    · simp (disch := omega) only [listsched_legal.c4, ↓cdF]

end
end Go.Proofs.YtjddmekfeckphaaGreatV
