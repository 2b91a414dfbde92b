/- Chapter 31: sums and greatest needs; the bound of the depth. -/
import Derived.Test.YtehpelomfhaleaaV31a
import Derived.Test.YtehpelomfhaleaaSmall
import Derived.Test.YtehpelomfhaleaaDl
set_option linter.unusedVariables false
set_option linter.unusedSimpArgs false
namespace Go.Proofs.YtehpelomfhaleaaV
open Go Go.Vm Diff

/-- what the first m instructions need of a resource: the sum, the greatest -/
def sumN (l : List Need) (r : Int) : Nat → Int
  | 0 => 0
  | m + 1 => if Need.Res (rd l (m : Int)) = r then sumN l r m + Need.Busy (rd l (m : Int)) else sumN l r m
def maxN (l : List Need) (r : Int) : Nat → Int
  | 0 => 0
  | m + 1 => if Need.Res (rd l (m : Int)) = r then mx (maxN l r m) (Need.Busy (rd l (m : Int))) else maxN l r m
theorem sumN_succ (l : List Need) (r : Int) (m : Nat) : sumN l r (m + 1) = if Need.Res (rd l (m : Int)) = r then sumN l r m + Need.Busy (rd l (m : Int)) else sumN l r m := rfl
theorem maxN_succ (l : List Need) (r : Int) (m : Nat) : maxN l r (m + 1) = if Need.Res (rd l (m : Int)) = r then mx (maxN l r m) (Need.Busy (rd l (m : Int))) else maxN l r m := rfl
def SUM (f : Flow) (r : Int) : Int := sumN (Flow.Needs f) r (Flow.Needs f).length
def MAX (f : Flow) (r : Int) : Int := maxN (Flow.Needs f) r (Flow.Needs f).length

section
variable {f : Flow}
theorem need_b (V : VALID f) {i : Nat} (hi : i < (Flow.Needs f).length) : 0 ≤ Need.Busy (rd (Flow.Needs f) (i : Int)) ∧ Need.Busy (rd (Flow.Needs f) (i : Int)) ≤ 256 := by
  rcases V.need i hi with ⟨_, h⟩ | ⟨_, _, h1, h2⟩ <;> omega
theorem sumN_b (V : VALID f) (r : Int) : ∀ m : Nat, m ≤ (Flow.Needs f).length → 0 ≤ sumN (Flow.Needs f) r m ∧ sumN (Flow.Needs f) r m ≤ 256 * m
  | 0, _ => by simp [sumN]
  | m + 1, h => by
    have := sumN_b V r m (by omega)
    have := need_b V (i := m) (by omega)
    unfold sumN; split <;> omega
theorem maxN_b (V : VALID f) (r : Int) : ∀ m : Nat, m ≤ (Flow.Needs f).length → 0 ≤ maxN (Flow.Needs f) r m ∧ maxN (Flow.Needs f) r m ≤ 256
  | 0, _ => by simp [maxN]
  | m + 1, h => by
    have := maxN_b V r m (by omega)
    have := need_b V (i := m) (by omega)
    unfold maxN; split
    · rcases mx_eq (maxN (Flow.Needs f) r m) (Need.Busy (rd (Flow.Needs f) (m : Int))) with e | e <;> omega
    · omega

theorem Sum_ref (V : VALID f) (r : Int) : Ev (fun k => jacquardref31_Sum.f k f r) (SUM f r, MAX f r, ()) := by
  have hn := V.needs
  have hi1 := V.i1
  simp only [jacquardref31_Sum.f]
  refine Ev.up (c := fun k i => jacquardref31_Sum.c3 k r (sumN (Flow.Needs f) r i) (maxN (Flow.Needs f) r i) ((Flow.Needs f).length : Int) (i : Int) f) (n := (Flow.Needs f).length) ?_ ?_ 0 (Nat.zero_le _)
  · refine .succ ?_
    simp (disch := omega) only [jacquardref31_Sum.c3, ↓cdF]
    exact .ret _
  · intro i hi hnext
    have s1 := sumN_b V r i (by omega)
    have s2 := need_b V hi
    refine .succ ?_
    simp (disch := omega) only [jacquardref31_Sum.c3, ↓cdT, ↓if_pos, w64_id]
    refine .dec (fun h => ?_) fun h => ?_
    · refine hnext.congr fun k => ?_
      show _ = jacquardref31_Sum.c3 k r (if Need.Res (rd (Flow.Needs f) (i : Int)) = r then _ else _) (if Need.Res (rd (Flow.Needs f) (i : Int)) = r then _ else _) ((Flow.Needs f).length : Int) ((i : Int) + 1) f
      rw [if_pos h, if_pos h]
    · refine hnext.congr fun k => ?_
      show _ = jacquardref31_Sum.c3 k r (if Need.Res (rd (Flow.Needs f) (i : Int)) = r then _ else _) (if Need.Res (rd (Flow.Needs f) (i : Int)) = r then _ else _) ((Flow.Needs f).length : Int) ((i : Int) + 1) f
      rw [if_neg h, if_neg h]

/-- what usage answers -/
def USE (f : Flow) (r : List Int × List Int × Unit) : Prop := r.1.length = (Flow.Res f).length ∧ r.2.1.length = (Flow.Res f).length ∧ ∀ q : Nat, q < (Flow.Res f).length → rd r.1 (q : Int) = SUM f q ∧ rd r.2.1 (q : Int) = MAX f q

theorem usage_ev (V : VALID f) (hr : (Flow.Res f).length ≤ 1000000) : W (fun k => bounds_usage.f k f) (USE f) := by
  have hn := V.needs
  have hi1 := V.i1
  simp (disch := omega) only [bounds_usage.f, ↓if_pos]
  have loop : ∀ (d i : Nat) (s l : List Int), i + d = (Flow.Needs f).length → s.length = (Flow.Res f).length → l.length = (Flow.Res f).length → (∀ q : Nat, q < (Flow.Res f).length → rd s (q : Int) = sumN (Flow.Needs f) q i ∧ rd l (q : Int) = maxN (Flow.Needs f) q i) →
      W (fun k => bounds_usage.c3 k (Flow.Needs f) ((Flow.Needs f).length : Int) (i : Int) s l) (USE f) := by
    intro d
    induction d with
    | zero =>
      intro i s l hi hs hl hx
      have e : i = (Flow.Needs f).length := by omega
      subst e
      refine .succ ?_
      simp (disch := omega) only [bounds_usage.c3, ↓cdF]
      exact .ret ⟨hs, hl, hx⟩
    | succ d ih =>
      intro i s l hi hs hl hx
      refine .succ ?_
      simp (disch := omega) only [bounds_usage.c3, ↓cdT, ↓if_pos, w64_id (n := (i : Int) + 1)]
      have hv := V.need i (by omega)
      have hb := need_b V (i := i) (by omega)
      refine .dec (fun h => ?_) fun h => ?_
      · have hv' : 0 ≤ Need.Res (rd (Flow.Needs f) (i : Int)) ∧ Need.Res (rd (Flow.Needs f) (i : Int)) < ((Flow.Res f).length : Int) := by
          rcases hv with ⟨q, _⟩ | ⟨q1, q2, _⟩
          · omega
          · exact ⟨q1, q2⟩
        obtain ⟨q, hq⟩ : ∃ q : Nat, Need.Res (rd (Flow.Needs f) (i : Int)) = (q : Int) := ⟨(Need.Res (rd (Flow.Needs f) (i : Int))).toNat, by omega⟩
        rw [hq] at hv'
        have hxq := hx q (by omega)
        have sb := sumN_b V q i (by omega)
        simp (disch := omega) only [hq, ↓if_pos, Int.toNat_natCast]
        rw [hxq.1, hxq.2, w64_id (by omega) (by omega)]
        refine ih (i + 1) _ _ (by omega) (by simpa using hs) (by simpa using hl) fun p hp => ?_
        rw [Go.Vm.rd_set (by omega), Go.Vm.rd_set (by omega)]
        rw [sumN_succ, maxN_succ, hq]
        by_cases e : q = p
        · subst e
          rw [if_pos rfl, if_pos rfl, if_pos rfl, if_pos rfl]
          exact ⟨rfl, rfl⟩
        · have e' : ¬ (q : Int) = (p : Int) := by omega
          rw [if_neg e, if_neg e, if_neg e', if_neg e']
          exact hx p hp
      · refine ih (i + 1) s l (by omega) hs hl fun p hp => ?_
        rw [sumN_succ, maxN_succ]
        have e' : ¬ Need.Res (rd (Flow.Needs f) (i : Int)) = (p : Int) := by omega
        rw [if_neg e', if_neg e']
        exact hx p hp
  rw [Int.toNat_natCast]
  exact loop (Flow.Needs f).length 0 _ _ (by omega) (by simp) (by simp) fun q hq => ⟨Go.Vm.rd_replicate hq, Go.Vm.rd_replicate hq⟩

/-! ### few -/
def FEW (f : Flow) : Prop := SMALL f 12 6 ∧ (Flow.Needs f).length ≤ 20
theorem few_ev (ha : (Flow.Arcs f).length ≤ 140737488351232) (hn : (Flow.Needs f).length ≤ 140737488351232) : EvP (fun k => jacquardlaw31_few.f k f) (FEW f) := by
  simp only [jacquardlaw31_few.f]
  refine EvP.test (small_ref 12 6 ha hn) (fun h => ?_) fun h => ?_
  · simp only [cond_true]
    exact .dec ⟨fun q => ⟨h, by omega⟩, fun q => by have := q.2; omega⟩
  · simp only [cond_false]
    exact .ff fun q => h q.1
theorem sizes_of (h : FEW f) : SIZES f := ⟨by have := h.1.arcs; omega, by have := h.1.res; omega, by have := h.2; omega⟩

/-! ### the two answers of the arcs -/
theorem same_least {n : Int} {arcs : List Arc} {ii : Int} {lo lo' : Int → Int} (hlo : ∀ v, 0 ≤ v → v < n → lo v = lo' v) {r : List Int × Option (List Int) × Unit} {r' : List Int × Bool × Unit} (h : Answer n arcs ii lo r) (h' : AnswerR n arcs ii lo' r') :
    (r.2.1 = none ∧ r'.2.1 = true ∧ r.1 = r'.1 ∧ (r.1.length : Int) = n) ∨ (r.2.1 ≠ none ∧ r.1 = [] ∧ r'.2.1 = false ∧ r'.1 = []) := by
  rcases h with ⟨a1, a2, a3, a4, a5⟩ | ⟨a1, c, a2, a3⟩
  · rcases h' with ⟨b1, b2, b3, b4, b5⟩ | ⟨b1, b2, b3⟩
    · refine .inl ⟨a1, b1, Diff.rd_ext (by omega) fun i i0 i1 => ?_, a2⟩
      have e1 := a5 _ b4 (fun v v0 v1 => by rw [hlo v v0 v1]; exact (b3 v v0 v1).1) i i0 (by omega)
      have e2 := b5 _ a4 (fun v v0 v1 => by rw [← hlo v v0 v1]; exact (a3 v v0 v1).1) i i0 (by omega)
      omega
    · exact absurd a4 (b3 _)
  · rcases h' with ⟨b1, b2, b3, b4, b5⟩ | ⟨b1, b2, b3⟩
    · exact absurd b4 (fun q => a3.not_feas q)
    · exact .inr ⟨by rw [a2]; simp, a1, b1, b2⟩

theorem nod_of (V : VALID f) : nod (Flow.N f + 2) = Flow.N f + 2 := by
  have := V.i0; have := V.i1; have := V.p0; have := V.p1
  unfold nod mn mx
  repeat' split
  all_goals (unfold Flow.N at *; omega)
theorem arcs_le (V : VALID f) (h : FEW f) : (nod (Flow.N f + 2) + 2) * ((Flow.Arcs f).length : Int) ≤ 10000000000 := by
  have h1 := h.1.arcs
  have h2 := h.1.insts
  have h3 := h.1.params
  have h4 := V.i0
  have h5 := V.p0
  rw [nod_of V]
  have : (Flow.N f + 2 + 2) * ((Flow.Arcs f).length : Int) ≤ 22 * 90 := by
    have a : (Flow.N f + 2 + 2) * ((Flow.Arcs f).length : Int) ≤ 22 * ((Flow.Arcs f).length : Int) := Int.mul_le_mul_of_nonneg_right (by unfold Flow.N; omega) (by omega)
    omega
  omega
theorem nodes_eq (V : VALID f) : dataflow_Nodes.f f = some (Flow.N f + 2) := by
  have := V.i0; have := V.i1; have := V.p0; have := V.p1
  unfold dataflow_Nodes.f Flow.N
  rw [w64_id (n := Flow.Insts f + Flow.Params f) (by omega) (by omega), w64_id (by omega) (by omega)]
theorem end_prog (V : VALID f) : dataflow_End.f f = some (Flow.N f + 1) := by
  have := V.i0; have := V.i1; have := V.p0; have := V.p1
  unfold dataflow_End.f Flow.N
  rw [w64_id (n := Flow.Insts f + Flow.Params f) (by omega) (by omega), w64_id (by omega) (by omega)]
theorem end_ref (V : VALID f) : jacquardref28_End.f f = some (Flow.N f + 1) := by
  have := V.i0; have := V.i1; have := V.p0; have := V.p1
  unfold jacquardref28_End.f Flow.N
  rw [w64_id (n := Flow.Insts f + Flow.Params f) (by omega) (by omega), w64_id (by omega) (by omega)]
theorem src_prog (V : VALID f) : dataflow_Source.f f = some (Flow.N f) := by
  have := V.i0; have := V.i1; have := V.p0; have := V.p1
  unfold dataflow_Source.f Flow.N
  rw [w64_id (n := Flow.Insts f + Flow.Params f) (by omega) (by omega)]
theorem src_ref (V : VALID f) : jacquardref28_Source.f f = some (Flow.N f) := by
  have := V.i0; have := V.i1; have := V.p0; have := V.p1
  unfold jacquardref28_Source.f Flow.N
  rw [w64_id (n := Flow.Insts f + Flow.Params f) (by omega) (by omega)]

/-- one resource's share -/
def shr (f : Flow) (r : Nat) : Int := w64 (Int.tdiv (w64 ((w64 (SUM f r + Resource.Count (rd (Flow.Res f) (r : Int)))) - 1)) (Resource.Count (rd (Flow.Res f) (r : Int))))
def dep (f : Flow) (x : Int) : Nat → Int
  | 0 => x
  | i + 1 => mx (dep f x i) (shr f i)
theorem le_dep (x : Int) : ∀ i, x ≤ dep f x i
  | 0 => Int.le_refl _
  | i + 1 => by have := le_dep x i; have := le_mx_l (dep f x i) (shr f i); unfold dep; omega

theorem Depth_prog (V : VALID f) (h : FEW f) (hl : Flow.Loop f = false) : W (fun k => bounds_Depth.f k f) (fun r => ∀ r', AnswerR (Flow.N f + 2) (Flow.Arcs f) 0 (bnd []) r' → (r'.2.1 = true ∧ r.1 = dep f (mx 1 (rd r'.1 (Flow.N f + 1))) (Flow.Res f).length ∧ r.2.1 = 0) ∨ (r'.2.1 = false ∧ r.1 = 0 ∧ r.2.1 = 14)) := by
  have S := sizes_of h
  have hrl := h.1.res
  simp only [bounds_Depth.f]
  refine W.bindEv ((valid_prog S).true V) ?_
  simp only [Bool.not_true, cond_false, hl, nodes_eq V, Option.bind_some]
  have hE := earliest_f (n0 := Flow.N f + 2) (arcs := Flow.Arcs f) (ii := 0) (arcs_le V h)
  rw [nod_of V] at hE
  refine W.bind hE fun a ha => ?_
  cases hc : a.2.1 with
  | some c =>
    simp only [Option.isSome_some, cond_true]
    refine .ret fun r' hr' => ?_
    rcases same_least (fun v v0 _ => (bnd_nil v0).symm) ha hr' with ⟨q, _⟩ | ⟨_, _, q, _⟩
    · rw [hc] at q; cases q
    · exact .inr ⟨q, rfl, rfl⟩
  | none =>
    simp only [Option.isSome_none, cond_false, end_prog V, Option.bind_some]
    have hlen : (a.1.length : Int) = Flow.N f + 2 := by
      rcases ha with ⟨_, q, _⟩ | ⟨_, c, q, _⟩
      · exact q
      · rw [hc] at q; cases q
    have hi0 := V.i0; have hp0 := V.p0
    have hN : Flow.N f = Flow.Insts f + Flow.Params f := rfl
    simp (disch := omega) only [↓if_pos]
    refine W.bind (usage_ev V (by omega)) fun u hu => ?_
    refine Ev.w (y := (dep f (mx 1 (rd a.1 (Flow.N f + 1))) (Flow.Res f).length, 0, ())) ?_ fun r' hr' => ?_
    · refine Ev.up (c := fun k i => bounds_Depth.c11 k (dep f (mx 1 (rd a.1 (Flow.N f + 1))) i) (Flow.Res f) ((Flow.Res f).length : Int) (i : Int) u.1) (n := (Flow.Res f).length) ?_ ?_ 0 (Nat.zero_le _)
      · refine .succ ?_
        simp (disch := omega) only [bounds_Depth.c11, ↓cdF]
        exact .ret _
      · intro i hi hnext
        obtain ⟨u1, u2, u3⟩ := hu
        have hv := (V.res i hi).2.2
        refine .succ ?_
        simp (disch := omega) only [bounds_Depth.c11, ↓cdT, ↓if_pos, bounds_share.f, Option.bind_some, w64_id (n := (i : Int) + 1), (u3 i hi).1]
        exact hnext
    · rcases same_least (fun v v0 _ => (bnd_nil v0).symm) ha hr' with ⟨_, q1, q2, _⟩ | ⟨q, _⟩
      · exact .inl ⟨q1, by rw [← q2], rfl⟩
      · exact absurd hc q

theorem Depth_ref (V : VALID f) (h : FEW f) : W (fun k => jacquardref31_Depth.f k f) (fun r => ∃ r', AnswerR (Flow.N f + 2) (Flow.Arcs f) 0 (bnd []) r' ∧ ((r'.2.1 = true ∧ r = dep f (mx 1 (rd r'.1 (Flow.N f + 1))) (Flow.Res f).length) ∨ (r'.2.1 = false ∧ r = 0))) := by
  have hi0 := V.i0; have hp0 := V.p0; have hi1 := h.1.insts; have hp1 := h.1.params
  have hrl := h.1.res
  have hN : Flow.N f = Flow.Insts f + Flow.Params f := rfl
  simp (disch := omega) only [jacquardref31_Depth.f, end_ref V, Option.bind_some, w64_id]
  have hA := after_ref_f (n0 := Flow.N f + 2) (arcs := Flow.Arcs f) (ii := 0) (lower := []) (by rw [nod_of V]; omega) (by have := h.1.arcs; omega)
  rw [nod_of V] at hA
  rw [show Flow.N f + 1 + 1 = Flow.N f + 2 by omega]
  refine W.bind hA fun a ha => ?_
  cases hb : a.2.1 with
  | false =>
    simp only [Bool.not_false, cond_true]
    exact .ret ⟨a, ha, .inr ⟨hb, rfl⟩⟩
  | true =>
    have hlen : (a.1.length : Int) = Flow.N f + 2 := by
      rcases ha with ⟨_, q, _⟩ | ⟨q, _⟩
      · exact q
      · rw [hb] at q; cases q
    simp only [Bool.not_true, cond_false]
    simp (disch := omega) only [↓if_pos]
    refine Ev.w (y := dep f (mx 1 (rd a.1 (Flow.N f + 1))) (Flow.Res f).length) ?_ ⟨a, ha, .inl ⟨hb, rfl⟩⟩
    refine Ev.up (c := fun k i => jacquardref31_Depth.c6 k (dep f (mx 1 (rd a.1 (Flow.N f + 1))) i) ((Flow.Res f).length : Int) (i : Int) f) (n := (Flow.Res f).length) ?_ ?_ 0 (Nat.zero_le _)
    · refine .succ ?_
      simp (disch := omega) only [jacquardref31_Depth.c6, ↓cdF]
      exact .ret _
    · intro i hi hnext
      have hv := (V.res i hi).2.2
      refine .succ ?_
      simp (disch := omega) only [jacquardref31_Depth.c6, ↓cdT, ↓if_pos, w64_id (n := (i : Int) + 1)]
      refine .bind (Sum_ref V _) ?_
      exact hnext

theorem PureBoundsDepth (f : Flow) (g0 : Ty.good Flow.T f) : ∃ k, jacquardlaw31_BoundsDepth.f k f = some true := by
  have ga : (Flow.Arcs f).length ≤ 140737488351232 := g0.2.2.2.1.1
  have gn : (Flow.Needs f).length ≤ 140737488351232 := g0.2.2.2.2.2.1.1
  refine Ev.ex (f := fun k => jacquardlaw31_BoundsDepth.f k f) ?_
  simp only [jacquardlaw31_BoundsDepth.f]
  have hend : Ev (fun k => (jacquardlaw31_awake.f k).bind fun y => some y) true := Ev.bind awake_ev (.ret true)
  refine Ev.bind awake_ev ?_
  simp only [Bool.not_true, cond_false]
  refine Ev.test (few_ev ga gn) (fun hf => ?_) fun _ => hend
  simp only [Bool.not_true, cond_false]
  have S := sizes_of hf
  by_cases V : VALID f
  · cases hl : Flow.Loop f with
    | true =>
      have e : Ev (fun k => bounds_Depth.f k f) (0, 1, ()) := by
        simp only [bounds_Depth.f]
        refine Ev.bind ((valid_prog S).true V) ?_
        simp only [Bool.not_true, cond_false, hl, cond_true]
        exact .ret _
      refine Ev.bind e (Ev.bind ((valid_ref S).true V) ?_)
      simp only [Bool.not_true, cond_false, cond_true, decide_true]
      exact .ret _
    | false =>
      obtain ⟨r, h1, h2⟩ := Depth_prog V hf hl
      obtain ⟨x, h3, r', h4, h5⟩ := Depth_ref V hf
      refine Ev.bind h1 (Ev.bind ((valid_ref S).true V) ?_)
      simp only [Bool.not_true, cond_false]
      refine Ev.bind h3 ?_
      rcases h2 r' h4 with ⟨q1, q2, q3⟩ | ⟨q1, q2, q3⟩
      · rcases h5 with ⟨p1, p2⟩ | ⟨p1, p2⟩
        · have e := le_dep (f := f) (mx 1 (rd r'.1 (Flow.N f + 1))) (Flow.Res f).length
          have e1 := le_mx_l 1 (rd r'.1 (Flow.N f + 1))
          simp (disch := omega) only [↓cdF]
          rw [q3, q2, p2]
          simp only [decide_true, cond_true]
          exact .ret _
        · rw [q1] at p1; cases p1
      · rcases h5 with ⟨p1, p2⟩ | ⟨p1, p2⟩
        · rw [q1] at p1; cases p1
        · rw [p2, q2, q3]
          simp only [decide_true, cond_true]
          exact .ret _
  · have e : Ev (fun k => bounds_Depth.f k f) (0, 3, ()) := by
      simp only [bounds_Depth.f]
      refine Ev.bind ((valid_prog S).false V) ?_
      simp only [Bool.not_false, cond_true]
      exact .ret _
    refine Ev.bind e (Ev.bind ((valid_ref S).false V) ?_)
    simp only [Bool.not_false, cond_true, decide_true]
    exact .ret _
end
end Go.Proofs.YtehpelomfhaleaaV
