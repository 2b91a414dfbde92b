/- Chapter 31: what legal schedules give: BoundsWithin. -/
import Derived.Test.YtehpelomfhaleaaV31c
import Derived.Test.YtehpelomfhaleaaEnough
set_option linter.unusedVariables false
set_option linter.unusedSimpArgs false
namespace Go.Proofs.YtehpelomfhaleaaV
open Go Go.Vm Diff

section
variable {f : Flow} {s : Sched}

theorem clamp_id {x lo hi : Int} (h0 : lo ≤ x) (h1 : x ≤ hi) : mn (mx x lo) hi = x := by
  unfold mn mx
  repeat' split
  all_goals omega
theorem wt_valid (V : VALID f) {i : Nat} (hi : i < (Flow.Arcs f).length) {ii : Int} (h0 : 0 ≤ ii) (h1 : ii ≤ 256) : wt (rd (Flow.Arcs f) (i : Int)) ii = Arc.Lat (rd (Flow.Arcs f) (i : Int)) - ii * Arc.Dist (rd (Flow.Arcs f) (i : Int)) := by
  obtain ⟨_, _, _, _, l0, l1, d0, d1, _⟩ := V.arcs i hi
  have e1 := clamp_id (x := Arc.Lat (rd (Flow.Arcs f) (i : Int))) (lo := -1048576) (hi := 1048576) (by omega) (by omega)
  have e2 := clamp_id (x := Arc.Dist (rd (Flow.Arcs f) (i : Int))) (lo := -1048576) (hi := 1048576) (by omega) (by omega)
  have e3 := clamp_id (x := ii) (lo := 0) (hi := 256) h0 h1
  unfold wt
  rw [e1, e2, e3]
theorem inn_valid (V : VALID f) {i : Nat} (hi : i < (Flow.Arcs f).length) : Inn (Flow.N f + 2) (rd (Flow.Arcs f) (i : Int)) := by
  obtain ⟨a, b, c, d, _⟩ := V.arcs i hi
  exact ⟨a, by omega, c, by omega⟩

theorem feas_tm (V : VALID f) (F : FITS f s) (hl : ∀ i, i < (Flow.Arcs f).length → 0 ≤ slk f s i) : Feas (Flow.N f + 2) (Flow.Arcs f) (Sched.II s) (tm f s) := by
  intro i i0 i1 hi
  obtain ⟨j, rfl⟩ : ∃ j : Nat, i = (j : Int) := ⟨i.toNat, by omega⟩
  have := hl j (by omega)
  rw [wt_valid V (by omega) F.ii.1 F.ii.2]
  unfold slk at this
  omega
theorem tm_end : tm f s (Flow.N f + 1) = Sched.Depth s ∨ True := .inr trivial
theorem tm_src (V : VALID f) : tm f s (Flow.N f) = 0 := by
  have := V.i0; have := V.p0
  have hN : Flow.N f = Flow.Insts f + Flow.Params f := rfl
  unfold tm
  rw [if_neg (by omega), if_neg (by omega), if_pos rfl]
theorem tm_last (V : VALID f) : tm f s (Flow.N f + 1) = Sched.Depth s := by
  have := V.i0; have := V.p0
  have hN : Flow.N f = Flow.Insts f + Flow.Params f := rfl
  unfold tm
  rw [if_neg (by omega), if_neg (by omega), if_neg (by omega)]
theorem tail_le (V : VALID f) (hl : ∀ i, i < (Flow.Arcs f).length → 0 ≤ slk f s i) {v : Nat} (hv : (v : Int) < Flow.N f) : 0 ≤ Arc.Lat (rd (Flow.Arcs f) (Flow.N f + 1 + v)) ∧ tm f s (v : Int) + Arc.Lat (rd (Flow.Arcs f) (Flow.N f + 1 + v)) ≤ Sched.Depth s := by
  obtain ⟨t1, t2, t3, t4⟩ := V.tail v (by omega)
  have hlen := V.len
  have hN0 : 0 ≤ Flow.N f := by have := V.i0; have := V.p0; unfold Flow.N; omega
  obtain ⟨j, hj⟩ : ∃ j : Nat, Flow.N f + 1 + v = (j : Int) := ⟨(Flow.N f + 1 + v).toNat, by omega⟩
  rw [hj] at t1 t2 t3 ⊢
  have h1 := V.arcs j (by omega)
  have h2 := hl j (by omega)
  unfold slk at h2
  rw [t1, t2, t3, tm_last V] at h2
  obtain ⟨_, _, _, _, l0, _⟩ := h1
  exact ⟨l0, by omega⟩
theorem tm_depth (V : VALID f) (F : FITS f s) (hl : ∀ i, i < (Flow.Arcs f).length → 0 ≤ slk f s i) {v : Int} (h0 : 0 ≤ v) (h1 : v < Flow.N f + 2) : tm f s v ≤ Sched.Depth s := by
  have hd := F.depth
  by_cases e : v < Flow.N f
  · have := tail_le V hl (v := v.toNat) (by omega)
    rw [Int.toNat_of_nonneg h0] at this
    omega
  · by_cases e2 : v = Flow.N f
    · rw [e2, tm_src V]; omega
    · rw [show v = Flow.N f + 1 by omega, tm_last V]; omega

/-! ### resources -/
def sumC (g : Nat → Nat) : Nat → Nat
  | 0 => 0
  | m + 1 => sumC g m + g m
theorem sumC_le {g : Nat → Nat} {K : Nat} : ∀ m, (∀ c, c < m → g c ≤ K) → sumC g m ≤ m * K
  | 0, _ => by simp [sumC]
  | m + 1, h => by
    have := sumC_le m (fun c hc => h c (by omega))
    have := h m (by omega)
    unfold sumC
    rw [Nat.add_mul]; omega
theorem sumC_add (g h : Nat → Nat) : ∀ m, sumC (fun c => g c + h c) m = sumC g m + sumC h m
  | 0 => rfl
  | m + 1 => by unfold sumC; rw [sumC_add g h m]; omega
theorem sumC_one {x : Nat} (p : Nat → Prop) [DecidablePred p] (hp : ∀ c, p c ↔ c = x) : ∀ m, sumC (fun c => if p c then 1 else 0) m = if x < m then 1 else 0
  | 0 => rfl
  | m + 1 => by
    unfold sumC
    rw [sumC_one p hp m]
    by_cases e : m = x
    · rw [if_pos ((hp m).2 e), if_neg (by omega), if_pos (by omega)]
    · rw [if_neg (fun q => e ((hp m).1 q))]
      by_cases e2 : x < m
      · rw [if_pos e2, if_pos (by omega)]
      · rw [if_neg e2, if_neg (by omega)]

theorem cyc_in (V : VALID f) (F : FITS f s) (hl : ∀ i, i < (Flow.Arcs f).length → 0 ≤ slk f s i) {i b : Nat} (hi : (i : Int) < Flow.Insts f) (hb : b < busyN f i) : 0 ≤ cyc f s i b ∧ cyc f s i b < cycs f s := by
  have hnb := need_b V (i := i) (by have := V.needs; omega)
  have hbn : (busyN f i : Int) = Need.Busy (rd (Flow.Needs f) (i : Int)) := by unfold busyN; omega
  obtain ⟨c1, c2, _⟩ := cyc_bound F V hi (show b ≤ 256 by omega)
  refine ⟨c1, ?_⟩
  cases hloop : Flow.Loop f with
  | true => exact c2 hloop
  | false =>
    have hp0 := V.p0
    have hN : Flow.N f = Flow.Insts f + Flow.Params f := rfl
    have ht := (V.tail i (by omega)).2.2.2 hi
    have hle := (tail_le V hl (v := i) (by omega)).2
    have htm : tm f s (i : Int) = rd (Sched.Start s) (i : Int) := by unfold tm; rw [if_pos hi]
    rw [htm] at hle
    unfold cyc cycs
    rw [hloop]
    simp only [Bool.false_eq_true, if_false]
    omega
open Classical in
theorem part_sum (V : VALID f) (F : FITS f s) (hl : ∀ i, i < (Flow.Arcs f).length → 0 ≤ slk f s i) {r i : Nat} (hi : (i : Int) < Flow.Insts f) (hr : Need.Res (rd (Flow.Needs f) (i : Int)) = r) : ∀ b, b ≤ busyN f i → sumC (fun c => part f s r c i b) (cycs f s).toNat = b
  | 0, _ => by
    have : ∀ m, sumC (fun c => part f s r c i 0) m = 0 := by
      intro m
      induction m with
      | zero => rfl
      | succ m ih => unfold sumC; rw [ih]; rfl
    exact this _
  | b + 1, hb => by
    have ih := part_sum V F hl hi hr b (by omega)
    obtain ⟨c1, c2⟩ := cyc_in V F hl hi (show b < busyN f i by omega)
    have e : (fun c => part f s r c i (b + 1)) = fun c => part f s r c i b + if hit f s r c i b then 1 else 0 := rfl
    rw [e, sumC_add, ih, sumC_one (x := (cyc f s i b).toNat) (fun c => hit f s r c i b) (fun c => by unfold hit; rw [hr]; exact ⟨fun q => by have := q.2; omega, fun q => ⟨rfl, by omega⟩⟩), if_pos (by omega)]
theorem tot_sum (V : VALID f) (F : FITS f s) (hl : ∀ i, i < (Flow.Arcs f).length → 0 ≤ slk f s i) (r : Nat) : ∀ m : Nat, m ≤ (Flow.Needs f).length → sumN (Flow.Needs f) r m ≤ (sumC (fun c => tot f s r c m) (cycs f s).toNat : Nat)
  | 0, _ => by simp [sumN]
  | m + 1, hm => by
    have ih := tot_sum V F hl r m (by omega)
    have hn := V.needs
    have hnb := need_b V (i := m) (by omega)
    have e : (fun c => tot f s r c (m + 1)) = fun c => tot f s r c m + part f s r c m (busyN f m) := rfl
    rw [e, sumC_add, sumN_succ]
    by_cases h : Need.Res (rd (Flow.Needs f) (m : Int)) = (r : Int)
    · rw [if_pos h, part_sum V F hl (by omega) h _ (Nat.le_refl _)]
      unfold busyN; omega
    · rw [if_neg h]; omega
/-- what is needed of a resource fits into its units' cycles -/
theorem sum_le (V : VALID f) (F : FITS f s) (L : LEGAL f s) {r : Nat} (hr : r < (Flow.Res f).length) : SUM f r ≤ cycs f s * Resource.Count (rd (Flow.Res f) (r : Int)) := by
  have h1 := tot_sum V F L.late r (Flow.Needs f).length (Nat.le_refl _)
  have hc := (V.res r hr).2.2
  have h2 := sumC_le (g := fun c => tot f s r c (Flow.Needs f).length) (K := (Resource.Count (rd (Flow.Res f) (r : Int))).toNat) (cycs f s).toNat (fun c _ => by
    have := enough V F L.clash hr c
    omega)
  have h3 := (cycs_pos F).1
  have e : (((cycs f s).toNat * (Resource.Count (rd (Flow.Res f) (r : Int))).toNat : Nat) : Int) = cycs f s * Resource.Count (rd (Flow.Res f) (r : Int)) := by
    rw [Int.natCast_mul, Int.toNat_of_nonneg (by omega), Int.toNat_of_nonneg (by omega)]
  unfold SUM
  omega

theorem share_le {S C D : Int} (s0 : 0 ≤ S) (s1 : S ≤ 1000000) (c0 : 1 ≤ C) (c1 : C ≤ 1024) (h : S ≤ D * C) : w64 (Int.tdiv (w64 ((w64 (S + C)) - 1)) C) ≤ D := by
  rw [w64_id (n := S + C) (by omega) (by omega), w64_id (n := S + C - 1) (by omega) (by omega), Int.tdiv_eq_ediv_of_nonneg (by omega)]
  have h1 : (S + C - 1) / C < D + 1 := Int.ediv_lt_of_lt_mul (by omega) (by rw [Int.add_mul]; omega)
  have h2 : 0 ≤ (S + C - 1) / C := Int.ediv_nonneg (by omega) (by omega)
  have h3 : (S + C - 1) / C ≤ S + C - 1 := Int.ediv_le_self _ (by omega)
  rw [w64_id (by omega) (by omega)]
  omega
theorem shr_le (V : VALID f) (h : FEW f) (F : FITS f s) (L : LEGAL f s) {r : Nat} (hr : r < (Flow.Res f).length) : shr f r ≤ cycs f s := by
  have hc := (V.res r hr).2.2
  have hs := sumN_b V (r : Int) (Flow.Needs f).length (Nat.le_refl _)
  have hn := h.2
  exact share_le hs.1 (by show sumN _ _ _ ≤ _; omega) hc.1 hc.2 (sum_le V F L hr)

theorem PureBoundsWithin (f : Flow) (s : Sched) (g0 : Ty.good Flow.T f) (g1 : Ty.good Sched.T s) : ∃ k, jacquardlaw31_BoundsWithin.f k f s = some true := by
  have ga : (Flow.Arcs f).length ≤ 140737488351232 := g0.2.2.2.1.1
  have gn : (Flow.Needs f).length ≤ 140737488351232 := g0.2.2.2.2.2.1.1
  refine Ev.ex (f := fun k => jacquardlaw31_BoundsWithin.f k f s) ?_
  simp only [jacquardlaw31_BoundsWithin.f]
  have hend : Ev (fun k => (jacquardlaw31_awake.f k).bind fun y => some y) true := Ev.bind awake_ev (.ret true)
  refine Ev.bind awake_ev ?_
  simp only [Bool.not_true, cond_false]
  refine Ev.test (few_ev ga gn) (fun hf => ?_) fun _ => hend
  simp only [Bool.not_true, cond_false]
  refine .dec (fun _ => hend) fun q1 => .dec (fun _ => hend) fun q2 => .dec (fun _ => hend) fun q3 => ?_
  have S := sizes_of hf
  have SS : SSIZES s := ⟨by omega, by omega, by omega⟩
  refine Ev.test (valid_ref S) (fun V => ?_) fun _ => hend
  simp only [Bool.not_true, cond_false]
  refine Ev.test (legal_ref S SS V) (fun hL => ?_) fun _ => hend
  obtain ⟨F, L⟩ := hL
  simp only [Bool.not_true, cond_false]
  have hi0 := V.i0; have hp0 := V.p0; have hi1 := hf.1.insts; have hp1 := hf.1.params
  have hN : Flow.N f = Flow.Insts f + Flow.Params f := rfl
  have hfeas := feas_tm V F L.late
  have hd := F.depth
  obtain ⟨r, h1, h2⟩ := Window_prog V hf (Sched.II s) (Sched.Depth s)
  refine Ev.bind h1 ?_
  simp (disch := omega) only [end_ref V, Option.bind_some, w64_id]
  rw [show Flow.N f + 1 + 1 = Flow.N f + 2 by omega]
  rcases h2 with ⟨hbad, _⟩ | ⟨_, a, ha, hr⟩
  · exfalso
    have e1 := F.loop
    have e2 := F.ii
    unfold BADW at hbad
    rcases hbad with ⟨b1, b2⟩ | ⟨b1, b2⟩ | b | b
    · rw [b1] at e1; simp at e1; omega
    · have := e1.2 b1; omega
    · omega
    · omega
  · rcases ha with ⟨a1, a2, a3, a4, a5⟩ | ⟨_, c, _, a3⟩
    rotate_left
    · exact absurd hfeas (fun q => a3.not_feas q)
    have hle : ∀ v, 0 ≤ v → v < Flow.N f + 2 → rd a.1 v ≤ tm f s v := a5 _ hfeas (fun v v0 v1 => (tm_bound F V v0).1)
    rcases hr with ⟨_, _, r1, r2, u, hu, r3⟩ | ⟨hno, _⟩
    rotate_left
    · exfalso
      rcases hno with hno | ⟨v, v1, v2⟩
      · exact hno a1
      · have := hle v (by omega) (by omega)
        have := tm_depth V F L.late (v := (v : Int)) (by omega) (by omega)
        omega
    rcases hu with ⟨u1, u2, u3, u4, u5⟩ | ⟨_, u3⟩
    rotate_left
    · exact absurd hfeas (fun q => u3.not_feas q)
    have hup : ∀ v, 0 ≤ v → v < Flow.N f + 2 → tm f s v ≤ bnd (UP (Flow.N f + 2) (Sched.Depth s)) v := by
      intro v v0 v1
      have hlen : ((UP (Flow.N f + 2) (Sched.Depth s)).length : Int) = Flow.N f + 2 := by unfold UP; simp; omega
      have e : rd (UP (Flow.N f + 2) (Sched.Depth s)) v = if v = Flow.N f then 0 else Sched.Depth s := by
        unfold UP
        rw [show Flow.N f + 2 - 2 = Flow.N f by omega, Diff.rd_set (by omega) (by simp; omega) v0, Diff.rd_replicate v0 (by omega)]
      unfold bnd
      rw [if_neg (by omega), e]
      by_cases q : v = Flow.N f
      · rw [if_pos q, q, tm_src V]; unfold mn mx; simp
      · rw [if_neg q]
        have := tm_depth V F L.late v0 v1
        unfold mn mx; repeat' split
        all_goals omega
    have hge : ∀ v, 0 ≤ v → v < Flow.N f + 2 → tm f s v ≤ rd u.1 v := u5 _ hfeas hup
    have l1 : (r.1.length : Int) = Flow.N f + 2 := by rw [r1]; exact a2
    have l2 : (r.2.1.length : Int) = Flow.N f + 2 := by rw [r3]; exact u2
    simp (disch := omega) only [↓cnF]
    obtain ⟨n, hn⟩ : ∃ n : Nat, Flow.N f + 2 = (n : Int) := ⟨(Flow.N f + 2).toNat, by omega⟩
    rw [hn]
    refine Ev.up (c := fun k i => jacquardlaw31_BoundsWithin.c8 k (n : Int) (i : Int) f s r.1 r.2.1) (n := n) ?_ ?_ 0 (Nat.zero_le _)
    · refine .succ ?_
      simp (disch := omega) only [jacquardlaw31_BoundsWithin.c8, ↓cdF]
      cases hloop : Flow.Loop f with
      | true => simp only [cond_true]; exact .ret _
      | false =>
        simp only [cond_false]
        obtain ⟨d, d1, d2⟩ := Depth_prog V hf hloop
        have hA := after_ref_f (n0 := Flow.N f + 2) (arcs := Flow.Arcs f) (ii := 0) (lower := []) (by rw [nod_of V]; omega) (by have := hf.1.arcs; omega)
        rw [nod_of V] at hA
        obtain ⟨w, _, hw⟩ := hA
        have hii : Sched.II s = 0 := by
          have e1 := F.loop; have e2 := F.ii
          rw [hloop] at e1; simp at e1; omega
        rw [hii] at hfeas
        refine Ev.bind d1 ?_
        rcases d2 w hw with ⟨p1, p2, p3⟩ | ⟨p1, _, _⟩
        · simp only [p3, decide_true, cond_true]
          have hwl : rd w.1 (Flow.N f + 1) ≤ Sched.Depth s := by
            rcases hw with ⟨_, _, _, _, b5⟩ | ⟨b1, _⟩
            · have := b5 _ hfeas (fun v v0 v1 => by rw [bnd_nil v0]; exact (tm_bound F V v0).1) (Flow.N f + 1) (by omega) (by omega)
              rwa [tm_last V] at this
            · rw [p1] at b1; cases b1
          have hdep : ∀ i : Nat, i ≤ (Flow.Res f).length → dep f (mx 1 (rd w.1 (Flow.N f + 1))) i ≤ Sched.Depth s := by
            intro i
            induction i with
            | zero => intro _; show mx 1 _ ≤ _; rcases mx_eq 1 (rd w.1 (Flow.N f + 1)) with e | e <;> omega
            | succ i ih =>
              intro hi
              have h1 := ih (by omega)
              have h2 := shr_le V hf F L (r := i) (by omega)
              have h3 : cycs f s = Sched.Depth s := by unfold cycs; rw [hloop]; rfl
              show mx _ _ ≤ _
              rcases mx_eq (dep f (mx 1 (rd w.1 (Flow.N f + 1))) i) (shr f i) with e | e <;> omega
          have := hdep _ (Nat.le_refl _)
          rw [decide_eq_true (by rw [p2]; exact this)]
          exact .ret _
        · rcases hw with ⟨b1, _⟩ | ⟨_, _, b3⟩
          · rw [p1] at b1; cases b1
          · exact absurd hfeas (b3 _)
    · intro i hi hnext
      have e1 := hle i (by omega) (by omega)
      have e2 := hge i (by omega) (by omega)
      rw [← r1] at e1
      rw [← r3] at e2
      refine .succ ?_
      simp (disch := omega) only [jacquardlaw31_BoundsWithin.c8, ↓cdT, ↓cdF, ↓if_pos, time_ref F V, Option.bind_some, w64_id]
      exact hnext
end
end Go.Proofs.YtehpelomfhaleaaV
