/- Schedules: late arcs, clashes: program and reference. -/
import Derived.Test.YtklfakmpfinlaaaFlowR
set_option linter.unusedVariables false
set_option linter.unusedSimpArgs false
namespace Go.Proofs.YtklfakmpfinlaaaV
open Go Go.Vm

section
variable {f : Flow} {s : Sched}

/-! ### starts of nodes -/
def tm (f : Flow) (s : Sched) (v : Int) : Int := if v < Flow.Insts f then rd (Sched.Start s) v else if v < Flow.N f then rd (Sched.Params s) (v - Flow.Insts f) else if v = Flow.N f then 0 else Sched.Depth s

theorem tm_bound (F : FITS f s) (V : VALID f) {v : Int} (h0 : 0 ≤ v) : 0 ≤ tm f s v ∧ tm f s v ≤ 4096 := by
  unfold tm
  have h1 := F.start
  have h2 := F.params
  have h3 := F.depth
  have hN : Flow.N f = Flow.Insts f + Flow.Params f := rfl
  have hi := V.i0
  split
  · have := F.starts v.toNat (by omega)
    rw [show ((v.toNat : Nat) : Int) = v by omega] at this
    exact this
  · split
    · have := F.parms (v - Flow.Insts f).toNat (by omega)
      rw [show (((v - Flow.Insts f).toNat : Nat) : Int) = v - Flow.Insts f by omega] at this
      exact this
    · split <;> omega

theorem time_ref (F : FITS f s) (V : VALID f) {v : Int} (h0 : 0 ≤ v) : jacquardref28_Time.f f s v = some (tm f s v) := by
  unfold jacquardref28_Time.f tm jacquardref28_Source.f
  have h1 := F.start
  have h2 := F.params
  have hN : Flow.N f = Flow.Insts f + Flow.Params f := rfl
  have i0 := V.i0
  have i1 := V.i1
  have p0 := V.p0
  have p1 := V.p1
  rw [w64_id (n := Flow.Insts f + Flow.Params f) (by omega) (by omega)]
  simp only [Option.bind_some]
  by_cases hv : v < Flow.Insts f
  · rw [decide_eq_true hv, if_pos hv, if_pos (by omega)]; rfl
  · rw [decide_eq_false hv, if_neg hv]
    simp only [cond_false]
    by_cases hv2 : v < Flow.N f
    · rw [decide_eq_true (show v < Flow.Insts f + Flow.Params f by omega), if_pos hv2]
      simp only [cond_true]
      rw [w64_id (n := v - Flow.Insts f) (by omega) (by omega), if_pos (by omega)]
    · rw [decide_eq_false (show ¬ v < Flow.Insts f + Flow.Params f by omega), if_neg hv2]
      simp only [cond_false]
      by_cases hv3 : v = Flow.N f
      · rw [decide_eq_true (show v = Flow.Insts f + Flow.Params f by omega), if_pos hv3]; rfl
      · rw [decide_eq_false (show ¬ v = Flow.Insts f + Flow.Params f by omega), if_neg hv3]; rfl

theorem splice_get {α : Type} [Inhabited α] {xs ys : List α} {lo m : Nat} (h : lo + m ≤ xs.length) (hm : m ≤ ys.length) {v : Nat} : rd (splice xs lo m ys) (v : Int) = if v < lo then rd xs (v : Int) else if v < lo + m then rd ys ((v - lo : Nat) : Int) else rd xs (v : Int) := by
  unfold splice rd
  simp only [Int.toNat_natCast, List.getD_eq_getElem?_getD]
  have e : lo + min m ys.length = lo + m := by omega
  rw [e]
  split
  · rename_i h1
    rw [List.getElem?_append_left (by rw [List.length_take]; omega), List.getElem?_take, if_pos h1]
  · rename_i h1
    rw [List.getElem?_append_right (by rw [List.length_take]; omega), List.length_take, Nat.min_eq_left (by omega)]
    split
    · rename_i h2
      rw [List.getElem?_append_left (by rw [List.length_take]; omega), List.getElem?_take, if_pos (by omega)]
    · rename_i h2
      rw [List.getElem?_append_right (by rw [List.length_take]; omega), List.length_take, Nat.min_eq_left hm, List.getElem?_drop]
      congr 2
      omega

theorem splice_len {α : Type} {xs ys : List α} {lo m : Nat} (h : lo + m ≤ xs.length) : (splice xs lo m ys).length = xs.length := by
  unfold splice
  simp only [List.length_append, List.length_take, List.length_drop]
  omega

/-- copying the whole of a shorter list -/
theorem splice_cut {α : Type} {xs ys : List α} {lo m : Nat} (h : ys.length ≤ m) : splice xs lo m ys = splice xs lo ys.length ys := by
  unfold splice
  rw [Nat.min_eq_right h, Nat.min_self, List.take_of_length_le h, List.take_length]

theorem rd_set {α : Type} [Inhabited α] {xs : List α} {i : Nat} {y : α} {v : Nat} (h : i < xs.length) : rd (List.set xs i y) (v : Int) = if v = i then y else rd xs (v : Int) := by
  unfold rd
  simp only [Int.toNat_natCast, List.getD_eq_getElem?_getD, List.getElem?_set]
  by_cases e : i = v
  · subst e; simp [h]
  · rw [if_neg e, if_neg (Ne.symm e)]

theorem times_prog (F : FITS f s) (V : VALID f) : ∃ l, schedcheck_times.f f s = some l ∧ (l.length : Int) = Flow.N f + 2 ∧ ∀ v : Int, 0 ≤ v → v ≤ Flow.N f + 1 → rd l v = tm f s v := by
  have h1 := F.start
  have h2 := F.params
  have hN : Flow.N f = Flow.Insts f + Flow.Params f := rfl
  have i0 := V.i0
  have i1 := V.i1
  have p0 := V.p0
  have p1 := V.p1
  simp only [schedcheck_times.f, dataflow_Nodes.f, dataflow_Source.f, dataflow_End.f, Option.bind_some]
  simp (disch := omega) only [w64_id]
  generalize hz : List.replicate (Flow.Insts f + Flow.Params f + 2).toNat (0 : Int) = z
  have zl : z.length = (Flow.N f + 2).toNat := by rw [← hz, List.length_replicate]
  rw [if_pos (by omega)]
  have c1 : splice z 0 z.length (Sched.Start s) = splice z 0 (Sched.Start s).length (Sched.Start s) := splice_cut (by omega)
  rw [c1]
  have l1 : (splice z 0 (Sched.Start s).length (Sched.Start s)).length = z.length := splice_len (by omega)
  generalize hz1 : splice z 0 (Sched.Start s).length (Sched.Start s) = z1 at *
  rw [if_pos (by omega)]
  have c2 : splice z1 (Flow.Insts f).toNat (z1.length - (Flow.Insts f).toNat) (Sched.Params s) = splice z1 (Flow.Insts f).toNat (Sched.Params s).length (Sched.Params s) := splice_cut (by omega)
  rw [c2]
  have l2 : (splice z1 (Flow.Insts f).toNat (Sched.Params s).length (Sched.Params s)).length = z1.length := splice_len (by omega)
  generalize hz2 : splice z1 (Flow.Insts f).toNat (Sched.Params s).length (Sched.Params s) = z2 at *
  rw [if_pos (by omega), if_pos (by rw [List.length_set]; omega)]
  refine ⟨_, rfl, by rw [List.length_set, List.length_set]; omega, fun v hv0 hv1 => ?_⟩
  obtain ⟨n, rfl⟩ : ∃ n : Nat, v = (n : Int) := ⟨v.toNat, by omega⟩
  rw [rd_set (by rw [List.length_set]; omega), rd_set (by omega), ← hz2, splice_get (by omega) (Nat.le_refl _), ← hz1, splice_get (by omega) (Nat.le_refl _)]
  unfold tm
  by_cases g1 : (n : Int) < Flow.Insts f
  · rw [if_neg (by omega), if_neg (by omega), if_pos (by omega), if_neg (by omega), if_pos (by omega), if_pos g1]
    simp
  · rw [if_neg g1]
    by_cases g2 : (n : Int) < Flow.N f
    · rw [if_neg (by omega), if_neg (by omega), if_neg (by omega), if_pos (by omega), if_pos g2, show ((n - (Flow.Insts f).toNat : Nat) : Int) = (n : Int) - Flow.Insts f by omega]
    · rw [if_neg g2]
      by_cases g3 : (n : Int) = Flow.N f
      · rw [if_neg (by omega), if_pos (by omega), if_pos g3]
      · rw [if_pos (by omega), if_neg g3]

/-! ### late arcs -/
def slk (f : Flow) (s : Sched) (i : Nat) : Int := tm f s (Arc.To (rd (Flow.Arcs f) (i : Int))) - tm f s (Arc.From (rd (Flow.Arcs f) (i : Int))) - (Arc.Lat (rd (Flow.Arcs f) (i : Int)) - Sched.II s * Arc.Dist (rd (Flow.Arcs f) (i : Int)))

theorem arc_mul (F : FITS f s) (V : VALID f) {i : Nat} (hi : i < (Flow.Arcs f).length) : 0 ≤ Sched.II s * Arc.Dist (rd (Flow.Arcs f) (i : Int)) ∧ Sched.II s * Arc.Dist (rd (Flow.Arcs f) (i : Int)) ≤ 65536 := by
  obtain ⟨_, _, _, _, _, _, d0, d1, _⟩ := V.arcs i hi
  have h := F.ii
  refine ⟨Int.mul_nonneg h.1 d0, ?_⟩
  have := Int.mul_le_mul h.2 d1 d0 (by omega)
  omega

theorem slk_bound (F : FITS f s) (V : VALID f) {i : Nat} (hi : i < (Flow.Arcs f).length) : -100000 ≤ slk f s i ∧ slk f s i ≤ 100000 := by
  obtain ⟨a1, a2, a3, a4, a5, a6, d0, d1, _⟩ := V.arcs i hi
  have := arc_mul F V hi
  have t1 := tm_bound F V a1
  have t2 := tm_bound F V a3
  unfold slk
  omega

/-- whether an arc is late, of the slack alone -/
theorem slack_prog (SF : SIZES f) (S : SSIZES s) (V : VALID f) (F : FITS f s) : Ev (fun k => schedcheck_Slack.f k f s) (pick (fun _ => true) (fun i => slk f s i) (Flow.Arcs f).length) := by
  simp only [schedcheck_Slack.f]
  have hs := SF.arcs
  refine .bind ((fits_prog SF S).true ⟨V, F⟩) ?_
  simp only [Bool.not_true, cond_false]
  obtain ⟨l, hl, hlen, hrd⟩ := times_prog F V
  rw [hl]
  simp only [Option.bind_some]
  refine Ev.up (c := fun k i => schedcheck_Slack.c6 k (Flow.Arcs f) ((Flow.Arcs f).length : Int) (i : Int) s l (pick (fun _ => true) (fun i => slk f s i) i)) (n := (Flow.Arcs f).length) ?_ (fun i hi ih => ?_) 0 (Nat.zero_le _)
  · refine Ev.step (.ret _) fun k => ?_
    simp only [schedcheck_Slack.c6]
    rw [decide_eq_false (by omega)]
    rfl
  · refine ih.step fun k => ?_
    obtain ⟨a1, a2, a3, a4, a5, a6, d0, d1, _⟩ := V.arcs i hi
    have hm := arc_mul F V hi
    have hsl := slk_bound F V hi
    have t1 := tm_bound F V a1
    have t2 := tm_bound F V a3
    have hpl := pick_len (fun _ => true) (fun i => slk f s i) i
    simp only [schedcheck_Slack.c6, natC]
    rw [decide_eq_true (show (i : Int) < ((Flow.Arcs f).length : Int) by omega), if_pos (show 0 ≤ (i : Int) ∧ (i : Int) < ((Flow.Arcs f).length : Int) by omega), if_pos (by omega), if_pos (by omega), hrd _ a3 a4, hrd _ a1 (by omega)]
    rw [w64_id (n := Sched.II s * _) (by omega) (by omega), w64_id (n := _ - Sched.II s * _) (by omega) (by omega), w64_id (n := tm f s _ - tm f s _) (by omega) (by omega), w64_id (n := (i : Int) + 1) (by omega) (by omega)]
    have e : tm f s (Arc.To (rd (Flow.Arcs f) (i : Int))) - tm f s (Arc.From (rd (Flow.Arcs f) (i : Int))) - (Arc.Lat (rd (Flow.Arcs f) (i : Int)) - Sched.II s * Arc.Dist (rd (Flow.Arcs f) (i : Int))) = slk f s i := rfl
    rw [e, w64_id (by omega) (by omega), pick_succ]
    simp only [cond_true, if_true]
    have hble : Nat.ble ((pick (fun _ => true) (fun i => slk f s i) i).length + [slk f s i].length) 1073741824 = true := by
      rw [Nat.ble_eq]; simp; omega
    rw [hble]
    rfl

theorem late_prog (SF : SIZES f) (S : SSIZES s) (V : VALID f) (F : FITS f s) : Ev (fun k => schedcheck_Late.f k f s) (pick (fun i => decide (slk f s i < 0)) (fun i => (i : Int)) (Flow.Arcs f).length) := by
  simp only [schedcheck_Late.f]
  have hs := SF.arcs
  refine .bind (slack_prog SF S V F) ?_
  have hpl : (pick (fun _ => true) (fun i => slk f s i) (Flow.Arcs f).length).length = (Flow.Arcs f).length := by rw [pick_all]; simp
  rw [hpl]
  refine Ev.up (c := fun k i => schedcheck_Late.c3 k ((Flow.Arcs f).length : Int) (i : Int) (pick (fun i => decide (slk f s i < 0)) (fun i => (i : Int)) i) (pick (fun _ => true) (fun i => slk f s i) (Flow.Arcs f).length)) (n := (Flow.Arcs f).length) ?_ (fun i hi ih => ?_) 0 (Nat.zero_le _)
  · refine Ev.step (.ret _) fun k => ?_
    simp only [schedcheck_Late.c3]
    rw [decide_eq_false (by omega)]
    rfl
  · refine ih.step fun k => ?_
    have hpl2 := pick_len (fun i => decide (slk f s i < 0)) (fun i => (i : Int)) i
    have hrd : rd (pick (fun _ => true) (fun i => slk f s i) (Flow.Arcs f).length) (i : Int) = slk f s i := by
      rw [pick_all, rd_eq (by simpa using hi)]
      simp
    simp only [schedcheck_Late.c3, natC]
    rw [decide_eq_true (show (i : Int) < ((Flow.Arcs f).length : Int) by omega), if_pos (by omega), hrd, w64_id (n := (i : Int) + 1) (by omega) (by omega), pick_succ]
    have hble : Nat.ble ((pick (fun i => decide (slk f s i < 0)) (fun i => (i : Int)) i).length + [(i : Int)].length) 1073741824 = true := by
      rw [Nat.ble_eq]; simp; omega
    rw [hble]
    by_cases h : slk f s i < 0
    · simp [h]
    · simp [h]

theorem late_ref (SF : SIZES f) (S : SSIZES s) (V : VALID f) (F : FITS f s) : Ev (fun k => jacquardref28_Late.f k f s) (pick (fun i => decide (slk f s i < 0)) (fun i => (i : Int)) (Flow.Arcs f).length) := by
  simp only [jacquardref28_Late.f]
  have hs := SF.arcs
  refine Ev.up (c := fun k i => jacquardref28_Late.c3 k ((Flow.Arcs f).length : Int) (i : Int) f s (pick (fun i => decide (slk f s i < 0)) (fun i => (i : Int)) i)) (n := (Flow.Arcs f).length) ?_ (fun i hi ih => ?_) 0 (Nat.zero_le _)
  · refine Ev.step (.ret _) fun k => ?_
    simp only [jacquardref28_Late.c3]
    rw [decide_eq_false (by omega)]
    rfl
  · refine ih.step fun k => ?_
    obtain ⟨a1, a2, a3, a4, a5, a6, d0, d1, _⟩ := V.arcs i hi
    have hm := arc_mul F V hi
    have t1 := tm_bound F V a1
    have t2 := tm_bound F V a3
    have hpl2 := pick_len (fun i => decide (slk f s i < 0)) (fun i => (i : Int)) i
    simp only [jacquardref28_Late.c3, natC, time_ref F V a1, time_ref F V a3, jacquardref28_Weight.f, Option.bind_some]
    rw [w64_id (n := Sched.II s * _) (by omega) (by omega), w64_id (n := _ - Sched.II s * _) (by omega) (by omega), w64_id (n := tm f s _ - tm f s _) (by omega) (by omega), w64_id (n := (i : Int) + 1) (by omega) (by omega)]
    have e : decide (tm f s (Arc.To (rd (Flow.Arcs f) (i : Int))) - tm f s (Arc.From (rd (Flow.Arcs f) (i : Int))) < Arc.Lat (rd (Flow.Arcs f) (i : Int)) - Sched.II s * Arc.Dist (rd (Flow.Arcs f) (i : Int))) = decide (slk f s i < 0) := by
      congr 1
      unfold slk
      apply propext
      omega
    rw [decide_eq_true (show (i : Int) < ((Flow.Arcs f).length : Int) by omega), if_pos (by omega), e, pick_succ]
    have hble : Nat.ble ((pick (fun i => decide (slk f s i < 0)) (fun i => (i : Int)) i).length + [(i : Int)].length) 1073741824 = true := by
      rw [Nat.ble_eq]; simp; omega
    rw [hble]
    by_cases h : slk f s i < 0
    · simp [h]
    · simp [h]
end
end Go.Proofs.YtklfakmpfinlaaaV
