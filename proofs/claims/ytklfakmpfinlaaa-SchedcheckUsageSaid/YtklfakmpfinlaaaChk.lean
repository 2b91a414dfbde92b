/- Schedules: the list of clashes; legality: program and reference. -/
import Derived.Test.YtklfakmpfinlaaaCls
set_option linter.unusedVariables false
set_option linter.unusedSimpArgs false
namespace Go.Proofs.YtklfakmpfinlaaaV
open Go Go.Vm
open Classical

section
variable {f : Flow} {s : Sched}

noncomputable def row (f : Flow) (s : Sched) (i : Nat) : List Arr2_3 := (if SELF f s i then [((i : Int), (i : Int), ())] else []) ++ pick (fun m => decide (CL f s i (i + 1 + m))) (fun m => ((i : Int), ((i + 1 + m : Nat) : Int), ())) ((Flow.Insts f).toNat - 1 - i)
noncomputable def clList (f : Flow) (s : Sched) : List Arr2_3 := (List.range (Flow.Insts f).toNat).flatMap (row f s)

theorem row_len (i : Nat) : (row f s i).length ≤ 1 + (Flow.Insts f).toNat := by
  unfold row
  rw [List.length_append]
  have := pick_len (fun m => decide (CL f s i (i + 1 + m))) (fun m => (((i : Int), ((i + 1 + m : Nat) : Int), ()) : Arr2_3)) ((Flow.Insts f).toNat - 1 - i)
  split <;> simp only [List.length_singleton, List.length_nil] <;> omega
theorem acc_len (n : Nat) (hi : Flow.Insts f ≤ 4096) : ((List.range n).flatMap (row f s)).length ≤ n * 4097 := by
  induction n with
  | zero => simp
  | succ n ih =>
    rw [List.range_succ, List.flatMap_append, List.length_append, List.flatMap_singleton]
    have := row_len (f := f) (s := s) n
    omega

/-- the inner loop of the program -/
theorem inner_prog (V : VALID f) (F : FITS f s) {i : Nat} (hi : (i : Int) < Flow.Insts f) {acc : List Arr2_3} (hacc : acc.length ≤ 20000000) {y : List Arr2_3} (hy : Ev (fun k => schedcheck_Clashes.c5 k (Flow.Insts f) ((i + 1 : Nat) : Int) f s (acc ++ pick (fun m => decide (CL f s i (i + 1 + m))) (fun m => ((i : Int), ((i + 1 + m : Nat) : Int), ())) ((Flow.Insts f).toNat - 1 - i))) y) :
    Ev (fun k => schedcheck_Clashes.c9 k (i : Int) (Flow.Insts f) (i : Int) f s acc) y := by
  have i0 := V.i0
  have i1 := V.i1
  have base : Ev (fun k => schedcheck_Clashes.c10 k (i : Int) ((i : Int) + 1) (Flow.Insts f) (i : Int) f s acc) y := by
    have := Ev.up (c := fun k m => schedcheck_Clashes.c10 k (i : Int) ((i + 1 + m : Nat) : Int) (Flow.Insts f) (i : Int) f s (acc ++ pick (fun m => decide (CL f s i (i + 1 + m))) (fun m => ((i : Int), ((i + 1 + m : Nat) : Int), ())) m)) (n := (Flow.Insts f).toNat - 1 - i) (y := y) ?_ (fun m hm ih => ?_) 0 (Nat.zero_le _)
    · rw [pick_zero, List.append_nil] at this
      exact this
    · refine hy.step fun k => ?_
      simp only [schedcheck_Clashes.c10]
      rw [decide_eq_false (by omega)]
      simp only [cond_false]
      rw [w64_id (by omega) (by omega), natC]
    · have hp := pick_len (fun m => decide (CL f s i (i + 1 + m))) (fun m => (((i : Int), ((i + 1 + m : Nat) : Int), ()) : Arr2_3)) m
      have body : Ev (fun k => (schedcheck_clash.f f s (i : Int) ((i + 1 + m : Nat) : Int)).bind fun y57 => bif y57 then bif Nat.ble ((acc ++ pick (fun m => decide (CL f s i (i + 1 + m))) (fun m => (((i : Int), ((i + 1 + m : Nat) : Int), ()) : Arr2_3)) m).length + [(((i : Int), ((i + 1 + m : Nat) : Int), ()) : Arr2_3)].length) 1073741824 then
          schedcheck_Clashes.c10 k (i : Int) ((i + 1 + (m + 1) : Nat) : Int) (Flow.Insts f) (i : Int) f s ((acc ++ pick (fun m => decide (CL f s i (i + 1 + m))) (fun m => (((i : Int), ((i + 1 + m : Nat) : Int), ()) : Arr2_3)) m) ++ [(((i : Int), ((i + 1 + m : Nat) : Int), ()) : Arr2_3)]) else none
          else schedcheck_Clashes.c10 k (i : Int) ((i + 1 + (m + 1) : Nat) : Int) (Flow.Insts f) (i : Int) f s (acc ++ pick (fun m => decide (CL f s i (i + 1 + m))) (fun m => (((i : Int), ((i + 1 + m : Nat) : Int), ()) : Arr2_3)) m)) y := by
        have hble : Nat.ble ((acc ++ pick (fun m => decide (CL f s i (i + 1 + m))) (fun m => (((i : Int), ((i + 1 + m : Nat) : Int), ()) : Arr2_3)) m).length + [(((i : Int), ((i + 1 + m : Nat) : Int), ()) : Arr2_3)].length) 1073741824 = true := by
          rw [Nat.ble_eq, List.length_append, List.length_singleton]; omega
        rw [hble]
        refine .test (clash_prog V F hi (by omega)) (fun q => ?_) (fun q => ?_)
        · rw [pick_succ, if_pos (by simpa using q), ← List.append_assoc] at ih
          exact ih
        · rw [pick_succ, if_neg (by simpa using q)] at ih
          exact ih
      refine body.step fun k => ?_
      simp only [schedcheck_Clashes.c10]
      rw [decide_eq_true (by omega), w64_id (by omega) (by omega), show ((i + 1 + m : Nat) : Int) + 1 = ((i + 1 + (m + 1) : Nat) : Int) by omega]
      rfl
  refine base.step fun k => ?_
  simp only [schedcheck_Clashes.c9]
  rw [w64_id (by omega) (by omega)]

theorem clashes_prog (SF : SIZES f) (S : SSIZES s) (V : VALID f) (F : FITS f s) : Ev (fun k => schedcheck_Clashes.f k f s) (clList f s) := by
  have i0 := V.i0
  have i1 := V.i1
  have hnd := V.needs
  simp only [schedcheck_Clashes.f]
  refine .bind ((fits_prog SF S).true ⟨V, F⟩) ?_
  simp only [Bool.not_true, cond_false]
  have hI : ((Flow.Insts f).toNat : Int) = Flow.Insts f := by omega
  refine Ev.up (c := fun k i => schedcheck_Clashes.c5 k (Flow.Insts f) (i : Int) f s ((List.range i).flatMap (row f s))) (n := (Flow.Insts f).toNat) ?_ (fun i hi ih => ?_) 0 (Nat.zero_le _)
  · refine Ev.step (.ret _) fun k => ?_
    simp only [schedcheck_Clashes.c5]
    rw [decide_eq_false (by omega)]
    rfl
  · have hal := acc_len (f := f) (s := s) i i1
    rw [List.range_succ, List.flatMap_append, List.flatMap_singleton] at ih
    have b1 : 0 ≤ (i : Int) ∧ (i : Int) < ((Flow.Needs f).length : Int) := by omega
    have hb : i * 4097 ≤ 4096 * 4097 := Nat.mul_le_mul_right _ (by omega)
    have hloop := F.loop
    unfold row at ih
    by_cases hself : SELF f s i
    · rw [if_pos hself, ← List.append_assoc] at ih
      refine (inner_prog V F (by omega) (acc := (List.range i).flatMap (row f s) ++ [((i : Int), (i : Int), ())]) (by rw [List.length_append, List.length_singleton]; omega) ih).step fun k => ?_
      obtain ⟨s1, s2, s3⟩ := hself
      have hble : Nat.ble (((List.range i).flatMap (row f s)).length + [(((i : Int), (i : Int), ()) : Arr2_3)].length) 1073741824 = true := by
        rw [Nat.ble_eq, List.length_singleton]; omega
      simp only [schedcheck_Clashes.c5]
      rw [decide_eq_true (show (i : Int) < Flow.Insts f by omega), hloop.1 s1, if_pos b1, decide_eq_true s2, if_pos b1, decide_eq_true s3, hble]
      rfl
    · rw [if_neg hself, List.nil_append] at ih
      refine (inner_prog V F (by omega) (acc := (List.range i).flatMap (row f s)) (by omega) ih).step fun k => ?_
      simp only [schedcheck_Clashes.c5]
      rw [decide_eq_true (show (i : Int) < Flow.Insts f by omega)]
      simp only [if_pos b1, cond_true]
      cases hl : Flow.Loop f
      · rfl
      · simp only [cond_true]
        by_cases s2 : 0 ≤ Need.Res (rd (Flow.Needs f) (i : Int))
        · rw [decide_eq_true s2, decide_eq_false (fun s3 => hself ⟨hloop.2 hl, s2, s3⟩)]
          rfl
        · rw [decide_eq_false s2]
          rfl

/-- the inner loop of the reference, behind the instruction itself -/
theorem inner_ref (V : VALID f) (F : FITS f s) {i : Nat} (hi : (i : Int) < Flow.Insts f) {acc : List Arr2_3} (hacc : acc.length ≤ 20000000) {y : List Arr2_3} (hy : Ev (fun k => jacquardref28_Clashes.c3 k (Flow.Insts f) ((i + 1 : Nat) : Int) f s (acc ++ pick (fun m => decide (CL f s i (i + 1 + m))) (fun m => ((i : Int), ((i + 1 + m : Nat) : Int), ())) ((Flow.Insts f).toNat - 1 - i))) y) :
    Ev (fun k => jacquardref28_Clashes.c6 k (i : Int) ((i + 1 : Nat) : Int) (Flow.Insts f) (i : Int) f s acc) y := by
  have i0 := V.i0
  have i1 := V.i1
  have := Ev.up (c := fun k m => jacquardref28_Clashes.c6 k (i : Int) ((i + 1 + m : Nat) : Int) (Flow.Insts f) (i : Int) f s (acc ++ pick (fun m => decide (CL f s i (i + 1 + m))) (fun m => ((i : Int), ((i + 1 + m : Nat) : Int), ())) m)) (n := (Flow.Insts f).toNat - 1 - i) (y := y) ?_ (fun m hm ih => ?_) 0 (Nat.zero_le _)
  · rw [pick_zero, List.append_nil] at this
    exact this
  · refine hy.step fun k => ?_
    simp only [jacquardref28_Clashes.c6]
    rw [decide_eq_false (by omega)]
    simp only [cond_false]
    rw [w64_id (by omega) (by omega), natC]
  · have hp := pick_len (fun m => decide (CL f s i (i + 1 + m))) (fun m => (((i : Int), ((i + 1 + m : Nat) : Int), ()) : Arr2_3)) m
    have body : Ev (fun k => (jacquardref28_Clash.f k f s (i : Int) ((i + 1 + m : Nat) : Int)).bind fun y57 => bif y57 then bif Nat.ble ((acc ++ pick (fun m => decide (CL f s i (i + 1 + m))) (fun m => (((i : Int), ((i + 1 + m : Nat) : Int), ()) : Arr2_3)) m).length + [(((i : Int), ((i + 1 + m : Nat) : Int), ()) : Arr2_3)].length) 1073741824 then
        jacquardref28_Clashes.c6 k (i : Int) ((i + 1 + (m + 1) : Nat) : Int) (Flow.Insts f) (i : Int) f s ((acc ++ pick (fun m => decide (CL f s i (i + 1 + m))) (fun m => (((i : Int), ((i + 1 + m : Nat) : Int), ()) : Arr2_3)) m) ++ [(((i : Int), ((i + 1 + m : Nat) : Int), ()) : Arr2_3)]) else none
        else jacquardref28_Clashes.c6 k (i : Int) ((i + 1 + (m + 1) : Nat) : Int) (Flow.Insts f) (i : Int) f s (acc ++ pick (fun m => decide (CL f s i (i + 1 + m))) (fun m => (((i : Int), ((i + 1 + m : Nat) : Int), ()) : Arr2_3)) m)) y := by
      have hble : Nat.ble ((acc ++ pick (fun m => decide (CL f s i (i + 1 + m))) (fun m => (((i : Int), ((i + 1 + m : Nat) : Int), ()) : Arr2_3)) m).length + [(((i : Int), ((i + 1 + m : Nat) : Int), ()) : Arr2_3)].length) 1073741824 = true := by
        rw [Nat.ble_eq, List.length_append, List.length_singleton]; omega
      rw [hble]
      refine .test (clash_ref V F hi (by omega) (by omega)) (fun q => ?_) (fun q => ?_)
      · rw [pick_succ, if_pos (by simpa using q), ← List.append_assoc] at ih
        exact ih
      · rw [pick_succ, if_neg (by simpa using q)] at ih
        exact ih
    refine body.step fun k => ?_
    simp only [jacquardref28_Clashes.c6]
    rw [decide_eq_true (by omega), w64_id (by omega) (by omega), show ((i + 1 + m : Nat) : Int) + 1 = ((i + 1 + (m + 1) : Nat) : Int) by omega]
    rfl

theorem clashes_ref (V : VALID f) (F : FITS f s) : Ev (fun k => jacquardref28_Clashes.f k f s) (clList f s) := by
  have i0 := V.i0
  have i1 := V.i1
  have hnd := V.needs
  simp only [jacquardref28_Clashes.f]
  have hI : ((Flow.Insts f).toNat : Int) = Flow.Insts f := by omega
  refine Ev.up (c := fun k i => jacquardref28_Clashes.c3 k (Flow.Insts f) (i : Int) f s ((List.range i).flatMap (row f s))) (n := (Flow.Insts f).toNat) ?_ (fun i hi ih => ?_) 0 (Nat.zero_le _)
  · refine Ev.step (.ret _) fun k => ?_
    simp only [jacquardref28_Clashes.c3]
    rw [decide_eq_false (by omega)]
    rfl
  · have hal := acc_len (f := f) (s := s) i i1
    rw [List.range_succ, List.flatMap_append, List.flatMap_singleton] at ih
    have hb : i * 4097 ≤ 4096 * 4097 := Nat.mul_le_mul_right _ (by omega)
    unfold row at ih
    have hble : Nat.ble (((List.range i).flatMap (row f s)).length + [(((i : Int), (i : Int), ()) : Arr2_3)].length) 1073741824 = true := by
      rw [Nat.ble_eq, List.length_singleton]; omega
    have body : Ev (fun k => (jacquardref28_Clash.f k f s (i : Int) (i : Int)).bind fun y24 => bif y24 then bif Nat.ble (((List.range i).flatMap (row f s)).length + [(((i : Int), (i : Int), ()) : Arr2_3)].length) 1073741824 then
        jacquardref28_Clashes.c6 k (i : Int) ((i + 1 : Nat) : Int) (Flow.Insts f) (i : Int) f s ((List.range i).flatMap (row f s) ++ [((i : Int), (i : Int), ())]) else none
        else jacquardref28_Clashes.c6 k (i : Int) ((i + 1 : Nat) : Int) (Flow.Insts f) (i : Int) f s ((List.range i).flatMap (row f s))) (clList f s) := by
      rw [hble]
      refine .test (self_ref V F (by omega)) (fun q => ?_) (fun q => ?_)
      · rw [if_pos q, ← List.append_assoc] at ih
        exact inner_ref V F (by omega) (by rw [List.length_append, List.length_singleton]; omega) ih
      · rw [if_neg q, List.nil_append] at ih
        exact inner_ref V F (by omega) (by omega) ih
    have b2 : Ev (fun k => jacquardref28_Clashes.c6 k (i : Int) (i : Int) (Flow.Insts f) (i : Int) f s ((List.range i).flatMap (row f s))) (clList f s) := by
      refine body.step fun k => ?_
      simp only [jacquardref28_Clashes.c6]
      rw [decide_eq_true (by omega), w64_id (by omega) (by omega), natC]
      rfl
    refine b2.step fun k => ?_
    simp only [jacquardref28_Clashes.c3]
    rw [decide_eq_true (by omega)]
    rfl

/-! ### legality -/
structure LEGAL (f : Flow) (s : Sched) : Prop where
  depth : Sched.II s ≤ Sched.Depth s
  late : ∀ i, i < (Flow.Arcs f).length → 0 ≤ slk f s i
  clash : clList f s = []
  params : Flow.Loop f = false → ∀ p, p < (Sched.Params s).length → rd (Sched.Params s) (p : Int) = 0

theorem late_nil : pick (fun i => decide (slk f s i < 0)) (fun i => (i : Int)) (Flow.Arcs f).length = [] ↔ ∀ i, i < (Flow.Arcs f).length → 0 ≤ slk f s i := by
  rw [pick_nil]
  simp

theorem len_zero {α : Type} {l : List α} : ((l.length : Int) = 0) ↔ l = [] := by
  constructor
  · intro h; exact List.eq_nil_of_length_eq_zero (by omega)
  · rintro rfl; rfl
theorem len_pos {α : Type} {l : List α} : (0 < (l.length : Int)) ↔ l ≠ [] := by
  constructor
  · rintro h rfl; simp at h
  · intro h
    have := List.length_pos_iff.2 h
    omega

theorem check_prog (SF : SIZES f) (S : SSIZES s) : Ev (fun k => schedcheck_Check.f k f s) (if VALID f ∧ FITS f s then (if LEGAL f s then 0 else 20) else 3) := by
  simp only [schedcheck_Check.f]
  refine .test (fits_prog SF S) (fun q => ?_) (fun q => ?_)
  · rw [if_pos q]
    obtain ⟨V, F⟩ := q
    simp only [Bool.not_true, cond_false]
    refine .cond (fun h => ?_) (fun h => ?_)
    · have := of_decide_eq_true h
      rw [if_neg (fun L => by have := L.depth; omega)]
      exact .ret _
    · have hd := of_decide_eq_false h
      refine .bind (late_prog SF S V F) (.cond (fun h => ?_) (fun h => ?_))
      · have := len_pos.1 (of_decide_eq_true h)
        rw [if_neg (fun L => this (late_nil.2 L.late))]
        exact .ret _
      · have hl := of_decide_eq_false h
        rw [len_pos] at hl
        have hl := late_nil.1 (Classical.not_not.1 hl)
        refine .bind (clashes_prog SF S V F) (.cond (fun h => ?_) (fun h => ?_))
        · have := len_pos.1 (of_decide_eq_true h)
          rw [if_neg (fun L => this L.clash)]
          exact .ret _
        · have hc := of_decide_eq_false h
          rw [len_pos] at hc
          have hc := Classical.not_not.1 hc
          have hs := S.params
          -- the parameters
          have key : EvP (fun k => (schedcheck_Check.c6 k (Sched.Params s) ((Sched.Params s).length : Int) 0 f).bind fun y => some (decide (y = 0))) (Flow.Loop f = false → ∀ p, p < (Sched.Params s).length → rd (Sched.Params s) (p : Int) = 0) ∧
              ((Flow.Loop f = false → ∀ p, p < (Sched.Params s).length → rd (Sched.Params s) (p : Int) = 0) → Ev (fun k => schedcheck_Check.c6 k (Sched.Params s) ((Sched.Params s).length : Int) 0 f) 0) ∧
              (¬ (Flow.Loop f = false → ∀ p, p < (Sched.Params s).length → rd (Sched.Params s) (p : Int) = 0) → Ev (fun k => schedcheck_Check.c6 k (Sched.Params s) ((Sched.Params s).length : Int) 0 f) 20) := by
            have step : ∀ i : Nat, i < (Sched.Params s).length → ∀ k, schedcheck_Check.c6 (k + 1) (Sched.Params s) ((Sched.Params s).length : Int) (i : Int) f = if rd (Sched.Params s) (i : Int) = 0 ∨ Flow.Loop f = true then schedcheck_Check.c6 k (Sched.Params s) ((Sched.Params s).length : Int) ((i + 1 : Nat) : Int) f else some 20 := fun i hi k => by
              simp only [schedcheck_Check.c6, natC]
              rw [decide_eq_true (show (i : Int) < ((Sched.Params s).length : Int) by omega), if_pos (by omega), w64_id (by omega) (by omega)]
              generalize schedcheck_Check.c6 k _ _ _ _ = r
              generalize rd (Sched.Params s) (i : Int) = a
              cases Flow.Loop f <;> by_cases h : a = 0 <;> simp [h]
            have last : ∀ k, schedcheck_Check.c6 (k + 1) (Sched.Params s) ((Sched.Params s).length : Int) ((Sched.Params s).length : Int) f = some 0 := fun k => by
              simp only [schedcheck_Check.c6]
              rw [decide_eq_false (by omega)]
              rfl
            have e0 : (Flow.Loop f = false → ∀ p, p < (Sched.Params s).length → rd (Sched.Params s) (p : Int) = 0) → Ev (fun k => schedcheck_Check.c6 k (Sched.Params s) ((Sched.Params s).length : Int) 0 f) 0 := fun q => by
              refine Ev.up (c := fun k i => schedcheck_Check.c6 k (Sched.Params s) ((Sched.Params s).length : Int) (i : Int) f) (n := (Sched.Params s).length) (Ev.step (.ret _) last) (fun i hi ih => ih.step fun k => ?_) 0 (Nat.zero_le _)
              rw [step i hi k, if_pos]
              cases hl : Flow.Loop f
              · exact .inl (q hl i hi)
              · exact .inr rfl
            have e20 : ¬ (Flow.Loop f = false → ∀ p, p < (Sched.Params s).length → rd (Sched.Params s) (p : Int) = 0) → Ev (fun k => schedcheck_Check.c6 k (Sched.Params s) ((Sched.Params s).length : Int) 0 f) 20 := fun q => by
              obtain ⟨hl, q⟩ := Classical.not_imp.1 q
              have := EvP.all (c := fun k i => (schedcheck_Check.c6 k (Sched.Params s) ((Sched.Params s).length : Int) (i : Int) f).bind fun y => some (decide (y ≠ 20))) (n := (Sched.Params s).length) (Q := False) (fun i => rd (Sched.Params s) (i : Int) = 0) (fun h => h.elim) (fun i hi hp b hb => ?_) (fun i hi hp => ?_) (fun hall => absurd hall q)
              · obtain ⟨b, ⟨N, hb1⟩, hb2⟩ := this
                have hbf : b = false := by cases b; rfl; exact (hb2.1 rfl).elim
                subst hbf
                refine ⟨N, fun k hk => ?_⟩
                have this : (schedcheck_Check.c6 k (Sched.Params s) ((Sched.Params s).length : Int) ((0 : Nat) : Int) f).bind (fun y => some (decide (y ≠ 20))) = some false := hb1 k hk
                cases hv : schedcheck_Check.c6 k (Sched.Params s) ((Sched.Params s).length : Int) ((0 : Nat) : Int) f with
                | none => rw [hv] at this; simp at this
                | some v =>
                  rw [hv] at this
                  simp at this
                  subst this
                  exact hv
              · refine hb.step fun k => ?_
                rw [step i hi k, if_pos (.inl hp)]
              · refine Ev.step (.ret false) fun k => ?_
                rw [step i hi k, if_neg (by simp [hp, hl])]
                rfl
            refine ⟨?_, e0, e20⟩
            by_cases q : Flow.Loop f = false → ∀ p, p < (Sched.Params s).length → rd (Sched.Params s) (p : Int) = 0
            · exact .bind (e0 q) (.dec ⟨fun _ => q, fun _ => rfl⟩)
            · exact .bind (e20 q) (.dec ⟨fun h => by simp at h, fun h => absurd h q⟩)
          by_cases q : Flow.Loop f = false → ∀ p, p < (Sched.Params s).length → rd (Sched.Params s) (p : Int) = 0
          · rw [if_pos ⟨by omega, hl, hc, q⟩]
            exact key.2.1 q
          · rw [if_neg (fun L => q L.params)]
            exact key.2.2 q
  · rw [if_neg q]
    exact .ret _

theorem legal_ref (SF : SIZES f) (S : SSIZES s) (V : VALID f) : EvP (fun k => jacquardref28_Legal.f k f s) (FITS f s ∧ LEGAL f s) := by
  simp only [jacquardref28_Legal.f]
  refine .test (fits_ref V S) (fun F => ?_) (fun q => .ff fun h => q h.1)
  simp only [Bool.not_true, cond_false]
  refine .cond (fun h => .ff fun q => ?_) (fun h => ?_)
  · have := of_decide_eq_true h
    have := q.2.depth
    omega
  · have hd := of_decide_eq_false h
    have hs := S.params
    refine EvP.all' 1 (c := fun k i => jacquardref28_Legal.c4 k ((Sched.Params s).length : Int) (i : Int) f s) (n := (Sched.Params s).length) (P := fun i => Flow.Loop f = false → rd (Sched.Params s) (i : Int) = 0) (fun q i hi hl => q.2.params hl i hi) (fun i hi k => ?_) (fun hall => ?_)
    · simp only [jacquardref28_Legal.c4, natC]
      rw [decide_eq_true (show (i : Int) < ((Sched.Params s).length : Int) by omega), if_pos (by omega), w64_id (by omega) (by omega)]
      generalize jacquardref28_Legal.c4 k _ _ _ _ = r
      generalize rd (Sched.Params s) (i : Int) = a
      cases Flow.Loop f <;> by_cases h : a = 0 <;> simp [h]
    · refine EvP.step (g := fun k => (jacquardref28_Late.f k f s).bind fun y37 => bif decide ((y37.length : Int) = 0) then (jacquardref28_Clashes.f k f s).bind fun y43 => some (decide ((y43.length : Int) = 0)) else some false) (.bind (late_ref SF S V F) (.cond (fun h => ?_) (fun h => .ff fun q => ?_))) fun k => ?_
      · have hl := late_nil.1 (len_zero.1 (of_decide_eq_true h))
        refine .bind (clashes_ref V F) (.dec ?_)
        rw [len_zero]
        exact ⟨fun q => ⟨F, by omega, hl, q, fun hl p hp => hall p hp hl⟩, fun q => q.2.clash⟩
      · have := of_decide_eq_false h
        rw [len_zero, late_nil] at this
        exact this q.2.late
      · simp only [jacquardref28_Legal.c4]
        rw [decide_eq_false (by omega)]
        rfl

/-! ### the bounds of the statements -/
structure FEW (f : Flow) (s : Sched) : Prop where
  insts : Flow.Insts f ≤ 20
  params : Flow.Params f ≤ 8
  arcs : (Flow.Arcs f).length ≤ 90
  res : (Flow.Res f).length ≤ 6
  needs : (Flow.Needs f).length ≤ 30
  start : (Sched.Start s).length ≤ 30
  unit : (Sched.Unit s).length ≤ 30
  parms : (Sched.Params s).length ≤ 30
  arc : ∀ i, i < (Flow.Arcs f).length → Arc.Lat (rd (Flow.Arcs f) (i : Int)) ≤ 60 ∧ Arc.Dist (rd (Flow.Arcs f) (i : Int)) ≤ 20
  busy : ∀ i, i < (Flow.Needs f).length → Need.Busy (rd (Flow.Needs f) (i : Int)) ≤ 20

structure SMALL (f : Flow) (n m : Int) : Prop where
  insts : Flow.Insts f ≤ n
  params : Flow.Params f ≤ m
  arcs : (Flow.Arcs f).length ≤ 90
  res : (Flow.Res f).length ≤ 6
  arc : ∀ i, i < (Flow.Arcs f).length → Arc.Lat (rd (Flow.Arcs f) (i : Int)) ≤ 60 ∧ Arc.Dist (rd (Flow.Arcs f) (i : Int)) ≤ 20
  busy : ∀ i, i < (Flow.Needs f).length → Need.Busy (rd (Flow.Needs f) (i : Int)) ≤ 20

theorem small_ref (n m : Int) (ha : (Flow.Arcs f).length ≤ 140737488351232) (hn : (Flow.Needs f).length ≤ 140737488351232) : EvP (fun k => jacquardref28_Small.f k f n m) (SMALL f n m) := by
  simp only [jacquardref28_Small.f]
  refine EvP.all' 1 (c := fun k i => jacquardref28_Small.c2 k n m ((Flow.Arcs f).length : Int) (i : Int) f) (n := (Flow.Arcs f).length) (P := fun i => Arc.Lat (rd (Flow.Arcs f) (i : Int)) ≤ 60 ∧ Arc.Dist (rd (Flow.Arcs f) (i : Int)) ≤ 20) (fun q => q.arc) (fun i hi k => ?_) (fun h1 => ?_)
  · have b1 : 0 ≤ (i : Int) ∧ (i : Int) < ((Flow.Arcs f).length : Int) := by omega
    simp only [jacquardref28_Small.c2, natC]
    rw [decide_eq_true b1.2, w64_id (by omega) (by omega)]
    simp only [if_pos b1, cond_true]
    generalize jacquardref28_Small.c2 k _ _ _ _ _ = r
    generalize rd (Flow.Arcs f) (i : Int) = a
    obtain ⟨a1, a2, a3, a4, _⟩ := a
    clear b1 hi ha hn
    grind
  · refine EvP.step (g := fun k => jacquardref28_Small.c8 k n m ((Flow.Needs f).length : Int) 0 f) ?_ fun k => ?_
    · refine EvP.all' 1 (c := fun k i => jacquardref28_Small.c8 k n m ((Flow.Needs f).length : Int) (i : Int) f) (n := (Flow.Needs f).length) (P := fun i => Need.Busy (rd (Flow.Needs f) (i : Int)) ≤ 20) (fun q => q.busy) (fun i hi k => ?_) (fun h2 => ?_)
      · have b1 : 0 ≤ (i : Int) ∧ (i : Int) < ((Flow.Needs f).length : Int) := by omega
        simp only [jacquardref28_Small.c8, natC]
        rw [decide_eq_true b1.2, w64_id (by omega) (by omega)]
        simp only [if_pos b1, cond_true]
        generalize jacquardref28_Small.c8 k _ _ _ _ _ = r
        generalize rd (Flow.Needs f) (i : Int) = a
        obtain ⟨a1, a2, _⟩ := a
        clear b1 hi ha hn h1
        grind
      · refine EvP.step (g := fun _ => bif decide (Flow.Insts f ≤ n) then bif decide (Flow.Params f ≤ m) then bif decide (((Flow.Arcs f).length : Int) ≤ 90) then some (decide (((Flow.Res f).length : Int) ≤ 6)) else some false else some false else some false) ?_ fun k => ?_
        · refine .cond (fun q1 => .cond (fun q2 => .cond (fun q3 => .dec ?_) fun q3 => .ff fun v => ?_) fun q2 => .ff fun v => ?_) fun q1 => .ff fun v => ?_
          · have q1 := of_decide_eq_true q1
            have q2 := of_decide_eq_true q2
            have q3 := of_decide_eq_true q3
            exact ⟨fun q => ⟨q1, q2, by omega, by omega, h1, h2⟩, fun q => by have := q.res; omega⟩
          · have := v.arcs; have := of_decide_eq_false q3; omega
          · have := v.params; have := of_decide_eq_false q2; omega
          · have := v.insts; have := of_decide_eq_false q1; omega
        · simp only [jacquardref28_Small.c8]
          rw [decide_eq_false (by omega)]
          rfl
    · simp only [jacquardref28_Small.c2]
      rw [decide_eq_false (by omega)]
      rfl
end
end Go.Proofs.YtklfakmpfinlaaaV
