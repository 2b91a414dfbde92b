/- Schedules: all clashes, legality: the reference. -/
import Derived.Test.YtjddmekfeckphaaGreatClsV
set_option linter.unusedVariables false
set_option linter.unusedSimpArgs false
namespace Go.Proofs.YtjddmekfeckphaaGreatV
open Go Go.Vm
open Classical

section
variable {f : Flow} {s : Sched}

noncomputable def row (f : Flow) (s : Sched) (i : Nat) : List Arr2_3 := (if SELF f s i then [((i : Int), (i : Int), ())] else []) ++ pick (fun m => decide (CL f s i (i + 1 + m))) (fun m => ((i : Int), ((i + 1 + m : Nat) : Int), ())) ((Flow.Insts f).toNat - 1 - i)
noncomputable def clList (f : Flow) (s : Sched) : List Arr2_3 := (List.range (Flow.Insts f).toNat).flatMap (row f s)

theorem row_len (i : Nat) : (row f s i).length ≤ 1 + (Flow.Insts f).toNat := by
  unfold row
  rw [List.length_append]
  have := pick_len (fun m => decide (CL f s i (i + 1 + m))) (fun m => (((i : Int), ((i + 1 + m : Nat) : Int), ()) : Arr2_3)) ((Flow.Insts f).toNat - 1 - i)
  split <;> simp only [List.length_singleton, List.length_nil] <;> omega
theorem acc_len (n : Nat) (hi : Flow.Insts f ≤ 4096) : ((List.range n).flatMap (row f s)).length ≤ n * 4097 := by
  induction n with
  | zero => simp
  | succ n ih =>
    rw [List.range_succ, List.flatMap_append, List.length_append, List.flatMap_singleton]
    have := row_len (f := f) (s := s) n
    omega

/-- the inner loop of the reference, behind the instruction itself -/
theorem inner_ref (V : VALID f) (F : FITS f s) {i : Nat} (hi : (i : Int) < Flow.Insts f) {acc : List Arr2_3} (hacc : acc.length ≤ 20000000) {y : List Arr2_3} (hy : Ev (fun k => jacquardref28_Clashes.c3 k (Flow.Insts f) ((i + 1 : Nat) : Int) f s (acc ++ pick (fun m => decide (CL f s i (i + 1 + m))) (fun m => ((i : Int), ((i + 1 + m : Nat) : Int), ())) ((Flow.Insts f).toNat - 1 - i))) y) :
    Ev (fun k => jacquardref28_Clashes.c6 k (i : Int) ((i + 1 : Nat) : Int) (Flow.Insts f) (i : Int) f s acc) y := by
  have i0 := V.i0
  have i1 := V.i1
  have := Ev.up (c := fun k m => jacquardref28_Clashes.c6 k (i : Int) ((i + 1 + m : Nat) : Int) (Flow.Insts f) (i : Int) f s (acc ++ pick (fun m => decide (CL f s i (i + 1 + m))) (fun m => ((i : Int), ((i + 1 + m : Nat) : Int), ())) m)) (n := (Flow.Insts f).toNat - 1 - i) (y := y) ?_ (fun m hm ih => ?_) 0 (Nat.zero_le _)
  · rw [pick_zero, List.append_nil] at this
    exact this
  · refine hy.step fun k => ?_
    simp only [jacquardref28_Clashes.c6]
    rw [decide_eq_false (by omega)]
    simp only [cond_false]
    rw [w64_id (by omega) (by omega), natC]
  · have hp := pick_len (fun m => decide (CL f s i (i + 1 + m))) (fun m => (((i : Int), ((i + 1 + m : Nat) : Int), ()) : Arr2_3)) m
    have body : Ev (fun k => (jacquardref28_Clash.f k f s (i : Int) ((i + 1 + m : Nat) : Int)).bind fun y57 => bif y57 then bif Nat.ble ((acc ++ pick (fun m => decide (CL f s i (i + 1 + m))) (fun m => (((i : Int), ((i + 1 + m : Nat) : Int), ()) : Arr2_3)) m).length + [(((i : Int), ((i + 1 + m : Nat) : Int), ()) : Arr2_3)].length) 1073741824 then
        jacquardref28_Clashes.c6 k (i : Int) ((i + 1 + (m + 1) : Nat) : Int) (Flow.Insts f) (i : Int) f s ((acc ++ pick (fun m => decide (CL f s i (i + 1 + m))) (fun m => (((i : Int), ((i + 1 + m : Nat) : Int), ()) : Arr2_3)) m) ++ [(((i : Int), ((i + 1 + m : Nat) : Int), ()) : Arr2_3)]) else none
        else jacquardref28_Clashes.c6 k (i : Int) ((i + 1 + (m + 1) : Nat) : Int) (Flow.Insts f) (i : Int) f s (acc ++ pick (fun m => decide (CL f s i (i + 1 + m))) (fun m => (((i : Int), ((i + 1 + m : Nat) : Int), ()) : Arr2_3)) m)) y := by
      have hble : Nat.ble ((acc ++ pick (fun m => decide (CL f s i (i + 1 + m))) (fun m => (((i : Int), ((i + 1 + m : Nat) : Int), ()) : Arr2_3)) m).length + [(((i : Int), ((i + 1 + m : Nat) : Int), ()) : Arr2_3)].length) 1073741824 = true := by
        rw [Nat.ble_eq, List.length_append, List.length_singleton]; omega
      rw [hble]
      refine .test (clash_ref V F hi (by omega) (by omega)) (fun q => ?_) (fun q => ?_)
      · rw [pick_succ, if_pos (by simpa using q), ← List.append_assoc] at ih
        exact ih
      · rw [pick_succ, if_neg (by simpa using q)] at ih
        exact ih
    refine body.step fun k => ?_
    simp only [jacquardref28_Clashes.c6]
    rw [decide_eq_true (by omega), w64_id (by omega) (by omega), show ((i + 1 + m : Nat) : Int) + 1 = ((i + 1 + (m + 1) : Nat) : Int) by omega]
    rfl

theorem clashes_ref (V : VALID f) (F : FITS f s) : Ev (fun k => jacquardref28_Clashes.f k f s) (clList f s) := by
  have i0 := V.i0
  have i1 := V.i1
  have hnd := V.needs
  simp only [jacquardref28_Clashes.f]
  have hI : ((Flow.Insts f).toNat : Int) = Flow.Insts f := by omega
  refine Ev.up (c := fun k i => jacquardref28_Clashes.c3 k (Flow.Insts f) (i : Int) f s ((List.range i).flatMap (row f s))) (n := (Flow.Insts f).toNat) ?_ (fun i hi ih => ?_) 0 (Nat.zero_le _)
  · refine Ev.step (.ret _) fun k => ?_
    simp only [jacquardref28_Clashes.c3]
    rw [decide_eq_false (by omega)]
    rfl
  · have hal := acc_len (f := f) (s := s) i i1
    rw [List.range_succ, List.flatMap_append, List.flatMap_singleton] at ih
    have hb : i * 4097 ≤ 4096 * 4097 := Nat.mul_le_mul_right _ (by omega)
    unfold row at ih
    have hble : Nat.ble (((List.range i).flatMap (row f s)).length + [(((i : Int), (i : Int), ()) : Arr2_3)].length) 1073741824 = true := by
      rw [Nat.ble_eq, List.length_singleton]; omega
    have body : Ev (fun k => (jacquardref28_Clash.f k f s (i : Int) (i : Int)).bind fun y24 => bif y24 then bif Nat.ble (((List.range i).flatMap (row f s)).length + [(((i : Int), (i : Int), ()) : Arr2_3)].length) 1073741824 then
        jacquardref28_Clashes.c6 k (i : Int) ((i + 1 : Nat) : Int) (Flow.Insts f) (i : Int) f s ((List.range i).flatMap (row f s) ++ [((i : Int), (i : Int), ())]) else none
        else jacquardref28_Clashes.c6 k (i : Int) ((i + 1 : Nat) : Int) (Flow.Insts f) (i : Int) f s ((List.range i).flatMap (row f s))) (clList f s) := by
      rw [hble]
      refine .test (self_ref V F (by omega)) (fun q => ?_) (fun q => ?_)
      · rw [if_pos q, ← List.append_assoc] at ih
        exact inner_ref V F (by omega) (by rw [List.length_append, List.length_singleton]; omega) ih
      · rw [if_neg q, List.nil_append] at ih
        exact inner_ref V F (by omega) (by omega) ih
    have b2 : Ev (fun k => jacquardref28_Clashes.c6 k (i : Int) (i : Int) (Flow.Insts f) (i : Int) f s ((List.range i).flatMap (row f s))) (clList f s) := by
      refine body.step fun k => ?_
      simp only [jacquardref28_Clashes.c6]
      rw [decide_eq_true (by omega), w64_id (by omega) (by omega), natC]
      rfl
    refine b2.step fun k => ?_
    simp only [jacquardref28_Clashes.c3]
    rw [decide_eq_true (by omega)]
    rfl

/-! ### legality -/
structure LEGAL (f : Flow) (s : Sched) : Prop where
  depth : Sched.II s ≤ Sched.Depth s
  late : ∀ i, i < (Flow.Arcs f).length → 0 ≤ slk f s i
  clash : clList f s = []
  params : Flow.Loop f = false → ∀ p, p < (Sched.Params s).length → rd (Sched.Params s) (p : Int) = 0

theorem late_nil : pick (fun i => decide (slk f s i < 0)) (fun i => (i : Int)) (Flow.Arcs f).length = [] ↔ ∀ i, i < (Flow.Arcs f).length → 0 ≤ slk f s i := by
  rw [pick_nil]
  simp

theorem len_zero {α : Type} {l : List α} : ((l.length : Int) = 0) ↔ l = [] := by
  constructor
  · intro h; exact List.eq_nil_of_length_eq_zero (by omega)
  · rintro rfl; rfl
theorem len_pos {α : Type} {l : List α} : (0 < (l.length : Int)) ↔ l ≠ [] := by
  constructor
  · rintro h rfl; simp at h
  · intro h
    have := List.length_pos_iff.2 h
    omega

theorem legal_ref (SF : SIZES f) (S : SSIZES s) (V : VALID f) : EvP (fun k => jacquardref28_Legal.f k f s) (FITS f s ∧ LEGAL f s) := by
  simp only [jacquardref28_Legal.f]
  refine .test (fits_ref V S) (fun F => ?_) (fun q => .ff fun h => q h.1)
  simp only [Bool.not_true, cond_false]
  refine .cond (fun h => .ff fun q => ?_) (fun h => ?_)
  · have := of_decide_eq_true h
    have := q.2.depth
    omega
  · have hd := of_decide_eq_false h
    have hs := S.params
    refine EvP.all' 1 (c := fun k i => jacquardref28_Legal.c4 k ((Sched.Params s).length : Int) (i : Int) f s) (n := (Sched.Params s).length) (P := fun i => Flow.Loop f = false → rd (Sched.Params s) (i : Int) = 0) (fun q i hi hl => q.2.params hl i hi) (fun i hi k => ?_) (fun hall => ?_)
    · simp only [jacquardref28_Legal.c4, natC]
      rw [decide_eq_true (show (i : Int) < ((Sched.Params s).length : Int) by omega), if_pos (by omega), w64_id (by omega) (by omega)]
      generalize jacquardref28_Legal.c4 k _ _ _ _ = r
      generalize rd (Sched.Params s) (i : Int) = a
      cases Flow.Loop f <;> by_cases h : a = 0 <;> simp [h]
    · refine EvP.step (g := fun k => (jacquardref28_Late.f k f s).bind fun y37 => bif decide ((y37.length : Int) = 0) then (jacquardref28_Clashes.f k f s).bind fun y43 => some (decide ((y43.length : Int) = 0)) else some false) (.bind (late_ref SF S V F) (.cond (fun h => ?_) (fun h => .ff fun q => ?_))) fun k => ?_
      · have hl := late_nil.1 (len_zero.1 (of_decide_eq_true h))
        refine .bind (clashes_ref V F) (.dec ?_)
        rw [len_zero]
        exact ⟨fun q => ⟨F, by omega, hl, q, fun hl p hp => hall p hp hl⟩, fun q => q.2.clash⟩
      · have := of_decide_eq_false h
        rw [len_zero, late_nil] at this
        exact this q.2.late
      · simp only [jacquardref28_Legal.c4]
        rw [decide_eq_false (by omega)]
        rfl

/-! ### the bounds of the statements -/
end
end Go.Proofs.YtjddmekfeckphaaGreatV
