-- Printed by a program of this session (gprint.py, which runs the kit's print.py): Lean checks it.
import Derived.Test.YtflefelgdcblgaaQx0
import Derived.Test.YtflefelgdcblgaaQx1
import Derived.Test.YtflefelgdcblgaaQx2
namespace Go.Proofs.Ytflefelgdcblgaa.Q
open Go.RowKit Go.Proofs.YtflefelgdcblgaaW.PrintWords Go.Proofs.YtflefelgdcblgaaW.PrintLast Go.Proofs.YtflefelgdcblgaaW.PrintMore
attribute [local go_sem] max2_int min2_int max_two min_two max_three min_three max_four min_four   -- for this text's walks alone
set_option linter.unusedVariables false
set_option linter.unusedSimpArgs false
mutual
def diffcons_After.l0 : Nat → Int → List (S28) → Int → List Int → List Int → List Int → Int → Int → Option (List Int × List Int)
 | 0, _, _, _, _, _, _, _, _ => none
 | k + 1, x0, x1, x2, x3, x8, x10, x24, x25 => if x25 < x24 then ((diffcons_bound.f x3 x25).bind fun t130 => (if 0 ≤ x25 then (if x25 < (x8.length : Int) then (if x25 < (x10.length : Int) then (diffcons_After.l0 k x0 x1 x2 x3 (x8.set (x25 : Int).toNat t130) (x10.set (x25 : Int).toNat (-1)) x24 (wrap64 (x25 + 1))) else (none)) else (none)) else (none))) else (diffcons_After.l1 k x0 x1 x2 x8 x10 0)
def diffcons_After.l1 : Nat → Int → List (S28) → Int → List Int → List Int → Int → Option (List Int × List Int)
 | 0, _, _, _, _, _, _ => none
 | k + 1, x0, x1, x2, x8, x10, x12 => diffcons_After.l2 k x0 x1 x2 x8 x10 x12 (-1) x1 (x1.length : Int) 0
def diffcons_After.l2 : Nat → Int → List (S28) → Int → List Int → List Int → Int → Int → List (S28) → Int → Int → Option (List Int × List Int)
 | 0, _, _, _, _, _, _, _, _, _, _ => none
 | k + 1, x0, x1, x2, x8, x10, x12, x13, x40, x41, x42 => if x42 < x41 then (if 0 ≤ x42 then (if x42 < (x40.length : Int) then ((diffcons_within.f ((rd_T28 x40 x42).f0) ((rd_T28 x40 x42).f1) ((rd_T28 x40 x42).f2) ((rd_T28 x40 x42).f3) x0).bind fun t135 => (if t135 = true then (if 0 ≤ ((rd_T28 x40 x42).f0) then (if ((rd_T28 x40 x42).f0) < (x8.length : Int) then ((diffcons_Weight.f ((rd_T28 x40 x42).f0) ((rd_T28 x40 x42).f1) ((rd_T28 x40 x42).f2) ((rd_T28 x40 x42).f3) x2).bind fun t137 => (if 0 ≤ ((rd_T28 x40 x42).f1) then (if ((rd_T28 x40 x42).f1) < (x8.length : Int) then (if (wrap64 ((rd x8 ((rd_T28 x40 x42).f0)) + t137)) > (rd x8 ((rd_T28 x40 x42).f1)) then (if ((rd_T28 x40 x42).f1) < (x10.length : Int) then (diffcons_After.l2 k x0 x1 x2 (x8.set (((rd_T28 x40 x42).f1) : Int).toNat (wrap64 ((rd x8 ((rd_T28 x40 x42).f0)) + t137))) (x10.set (((rd_T28 x40 x42).f1) : Int).toNat x42) x12 ((rd_T28 x40 x42).f1) x40 x41 (wrap64 (x42 + 1))) else (none)) else (diffcons_After.l2 k x0 x1 x2 x8 x10 x12 x13 x40 x41 (wrap64 (x42 + 1)))) else (none)) else (none))) else (none)) else (none)) else (diffcons_After.l2 k x0 x1 x2 x8 x10 x12 x13 x40 x41 (wrap64 (x42 + 1))))) else (none)) else (none)) else (if x13 < 0 then (some (x8, ([] : List Int))) else (if x12 ≥ x0 then ((diffcons_around.f k x1 x10 x13 x0).bind fun t141 => (some (([] : List Int), t141))) else (diffcons_After.l1 k x0 x1 x2 x8 x10 (wrap64 (x12 + 1)))))
end
def diffcons_After.f (k : Nat) (a0 : Int) (l1 : List (S28)) (a2 : Int) (l3 : List Int) : Option (List Int × List Int) := (diffcons_nodes.f a0).bind fun t123 => (if 0 ≤ t123 then (if (t123 : Int).toNat ≤ 35184372088832 then ((some (List.replicate (t123 : Int).toNat 0 : List Int)).bind fun y124 => (diffcons_After.l0 k t123 l1 a2 l3 y124 (List.replicate (t123 : Int).toNat 0) (y124.length : Int) 0)) else (none)) else (none))
theorem diffcons_After.mono_l : ∀ k, (∀ y0 y1 y2 y3 y4 y5 y6 y7, LeO (diffcons_After.l0 k y0 y1 y2 y3 y4 y5 y6 y7) (diffcons_After.l0 (k + 1) y0 y1 y2 y3 y4 y5 y6 y7)) ∧ (∀ y0 y1 y2 y3 y4 y5, LeO (diffcons_After.l1 k y0 y1 y2 y3 y4 y5) (diffcons_After.l1 (k + 1) y0 y1 y2 y3 y4 y5)) ∧ (∀ y0 y1 y2 y3 y4 y5 y6 y7 y8 y9, LeO (diffcons_After.l2 k y0 y1 y2 y3 y4 y5 y6 y7 y8 y9) (diffcons_After.l2 (k + 1) y0 y1 y2 y3 y4 y5 y6 y7 y8 y9))
 | 0 => ⟨fun _ _ _ _ _ _ _ _ r h => by simp [diffcons_After.l0] at h, fun _ _ _ _ _ _ r h => by simp [diffcons_After.l1] at h, fun _ _ _ _ _ _ _ _ _ _ r h => by simp [diffcons_After.l2] at h⟩
 | k + 1 => by
  obtain ⟨ih0, ih1, ih2⟩ := diffcons_After.mono_l k
  refine ⟨?_, ?_, ?_⟩
  · intro y0 y1 y2 y3 y4 y5 y6 y7
    unfold diffcons_After.l0
    repeat' first
    | (with_reducible exact ih0 _ _ _ _ _ _ _ _)
    | (with_reducible exact ih1 _ _ _ _ _ _)
    | (with_reducible exact ih2 _ _ _ _ _ _ _ _ _ _)
    | (with_reducible exact diffcons_around.mono _ _ _ _ _)
    | (with_reducible exact LeO.refl _)
    | (with_reducible exact LeO.none _)
    | (with_reducible refine LeO.ite ?_ ?_)
    | (with_reducible refine LeO.bind ?_ (fun _ => ?_))
    | exact ih0 _ _ _ _ _ _ _ _
    | exact ih1 _ _ _ _ _ _
    | exact ih2 _ _ _ _ _ _ _ _ _ _
    | exact diffcons_around.mono _ _ _ _ _
    | exact LeO.none _
    | refine LeO.ite ?_ ?_
    | refine LeO.bind ?_ (fun _ => ?_)
  · intro y0 y1 y2 y3 y4 y5
    unfold diffcons_After.l1
    repeat' first
    | (with_reducible exact ih0 _ _ _ _ _ _ _ _)
    | (with_reducible exact ih1 _ _ _ _ _ _)
    | (with_reducible exact ih2 _ _ _ _ _ _ _ _ _ _)
    | (with_reducible exact diffcons_around.mono _ _ _ _ _)
    | (with_reducible exact LeO.refl _)
    | (with_reducible exact LeO.none _)
    | (with_reducible refine LeO.ite ?_ ?_)
    | (with_reducible refine LeO.bind ?_ (fun _ => ?_))
    | exact ih0 _ _ _ _ _ _ _ _
    | exact ih1 _ _ _ _ _ _
    | exact ih2 _ _ _ _ _ _ _ _ _ _
    | exact diffcons_around.mono _ _ _ _ _
    | exact LeO.none _
    | refine LeO.ite ?_ ?_
    | refine LeO.bind ?_ (fun _ => ?_)
  · intro y0 y1 y2 y3 y4 y5 y6 y7 y8 y9
    unfold diffcons_After.l2
    repeat' first
    | (with_reducible exact ih0 _ _ _ _ _ _ _ _)
    | (with_reducible exact ih1 _ _ _ _ _ _)
    | (with_reducible exact ih2 _ _ _ _ _ _ _ _ _ _)
    | (with_reducible exact diffcons_around.mono _ _ _ _ _)
    | (with_reducible exact LeO.refl _)
    | (with_reducible exact LeO.none _)
    | (with_reducible refine LeO.ite ?_ ?_)
    | (with_reducible refine LeO.bind ?_ (fun _ => ?_))
    | exact ih0 _ _ _ _ _ _ _ _
    | exact ih1 _ _ _ _ _ _
    | exact ih2 _ _ _ _ _ _ _ _ _ _
    | exact diffcons_around.mono _ _ _ _ _
    | exact LeO.none _
    | refine LeO.ite ?_ ?_
    | refine LeO.bind ?_ (fun _ => ?_)
theorem diffcons_After.mono : ∀ a0 a1 a2 a3 k, LeO (diffcons_After.f k a0 a1 a2 a3) (diffcons_After.f (k + 1) a0 a1 a2 a3) := by
 intro a0 a1 a2 a3 k
 obtain ⟨ih0, ih1, ih2⟩ := diffcons_After.mono_l k
 unfold diffcons_After.f
 repeat' first
  | (with_reducible exact ih0 _ _ _ _ _ _ _ _)
  | (with_reducible exact ih1 _ _ _ _ _ _)
  | (with_reducible exact ih2 _ _ _ _ _ _ _ _ _ _)
  | (with_reducible exact diffcons_around.mono _ _ _ _ _)
  | (with_reducible exact LeO.refl _)
  | (with_reducible exact LeO.none _)
  | (with_reducible refine LeO.ite ?_ ?_)
  | (with_reducible refine LeO.bind ?_ (fun _ => ?_))
  | exact ih0 _ _ _ _ _ _ _ _
  | exact ih1 _ _ _ _ _ _
  | exact ih2 _ _ _ _ _ _ _ _ _ _
  | exact diffcons_around.mono _ _ _ _ _
  | exact LeO.none _
  | refine LeO.ite ?_ ?_
  | refine LeO.bind ?_ (fun _ => ?_)
def diffcons_After.T17 : Bool × List (List Nat × List Nat) := (true, [([], []), ([], []), ([1], [1]), ([0, 2], [0, 2]), ([3], [3]), ([], []), ([], []), ([5, 6], [5, 6]), ([4, 7], [4, 7]), ([8, 7, 0, 1, 2, 3, 4, 5, 6, 7, 8], [8])])
def diffcons_After.B17 : List Nat := [0, 0, 2, 7, 15, 0, 0, 96, 255, 511]
theorem diffcons_After.tab17 : rtab .any (opsOf Try.f17 17) = diffcons_After.T17 := by kernel_rfl
theorem diffcons_After.bits17 : waitsOk diffcons_After.T17.2 diffcons_After.B17 = true := by kernel_rfl
set_option maxHeartbeats 8000000 in set_option maxRecDepth 100000 in theorem diffcons_After.calls (k : Nat) (a0 : Int) (A1 : Option Addr) (c1 : Nat) (l1 : List (S28)) (a2 : Int) (A3 : Option Addr) (c3 : Nat) (l3 : List Int) (r1 : List Int) (r2 : List Int) (w : World) (hr1 : Kd.C k28 w A1 l1.length l1) (hc1 : l1.length ≤ c1) (hr3 : Kd.C (Kd.int .i64) w A3 l3.length l3) (hc3 : l3.length ≤ c3) (h : diffcons_After.f k a0 l1 a2 l3 = some (r1, r2)) :
 Calls Try.prog 17 #[.int .i64 a0, .slice A1 l1.length c1, .int .i64 a2, .slice A3 l3.length c3] w fun e w' => ∃ v0_ v1_ : Value, e = .returned (.tuple #[v0_, v1_]) ∧ Kd.R (Kd.int .i64) 3 w' w.heap.size (fun k_ => some k_ ≠ (v1_ : Value).ownBlock) v0_ r1 ∧ Kd.R (Kd.int .i64) 3 w' w.heap.size (fun k_ => some k_ ≠ (v0_ : Value).ownBlock) v1_ r2 ∧ Below w.heap.size w w' := by
 have hu28 := Try.underlying28
 have HR1 := Aside0.mk hr1
 have HC1 := Aside0.mk hc1
 clear hr1 hc1
 have HR3 := Aside0.mk hr3
 have HC3 := Aside0.mk hc3
 clear hr3 hc3
 have HB := Aside0.mk (Below.refl w.heap.size w)
 have H : ((diffcons_nodes.f a0).bind fun t123 => (if 0 ≤ t123 then (if (t123 : Int).toNat ≤ 35184372088832 then ((some (List.replicate (t123 : Int).toNat 0 : List Int)).bind fun y124 => (diffcons_After.l0 k t123 l1 a2 l3 y124 (List.replicate (t123 : Int).toNat 0) (y124.length : Int) 0)) else (none)) else (none))) = some (r1, r2) := h
 clear h
 replace H := Option.bind_eq_some_iff.mp H
 obtain ⟨t123, A50, H⟩ := H
 replace H : (if 0 ≤ t123 then (if (t123 : Int).toNat ≤ 35184372088832 then ((some (List.replicate (t123 : Int).toNat 0 : List Int)).bind fun y124 => (diffcons_After.l0 k t123 l1 a2 l3 y124 (List.replicate (t123 : Int).toNat 0) (y124.length : Int) 0)) else (none)) else (none)) = some (r1, r2) := H
 have A5 := Aside0.mk A50
 clear A50
 by_cases c6 : 0 ≤ t123
 · rw [if_pos c6] at H
   have c6b0 := eq_true c6
   have c6b1 : decide (0 ≤ t123) = true := decide_eq_true c6
   clear c6
   by_cases c7 : (t123 : Int).toNat ≤ 35184372088832
   · rw [if_pos c7] at H
     have c7b0 := eq_true c7
     have c7b1 : decide ((t123 : Int).toNat ≤ 35184372088832) = true := decide_eq_true c7
     clear c7
     obtain ⟨y124, hy124⟩ : ∃ y_ : List Int, y_ = (List.replicate (t123 : Int).toNat 0) := ⟨_, rfl⟩
     replace H : (diffcons_After.l0 k t123 l1 a2 l3 y124 (List.replicate (t123 : Int).toNat 0) (y124.length : Int) 0) = some (r1, r2) := by first | (rw [hy124]; with_reducible exact H) | (have H2_ := (Option.bind_some _ _).symm.trans H; rw [hy124]; with_reducible exact H2_) | (have H2_ := (Option.bind_some _ _).symm.trans H; with_reducible exact H2_) | with_reducible exact H | (rw [hy124]; exact H) | exact H
     have Ny124 := Aside0.mk hy124
     clear hy124
     obtain ⟨y127, hy127⟩ : ∃ y_ : List Int, y_ = (List.replicate (t123 : Int).toNat 0) := ⟨_, rfl⟩
     replace H : (diffcons_After.l0 k t123 l1 a2 l3 y124 y127 (y124.length : Int) 0) = some (r1, r2) := by first | (rw [hy127]; with_reducible exact H) | (have H2_ := (Option.bind_some _ _).symm.trans H; rw [hy127]; with_reducible exact H2_) | (have H2_ := (Option.bind_some _ _).symm.trans H; with_reducible exact H2_) | with_reducible exact H | (rw [hy127]; exact H) | exact H
     have Ny127 := Aside0.mk hy127
     clear hy127
     have H' := Aside0.mk H
     clear H
     go_enter Try.func17, Try.ntmps17
     go_wp2_with (first | ((with_reducible refine gate_callee (f := 29) rfl ?_); refine goesL_ (some 18) rfl rfl Try.func29 (by kernel_rfl) rfl #[.int .i64 a0] rfl (by (try simp only [List.map_toArray, List.map_cons, List.map_nil]); first | done | rfl | (simp only [List.length_drop, List.length_take]; rfl)) ?_; (with_reducible refine (diffcons_nodes.calls a0 t123 _ A5.out).mono ?_); rintro e w8 ⟨rfl, hb⟩; refine ⟨_, rfl, ?_⟩; have n0_ := Aside0.mk (below_step (by repeat (first | (with_reducible first | exact HB.out | apply below_alloc | apply pw_below_drewN | apply below_drew1) | exact HB.out)) hb); clear HB; have HB := n0_; clear n0_; (try clear hb); (try clear hb2); (try clear hk); (try clear hi)) | ((with_reducible refine gate_dst (N := 20) rfl ?_); refine Kd.R_make (Kd.int .i64) _ 3 rfl (N := 20) rfl 29 _ _ rfl t123 rfl rfl Try.underlying29 (.int .i64 0) 8 info3 rfl (by decide) (by omega) 0 (ok := fun _ => True) (okp := fun _ => True) rfl (fun _ hk => hk) trivial (of_decide_eq_true (by first | (with_reducible assumption) | assumption)) (Nat.le_trans (Nat.mul_le_mul_right _ (of_decide_eq_true (by first | (with_reducible assumption) | assumption) : t123.toNat ≤ 35184372088832)) (by omega)) (Below.refl _ _) (Nat.le_refl _) ?_; intro v125 w9 ho10 hb hg_ hnew_; clear hg_ hnew_; (first | rw [← Ny124.out] at ho10 | (simp only [Int.reduceToNat] at ho10; rw [← Ny124.out] at ho10)); have n0_ := Aside0.mk (Kd.R_lower ho10 (below_size (by repeat (first | (with_reducible first | exact HB.out | apply below_alloc | apply pw_below_drewN | apply below_drew1) | exact HB.out)))); have n1_ := Aside0.mk (below_step (by repeat (first | (with_reducible first | exact HB.out | apply below_alloc | apply pw_below_drewN | apply below_drew1) | exact HB.out)) hb); clear HB; have HO126 := n0_; have HB := n1_; clear n0_ n1_; clear hb ho10) | ((with_reducible refine gate_dst (N := 22) rfl ?_); refine Kd.R_make (Kd.int .i64) _ 3 rfl (N := 22) rfl 29 _ _ rfl t123 rfl rfl Try.underlying29 (.int .i64 0) 8 info3 rfl (by decide) (by omega) 0 (ok := fun _ => True) (okp := fun _ => True) rfl (fun _ hk => hk) trivial (of_decide_eq_true (by first | (with_reducible assumption) | assumption)) (Nat.le_trans (Nat.mul_le_mul_right _ (of_decide_eq_true (by first | (with_reducible assumption) | assumption) : t123.toNat ≤ 35184372088832)) (by omega)) (Below.refl _ _) (Nat.le_refl _) ?_; intro v128 w11 ho12 hb hg_ hnew_; clear hg_ hnew_; (first | rw [← Ny127.out] at ho12 | (simp only [Int.reduceToNat] at ho12; rw [← Ny127.out] at ho12)); have n0_ := Aside0.mk (Kd.R_elder' (by (with_reducible repeat (first | apply Kd.R_alloc | apply Kd.R_drewN | apply Kd.R_drew)); exact HO126.out) (Kd.R_base ho12) hb); have n1_ := Aside0.mk (Kd.R_lower (Kd.R_new' ho12 (Kd.R_lt (by (with_reducible repeat (first | apply Kd.R_alloc | apply Kd.R_drewN | apply Kd.R_drew)); exact HO126.out))) (below_size (by repeat (first | (with_reducible first | exact HB.out | apply below_alloc | apply pw_below_drewN | apply below_drew1) | exact HB.out)))); have n2_ := Aside0.mk (below_step (by repeat (first | (with_reducible first | exact HB.out | apply below_alloc | apply pw_below_drewN | apply below_drew1) | exact HB.out)) hb); clear HO126; clear HB; have HO126 := n0_; have HO129 := n1_; have HB := n2_; clear n0_ n1_ n2_; clear hb ho12; obtain ⟨Ao13, co13, eo13⟩ := Kd.R_slice HO126.out; subst eo13))
     go_loopg [25] k (fun kq v25 w' => ∃ (x8_1 : List Int) (x10_1 : List Int) (x25_1 : Int), v25 = .int .i64 x25_1 ∧ Aside0 (diffcons_After.l0 kq t123 l1 a2 l3 x8_1 x10_1 (y124.length : Int) x25_1 = some (r1, r2)) ∧ Aside0 (kq ≤ k) ∧ Aside0 (Kd.R (Kd.int .i64) 3 w' w.heap.size (fun k_ => some k_ ≠ (v128 : Value).ownBlock) (.slice Ao13 y124.length co13) x8_1) ∧ Aside0 (Kd.R (Kd.int .i64) 3 w' w.heap.size (fun k_ => some k_ ≠ ((.slice Ao13 y124.length co13) : Value).ownBlock) v128 x10_1) ∧ Aside0 (Below w.heap.size w w'))
     case atStart => exact ⟨(y124), (y127), (0), (by first | rfl | (simp; done) | (simp [*]; done)), H', ⟨Nat.le_refl _⟩, ⟨by (with_reducible repeat (first | apply Kd.R_alloc | apply Kd.R_drewN | apply Kd.R_drew)); exact Kd.R_mono HO126.out (fun _ hk => hk.2)⟩, ⟨by (with_reducible repeat (first | apply Kd.R_alloc | apply Kd.R_drewN | apply Kd.R_drew)); exact Kd.R_mono HO129.out (fun _ hk => hk.2)⟩, ⟨by repeat (first | (with_reducible first | exact HB.out | apply below_alloc | apply pw_below_drewN | apply below_drew1) | exact HB.out)⟩⟩
     case round =>
      clear H'
      try clear c1
      try clear c2
      try clear p2
      try clear c3
      try clear c6
      try clear c6b0
      try clear c6b1
      try clear c7
      try clear c7b0
      try clear c7b1
      obtain ⟨x8_1, x10_1, x25_1, rfl, HA, HK1, HO_8, HO_10, HB⟩ := hrel
      have hl8_1 := (Kd.R_reads' HO_8.out).1
      rw [hl8_1] at HO_8
      (try simp only [hl8_1])
      (try simp only [hl8_1] at HO_10)
      cases gk with
      | zero => exact absurd HA.out (by simp [diffcons_After.l0])
      | succ k1 =>
       have H := HA.out
       clear HA
       simp only [diffcons_After.l0] at H
       by_cases c14 : x25_1 < (y124.length : Int)
       · rw [if_pos c14] at H
         have c14b0 : decide (x25_1 < (y124.length : Int)) = true := decide_eq_true c14
         (try (have c14b0z := c14b0; simp only [hl8_1] at c14b0z))
         clear c14
         replace H := Option.bind_eq_some_iff.mp H
         obtain ⟨t130, A150, H⟩ := H
         replace H : (if 0 ≤ x25_1 then (if x25_1 < (x8_1.length : Int) then (if x25_1 < (x10_1.length : Int) then (diffcons_After.l0 k1 t123 l1 a2 l3 (x8_1.set (x25_1 : Int).toNat t130) (x10_1.set (x25_1 : Int).toNat (-1)) (y124.length : Int) (wrap64 (x25_1 + 1))) else (none)) else (none)) else (none)) = some (r1, r2) := H
         have A15 := Aside0.mk A150
         clear A150
         by_cases c16 : 0 ≤ x25_1
         · rw [if_pos c16] at H
           have c16b0 : decide (0 ≤ x25_1) = true := decide_eq_true c16
           clear c16
           by_cases c17 : x25_1 < (x8_1.length : Int)
           · rw [if_pos c17] at H
             have c17b0 : decide (x25_1 < (x8_1.length : Int)) = true := decide_eq_true c17
             (try (have c17b0z := c17b0; simp only [hl8_1] at c17b0z))
             clear c17
             obtain ⟨y131, hy131⟩ : ∃ y_ : List Int, y_ = (x8_1.set (x25_1 : Int).toNat t130) := ⟨_, rfl⟩
             replace H : (if x25_1 < (x10_1.length : Int) then (diffcons_After.l0 k1 t123 l1 a2 l3 y131 (x10_1.set (x25_1 : Int).toNat (-1)) (y124.length : Int) (wrap64 (x25_1 + 1))) else (none)) = some (r1, r2) := by first | (rw [hy131]; with_reducible exact H) | (have H2_ := (Option.bind_some _ _).symm.trans H; rw [hy131]; with_reducible exact H2_) | (have H2_ := (Option.bind_some _ _).symm.trans H; with_reducible exact H2_) | with_reducible exact H | (rw [hy131]; exact H) | exact H
             have Ny131 := Aside0.mk hy131
             clear hy131
             by_cases c19 : x25_1 < (x10_1.length : Int)
             · rw [if_pos c19] at H
               have c19b0 : decide (x25_1 < (x10_1.length : Int)) = true := decide_eq_true c19
               (try (have c19b0z := c19b0; simp only [hl8_1] at c19b0z))
               clear c19
               obtain ⟨y132, hy132⟩ : ∃ y_ : List Int, y_ = (x10_1.set (x25_1 : Int).toNat (-1)) := ⟨_, rfl⟩
               replace H : (diffcons_After.l0 k1 t123 l1 a2 l3 y131 y132 (y124.length : Int) (wrap64 (x25_1 + 1))) = some (r1, r2) := by first | (rw [hy132]; with_reducible exact H) | (have H2_ := (Option.bind_some _ _).symm.trans H; rw [hy132]; with_reducible exact H2_) | (have H2_ := (Option.bind_some _ _).symm.trans H; with_reducible exact H2_) | with_reducible exact H | (rw [hy132]; exact H) | exact H
               have Ny132 := Aside0.mk hy132
               clear hy132
               have H' := Aside0.mk H
               clear H
               go_wp2_with (first | ((with_reducible refine gate_callee (f := 30) rfl ?_); refine goesL_ (some 32) rfl rfl Try.func30 (by kernel_rfl) rfl #[.slice A3 l3.length c3, .int .i64 x25_1] rfl (by (try simp only [List.map_toArray, List.map_cons, List.map_nil]); first | done | rfl | (simp only [List.length_drop, List.length_take]; rfl)) ?_; (with_reducible refine (diffcons_bound.calls _ _ l3 x25_1 t130 _ ?side1 ?side2 A15.out).mono ?_); (case side1 => repeat (first | exact (Kd.C_below HR3.out HB.out) | (with_reducible refine Kd.C_alloc ?_ _) | (with_reducible refine Kd.C_drewN ?_ _) | (with_reducible refine Kd.C_drew ?_))); (case side2 => exact HC3.out); rintro e w21 ⟨rfl, hb⟩; refine ⟨_, rfl, ?_⟩; have n0_ := Aside0.mk (Kd.R_below (by (with_reducible repeat (first | apply Kd.R_alloc | apply Kd.R_drewN | apply Kd.R_drew)); exact HO_8.out) hb); have n1_ := Aside0.mk (Kd.R_below (by (with_reducible repeat (first | apply Kd.R_alloc | apply Kd.R_drewN | apply Kd.R_drew)); exact HO_10.out) hb); have n2_ := Aside0.mk (below_step (by repeat (first | (with_reducible first | exact HB.out | apply below_alloc | apply pw_below_drewN | apply below_drew1) | exact HB.out)) hb); clear HO_8; clear HO_10; clear HB; have HO_8 := n0_; have HO_10 := n1_; have HB := n2_; clear n0_ n1_ n2_; (try clear hb); (try clear hb2); (try clear hk); (try clear hi); have p18 : 0 ≤ (x25_1 : Int) := of_decide_eq_true (by first | (with_reducible assumption) | assumption); have q18 : (x25_1 : Int) < ((x8_1.length : Int) : Int) := of_decide_eq_true (by first | (with_reducible assumption) | assumption); obtain ⟨go18, co18, eo18, gb18, gl18, cl18, HG18⟩ := Kd.R_form HO_8.out (by omega); (first | cases eo18 | (injection eo18 with ea_ en_ ec_; (first | subst ea_ | (injection ea_ with ea_; subst ea_)); subst ec_; clear en_)); have GB18 := Aside0.mk gb18; have GG18 := Aside0.mk HG18; clear gb18 gl18 HG18; obtain ⟨hx18_0, hf18_0⟩ := Kd.R_celln 0 HO_8.out (x25_1 : Int) p18 q18; replace p18 := eq_true p18; replace q18 := eq_true q18; obtain ⟨hy22_, hz22_⟩ := Kd.R_celln 0 HO_8.out (x25_1 : Int) (of_decide_eq_true (by first | (with_reducible assumption) | assumption)) (of_decide_eq_true (by first | (with_reducible assumption) | assumption)); have HP22 := Kd.R_putg HO_8.out (x25_1 : Int) t130) | ((with_reducible refine gate_store (t := 3) (p := 33) rfl ?_); refine store_event (t := 3) (p := 33) (v := ?vo_w23) (w1 := (w21.setCell ⟨go18, (x25_1 : Int).toNat, none⟩ (.int .i64 t130))) ?hg ?ho ?hn ?hr ?_; (case ho => rfl); (case hg => rfl); (case hn => rfl); (case hr => first | (go_simp; done) | (go_simp; rfl)); intro w23 hw; have hg : w21.grownBy w23 (some go18) := (by rw [hw]; exact HP22.2); have hp_ : Kd.R (Kd.int .i64) 3 w23 w.heap.size (fun k_ => some k_ ≠ (v128 : Value).ownBlock) (.slice (some ⟨go18, 0, none⟩) x8_1.length co13) y131 := (by rw [hw, Ny131.out]; exact HP22.1); clear HP22; have n0_ := Aside0.mk (hp_); have n1_ := Aside0.mk (Kd.R_after (v := (.slice (some ⟨go18, 0, none⟩) x8_1.length co13)) (v1 := (.slice (some ⟨go18, 0, none⟩) x8_1.length co13)) (ok := (fun _ => True)) (by (with_reducible repeat (first | apply Kd.R_alloc | apply Kd.R_drewN | apply Kd.R_drew)); exact Kd.R_mono HO_10.out (fun _ hk => ⟨trivial, hk⟩)) hg (.inl rfl)); have n2_ := Aside0.mk ((by rw [hw]; exact below_set (HB.out) GB18.out : Below w.heap.size w w23)); clear HO_8; clear HO_10; clear HB; have HO_8 := n0_; have HO_10 := n1_; have HB := n2_; clear n0_ n1_ n2_; clear hg hw hp_; have p20 : 0 ≤ (x25_1 : Int) := of_decide_eq_true (by first | (with_reducible assumption) | assumption); have q20 : (x25_1 : Int) < ((x10_1.length : Int) : Int) := of_decide_eq_true (by first | (with_reducible assumption) | assumption); obtain ⟨go20, co20, eo20, gb20, gl20, cl20, HG20⟩ := Kd.R_form HO_10.out (by omega); (first | cases eo20 | (injection eo20 with ea_ en_ ec_; (first | subst ea_ | (injection ea_ with ea_; subst ea_)); subst ec_; clear en_)); have GB20 := Aside0.mk gb20; have GG20 := Aside0.mk HG20; clear gb20 gl20 HG20; obtain ⟨hx20_0, hf20_0⟩ := Kd.R_celln 0 HO_10.out (x25_1 : Int) p20 q20; replace p20 := eq_true p20; replace q20 := eq_true q20; have n_ := Aside0.mk (Kd.R_mono (ok' := (fun k_ => some k_ ≠ (.slice (some ⟨go18, 0, none⟩) x8_1.length co13 : Value).ownBlock)) HO_10.out (fun k_ hk => hk.2)); clear HO_10; have HO_10 := n_; clear n_; obtain ⟨hy24_, hz24_⟩ := Kd.R_celln 0 HO_10.out (x25_1 : Int) (of_decide_eq_true (by first | (with_reducible assumption) | assumption)) (of_decide_eq_true (by first | (with_reducible assumption) | assumption)); have HP24 := Kd.R_putg HO_10.out (x25_1 : Int) (-1)) | ((with_reducible refine gate_store (t := 3) (p := 36) rfl ?_); refine store_event (t := 3) (p := 36) (v := ?vo_w25) (w1 := (w23.setCell ⟨go20, (x25_1 : Int).toNat, none⟩ (.int .i64 (-1)))) ?hg ?ho ?hn ?hr ?_; (case ho => rfl); (case hg => rfl); (case hn => rfl); (case hr => first | (go_simp; done) | (go_simp; rfl)); intro w25 hw; have hg : w23.grownBy w25 (some go20) := (by rw [hw]; exact HP24.2); have hp_ : Kd.R (Kd.int .i64) 3 w25 w.heap.size (fun k_ => some k_ ≠ (.slice (some ⟨go18, 0, none⟩) x8_1.length co13 : Value).ownBlock) (.slice (some ⟨go20, 0, none⟩) x10_1.length co20) y132 := (by rw [hw, Ny132.out]; exact HP24.1); clear HP24; have n0_ := Aside0.mk (Kd.R_after (v := (.slice (some ⟨go20, 0, none⟩) x10_1.length co20)) (v1 := (.slice (some ⟨go20, 0, none⟩) x10_1.length co20)) (ok := (fun _ => True)) (by (with_reducible repeat (first | apply Kd.R_alloc | apply Kd.R_drewN | apply Kd.R_drew)); exact Kd.R_mono HO_8.out (fun _ hk => ⟨trivial, hk⟩)) hg (.inl rfl)); have n1_ := Aside0.mk (hp_); have n2_ := Aside0.mk ((by rw [hw]; exact below_set (HB.out) GB20.out : Below w.heap.size w w25)); clear HO_8; clear HO_10; clear HB; have HO_8 := n0_; have HO_10 := n1_; have HB := n2_; clear n0_ n1_ n2_; clear hg hw hp_))
               (try simp only [← hl8_1])
               go_roundg k1
               case measure => have := HK1.out; omega
               case rel => exact ⟨(y131), (y132), (wrap64 (x25_1 + 1)), (by first | rfl | (simp; done) | (simp [*]; done)), H', ⟨by have := HK1.out; omega⟩, ⟨by (try simp only [hl8_1]); (with_reducible repeat (first | apply Kd.R_alloc | apply Kd.R_drewN | apply Kd.R_drew)); exact Kd.R_mono HO_8.out (fun _ hk => hk.2)⟩, ⟨by (try simp only [hl8_1]); (with_reducible repeat (first | apply Kd.R_alloc | apply Kd.R_drewN | apply Kd.R_drew)); exact HO_10.out⟩, ⟨by repeat (first | (with_reducible first | exact HB.out | apply below_alloc | apply pw_below_drewN | apply below_drew1) | exact HB.out)⟩⟩
             · rw [if_neg c19] at H
               exact absurd H (by simp)
           · rw [if_neg c17] at H
             exact absurd H (by simp)
         · rw [if_neg c16] at H
           exact absurd H (by simp)
       · rw [if_neg c14] at H
         have c14b0 : decide (x25_1 < (y124.length : Int)) = false := decide_eq_false c14
         (try (have c14b0z := c14b0; simp only [hl8_1] at c14b0z))
         clear c14
         have H' := Aside0.mk H
         clear H
         go_wp2
         go_loopg [8, 12] k1 (fun kq v8 v12 w' => ∃ (x8_2 : List Int) (x10_2 : List Int) (x12_2 : Int), v12 = .int .i64 x12_2 ∧ Aside0 (diffcons_After.l1 kq t123 l1 a2 x8_2 x10_2 x12_2 = some (r1, r2)) ∧ Aside0 (kq ≤ k1) ∧ Aside0 (Kd.R (Kd.int .i64) 3 w' w.heap.size (fun k_ => some k_ ≠ (v128 : Value).ownBlock) v8 x8_2) ∧ Aside0 (Kd.R (Kd.int .i64) 3 w' w.heap.size (fun k_ => some k_ ≠ (v8 : Value).ownBlock) v128 x10_2) ∧ Aside0 (Below w.heap.size w w'))
         case atStart => exact ⟨(x8_1), (x10_1), (0), (by first | rfl | (simp; done) | (simp [*]; done)), H', ⟨Nat.le_refl _⟩, ⟨by (try simp only [hl8_1]); (with_reducible repeat (first | apply Kd.R_alloc | apply Kd.R_drewN | apply Kd.R_drew)); exact HO_8.out⟩, ⟨by (try simp only [hl8_1]); (with_reducible repeat (first | apply Kd.R_alloc | apply Kd.R_drewN | apply Kd.R_drew)); exact HO_10.out⟩, ⟨by repeat (first | (with_reducible first | exact HB.out | apply below_alloc | apply pw_below_drewN | apply below_drew1) | exact HB.out)⟩⟩
         case round =>
          clear H'
          try clear c1
          try clear p1
          try clear q1
          try clear hx1
          try clear c2
          try clear p2
          try clear q2
          try clear hx2
          try clear c3
          try clear c6
          try clear c6b0
          try clear c6b1
          try clear p6
          try clear c7
          try clear c7b0
          try clear c7b1
          try clear c14
          try clear c14b0
          try clear c16
          try clear c16b0
          try clear c17
          try clear c17b0
          try clear p18
          try clear q18
          try clear hx18
          try clear hf18
          try clear c19
          try clear c19b0
          try clear p20
          try clear q20
          try clear hx20
          try clear hf20
          try clear hx18_0
          try clear hx20_0
          try clear p18
          try clear p2
          try clear p20
          try clear q18
          try clear q20
          obtain ⟨x8_2, x10_2, x12_2, rfl, HA, HK2, HO_8, HO_10, HB⟩ := hrel
          cases gk with
          | zero => exact absurd HA.out (by simp [diffcons_After.l1])
          | succ k2 =>
           have H := HA.out
           clear HA
           simp only [diffcons_After.l1] at H
           have H' := Aside0.mk H
           clear H
           go_wp2
           go_loopg [13, 42] k2 (fun kq v13 v42 w' => ∃ (x8_3 : List Int) (x10_3 : List Int) (x13_3 : Int) (x42_3 : Int), v13 = .int .i64 x13_3 ∧ v42 = .int .i64 x42_3 ∧ Aside0 (diffcons_After.l2 kq t123 l1 a2 x8_3 x10_3 x12_2 x13_3 l1 (l1.length : Int) x42_3 = some (r1, r2)) ∧ Aside0 (kq ≤ k2) ∧ Aside0 (Kd.R (Kd.int .i64) 3 w' w.heap.size (fun k_ => some k_ ≠ (v128 : Value).ownBlock) u8 x8_3) ∧ Aside0 (Kd.R (Kd.int .i64) 3 w' w.heap.size (fun k_ => some k_ ≠ (u8 : Value).ownBlock) v128 x10_3) ∧ Aside0 (Below w.heap.size w w'))
           case atStart => exact ⟨(x8_2), (x10_2), ((-1)), (0), (by first | rfl | (simp; done) | (simp [*]; done)), (by first | rfl | (simp; done) | (simp [*]; done)), H', ⟨Nat.le_refl _⟩, ⟨by (try simp only [hl8_1]); (with_reducible repeat (first | apply Kd.R_alloc | apply Kd.R_drewN | apply Kd.R_drew)); exact HO_8.out⟩, ⟨by (try simp only [hl8_1]); (with_reducible repeat (first | apply Kd.R_alloc | apply Kd.R_drewN | apply Kd.R_drew)); exact HO_10.out⟩, ⟨by repeat (first | (with_reducible first | exact HB.out | apply below_alloc | apply pw_below_drewN | apply below_drew1) | exact HB.out)⟩⟩
           case round =>
            clear H'
            try clear c1
            try clear p1
            try clear q1
            try clear hx1
            try clear c2
            try clear p2
            try clear q2
            try clear hx2
            try clear c3
            try clear c6
            try clear c6b0
            try clear c6b1
            try clear p6
            try clear c7
            try clear c7b0
            try clear c7b1
            try clear c14
            try clear c14b0
            try clear c16
            try clear c16b0
            try clear c17
            try clear c17b0
            try clear p18
            try clear q18
            try clear hx18
            try clear hf18
            try clear c19
            try clear c19b0
            try clear p20
            try clear q20
            try clear hx20
            try clear hf20
            try clear hx18_0
            try clear hx20_0
            try clear p1
            try clear p18
            try clear p2
            try clear p20
            try clear p6
            try clear q1
            try clear q18
            try clear q2
            try clear q20
            obtain ⟨x8_3, x10_3, x13_3, x42_3, rfl, rfl, HA, HK3, HO_8, HO_10, HB⟩ := hrel
            cases gk with
            | zero => exact absurd HA.out (by simp [diffcons_After.l2])
            | succ k3 =>
             have H := HA.out
             clear HA
             simp only [diffcons_After.l2] at H
             by_cases c26 : x42_3 < (l1.length : Int)
             · rw [if_pos c26] at H
               have c26b0 : decide (x42_3 < (l1.length : Int)) = true := decide_eq_true c26
               (try (have c26b0z := c26b0; simp only [hl8_1] at c26b0z))
               clear c26
               by_cases c27 : 0 ≤ x42_3
               · rw [if_pos c27] at H
                 have c27b0 : decide (0 ≤ x42_3) = true := decide_eq_true c27
                 clear c27
                 by_cases c28 : x42_3 < (l1.length : Int)
                 · rw [if_pos c28] at H
                   have c28b0 : decide (x42_3 < (l1.length : Int)) = true := decide_eq_true c28
                   (try (have c28b0z := c28b0; simp only [hl8_1] at c28b0z))
                   clear c28
                   replace H := Option.bind_eq_some_iff.mp H
                   obtain ⟨t135, A290, H⟩ := H
                   replace H : (if t135 = true then (if 0 ≤ ((rd_T28 l1 x42_3).f0) then (if ((rd_T28 l1 x42_3).f0) < (x8_3.length : Int) then ((diffcons_Weight.f ((rd_T28 l1 x42_3).f0) ((rd_T28 l1 x42_3).f1) ((rd_T28 l1 x42_3).f2) ((rd_T28 l1 x42_3).f3) a2).bind fun t137 => (if 0 ≤ ((rd_T28 l1 x42_3).f1) then (if ((rd_T28 l1 x42_3).f1) < (x8_3.length : Int) then (if (wrap64 ((rd x8_3 ((rd_T28 l1 x42_3).f0)) + t137)) > (rd x8_3 ((rd_T28 l1 x42_3).f1)) then (if ((rd_T28 l1 x42_3).f1) < (x10_3.length : Int) then (diffcons_After.l2 k3 t123 l1 a2 (x8_3.set (((rd_T28 l1 x42_3).f1) : Int).toNat (wrap64 ((rd x8_3 ((rd_T28 l1 x42_3).f0)) + t137))) (x10_3.set (((rd_T28 l1 x42_3).f1) : Int).toNat x42_3) x12_2 ((rd_T28 l1 x42_3).f1) l1 (l1.length : Int) (wrap64 (x42_3 + 1))) else (none)) else (diffcons_After.l2 k3 t123 l1 a2 x8_3 x10_3 x12_2 x13_3 l1 (l1.length : Int) (wrap64 (x42_3 + 1)))) else (none)) else (none))) else (none)) else (none)) else (diffcons_After.l2 k3 t123 l1 a2 x8_3 x10_3 x12_2 x13_3 l1 (l1.length : Int) (wrap64 (x42_3 + 1)))) = some (r1, r2) := H
                   have A29 := Aside0.mk A290
                   clear A290
                   by_cases c30 : t135 = true
                   · subst c30
                     have H1 : (if 0 ≤ ((rd_T28 l1 x42_3).f0) then (if ((rd_T28 l1 x42_3).f0) < (x8_3.length : Int) then ((diffcons_Weight.f ((rd_T28 l1 x42_3).f0) ((rd_T28 l1 x42_3).f1) ((rd_T28 l1 x42_3).f2) ((rd_T28 l1 x42_3).f3) a2).bind fun t137 => (if 0 ≤ ((rd_T28 l1 x42_3).f1) then (if ((rd_T28 l1 x42_3).f1) < (x8_3.length : Int) then (if (wrap64 ((rd x8_3 ((rd_T28 l1 x42_3).f0)) + t137)) > (rd x8_3 ((rd_T28 l1 x42_3).f1)) then (if ((rd_T28 l1 x42_3).f1) < (x10_3.length : Int) then (diffcons_After.l2 k3 t123 l1 a2 (x8_3.set (((rd_T28 l1 x42_3).f1) : Int).toNat (wrap64 ((rd x8_3 ((rd_T28 l1 x42_3).f0)) + t137))) (x10_3.set (((rd_T28 l1 x42_3).f1) : Int).toNat x42_3) x12_2 ((rd_T28 l1 x42_3).f1) l1 (l1.length : Int) (wrap64 (x42_3 + 1))) else (none)) else (diffcons_After.l2 k3 t123 l1 a2 x8_3 x10_3 x12_2 x13_3 l1 (l1.length : Int) (wrap64 (x42_3 + 1)))) else (none)) else (none))) else (none)) else (none)) = some (r1, r2) := by rw [if_pos rfl] at H; exact H
                     clear H
                     have H := H1
                     clear H1
                     by_cases c31 : 0 ≤ ((rd_T28 l1 x42_3).f0)
                     · rw [if_pos c31] at H
                       have c31b0 : decide (0 ≤ ((rd_T28 l1 x42_3).f0)) = true := decide_eq_true c31
                       clear c31
                       by_cases c32 : ((rd_T28 l1 x42_3).f0) < (x8_3.length : Int)
                       · rw [if_pos c32] at H
                         have c32b0 : decide (((rd_T28 l1 x42_3).f0) < (x8_3.length : Int)) = true := decide_eq_true c32
                         (try (have c32b0z := c32b0; simp only [hl8_1] at c32b0z))
                         clear c32
                         replace H := Option.bind_eq_some_iff.mp H
                         obtain ⟨t137, A330, H⟩ := H
                         replace H : (if 0 ≤ ((rd_T28 l1 x42_3).f1) then (if ((rd_T28 l1 x42_3).f1) < (x8_3.length : Int) then (if (wrap64 ((rd x8_3 ((rd_T28 l1 x42_3).f0)) + t137)) > (rd x8_3 ((rd_T28 l1 x42_3).f1)) then (if ((rd_T28 l1 x42_3).f1) < (x10_3.length : Int) then (diffcons_After.l2 k3 t123 l1 a2 (x8_3.set (((rd_T28 l1 x42_3).f1) : Int).toNat (wrap64 ((rd x8_3 ((rd_T28 l1 x42_3).f0)) + t137))) (x10_3.set (((rd_T28 l1 x42_3).f1) : Int).toNat x42_3) x12_2 ((rd_T28 l1 x42_3).f1) l1 (l1.length : Int) (wrap64 (x42_3 + 1))) else (none)) else (diffcons_After.l2 k3 t123 l1 a2 x8_3 x10_3 x12_2 x13_3 l1 (l1.length : Int) (wrap64 (x42_3 + 1)))) else (none)) else (none)) = some (r1, r2) := H
                         have A33 := Aside0.mk A330
                         clear A330
                         by_cases c34 : 0 ≤ ((rd_T28 l1 x42_3).f1)
                         · rw [if_pos c34] at H
                           have c34b0 : decide (0 ≤ ((rd_T28 l1 x42_3).f1)) = true := decide_eq_true c34
                           clear c34
                           by_cases c35 : ((rd_T28 l1 x42_3).f1) < (x8_3.length : Int)
                           · rw [if_pos c35] at H
                             have c35b0 : decide (((rd_T28 l1 x42_3).f1) < (x8_3.length : Int)) = true := decide_eq_true c35
                             (try (have c35b0z := c35b0; simp only [hl8_1] at c35b0z))
                             clear c35
                             by_cases c36 : (wrap64 ((rd x8_3 ((rd_T28 l1 x42_3).f0)) + t137)) > (rd x8_3 ((rd_T28 l1 x42_3).f1))
                             · rw [if_pos c36] at H
                               have c36b0 : decide ((rd x8_3 ((rd_T28 l1 x42_3).f1)) < (wrap64 ((rd x8_3 ((rd_T28 l1 x42_3).f0)) + t137))) = true := decide_eq_true c36
                               clear c36
                               obtain ⟨y139, hy139⟩ : ∃ y_ : List Int, y_ = (x8_3.set (((rd_T28 l1 x42_3).f1) : Int).toNat (wrap64 ((rd x8_3 ((rd_T28 l1 x42_3).f0)) + t137))) := ⟨_, rfl⟩
                               replace H : (if ((rd_T28 l1 x42_3).f1) < (x10_3.length : Int) then (diffcons_After.l2 k3 t123 l1 a2 y139 (x10_3.set (((rd_T28 l1 x42_3).f1) : Int).toNat x42_3) x12_2 ((rd_T28 l1 x42_3).f1) l1 (l1.length : Int) (wrap64 (x42_3 + 1))) else (none)) = some (r1, r2) := by first | (rw [hy139]; with_reducible exact H) | (have H2_ := (Option.bind_some _ _).symm.trans H; rw [hy139]; with_reducible exact H2_) | (have H2_ := (Option.bind_some _ _).symm.trans H; with_reducible exact H2_) | with_reducible exact H | (rw [hy139]; exact H) | exact H
                               have Ny139 := Aside0.mk hy139
                               clear hy139
                               by_cases c38 : ((rd_T28 l1 x42_3).f1) < (x10_3.length : Int)
                               · rw [if_pos c38] at H
                                 have c38b0 : decide (((rd_T28 l1 x42_3).f1) < (x10_3.length : Int)) = true := decide_eq_true c38
                                 (try (have c38b0z := c38b0; simp only [hl8_1] at c38b0z))
                                 clear c38
                                 obtain ⟨y140, hy140⟩ : ∃ y_ : List Int, y_ = (x10_3.set (((rd_T28 l1 x42_3).f1) : Int).toNat x42_3) := ⟨_, rfl⟩
                                 replace H : (diffcons_After.l2 k3 t123 l1 a2 y139 y140 x12_2 ((rd_T28 l1 x42_3).f1) l1 (l1.length : Int) (wrap64 (x42_3 + 1))) = some (r1, r2) := by first | (rw [hy140]; with_reducible exact H) | (have H2_ := (Option.bind_some _ _).symm.trans H; rw [hy140]; with_reducible exact H2_) | (have H2_ := (Option.bind_some _ _).symm.trans H; with_reducible exact H2_) | with_reducible exact H | (rw [hy140]; exact H) | exact H
                                 have Ny140 := Aside0.mk hy140
                                 clear hy140
                                 have H' := Aside0.mk H
                                 clear H
                                 have p133 : 0 ≤ (x42_3 : Int) := of_decide_eq_true (by first | (with_reducible assumption) | assumption)
                                 have q133 : x42_3 < (l1.length : Int) := of_decide_eq_true (by first | (with_reducible assumption) | assumption)
                                 obtain ⟨ad133, e133, hx133_0, hx133_1, hx133_2, hx133_3⟩ := at_T28 HR1.out x42_3 p133 q133
                                 cases e133
                                 replace hx133_0 := (HB.out.cell (World.block_lt_of_cell? w _ hx133_0)).trans hx133_0
                                 replace hx133_1 := (HB.out.cell (World.block_lt_of_cell? w _ hx133_1)).trans hx133_1
                                 replace hx133_2 := (HB.out.cell (World.block_lt_of_cell? w _ hx133_2)).trans hx133_2
                                 replace hx133_3 := (HB.out.cell (World.block_lt_of_cell? w _ hx133_3)).trans hx133_3
                                 replace p133 := eq_true p133
                                 replace q133 := eq_true q133
                                 try go_wp2_with (first | ((with_reducible refine gate_dst (N := 15) rfl ?_); refine box_event ?hg (N := 15) ?hd (cs := #[.int .i64 0, .int .i64 0, .int .i64 0, .int .i64 0]) (t := 28) ?hr ?_; (case hd => rfl); (case hg => rfl); (case hr => first | (go_simp; done) | (go_simp; rfl)); intro gb134 hg w40 hbox hb; have n0_ := Aside0.mk (Kd.R_below (by (with_reducible repeat (first | apply Kd.R_alloc | apply Kd.R_drewN | apply Kd.R_drew)); exact HO_8.out) hb); have n1_ := Aside0.mk (Kd.R_below (by (with_reducible repeat (first | apply Kd.R_alloc | apply Kd.R_drewN | apply Kd.R_drew)); exact HO_10.out) hb); have n2_ := Aside0.mk (below_step (by repeat (first | (with_reducible first | exact HB.out | apply below_alloc | apply pw_below_drewN | apply below_drew1) | exact HB.out)) hb); have n3_ := Aside0.mk (hbox); have n4_ := Aside0.mk ((by rw [hg]; exact (below_size (by repeat (first | (with_reducible first | exact HB.out | apply below_alloc | apply pw_below_drewN | apply below_drew1) | exact HB.out))) : w.heap.size ≤ gb134)); have n5_ := Aside0.mk ((by rw [hg]; exact (below_size (by repeat (first | (with_reducible first | exact HB.out | apply below_alloc | apply pw_below_drewN | apply below_drew1) | exact HB.out))) : w.heap.size ≤ gb134)); clear HO_8; clear HO_10; clear HB; have HO_8 := n0_; have HO_10 := n1_; have HB := n2_; have BK134 := n3_; have GW134 := n4_; have GE134 := n5_; clear n0_ n1_ n2_ n3_ n4_ n5_; clear hb hbox hg; have hcz41_0 : w40.cell? ⟨gb134, 0, none⟩ = some (.int .i64 0) := (blk_cell BK134.out 0).trans rfl; have hcz41_1 : w40.cell? ⟨gb134, 1, none⟩ = some (.int .i64 0) := (blk_cell BK134.out 1).trans rfl; have hcz41_2 : w40.cell? ⟨gb134, 2, none⟩ = some (.int .i64 0) := (blk_cell BK134.out 2).trans rfl; have hcz41_3 : w40.cell? ⟨gb134, 3, none⟩ = some (.int .i64 0) := (blk_cell BK134.out 3).trans rfl; have hfz41_0 := blk_frozen BK134.out 0; have hfz41_1 := blk_frozen BK134.out 1; have hfz41_2 := blk_frozen BK134.out 2; have hfz41_3 := blk_frozen BK134.out 3) | ((with_reducible refine gate_callee (f := 31) rfl ?_); refine goesL_ (some 49) rfl rfl Try.func31 (by kernel_rfl) rfl #[.agg #[.int .i64 ((rd_T28 l1 x42_3).f0), .int .i64 ((rd_T28 l1 x42_3).f1), .int .i64 ((rd_T28 l1 x42_3).f2), .int .i64 ((rd_T28 l1 x42_3).f3)], .int .i64 t123] rfl (by (try simp only [List.map_toArray, List.map_cons, List.map_nil]); first | done | rfl | (simp only [List.length_drop, List.length_take]; rfl)) ?_; (with_reducible refine (diffcons_within.calls ((rd_T28 l1 x42_3).f0) ((rd_T28 l1 x42_3).f1) ((rd_T28 l1 x42_3).f2) ((rd_T28 l1 x42_3).f3) t123 true _ A29.out).mono ?_); rintro e w42 ⟨rfl, hb⟩; refine ⟨_, rfl, ?_⟩; have n0_ := Aside0.mk (Kd.R_below (by (with_reducible repeat (first | apply Kd.R_alloc | apply Kd.R_drewN | apply Kd.R_drew)); exact (Kd.R_mono (Kd.R_far (p := ⟨gb134, 3, none⟩) (Kd.R_far (p := ⟨gb134, 2, none⟩) (Kd.R_far (p := ⟨gb134, 1, none⟩) (Kd.R_far (p := ⟨gb134, 0, none⟩) (Kd.R_types HO_8.out BK134.out (by decide)) (fun _ hk => hk.2) (.int .i64 ((rd_T28 l1 x42_3).f0))) (fun _ hk => hk.2) (.int .i64 ((rd_T28 l1 x42_3).f1))) (fun _ hk => hk.2) (.int .i64 ((rd_T28 l1 x42_3).f2))) (fun _ hk => hk.2) (.int .i64 ((rd_T28 l1 x42_3).f3))) (fun _ h_ => h_.1))) hb); have n1_ := Aside0.mk (Kd.R_below (by (with_reducible repeat (first | apply Kd.R_alloc | apply Kd.R_drewN | apply Kd.R_drew)); exact (Kd.R_mono (Kd.R_far (p := ⟨gb134, 3, none⟩) (Kd.R_far (p := ⟨gb134, 2, none⟩) (Kd.R_far (p := ⟨gb134, 1, none⟩) (Kd.R_far (p := ⟨gb134, 0, none⟩) (Kd.R_types HO_10.out BK134.out (by decide)) (fun _ hk => hk.2) (.int .i64 ((rd_T28 l1 x42_3).f0))) (fun _ hk => hk.2) (.int .i64 ((rd_T28 l1 x42_3).f1))) (fun _ hk => hk.2) (.int .i64 ((rd_T28 l1 x42_3).f2))) (fun _ hk => hk.2) (.int .i64 ((rd_T28 l1 x42_3).f3))) (fun _ h_ => h_.1))) hb); have n2_ := Aside0.mk (blk_below (g := gb134) (o := .cells #[.int .i64 ((rd_T28 l1 x42_3).f0), .int .i64 ((rd_T28 l1 x42_3).f1), .int .i64 ((rd_T28 l1 x42_3).f2), .int .i64 ((rd_T28 l1 x42_3).f3)] 28 (0, 0)) (by (with_reducible repeat (first | refine blk_drewN ?_ _ | refine blk_drew ?_ | refine blk_alloc ?_ _)); refine blk_put (cs := #[.int .i64 ((rd_T28 l1 x42_3).f0), .int .i64 ((rd_T28 l1 x42_3).f1), .int .i64 ((rd_T28 l1 x42_3).f2), .int .i64 0]) ?_ 3 _ rfl; (with_reducible repeat (first | refine blk_drewN ?_ _ | refine blk_drew ?_ | refine blk_alloc ?_ _)); refine blk_put (cs := #[.int .i64 ((rd_T28 l1 x42_3).f0), .int .i64 ((rd_T28 l1 x42_3).f1), .int .i64 0, .int .i64 0]) ?_ 2 _ rfl; (with_reducible repeat (first | refine blk_drewN ?_ _ | refine blk_drew ?_ | refine blk_alloc ?_ _)); refine blk_put (cs := #[.int .i64 ((rd_T28 l1 x42_3).f0), .int .i64 0, .int .i64 0, .int .i64 0]) ?_ 1 _ rfl; (with_reducible repeat (first | refine blk_drewN ?_ _ | refine blk_drew ?_ | refine blk_alloc ?_ _)); refine blk_put (cs := #[.int .i64 0, .int .i64 0, .int .i64 0, .int .i64 0]) ?_ 0 _ rfl; (with_reducible repeat (first | refine blk_drewN ?_ _ | refine blk_drew ?_ | refine blk_alloc ?_ _)); exact BK134.out) hb); have n3_ := Aside0.mk (below_step (by repeat (first | (with_reducible first | exact HB.out | apply below_alloc | apply pw_below_drewN | apply below_drew1 | refine below_set ?_ GE134.out) | exact HB.out)) hb); clear HO_8; clear HO_10; clear BK134; clear HB; have HO_8 := n0_; have HO_10 := n1_; have BK134 := n2_; have HB := n3_; clear n0_ n1_ n2_ n3_; (try clear hb); (try clear hb2); (try clear hk); (try clear hi)))
                                 have n0_ := Aside0.mk (Kd.R_drew HO_8.out)
                                 have n1_ := Aside0.mk (Kd.R_drew HO_10.out)
                                 have n2_ := Aside0.mk (blk_drew BK134.out)
                                 have n3_ := Aside0.mk (below_drew1 HB.out)
                                 clear HO_8
                                 clear HO_10
                                 clear BK134
                                 clear HB
                                 have HO_8 := n0_
                                 have HO_10 := n1_
                                 have BK134 := n2_
                                 have HB := n3_
                                 clear n0_ n1_ n2_ n3_
                                 obtain ⟨Ao44, co44, eo44⟩ := Kd.R_slice HO_8.out
                                 (first | subst eo44 | (injection eo44 with f1_ f2_ f3_; have f4_ := f1_.symm; have f5_ := f3_.symm; clear f1_ f2_ f3_; subst f4_; subst f5_))
                                 have p136 : 0 ≤ (((rd_T28 l1 x42_3).f0) : Int) := of_decide_eq_true (by first | (with_reducible assumption) | assumption)
                                 have q136 : ((rd_T28 l1 x42_3).f0) < (x8_3.length : Int) := of_decide_eq_true (by first | (with_reducible assumption) | assumption)
                                 obtain ⟨ad136, e136, hx136_0⟩ := Kd.at_int (Kd.R_reads' HO_8.out).2.2 ((rd_T28 l1 x42_3).f0) p136 q136
                                 cases e136
                                 replace p136 := eq_true p136
                                 replace q136 := eq_true q136
                                 refine start_ (n := 10) (S := fun w' => w'.cell? ⟨gb134, 0, none⟩ = some (.int .i64 ((rd_T28 l1 x42_3).f0)) ∧ w'.cell? ⟨gb134, 1, none⟩ = some (.int .i64 ((rd_T28 l1 x42_3).f1)) ∧ w'.cell? ⟨gb134, 2, none⟩ = some (.int .i64 ((rd_T28 l1 x42_3).f2)) ∧ w'.cell? ⟨gb134, 3, none⟩ = some (.int .i64 ((rd_T28 l1 x42_3).f3)) ∧ w'.cell? (ad136.add (((rd_T28 l1 x42_3).f0)).toNat) = some (.int .i64 (rd x8_3 ((rd_T28 l1 x42_3).f0)))) (ds := []) #[false, false, false, false, false, false, false, false, false, false] (by kernel_rfl) rfl rfl ⟨(blk_cell BK134.out 0).trans rfl, (blk_cell BK134.out 1).trans rfl, (blk_cell BK134.out 2).trans rfl, (blk_cell BK134.out 3).trans rfl, hx136_0⟩ (fun hHeld => ?_); refine with_tabW diffcons_After.tab17 diffcons_After.bits17 (fun HT_ HW_ => ?_)
                                 generalize w42.drew = w43 at HO_8 HO_10 BK134 HB hx136_0 hHeld ⊢
                                 refine pure_ (i := 0) (N := some 51) (v := ?_) (a' := ?_) #[true, false, false, false, false, false, false, false, false, false] rfl rfl (any_of HT_.out (by kernel_rfl)) (fun _ _ _ h => h) (Or.inl ⟨by rfl, ?_⟩) ?_ ?_
                                 rotate_left
                                 · intro w'
                                   go_simp
                                   with_reducible rfl
                                 rotate_left
                                 · simp only [Act.put, List.setIfInBounds_toArray, List.set_cons_zero, List.set_cons_succ, i64_w, i32_w]
                                   rfl
                                 refine pure_ (i := 1) (N := some 52) (v := ?_) (a' := ?_) #[true, true, false, false, false, false, false, false, false, false] rfl rfl (any_of HT_.out (by kernel_rfl)) (fun _ _ _ h => h) (Or.inl ⟨by rfl, ?_⟩) ?_ ?_
                                 rotate_left
                                 · intro w'
                                   go_simp
                                   with_reducible rfl
                                 rotate_left
                                 · simp only [Act.put, List.setIfInBounds_toArray, List.set_cons_zero, List.set_cons_succ, i64_w, i32_w]
                                   rfl
                                 refine pure_ (i := 6) (N := some 57) (v := ?_) (a' := ?_) #[true, true, false, false, false, false, true, false, false, false] rfl rfl (any_of HT_.out (by kernel_rfl)) (fun _ _ _ h => h) (Or.inl ⟨by rfl, ?_⟩) ?_ ?_
                                 rotate_left
                                 · intro w'
                                   go_simp
                                   with_reducible rfl
                                 rotate_left
                                 · simp only [Act.put, List.setIfInBounds_toArray, List.set_cons_zero, List.set_cons_succ, i64_w, i32_w]
                                   rfl
                                 refine take_ (i := 2) (N := some 53) (v := ?_) (a' := ?_) #[true, true, true, false, false, false, true, false, false, false] rfl rfl (take_ofW HT_.out HW_.out (by kernel_rfl)) (fun _ _ _ h => h) (Or.inl ⟨by rfl, ?_⟩) hHeld ?_ ?_
                                 rotate_left
                                 · rintro w' ⟨s0, s1, s2, s3, s4⟩
                                   go_simp
                                   with_reducible rfl
                                 rotate_left
                                 · simp only [Act.put, List.setIfInBounds_toArray, List.set_cons_zero, List.set_cons_succ, i64_w, i32_w]
                                   rfl
                                 refine pure_ (i := 3) (N := some 54) (v := ?_) (a' := ?_) #[true, true, true, true, false, false, true, false, false, false] rfl rfl (any_of HT_.out (by kernel_rfl)) (fun _ _ _ h => h) (Or.inl ⟨by rfl, ?_⟩) ?_ ?_
                                 rotate_left
                                 · intro w'
                                   go_simp
                                   with_reducible rfl
                                 rotate_left
                                 · simp only [Act.put, List.setIfInBounds_toArray, List.set_cons_zero, List.set_cons_succ, i64_w, i32_w]
                                   rfl
                                 refine take_ (i := 4) (N := some 55) (v := ?_) (a' := ?_) #[true, true, true, true, true, false, true, false, false, false] rfl rfl (take_ofW HT_.out HW_.out (by kernel_rfl)) (fun _ _ _ h => h) (Or.inl ⟨by rfl, ?_⟩) hHeld ?_ ?_
                                 rotate_left
                                 · rintro w' ⟨s0, s1, s2, s3, s4⟩
                                   go_simp
                                   with_reducible rfl
                                 rotate_left
                                 · simp only [Act.put, List.setIfInBounds_toArray, List.set_cons_zero, List.set_cons_succ, i64_w, i32_w]
                                   rfl
                                 refine take_ (i := 5) (N := some 56) (v := ?_) (a' := ?_) #[true, true, true, true, true, true, true, false, false, false] rfl rfl (take_ofW HT_.out HW_.out (by kernel_rfl)) (fun _ _ _ h => h) (Or.inl ⟨by rfl, ?_⟩) hHeld ?_ ?_
                                 rotate_left
                                 · rintro w' ⟨s0, s1, s2, s3, s4⟩
                                   go_simp
                                   with_reducible rfl
                                 rotate_left
                                 · simp only [Act.put, List.setIfInBounds_toArray, List.set_cons_zero, List.set_cons_succ, i64_w, i32_w]
                                   rfl
                                 refine one_ (i := 7) (N := some 58) #[true, true, true, true, true, true, true, true, false, false] rfl rfl (one_of HT_.out (by kernel_rfl)) (by decide) (fun K hK => ?_)
                                 refine goes_ Try.func23 (by kernel_rfl) rfl #[.agg #[.int .i64 ((rd_T28 l1 x42_3).f0), .int .i64 ((rd_T28 l1 x42_3).f1), .int .i64 ((rd_T28 l1 x42_3).f2), .int .i64 ((rd_T28 l1 x42_3).f3)], .int .i64 a2] (by rfl) rfl rfl (by (try simp only [List.map_toArray, List.map_cons, List.map_nil]); first | done | rfl | (simp only [List.length_drop, List.length_take]; rfl)) ?_
                                 with_reducible refine (diffcons_Weight.calls ((rd_T28 l1 x42_3).f0) ((rd_T28 l1 x42_3).f1) ((rd_T28 l1 x42_3).f2) ((rd_T28 l1 x42_3).f3) a2 t137 _ A33.out).mono ?_
                                 rintro e w45 ⟨rfl, hb⟩
                                 have HS4_ := (hb.cell (World.block_lt_of_cell? _ _ (hHeld.2.2.2.2))).trans (hHeld.2.2.2.2)
                                 refine ⟨_, rfl, ?_⟩
                                 have n0_ := Aside0.mk (Kd.R_below (by (with_reducible repeat (first | apply Kd.R_alloc | apply Kd.R_drewN | apply Kd.R_drew)); exact HO_8.out) hb)
                                 have n1_ := Aside0.mk (Kd.R_below (by (with_reducible repeat (first | apply Kd.R_alloc | apply Kd.R_drewN | apply Kd.R_drew)); exact HO_10.out) hb)
                                 have n2_ := Aside0.mk (blk_below (g := gb134) (o := .cells #[.int .i64 ((rd_T28 l1 x42_3).f0), .int .i64 ((rd_T28 l1 x42_3).f1), .int .i64 ((rd_T28 l1 x42_3).f2), .int .i64 ((rd_T28 l1 x42_3).f3)] 28 (0, 0)) (by (with_reducible repeat (first | refine blk_drewN ?_ _ | refine blk_drew ?_ | refine blk_alloc ?_ _)); exact BK134.out) hb)
                                 have n3_ := Aside0.mk (below_step (by repeat (first | (with_reducible first | exact HB.out | apply below_alloc | apply pw_below_drewN | apply below_drew1 | refine below_set ?_ GE134.out) | exact HB.out)) hb)
                                 clear HO_8
                                 clear HO_10
                                 clear BK134
                                 clear HB
                                 have HO_8 := n0_
                                 have HO_10 := n1_
                                 have BK134 := n2_
                                 have HB := n3_
                                 clear n0_ n1_ n2_ n3_
                                 (try clear hb)
                                 (try clear hb2)
                                 (try clear hk)
                                 (try clear hi)
                                 refine hK.out _ _ ⟨(blk_cell BK134.out 0).trans rfl, (blk_cell BK134.out 1).trans rfl, (blk_cell BK134.out 2).trans rfl, (blk_cell BK134.out 3).trans rfl, HS4_⟩ (fun hHeld => ?_)
                                 clear hK K
                                 refine norm_ (a' := ?_) ?_ ?_
                                 rotate_left
                                 · show Act.put _ (some 58) _ = _
                                   simp only [Act.put, List.setIfInBounds_toArray, List.set_cons_zero, List.set_cons_succ, i64_w, i32_w]
                                   rfl
                                 refine pure_ (i := 8) (N := some 59) (v := ?_) (a' := ?_) #[true, true, true, true, true, true, true, true, true, false] rfl rfl (any_of HT_.out (by kernel_rfl)) (fun _ _ _ h => h) (Or.inl ⟨by rfl, ?_⟩) ?_ ?_
                                 rotate_left
                                 · intro w'
                                   go_simp
                                   with_reducible rfl
                                 rotate_left
                                 · simp only [Act.put, List.setIfInBounds_toArray, List.set_cons_zero, List.set_cons_succ, i64_w, i32_w]
                                   rfl
                                 refine pure_ (i := 9) (N := some 16) (v := ?_) (a' := ?_) #[true, true, true, true, true, true, true, true, true, true] rfl rfl (any_of HT_.out (by kernel_rfl)) (fun _ _ _ h => h) (Or.inl ⟨by rfl, ?_⟩) ?_ ?_
                                 rotate_left
                                 · intro w'
                                   go_simp
                                   with_reducible rfl
                                 rotate_left
                                 · simp only [Act.put, List.setIfInBounds_toArray, List.set_cons_zero, List.set_cons_succ, i64_w, i32_w]
                                   rfl
                                 refine done_ (done_of HT_.out (by kernel_rfl)) ?_
                                 have hcz46_0 : w45.cell? ⟨gb134, 0, none⟩ = some (.int .i64 ((rd_T28 l1 x42_3).f0)) := (blk_cell BK134.out 0).trans rfl
                                 have hcz46_1 : w45.cell? ⟨gb134, 1, none⟩ = some (.int .i64 ((rd_T28 l1 x42_3).f1)) := (blk_cell BK134.out 1).trans rfl
                                 have hcz46_2 : w45.cell? ⟨gb134, 2, none⟩ = some (.int .i64 ((rd_T28 l1 x42_3).f2)) := (blk_cell BK134.out 2).trans rfl
                                 have hcz46_3 : w45.cell? ⟨gb134, 3, none⟩ = some (.int .i64 ((rd_T28 l1 x42_3).f3)) := (blk_cell BK134.out 3).trans rfl
                                 have hfz46_0 := blk_frozen BK134.out 0
                                 have hfz46_1 := blk_frozen BK134.out 1
                                 have hfz46_2 := blk_frozen BK134.out 2
                                 have hfz46_3 := blk_frozen BK134.out 3
                                 have p138 : 0 ≤ (((rd_T28 l1 x42_3).f1) : Int) := of_decide_eq_true (by first | (with_reducible assumption) | assumption)
                                 have q138 : ((rd_T28 l1 x42_3).f1) < (x8_3.length : Int) := of_decide_eq_true (by first | (with_reducible assumption) | assumption)
                                 obtain ⟨ad138, e138, hx138_0⟩ := Kd.at_int (Kd.R_reads' HO_8.out).2.2 ((rd_T28 l1 x42_3).f1) p138 q138
                                 obtain rfl : ad136 = ad138 := (by injection e138)
                                 replace p138 := eq_true p138
                                 replace q138 := eq_true q138
                                 have p37 : 0 ≤ (((rd_T28 l1 x42_3).f1) : Int) := of_decide_eq_true (by first | (with_reducible assumption) | assumption)
                                 have q37 : (((rd_T28 l1 x42_3).f1) : Int) < ((x8_3.length : Int) : Int) := of_decide_eq_true (by first | (with_reducible assumption) | assumption)
                                 obtain ⟨go37, co37, eo37, gb37, gl37, cl37, HG37⟩ := Kd.R_form HO_8.out (by omega)
                                 (first | cases eo37 | (injection eo37 with ea_ en_ ec_; (first | subst ea_ | (injection ea_ with ea_; subst ea_)); subst ec_; clear en_))
                                 have GB37 := Aside0.mk gb37
                                 have GG37 := Aside0.mk HG37
                                 clear gb37 gl37 HG37
                                 (first | simp only [add_plain] at hx136_0 | skip)
                                 (first | simp only [add_plain] at hx138_0 | skip)
                                 obtain ⟨hx37_0, hf37_0⟩ := Kd.R_celln 0 HO_8.out (((rd_T28 l1 x42_3).f1) : Int) p37 q37
                                 replace p37 := eq_true p37
                                 replace q37 := eq_true q37
                                 obtain ⟨hy47_, hz47_⟩ := Kd.R_celln 0 HO_8.out (((rd_T28 l1 x42_3).f1) : Int) (of_decide_eq_true (by first | (with_reducible assumption) | assumption)) (of_decide_eq_true (by first | (with_reducible assumption) | assumption))
                                 have HP47 := Kd.R_putg HO_8.out (((rd_T28 l1 x42_3).f1) : Int) (wrap64 ((rd x8_3 ((rd_T28 l1 x42_3).f0)) + t137))
                                 try go_wp2_with (first | ((with_reducible refine gate_store (t := 3) (p := 71) rfl ?_); refine store_event (t := 3) (p := 71) (v := ?vo_w48) (w1 := (w45.setCell ⟨go37, (((rd_T28 l1 x42_3).f1) : Int).toNat, none⟩ (.int .i64 (wrap64 ((rd x8_3 ((rd_T28 l1 x42_3).f0)) + t137))))) ?hg ?ho ?hn ?hr ?_; (case ho => rfl); (case hg => rfl); (case hn => rfl); (case hr => first | (go_simp; done) | (go_simp; rfl)); intro w48 hw; have hg : w45.grownBy w48 (some go37) := (by rw [hw]; exact HP47.2); have hp_ : Kd.R (Kd.int .i64) 3 w48 w.heap.size (fun k_ => some k_ ≠ (v128 : Value).ownBlock) (.slice (some ⟨go37, 0, none⟩) x8_3.length co44) y139 := (by rw [hw, Ny139.out]; exact HP47.1); clear HP47; have n0_ := Aside0.mk (hp_); have n1_ := Aside0.mk (Kd.R_after (v := (.slice (some ⟨go37, 0, none⟩) x8_3.length co44)) (v1 := (.slice (some ⟨go37, 0, none⟩) x8_3.length co44)) (ok := (fun _ => True)) (by (with_reducible repeat (first | apply Kd.R_alloc | apply Kd.R_drewN | apply Kd.R_drew)); exact Kd.R_mono HO_10.out (fun _ hk => ⟨trivial, hk⟩)) hg (.inl rfl)); have n2_ := Aside0.mk (blk_grown (g := gb134) (o := .cells #[.int .i64 ((rd_T28 l1 x42_3).f0), .int .i64 ((rd_T28 l1 x42_3).f1), .int .i64 ((rd_T28 l1 x42_3).f2), .int .i64 ((rd_T28 l1 x42_3).f3)] 28 (0, 0)) (by (with_reducible repeat (first | refine blk_drewN ?_ _ | refine blk_drew ?_ | refine blk_alloc ?_ _)); exact BK134.out) hg (Kd.R_ne HO_8.out BK134.out (by decide))); have n3_ := Aside0.mk ((by rw [hw]; exact below_set (HB.out) GB37.out : Below w.heap.size w w48)); clear HO_8; clear HO_10; clear BK134; clear HB; have HO_8 := n0_; have HO_10 := n1_; have BK134 := n2_; have HB := n3_; clear n0_ n1_ n2_ n3_; clear hg hw hp_; have hcz49_0 : w48.cell? ⟨gb134, 0, none⟩ = some (.int .i64 ((rd_T28 l1 x42_3).f0)) := (blk_cell BK134.out 0).trans rfl; have hcz49_1 : w48.cell? ⟨gb134, 1, none⟩ = some (.int .i64 ((rd_T28 l1 x42_3).f1)) := (blk_cell BK134.out 1).trans rfl; have hcz49_2 : w48.cell? ⟨gb134, 2, none⟩ = some (.int .i64 ((rd_T28 l1 x42_3).f2)) := (blk_cell BK134.out 2).trans rfl; have hcz49_3 : w48.cell? ⟨gb134, 3, none⟩ = some (.int .i64 ((rd_T28 l1 x42_3).f3)) := (blk_cell BK134.out 3).trans rfl; have hfz49_0 := blk_frozen BK134.out 0; have hfz49_1 := blk_frozen BK134.out 1; have hfz49_2 := blk_frozen BK134.out 2; have hfz49_3 := blk_frozen BK134.out 3; have p39 : 0 ≤ (((rd_T28 l1 x42_3).f1) : Int) := of_decide_eq_true (by first | (with_reducible assumption) | assumption); have q39 : (((rd_T28 l1 x42_3).f1) : Int) < ((x10_3.length : Int) : Int) := of_decide_eq_true (by first | (with_reducible assumption) | assumption); obtain ⟨go39, co39, eo39, gb39, gl39, cl39, HG39⟩ := Kd.R_form HO_10.out (by omega); (first | cases eo39 | (injection eo39 with ea_ en_ ec_; (first | subst ea_ | (injection ea_ with ea_; subst ea_)); subst ec_; clear en_)); have GB39 := Aside0.mk gb39; have GG39 := Aside0.mk HG39; clear gb39 gl39 HG39; obtain ⟨hx39_0, hf39_0⟩ := Kd.R_celln 0 HO_10.out (((rd_T28 l1 x42_3).f1) : Int) p39 q39; replace p39 := eq_true p39; replace q39 := eq_true q39; have n_ := Aside0.mk (Kd.R_mono (ok' := (fun k_ => some k_ ≠ (.slice (some ⟨go37, 0, none⟩) x8_3.length co44 : Value).ownBlock)) HO_10.out (fun k_ hk => hk.2)); clear HO_10; have HO_10 := n_; clear n_; obtain ⟨hy50_, hz50_⟩ := Kd.R_celln 0 HO_10.out (((rd_T28 l1 x42_3).f1) : Int) (of_decide_eq_true (by first | (with_reducible assumption) | assumption)) (of_decide_eq_true (by first | (with_reducible assumption) | assumption)); have HP50 := Kd.R_putg HO_10.out (((rd_T28 l1 x42_3).f1) : Int) x42_3) | ((with_reducible refine gate_store (t := 3) (p := 76) rfl ?_); refine store_event (t := 3) (p := 76) (v := ?vo_w51) (w1 := (w48.setCell ⟨go39, (((rd_T28 l1 x42_3).f1) : Int).toNat, none⟩ (.int .i64 x42_3))) ?hg ?ho ?hn ?hr ?_; (case ho => rfl); (case hg => rfl); (case hn => rfl); (case hr => first | (go_simp; done) | (go_simp; rfl)); intro w51 hw; have hg : w48.grownBy w51 (some go39) := (by rw [hw]; exact HP50.2); have hp_ : Kd.R (Kd.int .i64) 3 w51 w.heap.size (fun k_ => some k_ ≠ (.slice (some ⟨go37, 0, none⟩) x8_3.length co44 : Value).ownBlock) (.slice (some ⟨go39, 0, none⟩) x10_3.length co39) y140 := (by rw [hw, Ny140.out]; exact HP50.1); clear HP50; have n0_ := Aside0.mk (Kd.R_after (v := (.slice (some ⟨go39, 0, none⟩) x10_3.length co39)) (v1 := (.slice (some ⟨go39, 0, none⟩) x10_3.length co39)) (ok := (fun _ => True)) (by (with_reducible repeat (first | apply Kd.R_alloc | apply Kd.R_drewN | apply Kd.R_drew)); exact Kd.R_mono HO_8.out (fun _ hk => ⟨trivial, hk⟩)) hg (.inl rfl)); have n1_ := Aside0.mk (hp_); have n2_ := Aside0.mk (blk_grown (g := gb134) (o := .cells #[.int .i64 ((rd_T28 l1 x42_3).f0), .int .i64 ((rd_T28 l1 x42_3).f1), .int .i64 ((rd_T28 l1 x42_3).f2), .int .i64 ((rd_T28 l1 x42_3).f3)] 28 (0, 0)) (by (with_reducible repeat (first | refine blk_drewN ?_ _ | refine blk_drew ?_ | refine blk_alloc ?_ _)); exact BK134.out) hg (Kd.R_ne HO_10.out BK134.out (by decide))); have n3_ := Aside0.mk ((by rw [hw]; exact below_set (HB.out) GB39.out : Below w.heap.size w w51)); clear HO_8; clear HO_10; clear BK134; clear HB; have HO_8 := n0_; have HO_10 := n1_; have BK134 := n2_; have HB := n3_; clear n0_ n1_ n2_ n3_; clear hg hw hp_; have hcz52_0 : w51.cell? ⟨gb134, 0, none⟩ = some (.int .i64 ((rd_T28 l1 x42_3).f0)) := (blk_cell BK134.out 0).trans rfl; have hcz52_1 : w51.cell? ⟨gb134, 1, none⟩ = some (.int .i64 ((rd_T28 l1 x42_3).f1)) := (blk_cell BK134.out 1).trans rfl; have hcz52_2 : w51.cell? ⟨gb134, 2, none⟩ = some (.int .i64 ((rd_T28 l1 x42_3).f2)) := (blk_cell BK134.out 2).trans rfl; have hcz52_3 : w51.cell? ⟨gb134, 3, none⟩ = some (.int .i64 ((rd_T28 l1 x42_3).f3)) := (blk_cell BK134.out 3).trans rfl; have hfz52_0 := blk_frozen BK134.out 0; have hfz52_1 := blk_frozen BK134.out 1; have hfz52_2 := blk_frozen BK134.out 2; have hfz52_3 := blk_frozen BK134.out 3))
                                 go_roundg k3
                                 case measure => have := HK1.out; have := HK2.out; have := HK3.out; omega
                                 case rel => exact ⟨(y139), (y140), ((rd_T28 l1 x42_3).f1), (wrap64 (x42_3 + 1)), (by first | rfl | (simp; done) | (simp [*]; done)), (by first | rfl | (simp; done) | (simp [*]; done)), H', ⟨by have := HK1.out; have := HK2.out; have := HK3.out; omega⟩, ⟨by (try simp only [hl8_1]); (with_reducible repeat (first | apply Kd.R_alloc | apply Kd.R_drewN | apply Kd.R_drew)); exact Kd.R_mono HO_8.out (fun _ hk => hk.2)⟩, ⟨by (try simp only [hl8_1]); (with_reducible repeat (first | apply Kd.R_alloc | apply Kd.R_drewN | apply Kd.R_drew)); exact HO_10.out⟩, ⟨by repeat (first | (with_reducible first | exact HB.out | apply below_alloc | apply pw_below_drewN | apply below_drew1 | refine below_set ?_ GE134.out) | exact HB.out)⟩⟩
                               · rw [if_neg c38] at H
                                 exact absurd H (by simp)
                             · rw [if_neg c36] at H
                               have c36b0 : decide ((rd x8_3 ((rd_T28 l1 x42_3).f1)) < (wrap64 ((rd x8_3 ((rd_T28 l1 x42_3).f0)) + t137))) = false := decide_eq_false c36
                               clear c36
                               have H' := Aside0.mk H
                               clear H
                               have p133 : 0 ≤ (x42_3 : Int) := of_decide_eq_true (by first | (with_reducible assumption) | assumption)
                               have q133 : x42_3 < (l1.length : Int) := of_decide_eq_true (by first | (with_reducible assumption) | assumption)
                               obtain ⟨ad133, e133, hx133_0, hx133_1, hx133_2, hx133_3⟩ := at_T28 HR1.out x42_3 p133 q133
                               cases e133
                               replace hx133_0 := (HB.out.cell (World.block_lt_of_cell? w _ hx133_0)).trans hx133_0
                               replace hx133_1 := (HB.out.cell (World.block_lt_of_cell? w _ hx133_1)).trans hx133_1
                               replace hx133_2 := (HB.out.cell (World.block_lt_of_cell? w _ hx133_2)).trans hx133_2
                               replace hx133_3 := (HB.out.cell (World.block_lt_of_cell? w _ hx133_3)).trans hx133_3
                               replace p133 := eq_true p133
                               replace q133 := eq_true q133
                               try go_wp2_with (first | ((with_reducible refine gate_dst (N := 15) rfl ?_); refine box_event ?hg (N := 15) ?hd (cs := #[.int .i64 0, .int .i64 0, .int .i64 0, .int .i64 0]) (t := 28) ?hr ?_; (case hd => rfl); (case hg => rfl); (case hr => first | (go_simp; done) | (go_simp; rfl)); intro gb134 hg w53 hbox hb; have n0_ := Aside0.mk (Kd.R_below (by (with_reducible repeat (first | apply Kd.R_alloc | apply Kd.R_drewN | apply Kd.R_drew)); exact HO_8.out) hb); have n1_ := Aside0.mk (Kd.R_below (by (with_reducible repeat (first | apply Kd.R_alloc | apply Kd.R_drewN | apply Kd.R_drew)); exact HO_10.out) hb); have n2_ := Aside0.mk (below_step (by repeat (first | (with_reducible first | exact HB.out | apply below_alloc | apply pw_below_drewN | apply below_drew1) | exact HB.out)) hb); have n3_ := Aside0.mk (hbox); have n4_ := Aside0.mk ((by rw [hg]; exact (below_size (by repeat (first | (with_reducible first | exact HB.out | apply below_alloc | apply pw_below_drewN | apply below_drew1) | exact HB.out))) : w.heap.size ≤ gb134)); have n5_ := Aside0.mk ((by rw [hg]; exact (below_size (by repeat (first | (with_reducible first | exact HB.out | apply below_alloc | apply pw_below_drewN | apply below_drew1) | exact HB.out))) : w.heap.size ≤ gb134)); clear HO_8; clear HO_10; clear HB; have HO_8 := n0_; have HO_10 := n1_; have HB := n2_; have BK134 := n3_; have GW134 := n4_; have GE134 := n5_; clear n0_ n1_ n2_ n3_ n4_ n5_; clear hb hbox hg; have hcz54_0 : w53.cell? ⟨gb134, 0, none⟩ = some (.int .i64 0) := (blk_cell BK134.out 0).trans rfl; have hcz54_1 : w53.cell? ⟨gb134, 1, none⟩ = some (.int .i64 0) := (blk_cell BK134.out 1).trans rfl; have hcz54_2 : w53.cell? ⟨gb134, 2, none⟩ = some (.int .i64 0) := (blk_cell BK134.out 2).trans rfl; have hcz54_3 : w53.cell? ⟨gb134, 3, none⟩ = some (.int .i64 0) := (blk_cell BK134.out 3).trans rfl; have hfz54_0 := blk_frozen BK134.out 0; have hfz54_1 := blk_frozen BK134.out 1; have hfz54_2 := blk_frozen BK134.out 2; have hfz54_3 := blk_frozen BK134.out 3) | ((with_reducible refine gate_callee (f := 31) rfl ?_); refine goesL_ (some 49) rfl rfl Try.func31 (by kernel_rfl) rfl #[.agg #[.int .i64 ((rd_T28 l1 x42_3).f0), .int .i64 ((rd_T28 l1 x42_3).f1), .int .i64 ((rd_T28 l1 x42_3).f2), .int .i64 ((rd_T28 l1 x42_3).f3)], .int .i64 t123] rfl (by (try simp only [List.map_toArray, List.map_cons, List.map_nil]); first | done | rfl | (simp only [List.length_drop, List.length_take]; rfl)) ?_; (with_reducible refine (diffcons_within.calls ((rd_T28 l1 x42_3).f0) ((rd_T28 l1 x42_3).f1) ((rd_T28 l1 x42_3).f2) ((rd_T28 l1 x42_3).f3) t123 true _ A29.out).mono ?_); rintro e w55 ⟨rfl, hb⟩; refine ⟨_, rfl, ?_⟩; have n0_ := Aside0.mk (Kd.R_below (by (with_reducible repeat (first | apply Kd.R_alloc | apply Kd.R_drewN | apply Kd.R_drew)); exact (Kd.R_mono (Kd.R_far (p := ⟨gb134, 3, none⟩) (Kd.R_far (p := ⟨gb134, 2, none⟩) (Kd.R_far (p := ⟨gb134, 1, none⟩) (Kd.R_far (p := ⟨gb134, 0, none⟩) (Kd.R_types HO_8.out BK134.out (by decide)) (fun _ hk => hk.2) (.int .i64 ((rd_T28 l1 x42_3).f0))) (fun _ hk => hk.2) (.int .i64 ((rd_T28 l1 x42_3).f1))) (fun _ hk => hk.2) (.int .i64 ((rd_T28 l1 x42_3).f2))) (fun _ hk => hk.2) (.int .i64 ((rd_T28 l1 x42_3).f3))) (fun _ h_ => h_.1))) hb); have n1_ := Aside0.mk (Kd.R_below (by (with_reducible repeat (first | apply Kd.R_alloc | apply Kd.R_drewN | apply Kd.R_drew)); exact (Kd.R_mono (Kd.R_far (p := ⟨gb134, 3, none⟩) (Kd.R_far (p := ⟨gb134, 2, none⟩) (Kd.R_far (p := ⟨gb134, 1, none⟩) (Kd.R_far (p := ⟨gb134, 0, none⟩) (Kd.R_types HO_10.out BK134.out (by decide)) (fun _ hk => hk.2) (.int .i64 ((rd_T28 l1 x42_3).f0))) (fun _ hk => hk.2) (.int .i64 ((rd_T28 l1 x42_3).f1))) (fun _ hk => hk.2) (.int .i64 ((rd_T28 l1 x42_3).f2))) (fun _ hk => hk.2) (.int .i64 ((rd_T28 l1 x42_3).f3))) (fun _ h_ => h_.1))) hb); have n2_ := Aside0.mk (blk_below (g := gb134) (o := .cells #[.int .i64 ((rd_T28 l1 x42_3).f0), .int .i64 ((rd_T28 l1 x42_3).f1), .int .i64 ((rd_T28 l1 x42_3).f2), .int .i64 ((rd_T28 l1 x42_3).f3)] 28 (0, 0)) (by (with_reducible repeat (first | refine blk_drewN ?_ _ | refine blk_drew ?_ | refine blk_alloc ?_ _)); refine blk_put (cs := #[.int .i64 ((rd_T28 l1 x42_3).f0), .int .i64 ((rd_T28 l1 x42_3).f1), .int .i64 ((rd_T28 l1 x42_3).f2), .int .i64 0]) ?_ 3 _ rfl; (with_reducible repeat (first | refine blk_drewN ?_ _ | refine blk_drew ?_ | refine blk_alloc ?_ _)); refine blk_put (cs := #[.int .i64 ((rd_T28 l1 x42_3).f0), .int .i64 ((rd_T28 l1 x42_3).f1), .int .i64 0, .int .i64 0]) ?_ 2 _ rfl; (with_reducible repeat (first | refine blk_drewN ?_ _ | refine blk_drew ?_ | refine blk_alloc ?_ _)); refine blk_put (cs := #[.int .i64 ((rd_T28 l1 x42_3).f0), .int .i64 0, .int .i64 0, .int .i64 0]) ?_ 1 _ rfl; (with_reducible repeat (first | refine blk_drewN ?_ _ | refine blk_drew ?_ | refine blk_alloc ?_ _)); refine blk_put (cs := #[.int .i64 0, .int .i64 0, .int .i64 0, .int .i64 0]) ?_ 0 _ rfl; (with_reducible repeat (first | refine blk_drewN ?_ _ | refine blk_drew ?_ | refine blk_alloc ?_ _)); exact BK134.out) hb); have n3_ := Aside0.mk (below_step (by repeat (first | (with_reducible first | exact HB.out | apply below_alloc | apply pw_below_drewN | apply below_drew1 | refine below_set ?_ GE134.out) | exact HB.out)) hb); clear HO_8; clear HO_10; clear BK134; clear HB; have HO_8 := n0_; have HO_10 := n1_; have BK134 := n2_; have HB := n3_; clear n0_ n1_ n2_ n3_; (try clear hb); (try clear hb2); (try clear hk); (try clear hi)))
                               have n0_ := Aside0.mk (Kd.R_drew HO_8.out)
                               have n1_ := Aside0.mk (Kd.R_drew HO_10.out)
                               have n2_ := Aside0.mk (blk_drew BK134.out)
                               have n3_ := Aside0.mk (below_drew1 HB.out)
                               clear HO_8
                               clear HO_10
                               clear BK134
                               clear HB
                               have HO_8 := n0_
                               have HO_10 := n1_
                               have BK134 := n2_
                               have HB := n3_
                               clear n0_ n1_ n2_ n3_
                               obtain ⟨Ao57, co57, eo57⟩ := Kd.R_slice HO_8.out
                               (first | subst eo57 | (injection eo57 with f1_ f2_ f3_; have f4_ := f1_.symm; have f5_ := f3_.symm; clear f1_ f2_ f3_; subst f4_; subst f5_))
                               have p136 : 0 ≤ (((rd_T28 l1 x42_3).f0) : Int) := of_decide_eq_true (by first | (with_reducible assumption) | assumption)
                               have q136 : ((rd_T28 l1 x42_3).f0) < (x8_3.length : Int) := of_decide_eq_true (by first | (with_reducible assumption) | assumption)
                               obtain ⟨ad136, e136, hx136_0⟩ := Kd.at_int (Kd.R_reads' HO_8.out).2.2 ((rd_T28 l1 x42_3).f0) p136 q136
                               cases e136
                               replace p136 := eq_true p136
                               replace q136 := eq_true q136
                               refine start_ (n := 10) (S := fun w' => w'.cell? ⟨gb134, 0, none⟩ = some (.int .i64 ((rd_T28 l1 x42_3).f0)) ∧ w'.cell? ⟨gb134, 1, none⟩ = some (.int .i64 ((rd_T28 l1 x42_3).f1)) ∧ w'.cell? ⟨gb134, 2, none⟩ = some (.int .i64 ((rd_T28 l1 x42_3).f2)) ∧ w'.cell? ⟨gb134, 3, none⟩ = some (.int .i64 ((rd_T28 l1 x42_3).f3)) ∧ w'.cell? (ad136.add (((rd_T28 l1 x42_3).f0)).toNat) = some (.int .i64 (rd x8_3 ((rd_T28 l1 x42_3).f0)))) (ds := []) #[false, false, false, false, false, false, false, false, false, false] (by kernel_rfl) rfl rfl ⟨(blk_cell BK134.out 0).trans rfl, (blk_cell BK134.out 1).trans rfl, (blk_cell BK134.out 2).trans rfl, (blk_cell BK134.out 3).trans rfl, hx136_0⟩ (fun hHeld => ?_); refine with_tabW diffcons_After.tab17 diffcons_After.bits17 (fun HT_ HW_ => ?_)
                               generalize w55.drew = w56 at HO_8 HO_10 BK134 HB hx136_0 hHeld ⊢
                               refine pure_ (i := 0) (N := some 51) (v := ?_) (a' := ?_) #[true, false, false, false, false, false, false, false, false, false] rfl rfl (any_of HT_.out (by kernel_rfl)) (fun _ _ _ h => h) (Or.inl ⟨by rfl, ?_⟩) ?_ ?_
                               rotate_left
                               · intro w'
                                 go_simp
                                 with_reducible rfl
                               rotate_left
                               · simp only [Act.put, List.setIfInBounds_toArray, List.set_cons_zero, List.set_cons_succ, i64_w, i32_w]
                                 rfl
                               refine pure_ (i := 1) (N := some 52) (v := ?_) (a' := ?_) #[true, true, false, false, false, false, false, false, false, false] rfl rfl (any_of HT_.out (by kernel_rfl)) (fun _ _ _ h => h) (Or.inl ⟨by rfl, ?_⟩) ?_ ?_
                               rotate_left
                               · intro w'
                                 go_simp
                                 with_reducible rfl
                               rotate_left
                               · simp only [Act.put, List.setIfInBounds_toArray, List.set_cons_zero, List.set_cons_succ, i64_w, i32_w]
                                 rfl
                               refine pure_ (i := 6) (N := some 57) (v := ?_) (a' := ?_) #[true, true, false, false, false, false, true, false, false, false] rfl rfl (any_of HT_.out (by kernel_rfl)) (fun _ _ _ h => h) (Or.inl ⟨by rfl, ?_⟩) ?_ ?_
                               rotate_left
                               · intro w'
                                 go_simp
                                 with_reducible rfl
                               rotate_left
                               · simp only [Act.put, List.setIfInBounds_toArray, List.set_cons_zero, List.set_cons_succ, i64_w, i32_w]
                                 rfl
                               refine take_ (i := 2) (N := some 53) (v := ?_) (a' := ?_) #[true, true, true, false, false, false, true, false, false, false] rfl rfl (take_ofW HT_.out HW_.out (by kernel_rfl)) (fun _ _ _ h => h) (Or.inl ⟨by rfl, ?_⟩) hHeld ?_ ?_
                               rotate_left
                               · rintro w' ⟨s0, s1, s2, s3, s4⟩
                                 go_simp
                                 with_reducible rfl
                               rotate_left
                               · simp only [Act.put, List.setIfInBounds_toArray, List.set_cons_zero, List.set_cons_succ, i64_w, i32_w]
                                 rfl
                               refine pure_ (i := 3) (N := some 54) (v := ?_) (a' := ?_) #[true, true, true, true, false, false, true, false, false, false] rfl rfl (any_of HT_.out (by kernel_rfl)) (fun _ _ _ h => h) (Or.inl ⟨by rfl, ?_⟩) ?_ ?_
                               rotate_left
                               · intro w'
                                 go_simp
                                 with_reducible rfl
                               rotate_left
                               · simp only [Act.put, List.setIfInBounds_toArray, List.set_cons_zero, List.set_cons_succ, i64_w, i32_w]
                                 rfl
                               refine take_ (i := 4) (N := some 55) (v := ?_) (a' := ?_) #[true, true, true, true, true, false, true, false, false, false] rfl rfl (take_ofW HT_.out HW_.out (by kernel_rfl)) (fun _ _ _ h => h) (Or.inl ⟨by rfl, ?_⟩) hHeld ?_ ?_
                               rotate_left
                               · rintro w' ⟨s0, s1, s2, s3, s4⟩
                                 go_simp
                                 with_reducible rfl
                               rotate_left
                               · simp only [Act.put, List.setIfInBounds_toArray, List.set_cons_zero, List.set_cons_succ, i64_w, i32_w]
                                 rfl
                               refine take_ (i := 5) (N := some 56) (v := ?_) (a' := ?_) #[true, true, true, true, true, true, true, false, false, false] rfl rfl (take_ofW HT_.out HW_.out (by kernel_rfl)) (fun _ _ _ h => h) (Or.inl ⟨by rfl, ?_⟩) hHeld ?_ ?_
                               rotate_left
                               · rintro w' ⟨s0, s1, s2, s3, s4⟩
                                 go_simp
                                 with_reducible rfl
                               rotate_left
                               · simp only [Act.put, List.setIfInBounds_toArray, List.set_cons_zero, List.set_cons_succ, i64_w, i32_w]
                                 rfl
                               refine one_ (i := 7) (N := some 58) #[true, true, true, true, true, true, true, true, false, false] rfl rfl (one_of HT_.out (by kernel_rfl)) (by decide) (fun K hK => ?_)
                               refine goes_ Try.func23 (by kernel_rfl) rfl #[.agg #[.int .i64 ((rd_T28 l1 x42_3).f0), .int .i64 ((rd_T28 l1 x42_3).f1), .int .i64 ((rd_T28 l1 x42_3).f2), .int .i64 ((rd_T28 l1 x42_3).f3)], .int .i64 a2] (by rfl) rfl rfl (by (try simp only [List.map_toArray, List.map_cons, List.map_nil]); first | done | rfl | (simp only [List.length_drop, List.length_take]; rfl)) ?_
                               with_reducible refine (diffcons_Weight.calls ((rd_T28 l1 x42_3).f0) ((rd_T28 l1 x42_3).f1) ((rd_T28 l1 x42_3).f2) ((rd_T28 l1 x42_3).f3) a2 t137 _ A33.out).mono ?_
                               rintro e w58 ⟨rfl, hb⟩
                               have HS4_ := (hb.cell (World.block_lt_of_cell? _ _ (hHeld.2.2.2.2))).trans (hHeld.2.2.2.2)
                               refine ⟨_, rfl, ?_⟩
                               have n0_ := Aside0.mk (Kd.R_below (by (with_reducible repeat (first | apply Kd.R_alloc | apply Kd.R_drewN | apply Kd.R_drew)); exact HO_8.out) hb)
                               have n1_ := Aside0.mk (Kd.R_below (by (with_reducible repeat (first | apply Kd.R_alloc | apply Kd.R_drewN | apply Kd.R_drew)); exact HO_10.out) hb)
                               have n2_ := Aside0.mk (blk_below (g := gb134) (o := .cells #[.int .i64 ((rd_T28 l1 x42_3).f0), .int .i64 ((rd_T28 l1 x42_3).f1), .int .i64 ((rd_T28 l1 x42_3).f2), .int .i64 ((rd_T28 l1 x42_3).f3)] 28 (0, 0)) (by (with_reducible repeat (first | refine blk_drewN ?_ _ | refine blk_drew ?_ | refine blk_alloc ?_ _)); exact BK134.out) hb)
                               have n3_ := Aside0.mk (below_step (by repeat (first | (with_reducible first | exact HB.out | apply below_alloc | apply pw_below_drewN | apply below_drew1 | refine below_set ?_ GE134.out) | exact HB.out)) hb)
                               clear HO_8
                               clear HO_10
                               clear BK134
                               clear HB
                               have HO_8 := n0_
                               have HO_10 := n1_
                               have BK134 := n2_
                               have HB := n3_
                               clear n0_ n1_ n2_ n3_
                               (try clear hb)
                               (try clear hb2)
                               (try clear hk)
                               (try clear hi)
                               refine hK.out _ _ ⟨(blk_cell BK134.out 0).trans rfl, (blk_cell BK134.out 1).trans rfl, (blk_cell BK134.out 2).trans rfl, (blk_cell BK134.out 3).trans rfl, HS4_⟩ (fun hHeld => ?_)
                               clear hK K
                               refine norm_ (a' := ?_) ?_ ?_
                               rotate_left
                               · show Act.put _ (some 58) _ = _
                                 simp only [Act.put, List.setIfInBounds_toArray, List.set_cons_zero, List.set_cons_succ, i64_w, i32_w]
                                 rfl
                               refine pure_ (i := 8) (N := some 59) (v := ?_) (a' := ?_) #[true, true, true, true, true, true, true, true, true, false] rfl rfl (any_of HT_.out (by kernel_rfl)) (fun _ _ _ h => h) (Or.inl ⟨by rfl, ?_⟩) ?_ ?_
                               rotate_left
                               · intro w'
                                 go_simp
                                 with_reducible rfl
                               rotate_left
                               · simp only [Act.put, List.setIfInBounds_toArray, List.set_cons_zero, List.set_cons_succ, i64_w, i32_w]
                                 rfl
                               refine pure_ (i := 9) (N := some 16) (v := ?_) (a' := ?_) #[true, true, true, true, true, true, true, true, true, true] rfl rfl (any_of HT_.out (by kernel_rfl)) (fun _ _ _ h => h) (Or.inl ⟨by rfl, ?_⟩) ?_ ?_
                               rotate_left
                               · intro w'
                                 go_simp
                                 with_reducible rfl
                               rotate_left
                               · simp only [Act.put, List.setIfInBounds_toArray, List.set_cons_zero, List.set_cons_succ, i64_w, i32_w]
                                 rfl
                               refine done_ (done_of HT_.out (by kernel_rfl)) ?_
                               have hcz59_0 : w58.cell? ⟨gb134, 0, none⟩ = some (.int .i64 ((rd_T28 l1 x42_3).f0)) := (blk_cell BK134.out 0).trans rfl
                               have hcz59_1 : w58.cell? ⟨gb134, 1, none⟩ = some (.int .i64 ((rd_T28 l1 x42_3).f1)) := (blk_cell BK134.out 1).trans rfl
                               have hcz59_2 : w58.cell? ⟨gb134, 2, none⟩ = some (.int .i64 ((rd_T28 l1 x42_3).f2)) := (blk_cell BK134.out 2).trans rfl
                               have hcz59_3 : w58.cell? ⟨gb134, 3, none⟩ = some (.int .i64 ((rd_T28 l1 x42_3).f3)) := (blk_cell BK134.out 3).trans rfl
                               have hfz59_0 := blk_frozen BK134.out 0
                               have hfz59_1 := blk_frozen BK134.out 1
                               have hfz59_2 := blk_frozen BK134.out 2
                               have hfz59_3 := blk_frozen BK134.out 3
                               have p138 : 0 ≤ (((rd_T28 l1 x42_3).f1) : Int) := of_decide_eq_true (by first | (with_reducible assumption) | assumption)
                               have q138 : ((rd_T28 l1 x42_3).f1) < (x8_3.length : Int) := of_decide_eq_true (by first | (with_reducible assumption) | assumption)
                               obtain ⟨ad138, e138, hx138_0⟩ := Kd.at_int (Kd.R_reads' HO_8.out).2.2 ((rd_T28 l1 x42_3).f1) p138 q138
                               obtain rfl : ad136 = ad138 := (by injection e138)
                               replace p138 := eq_true p138
                               replace q138 := eq_true q138
                               try go_wp2
                               go_roundg k3
                               case measure => have := HK1.out; have := HK2.out; have := HK3.out; omega
                               case rel => exact ⟨(x8_3), (x10_3), (x13_3), (wrap64 (x42_3 + 1)), (by first | rfl | (simp; done) | (simp [*]; done)), (by first | rfl | (simp; done) | (simp [*]; done)), H', ⟨by have := HK1.out; have := HK2.out; have := HK3.out; omega⟩, ⟨by (try simp only [hl8_1]); (with_reducible repeat (first | apply Kd.R_alloc | apply Kd.R_drewN | apply Kd.R_drew)); exact HO_8.out⟩, ⟨by (try simp only [hl8_1]); (with_reducible repeat (first | apply Kd.R_alloc | apply Kd.R_drewN | apply Kd.R_drew)); exact HO_10.out⟩, ⟨by repeat (first | (with_reducible first | exact HB.out | apply below_alloc | apply pw_below_drewN | apply below_drew1 | refine below_set ?_ GE134.out) | exact HB.out)⟩⟩
                           · rw [if_neg c35] at H
                             exact absurd H (by simp)
                         · rw [if_neg c34] at H
                           exact absurd H (by simp)
                       · rw [if_neg c32] at H
                         exact absurd H (by simp)
                     · rw [if_neg c31] at H
                       exact absurd H (by simp)
                   · replace c30 := Bool.eq_false_iff.mpr c30
                     subst c30
                     have H1 : (diffcons_After.l2 k3 t123 l1 a2 x8_3 x10_3 x12_2 x13_3 l1 (l1.length : Int) (wrap64 (x42_3 + 1))) = some (r1, r2) := by rw [if_neg (show ¬ (false = true) by decide)] at H; exact H
                     clear H
                     have H := H1
                     clear H1
                     have H' := Aside0.mk H
                     clear H
                     have p133 : 0 ≤ (x42_3 : Int) := of_decide_eq_true (by first | (with_reducible assumption) | assumption)
                     have q133 : x42_3 < (l1.length : Int) := of_decide_eq_true (by first | (with_reducible assumption) | assumption)
                     obtain ⟨ad133, e133, hx133_0, hx133_1, hx133_2, hx133_3⟩ := at_T28 HR1.out x42_3 p133 q133
                     cases e133
                     replace hx133_0 := (HB.out.cell (World.block_lt_of_cell? w _ hx133_0)).trans hx133_0
                     replace hx133_1 := (HB.out.cell (World.block_lt_of_cell? w _ hx133_1)).trans hx133_1
                     replace hx133_2 := (HB.out.cell (World.block_lt_of_cell? w _ hx133_2)).trans hx133_2
                     replace hx133_3 := (HB.out.cell (World.block_lt_of_cell? w _ hx133_3)).trans hx133_3
                     replace p133 := eq_true p133
                     replace q133 := eq_true q133
                     go_wp2_with (first | ((with_reducible refine gate_dst (N := 15) rfl ?_); refine box_event ?hg (N := 15) ?hd (cs := #[.int .i64 0, .int .i64 0, .int .i64 0, .int .i64 0]) (t := 28) ?hr ?_; (case hd => rfl); (case hg => rfl); (case hr => first | (go_simp; done) | (go_simp; rfl)); intro gb134 hg w60 hbox hb; have n0_ := Aside0.mk (Kd.R_below (by (with_reducible repeat (first | apply Kd.R_alloc | apply Kd.R_drewN | apply Kd.R_drew)); exact HO_8.out) hb); have n1_ := Aside0.mk (Kd.R_below (by (with_reducible repeat (first | apply Kd.R_alloc | apply Kd.R_drewN | apply Kd.R_drew)); exact HO_10.out) hb); have n2_ := Aside0.mk (below_step (by repeat (first | (with_reducible first | exact HB.out | apply below_alloc | apply pw_below_drewN | apply below_drew1) | exact HB.out)) hb); have n3_ := Aside0.mk (hbox); have n4_ := Aside0.mk ((by rw [hg]; exact (below_size (by repeat (first | (with_reducible first | exact HB.out | apply below_alloc | apply pw_below_drewN | apply below_drew1) | exact HB.out))) : w.heap.size ≤ gb134)); have n5_ := Aside0.mk ((by rw [hg]; exact (below_size (by repeat (first | (with_reducible first | exact HB.out | apply below_alloc | apply pw_below_drewN | apply below_drew1) | exact HB.out))) : w.heap.size ≤ gb134)); clear HO_8; clear HO_10; clear HB; have HO_8 := n0_; have HO_10 := n1_; have HB := n2_; have BK134 := n3_; have GW134 := n4_; have GE134 := n5_; clear n0_ n1_ n2_ n3_ n4_ n5_; clear hb hbox hg; have hcz61_0 : w60.cell? ⟨gb134, 0, none⟩ = some (.int .i64 0) := (blk_cell BK134.out 0).trans rfl; have hcz61_1 : w60.cell? ⟨gb134, 1, none⟩ = some (.int .i64 0) := (blk_cell BK134.out 1).trans rfl; have hcz61_2 : w60.cell? ⟨gb134, 2, none⟩ = some (.int .i64 0) := (blk_cell BK134.out 2).trans rfl; have hcz61_3 : w60.cell? ⟨gb134, 3, none⟩ = some (.int .i64 0) := (blk_cell BK134.out 3).trans rfl; have hfz61_0 := blk_frozen BK134.out 0; have hfz61_1 := blk_frozen BK134.out 1; have hfz61_2 := blk_frozen BK134.out 2; have hfz61_3 := blk_frozen BK134.out 3) | ((with_reducible refine gate_callee (f := 31) rfl ?_); refine goesL_ (some 49) rfl rfl Try.func31 (by kernel_rfl) rfl #[.agg #[.int .i64 ((rd_T28 l1 x42_3).f0), .int .i64 ((rd_T28 l1 x42_3).f1), .int .i64 ((rd_T28 l1 x42_3).f2), .int .i64 ((rd_T28 l1 x42_3).f3)], .int .i64 t123] rfl (by (try simp only [List.map_toArray, List.map_cons, List.map_nil]); first | done | rfl | (simp only [List.length_drop, List.length_take]; rfl)) ?_; (with_reducible refine (diffcons_within.calls ((rd_T28 l1 x42_3).f0) ((rd_T28 l1 x42_3).f1) ((rd_T28 l1 x42_3).f2) ((rd_T28 l1 x42_3).f3) t123 false _ A29.out).mono ?_); rintro e w62 ⟨rfl, hb⟩; refine ⟨_, rfl, ?_⟩; have n0_ := Aside0.mk (Kd.R_below (by (with_reducible repeat (first | apply Kd.R_alloc | apply Kd.R_drewN | apply Kd.R_drew)); exact (Kd.R_mono (Kd.R_far (p := ⟨gb134, 3, none⟩) (Kd.R_far (p := ⟨gb134, 2, none⟩) (Kd.R_far (p := ⟨gb134, 1, none⟩) (Kd.R_far (p := ⟨gb134, 0, none⟩) (Kd.R_types HO_8.out BK134.out (by decide)) (fun _ hk => hk.2) (.int .i64 ((rd_T28 l1 x42_3).f0))) (fun _ hk => hk.2) (.int .i64 ((rd_T28 l1 x42_3).f1))) (fun _ hk => hk.2) (.int .i64 ((rd_T28 l1 x42_3).f2))) (fun _ hk => hk.2) (.int .i64 ((rd_T28 l1 x42_3).f3))) (fun _ h_ => h_.1))) hb); have n1_ := Aside0.mk (Kd.R_below (by (with_reducible repeat (first | apply Kd.R_alloc | apply Kd.R_drewN | apply Kd.R_drew)); exact (Kd.R_mono (Kd.R_far (p := ⟨gb134, 3, none⟩) (Kd.R_far (p := ⟨gb134, 2, none⟩) (Kd.R_far (p := ⟨gb134, 1, none⟩) (Kd.R_far (p := ⟨gb134, 0, none⟩) (Kd.R_types HO_10.out BK134.out (by decide)) (fun _ hk => hk.2) (.int .i64 ((rd_T28 l1 x42_3).f0))) (fun _ hk => hk.2) (.int .i64 ((rd_T28 l1 x42_3).f1))) (fun _ hk => hk.2) (.int .i64 ((rd_T28 l1 x42_3).f2))) (fun _ hk => hk.2) (.int .i64 ((rd_T28 l1 x42_3).f3))) (fun _ h_ => h_.1))) hb); have n2_ := Aside0.mk (blk_below (g := gb134) (o := .cells #[.int .i64 ((rd_T28 l1 x42_3).f0), .int .i64 ((rd_T28 l1 x42_3).f1), .int .i64 ((rd_T28 l1 x42_3).f2), .int .i64 ((rd_T28 l1 x42_3).f3)] 28 (0, 0)) (by (with_reducible repeat (first | refine blk_drewN ?_ _ | refine blk_drew ?_ | refine blk_alloc ?_ _)); refine blk_put (cs := #[.int .i64 ((rd_T28 l1 x42_3).f0), .int .i64 ((rd_T28 l1 x42_3).f1), .int .i64 ((rd_T28 l1 x42_3).f2), .int .i64 0]) ?_ 3 _ rfl; (with_reducible repeat (first | refine blk_drewN ?_ _ | refine blk_drew ?_ | refine blk_alloc ?_ _)); refine blk_put (cs := #[.int .i64 ((rd_T28 l1 x42_3).f0), .int .i64 ((rd_T28 l1 x42_3).f1), .int .i64 0, .int .i64 0]) ?_ 2 _ rfl; (with_reducible repeat (first | refine blk_drewN ?_ _ | refine blk_drew ?_ | refine blk_alloc ?_ _)); refine blk_put (cs := #[.int .i64 ((rd_T28 l1 x42_3).f0), .int .i64 0, .int .i64 0, .int .i64 0]) ?_ 1 _ rfl; (with_reducible repeat (first | refine blk_drewN ?_ _ | refine blk_drew ?_ | refine blk_alloc ?_ _)); refine blk_put (cs := #[.int .i64 0, .int .i64 0, .int .i64 0, .int .i64 0]) ?_ 0 _ rfl; (with_reducible repeat (first | refine blk_drewN ?_ _ | refine blk_drew ?_ | refine blk_alloc ?_ _)); exact BK134.out) hb); have n3_ := Aside0.mk (below_step (by repeat (first | (with_reducible first | exact HB.out | apply below_alloc | apply pw_below_drewN | apply below_drew1 | refine below_set ?_ GE134.out) | exact HB.out)) hb); clear HO_8; clear HO_10; clear BK134; clear HB; have HO_8 := n0_; have HO_10 := n1_; have BK134 := n2_; have HB := n3_; clear n0_ n1_ n2_ n3_; (try clear hb); (try clear hb2); (try clear hk); (try clear hi)))
                     go_roundg k3
                     case measure => have := HK1.out; have := HK2.out; have := HK3.out; omega
                     case rel => exact ⟨(x8_3), (x10_3), (x13_3), (wrap64 (x42_3 + 1)), (by first | rfl | (simp; done) | (simp [*]; done)), (by first | rfl | (simp; done) | (simp [*]; done)), H', ⟨by have := HK1.out; have := HK2.out; have := HK3.out; omega⟩, ⟨by (try simp only [hl8_1]); (with_reducible repeat (first | apply Kd.R_alloc | apply Kd.R_drewN | apply Kd.R_drew)); exact HO_8.out⟩, ⟨by (try simp only [hl8_1]); (with_reducible repeat (first | apply Kd.R_alloc | apply Kd.R_drewN | apply Kd.R_drew)); exact HO_10.out⟩, ⟨by repeat (first | (with_reducible first | exact HB.out | apply below_alloc | apply pw_below_drewN | apply below_drew1 | refine below_set ?_ GE134.out) | exact HB.out)⟩⟩
                 · rw [if_neg c28] at H
                   exact absurd H (by simp)
               · rw [if_neg c27] at H
                 exact absurd H (by simp)
             · rw [if_neg c26] at H
               have c26b0 : decide (x42_3 < (l1.length : Int)) = false := decide_eq_false c26
               (try (have c26b0z := c26b0; simp only [hl8_1] at c26b0z))
               clear c26
               by_cases c63 : x13_3 < 0
               · rw [if_pos c63] at H
                 have c63b0 : decide (x13_3 < 0) = true := decide_eq_true c63
                 clear c63
                 simp only [Option.some.injEq, Prod.mk.injEq] at H
                 obtain ⟨rfl, rfl⟩ := H
                 go_wp2
                 go_ret2
                 exact ⟨_, _, by first | rfl | (simp [errW_none, errW_some] <;> rfl) | (simp [*, errW_none, errW_some] <;> rfl), by (with_reducible repeat (first | apply Kd.R_alloc | apply Kd.R_drewN | apply Kd.R_drew)); exact Kd.R_mono HO_8.out (fun _ hk => (by simp [Value.ownBlock])), by first | exact Kd.R_nil _ _ _ _ _ | exact Kd.N_nil _ _ _ _ _ | exact Kd.V_nil _ _ _ _ _ | exact Kd.Q_nil _ _ _ _ _ | exact Kd.S_nil _ _ _ _ _, by repeat (first | (with_reducible first | exact HB.out | apply below_alloc | apply pw_below_drewN | apply below_drew1) | exact HB.out)⟩
               · rw [if_neg c63] at H
                 have c63b0 : decide (x13_3 < 0) = false := decide_eq_false c63
                 clear c63
                 by_cases c64 : x12_2 ≥ t123
                 · rw [if_pos c64] at H
                   have c64b0 : decide (t123 ≤ x12_2) = true := decide_eq_true c64
                   clear c64
                   replace H := Option.bind_eq_some_iff.mp H
                   obtain ⟨t141, A650, H⟩ := H
                   replace H : (some (([] : List Int), t141)) = some (r1, r2) := H
                   have A65 := Aside0.mk A650
                   clear A650
                   simp only [Option.some.injEq, Prod.mk.injEq] at H
                   obtain ⟨rfl, rfl⟩ := H
                   obtain ⟨Ao66, co66, eo66⟩ := Kd.R_slice HO_10.out
                   subst eo66
                   go_wp2_with (first | ((with_reducible refine gate_callee (f := 32) rfl ?_); refine goesL_ (some 90) rfl rfl Try.func32 (by kernel_rfl) rfl #[.slice A1 l1.length c1, .slice Ao66 x10_3.length co66, .int .i64 x13_3, .int .i64 t123] rfl (by (try simp only [List.map_toArray, List.map_cons, List.map_nil]); first | done | rfl | (simp only [List.length_drop, List.length_take]; rfl)) ?_; (with_reducible refine (diffcons_around.calls k3 _ _ l1 _ _ x10_3 x13_3 t123 t141 _ ?side1 ?side2 ?side3 ?side4 A65.out).mono ?_); (case side1 => repeat (first | exact (Kd.C_below HR1.out HB.out) | (with_reducible refine Kd.C_alloc ?_ _) | (with_reducible refine Kd.C_drewN ?_ _) | (with_reducible refine Kd.C_drew ?_))); (case side2 => exact HC1.out); (case side3 => repeat (first | exact (Kd.R_reads' HO_10.out).2.2 | (with_reducible refine Kd.C_alloc ?_ _) | (with_reducible refine Kd.C_drewN ?_ _) | (with_reducible refine Kd.C_drew ?_))); (case side4 => exact (Kd.R_reads' HO_10.out).2.1); rintro e w67 ⟨v142, rfl, ho0, hb⟩; refine ⟨_, rfl, ?_⟩; have n0_ := Aside0.mk (Kd.R_elder' (by (with_reducible repeat (first | apply Kd.R_alloc | apply Kd.R_drewN | apply Kd.R_drew)); exact HO_8.out) (Kd.R_base ho0) hb); have n1_ := Aside0.mk (Kd.R_elder' (by (with_reducible repeat (first | apply Kd.R_alloc | apply Kd.R_drewN | apply Kd.R_drew)); exact HO_10.out) (Kd.R_base ho0) hb); have n2_ := Aside0.mk (Kd.R_lower (Kd.R_new' (Kd.R_new' ho0 (Kd.R_lt (by (with_reducible repeat (first | apply Kd.R_alloc | apply Kd.R_drewN | apply Kd.R_drew)); exact HO_8.out))) (Kd.R_lt (by (with_reducible repeat (first | apply Kd.R_alloc | apply Kd.R_drewN | apply Kd.R_drew)); exact HO_10.out))) (below_size (by repeat (first | (with_reducible first | exact HB.out | apply below_alloc | apply pw_below_drewN | apply below_drew1) | exact HB.out)))); have n3_ := Aside0.mk (below_step (by repeat (first | (with_reducible first | exact HB.out | apply below_alloc | apply pw_below_drewN | apply below_drew1) | exact HB.out)) hb); clear HO_8; clear HO_10; clear HB; have HO_8 := n0_; have HO_10 := n1_; have HO143 := n2_; have HB := n3_; clear n0_ n1_ n2_ n3_; (try clear hb); (try clear hb2); (try clear hk); (try clear hi); (try clear ho0)))
                   go_ret2
                   exact ⟨_, _, by first | rfl | (simp [errW_none, errW_some] <;> rfl) | (simp [*, errW_none, errW_some] <;> rfl), by first | exact Kd.R_nil _ _ _ _ _ | exact Kd.N_nil _ _ _ _ _ | exact Kd.V_nil _ _ _ _ _ | exact Kd.Q_nil _ _ _ _ _ | exact Kd.S_nil _ _ _ _ _, by (with_reducible repeat (first | apply Kd.R_alloc | apply Kd.R_drewN | apply Kd.R_drew)); exact Kd.R_mono HO143.out (fun _ hk => (by simp [Value.ownBlock])), by repeat (first | (with_reducible first | exact HB.out | apply below_alloc | apply pw_below_drewN | apply below_drew1) | exact HB.out)⟩
                 · rw [if_neg c64] at H
                   have c64b0 : decide (t123 ≤ x12_2) = false := decide_eq_false c64
                   clear c64
                   have H' := Aside0.mk H
                   clear H
                   go_wp2
                   go_roundg k3
                   case measure => have := HK1.out; have := HK2.out; have := HK3.out; omega
                   case rel => exact ⟨(x8_3), (x10_3), (wrap64 (x12_2 + 1)), (by first | rfl | (simp; done) | (simp [*]; done)), H', ⟨by have := HK1.out; have := HK2.out; have := HK3.out; omega⟩, ⟨by (try simp only [hl8_1]); (with_reducible repeat (first | apply Kd.R_alloc | apply Kd.R_drewN | apply Kd.R_drew)); exact HO_8.out⟩, ⟨by (try simp only [hl8_1]); (with_reducible repeat (first | apply Kd.R_alloc | apply Kd.R_drewN | apply Kd.R_drew)); exact HO_10.out⟩, ⟨by repeat (first | (with_reducible first | exact HB.out | apply below_alloc | apply pw_below_drewN | apply below_drew1) | exact HB.out)⟩⟩
   · rw [if_neg c7] at H
     exact absurd H (by simp)
 · rw [if_neg c6] at H
   exact absurd H (by simp)
def diffcons_Earliest.f (k : Nat) (a0 : Int) (l1 : List (S28)) (a2 : Int) : Option (List Int × List Int) := (diffcons_After.f k a0 l1 a2 ([] : List Int)).bind fun bt144 => (some (bt144.1, bt144.2))
theorem diffcons_Earliest.mono : ∀ a0 a1 a2 k, LeO (diffcons_Earliest.f k a0 a1 a2) (diffcons_Earliest.f (k + 1) a0 a1 a2) := by
 intro a0 a1 a2 k
 unfold diffcons_Earliest.f
 repeat' first
  | (with_reducible exact diffcons_After.mono _ _ _ _ _)
  | (with_reducible exact LeO.refl _)
  | (with_reducible exact LeO.none _)
  | (with_reducible refine LeO.ite ?_ ?_)
  | (with_reducible refine LeO.bind ?_ (fun _ => ?_))
  | exact diffcons_After.mono _ _ _ _ _
  | exact LeO.none _
  | refine LeO.ite ?_ ?_
  | refine LeO.bind ?_ (fun _ => ?_)
set_option maxHeartbeats 8000000 in set_option maxRecDepth 100000 in theorem diffcons_Earliest.calls (k : Nat) (a0 : Int) (A1 : Option Addr) (c1 : Nat) (l1 : List (S28)) (a2 : Int) (r1 : List Int) (r2 : List Int) (w : World) (hr1 : Kd.C k28 w A1 l1.length l1) (hc1 : l1.length ≤ c1) (h : diffcons_Earliest.f k a0 l1 a2 = some (r1, r2)) :
 Calls Try.prog 13 #[.int .i64 a0, .slice A1 l1.length c1, .int .i64 a2] w fun e w' => ∃ v0_ v1_ : Value, e = .returned (.tuple #[v0_, v1_]) ∧ Kd.R (Kd.int .i64) 3 w' w.heap.size (fun k_ => some k_ ≠ (v1_ : Value).ownBlock) v0_ r1 ∧ Kd.R (Kd.int .i64) 3 w' w.heap.size (fun k_ => some k_ ≠ (v0_ : Value).ownBlock) v1_ r2 ∧ Below w.heap.size w w' := by
 have HR1 := Aside0.mk hr1
 have HC1 := Aside0.mk hc1
 clear hr1 hc1
 have HB := Aside0.mk (Below.refl w.heap.size w)
 have H : ((diffcons_After.f k a0 l1 a2 ([] : List Int)).bind fun bt144 => (some (bt144.1, bt144.2))) = some (r1, r2) := h
 clear h
 replace H := Option.bind_eq_some_iff.mp H
 obtain ⟨⟨t144, t145⟩, A40, H⟩ := H
 replace H : (some (t144, t145)) = some (r1, r2) := H
 have A4 := Aside0.mk A40
 clear A40
 simp only [Option.some.injEq, Prod.mk.injEq] at H
 obtain ⟨rfl, rfl⟩ := H
 go_enter Try.func13, Try.ntmps13
 go_wp2_with (first | ((with_reducible refine gate_callee (f := 17) rfl ?_); refine goesL_ (some 11) rfl rfl Try.func17 (by kernel_rfl) rfl #[.int .i64 a0, .slice A1 l1.length c1, .int .i64 a2, .slice none 0 0] rfl (by (try simp only [List.map_toArray, List.map_cons, List.map_nil]); first | done | rfl | (simp only [List.length_drop, List.length_take]; rfl)) ?_; (refine (diffcons_After.calls k a0 _ _ l1 a2 _ _ ([] : List Int) t144 t145 _ ?side1 ?side2 ?side3 ?side4 A4.out).mono ?_); (case side1 => repeat (first | exact HR1.out | (with_reducible refine Kd.C_alloc ?_ _) | (with_reducible refine Kd.C_drewN ?_ _) | (with_reducible refine Kd.C_drew ?_))); (case side2 => exact HC1.out); (case side3 => exact Kd.C_nil _ _); (case side4 => exact Nat.le_refl _); rintro e w5 ⟨v146, v148, rfl, ho0, ho1, hb⟩; refine ⟨_, rfl, ?_⟩; have n0_ := Aside0.mk (Kd.R_lower ho0 (below_size (by repeat (first | (with_reducible first | exact HB.out | apply below_alloc | apply pw_below_drewN | apply below_drew1) | exact HB.out)))); have n1_ := Aside0.mk (Kd.R_lower ho1 (below_size (by repeat (first | (with_reducible first | exact HB.out | apply below_alloc | apply pw_below_drewN | apply below_drew1) | exact HB.out)))); have n2_ := Aside0.mk (below_step (by repeat (first | (with_reducible first | exact HB.out | apply below_alloc | apply pw_below_drewN | apply below_drew1) | exact HB.out)) hb); clear HB; have HO147 := n0_; have HO149 := n1_; have HB := n2_; clear n0_ n1_ n2_; (try clear hb); (try clear hb2); (try clear hk); (try clear hi); (try clear ho0); (try clear ho1)))
 go_ret2
 exact ⟨_, _, by first | rfl | (simp [errW_none, errW_some] <;> rfl) | (simp [*, errW_none, errW_some] <;> rfl), by (with_reducible repeat (first | apply Kd.R_alloc | apply Kd.R_drewN | apply Kd.R_drew)); exact HO147.out, by (with_reducible repeat (first | apply Kd.R_alloc | apply Kd.R_drewN | apply Kd.R_drew)); exact HO149.out, by repeat (first | (with_reducible first | exact HB.out | apply below_alloc | apply pw_below_drewN | apply below_drew1) | exact HB.out)⟩
def jacquardlaw30_awake.f (k : Nat)  : Option (Bool) := (diffcons_Earliest.f k 2 (([(⟨0, 1, 3, 0⟩ : S28)] : List (S28))) 1).bind fun bt153 => (if (bt153.1.length : Int) = 2 then (if 1 < (bt153.1.length : Int) then (some ((rd bt153.1 1) == 3)) else (none)) else (some false))
theorem jacquardlaw30_awake.mono : ∀ k, LeO (jacquardlaw30_awake.f k ) (jacquardlaw30_awake.f (k + 1) ) := by
 intro  k
 unfold jacquardlaw30_awake.f
 repeat' first
  | (with_reducible exact diffcons_Earliest.mono _ _ _ _)
  | (with_reducible exact LeO.refl _)
  | (with_reducible exact LeO.none _)
  | (with_reducible refine LeO.ite ?_ ?_)
  | (with_reducible refine LeO.bind ?_ (fun _ => ?_))
  | exact diffcons_Earliest.mono _ _ _ _
  | exact LeO.none _
  | refine LeO.ite ?_ ?_
  | refine LeO.bind ?_ (fun _ => ?_)
set_option maxHeartbeats 8000000 in set_option maxRecDepth 100000 in theorem jacquardlaw30_awake.calls (k : Nat)  (r : Bool) (w : World) (h : jacquardlaw30_awake.f k  = some r) :
 Calls Try.prog 11 #[] w fun e w' => e = .returned (.bool r) ∧ Below w.heap.size w w' := by
 have hu28 := Try.underlying28
 have HB := Aside0.mk (Below.refl w.heap.size w)
 have H : ((diffcons_Earliest.f k 2 (([(⟨0, 1, 3, 0⟩ : S28)] : List (S28))) 1).bind fun bt153 => (if (bt153.1.length : Int) = 2 then (if 1 < (bt153.1.length : Int) then (some ((rd bt153.1 1) == 3)) else (none)) else (some false))) = some r := h
 clear h
 obtain ⟨y150, hy150⟩ : ∃ y_ : List (S28), y_ = (([(⟨0, 1, 3, 0⟩ : S28)] : List (S28))) := ⟨_, rfl⟩
 replace H : ((diffcons_Earliest.f k 2 y150 1).bind fun bt153 => (if (bt153.1.length : Int) = 2 then (if 1 < (bt153.1.length : Int) then (some ((rd bt153.1 1) == 3)) else (none)) else (some false))) = some r := by first | (rw [hy150]; with_reducible exact H) | (have H2_ := (Option.bind_some _ _).symm.trans H; rw [hy150]; with_reducible exact H2_) | (have H2_ := (Option.bind_some _ _).symm.trans H; with_reducible exact H2_) | with_reducible exact H | (rw [hy150]; exact H) | exact H
 have Ny150 := Aside0.mk hy150
 clear hy150
 replace H := Option.bind_eq_some_iff.mp H
 obtain ⟨⟨t153, t154⟩, A10, H⟩ := H
 replace H : (if (t153.length : Int) = 2 then (if 1 < (t153.length : Int) then (some ((rd t153 1) == 3)) else (none)) else (some false)) = some r := H
 have A1 := Aside0.mk A10
 clear A10
 by_cases c2 : (t153.length : Int) = 2
 · rw [if_pos c2] at H
   have c2b0 : ((t153.length : Int) == 2) = true := beq_iff_eq.mpr c2
   have c2b1 : ((t153.length : Int) != 2) = false := bne_eq_false_iff_eq.mpr c2
   clear c2
   by_cases c3 : 1 < (t153.length : Int)
   · rw [if_pos c3] at H
     have c3b0 : decide (1 < (t153.length : Int)) = true := decide_eq_true c3
     have c3b1 : decide (1 < t153.length) = true := decide_eq_true (by omega)
     clear c3
     obtain rfl := Option.some.inj H
     go_enter Try.func11, Try.ntmps11
     go_wp2_with (first | ((with_reducible refine gate_dst (N := 5) rfl ?_); refine Kd.R_lit k28 _ 28 ?hg (N := 5) ?hd (xs := ([(⟨0, 1, 3, 0⟩ : S28)] : List (S28))) (inner := [.int .i64 0, .int .i64 1, .int .i64 3, .int .i64 0]) (ok := fun _ => True) (okp := fun _ => True) ?hr ?hp (fun _ hk => hk) trivial (Below.refl _ _) (Nat.le_refl _) (by simp) ?_; (case hd => rfl); (case hg => rfl); (case hr => first | (go_simp; done) | (go_simp; rfl)); (case hp => exact (Reps.c4 (show Kd.M k28 _ _ _ (⟨0, 1, 3, 0⟩ : S28) [.int .i64 0, .int .i64 1, .int .i64 3, .int .i64 0] from (k28_mkM _ _ _ (⟨0, 1, 3, 0⟩ : S28) )) (Reps.none _ _))); intro v151 w4 ho5 hb hg_ hnew_; clear hg_ hnew_; (first | rw [← Ny150.out] at ho5 | (simp only [Int.reduceToNat] at ho5; rw [← Ny150.out] at ho5)); have n0_ := Aside0.mk (Kd.R_lower ho5 (below_size (by repeat (first | (with_reducible first | exact HB.out | apply below_alloc | apply pw_below_drewN | apply below_drew1) | exact HB.out)))); have n1_ := Aside0.mk (below_step (by repeat (first | (with_reducible first | exact HB.out | apply below_alloc | apply pw_below_drewN | apply below_drew1) | exact HB.out)) hb); clear HB; have HO152 := n0_; have HB := n1_; clear n0_ n1_; clear hb ho5; obtain ⟨Ao6, co6, eo6⟩ := Kd.R_slice HO152.out; subst eo6) | ((with_reducible refine gate_callee (f := 13) rfl ?_); refine goesL_ (some 6) rfl rfl Try.func13 (by kernel_rfl) rfl #[.int .i64 2, .slice Ao6 y150.length co6, .int .i64 1] rfl (by (try simp only [List.map_toArray, List.map_cons, List.map_nil]); first | done | rfl | (simp only [List.length_drop, List.length_take]; rfl)) ?_; (with_reducible refine (diffcons_Earliest.calls k 2 _ _ y150 1 t153 t154 _ ?side1 ?side2 A1.out).mono ?_); (case side1 => repeat (first | exact (Kd.R_reads' HO152.out).2.2 | (with_reducible refine Kd.C_alloc ?_ _) | (with_reducible refine Kd.C_drewN ?_ _) | (with_reducible refine Kd.C_drew ?_))); (case side2 => exact (Kd.R_reads' HO152.out).2.1); rintro e w7 ⟨v155, v157, rfl, ho0, ho1, hb⟩; refine ⟨_, rfl, ?_⟩; have n0_ := Aside0.mk (Kd.R_below (by (with_reducible repeat (first | apply Kd.R_alloc | apply Kd.R_drewN | apply Kd.R_drew)); exact HO152.out) hb); have n1_ := Aside0.mk (Kd.R_lower ho0 (below_size (by repeat (first | (with_reducible first | exact HB.out | apply below_alloc | apply pw_below_drewN | apply below_drew1) | exact HB.out)))); have n2_ := Aside0.mk (Kd.R_lower ho1 (below_size (by repeat (first | (with_reducible first | exact HB.out | apply below_alloc | apply pw_below_drewN | apply below_drew1) | exact HB.out)))); have n3_ := Aside0.mk (below_step (by repeat (first | (with_reducible first | exact HB.out | apply below_alloc | apply pw_below_drewN | apply below_drew1) | exact HB.out)) hb); clear HO152; clear HB; have HO152 := n0_; have HO156 := n1_; have HO158 := n2_; have HB := n3_; clear n0_ n1_ n2_ n3_; (try clear hb); (try clear hb2); (try clear hk); (try clear hi); (try clear ho0); (try clear ho1); obtain ⟨Ao8, co8, eo8⟩ := Kd.R_slice HO156.out; subst eo8; have p159 : 0 ≤ (1 : Int) := (by omega); have q159 : 1 < (t153.length : Int) := of_decide_eq_true (by first | (with_reducible assumption) | assumption); obtain ⟨ad159, e159, hx159_0⟩ := Kd.at_int (Kd.R_reads' HO156.out).2.2 1 p159 q159; cases e159; (try simp only [show (1 : Int).toNat = 1 from rfl, Nat.reduceMul, Nat.reduceEqDiff, Go.Addr.add, ↓reduceIte] at hx159_0); have qi159 : (1 < t153.length) = True := eq_true (by omega); (try rw [show ((1 : Int)).toNat = 1 from rfl] at hx159_0); replace p159 := eq_true p159; replace q159 := eq_true q159))
     go_ret
     exact ⟨by first | rfl | (simp [errW_none, errW_some] <;> rfl) | (simp [*, errW_none, errW_some] <;> rfl), by repeat (first | (with_reducible first | exact HB.out | apply below_alloc | apply pw_below_drewN | apply below_drew1) | exact HB.out)⟩
   · rw [if_neg c3] at H
     exact absurd H (by simp)
 · rw [if_neg c2] at H
   have c2b0 : ((t153.length : Int) == 2) = false := beq_eq_false_iff_ne.mpr c2
   have c2b1 : ((t153.length : Int) != 2) = true := bne_iff_ne.mpr c2
   obtain rfl := Option.some.inj H
   go_enter Try.func11, Try.ntmps11
   go_wp2_with (first | ((with_reducible refine gate_dst (N := 5) rfl ?_); refine Kd.R_lit k28 _ 28 ?hg (N := 5) ?hd (xs := ([(⟨0, 1, 3, 0⟩ : S28)] : List (S28))) (inner := [.int .i64 0, .int .i64 1, .int .i64 3, .int .i64 0]) (ok := fun _ => True) (okp := fun _ => True) ?hr ?hp (fun _ hk => hk) trivial (Below.refl _ _) (Nat.le_refl _) (by simp) ?_; (case hd => rfl); (case hg => rfl); (case hr => first | (go_simp; done) | (go_simp; rfl)); (case hp => exact (Reps.c4 (show Kd.M k28 _ _ _ (⟨0, 1, 3, 0⟩ : S28) [.int .i64 0, .int .i64 1, .int .i64 3, .int .i64 0] from (k28_mkM _ _ _ (⟨0, 1, 3, 0⟩ : S28) )) (Reps.none _ _))); intro v151 w9 ho10 hb hg_ hnew_; clear hg_ hnew_; (first | rw [← Ny150.out] at ho10 | (simp only [Int.reduceToNat] at ho10; rw [← Ny150.out] at ho10)); have n0_ := Aside0.mk (Kd.R_lower ho10 (below_size (by repeat (first | (with_reducible first | exact HB.out | apply below_alloc | apply pw_below_drewN | apply below_drew1) | exact HB.out)))); have n1_ := Aside0.mk (below_step (by repeat (first | (with_reducible first | exact HB.out | apply below_alloc | apply pw_below_drewN | apply below_drew1) | exact HB.out)) hb); clear HB; have HO152 := n0_; have HB := n1_; clear n0_ n1_; clear hb ho10; obtain ⟨Ao11, co11, eo11⟩ := Kd.R_slice HO152.out; subst eo11) | ((with_reducible refine gate_callee (f := 13) rfl ?_); refine goesL_ (some 6) rfl rfl Try.func13 (by kernel_rfl) rfl #[.int .i64 2, .slice Ao11 y150.length co11, .int .i64 1] rfl (by (try simp only [List.map_toArray, List.map_cons, List.map_nil]); first | done | rfl | (simp only [List.length_drop, List.length_take]; rfl)) ?_; (with_reducible refine (diffcons_Earliest.calls k 2 _ _ y150 1 t153 t154 _ ?side1 ?side2 A1.out).mono ?_); (case side1 => repeat (first | exact (Kd.R_reads' HO152.out).2.2 | (with_reducible refine Kd.C_alloc ?_ _) | (with_reducible refine Kd.C_drewN ?_ _) | (with_reducible refine Kd.C_drew ?_))); (case side2 => exact (Kd.R_reads' HO152.out).2.1); rintro e w12 ⟨v155, v157, rfl, ho0, ho1, hb⟩; refine ⟨_, rfl, ?_⟩; have n0_ := Aside0.mk (Kd.R_below (by (with_reducible repeat (first | apply Kd.R_alloc | apply Kd.R_drewN | apply Kd.R_drew)); exact HO152.out) hb); have n1_ := Aside0.mk (Kd.R_lower ho0 (below_size (by repeat (first | (with_reducible first | exact HB.out | apply below_alloc | apply pw_below_drewN | apply below_drew1) | exact HB.out)))); have n2_ := Aside0.mk (Kd.R_lower ho1 (below_size (by repeat (first | (with_reducible first | exact HB.out | apply below_alloc | apply pw_below_drewN | apply below_drew1) | exact HB.out)))); have n3_ := Aside0.mk (below_step (by repeat (first | (with_reducible first | exact HB.out | apply below_alloc | apply pw_below_drewN | apply below_drew1) | exact HB.out)) hb); clear HO152; clear HB; have HO152 := n0_; have HO156 := n1_; have HO158 := n2_; have HB := n3_; clear n0_ n1_ n2_ n3_; (try clear hb); (try clear hb2); (try clear hk); (try clear hi); (try clear ho0); (try clear ho1); obtain ⟨Ao13, co13, eo13⟩ := Kd.R_slice HO156.out; subst eo13))
   go_ret
   exact ⟨by first | rfl | (simp [errW_none, errW_some] <;> rfl) | (simp [*, errW_none, errW_some] <;> rfl), by repeat (first | (with_reducible first | exact HB.out | apply below_alloc | apply pw_below_drewN | apply below_drew1) | exact HB.out)⟩
end Go.Proofs.Ytflefelgdcblgaa.Q
