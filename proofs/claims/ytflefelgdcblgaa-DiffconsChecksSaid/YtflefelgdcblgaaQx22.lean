-- Printed by a program of this session (gprint.py, which runs the kit's print.py): Lean checks it.
import Derived.Test.YtflefelgdcblgaaQx0
import Derived.Test.YtflefelgdcblgaaQx1
import Derived.Test.YtflefelgdcblgaaQx3
import Derived.Test.YtflefelgdcblgaaQx4
import Derived.Test.YtflefelgdcblgaaQx6
import Derived.Test.YtflefelgdcblgaaQx9
import Derived.Test.YtflefelgdcblgaaQx10
import Derived.Test.YtflefelgdcblgaaQx16
import Derived.Test.YtflefelgdcblgaaQx21
namespace Go.Proofs.Ytflefelgdcblgaa.Q
open Go.RowKit Go.Proofs.YtflefelgdcblgaaW.PrintWords Go.Proofs.YtflefelgdcblgaaW.PrintLast Go.Proofs.YtflefelgdcblgaaW.PrintMore
attribute [local go_sem] max2_int min2_int max_two min_two max_three min_three max_four min_four   -- for this text's walks alone
set_option linter.unusedVariables false
set_option linter.unusedSimpArgs false
mutual
def jacquardlaw30_DiffconsChecks.j0 : Nat → List Int → List Int → Bool → Int → List (S28) → Int → Option (Bool)
 | 0, _, _, _, _, _, _ => none
 | k + 1, x1, x2, x28, x409000, x409001, x409002 => if x28 = true then ((jacquardlaw30_awake.f k).bind fun t411 => (some t411)) else (jacquardlaw30_DiffconsChecks.l0 k x1 x2 (x409001.length : Int) 0 x409000 x409001 x409002)
def jacquardlaw30_DiffconsChecks.l0 : Nat → List Int → List Int → Int → Int → Int → List (S28) → Int → Option (Bool)
 | 0, _, _, _, _, _, _, _ => none
 | k + 1, x1, x2, x32, x33, x409000, x409001, x409002 => if x33 < x32 then (if 0 ≤ x33 then (if x33 < (x409001.length : Int) then ((diffcons_Weight.f ((rd_T28 x409001 x33).f0) ((rd_T28 x409001 x33).f1) ((rd_T28 x409001 x33).f2) ((rd_T28 x409001 x33).f3) x409002).bind fun t413 => ((jacquardref30_Weight.f ((rd_T28 x409001 x33).f0) ((rd_T28 x409001 x33).f1) ((rd_T28 x409001 x33).f2) ((rd_T28 x409001 x33).f3) x409002).bind fun t415 => (if t413 = t415 then (jacquardlaw30_DiffconsChecks.l0 k x1 x2 x32 (wrap64 (x33 + 1)) x409000 x409001 x409002) else (some false)))) else (none)) else (none)) else ((diffcons_Positive.f x409000 x409001 x409002 x1).bind fun bt416 => ((jacquardref30_Positive.f k x409000 x409001 x409002 x1).bind fun bt418 => (if bt416.1 = bt418.1 then (if (bt416.2 == bt418.2) = true then ((diffcons_Violated.f x409000 x409001 x409002 x2).bind fun t420 => ((jacquardref30_Violated.f k x409000 x409001 x409002 x2).bind fun t421 => (some (t420 == t421)))) else (some false)) else (some false))))
end
def jacquardlaw30_DiffconsChecks.f (k : Nat) (a0_0 : Int) (l0_1 : List (S28)) (a0_2 : Int) (l1 : List Int) (l2 : List Int) : Option (Bool) := (jacquardlaw30_awake.f k).bind fun t409 => (if t409 = true then ((jacquardlaw30_few.f a0_0 l0_1 a0_2).bind fun t410 => (if t410 = true then (if (l1.length : Int) > 30 then (jacquardlaw30_DiffconsChecks.j0 k l1 l2 true a0_0 l0_1 a0_2) else (jacquardlaw30_DiffconsChecks.j0 k l1 l2 (decide ((l2.length : Int) > 30)) a0_0 l0_1 a0_2)) else (jacquardlaw30_DiffconsChecks.j0 k l1 l2 true a0_0 l0_1 a0_2))) else (jacquardlaw30_DiffconsChecks.j0 k l1 l2 true a0_0 l0_1 a0_2))
def jacquardlaw30_DiffconsChecks.T6 : Bool × List (List Nat × List Nat) := (true, [([], []), ([0], [0]), ([], []), ([1, 2], [1, 2]), ([3], [3]), ([], []), ([5], [5]), ([4, 6], [4, 6]), ([], []), ([8], [8]), ([], []), ([9, 10], [9, 10]), ([11], [11]), ([], []), ([13], [13]), ([12, 14, 7], [12, 14]), ([7, 15], [7, 15])])
def jacquardlaw30_DiffconsChecks.B6 : List Nat := [0, 1, 0, 7, 15, 0, 32, 127, 0, 256, 0, 1792, 3840, 0, 8192, 32767, 65535]
theorem jacquardlaw30_DiffconsChecks.tab6 : rtab .any (opsOf Try.f9 6) = jacquardlaw30_DiffconsChecks.T6 := by kernel_rfl
theorem jacquardlaw30_DiffconsChecks.bits6 : waitsOk jacquardlaw30_DiffconsChecks.T6.2 jacquardlaw30_DiffconsChecks.B6 = true := by kernel_rfl
def jacquardlaw30_DiffconsChecks.T11 : Bool × List (List Nat × List Nat) := (true, [([], []), ([], []), ([0, 1], [0, 1]), ([2], [2]), ([3], [3]), ([3], [3]), ([4, 5, 3], [3, 4, 5]), ([3, 6], [3, 6]), ([7, 3], [7]), ([8], [8]), ([9, 8], [8, 9]), ([8], [8]), ([11, 8], [8, 11]), ([8], [8]), ([13, 8], [8, 13]), ([8], [8]), ([10, 12, 14, 15, 8, 8], [8, 10, 12, 14, 15]), ([8], [8]), ([17, 8], [8, 17]), ([8], [8]), ([19, 8], [8, 19]), ([8], [8]), ([21, 8], [8, 21]), ([8], [8]), ([18, 20, 22, 23, 16, 8], [8, 18, 20, 22, 23]), ([16, 24, 8], [8, 16, 24]), ([8, 25], [8, 25]), ([26, 24, 0, 1, 2, 3, 4, 5, 6, 7, 8, 9, 10, 11, 12, 13, 14, 15, 16, 17, 18, 19, 20, 21, 22, 23, 24, 25, 26], [26])])
def jacquardlaw30_DiffconsChecks.B11 : List Nat := [0, 0, 3, 7, 15, 15, 63, 127, 255, 511, 1023, 511, 2559, 511, 8703, 511, 65535, 511, 131583, 511, 524799, 511, 2097663, 511, 16777215, 33554431, 67108863, 134217727]
theorem jacquardlaw30_DiffconsChecks.tab11 : rtab .any (opsOf Try.f9 11) = jacquardlaw30_DiffconsChecks.T11 := by kernel_rfl
theorem jacquardlaw30_DiffconsChecks.bits11 : waitsOk jacquardlaw30_DiffconsChecks.T11.2 jacquardlaw30_DiffconsChecks.B11 = true := by kernel_rfl
set_option maxHeartbeats 8000000 in set_option maxRecDepth 100000 in theorem jacquardlaw30_DiffconsChecks.calls (k : Nat) (a0_0 : Int) (A0_1 : Option Addr) (c0_1 : Nat) (l0_1 : List (S28)) (a0_2 : Int) (A1 : Option Addr) (c1 : Nat) (l1 : List Int) (A2 : Option Addr) (c2 : Nat) (l2 : List Int) (r : Bool) (w : World) (hr0_1 : Kd.C k28 w A0_1 l0_1.length l0_1) (hc0_1 : l0_1.length ≤ c0_1) (hr1 : Kd.C (Kd.int .i64) w A1 l1.length l1) (hc1 : l1.length ≤ c1) (hr2 : Kd.C (Kd.int .i64) w A2 l2.length l2) (hc2 : l2.length ≤ c2) (h : jacquardlaw30_DiffconsChecks.f k a0_0 l0_1 a0_2 l1 l2 = some r) :
 Calls Try.prog 9 #[.agg #[.int .i64 a0_0, .slice A0_1 l0_1.length c0_1, .int .i64 a0_2], .slice A1 l1.length c1, .slice A2 l2.length c2] w fun e w' => e = .returned (.bool r) ∧ Below w.heap.size w w' := by
 have hu24 := Try.underlying24
 have hu28 := Try.underlying28
 have HR0_1 := Aside0.mk hr0_1
 have HC0_1 := Aside0.mk hc0_1
 clear hr0_1 hc0_1
 have HR1 := Aside0.mk hr1
 have HC1 := Aside0.mk hc1
 clear hr1 hc1
 have HR2 := Aside0.mk hr2
 have HC2 := Aside0.mk hc2
 clear hr2 hc2
 have HB := Aside0.mk (Below.refl w.heap.size w)
 have H : ((jacquardlaw30_awake.f k).bind fun t409 => (if t409 = true then ((jacquardlaw30_few.f a0_0 l0_1 a0_2).bind fun t410 => (if t410 = true then (if (l1.length : Int) > 30 then (jacquardlaw30_DiffconsChecks.j0 k l1 l2 true a0_0 l0_1 a0_2) else (jacquardlaw30_DiffconsChecks.j0 k l1 l2 (decide ((l2.length : Int) > 30)) a0_0 l0_1 a0_2)) else (jacquardlaw30_DiffconsChecks.j0 k l1 l2 true a0_0 l0_1 a0_2))) else (jacquardlaw30_DiffconsChecks.j0 k l1 l2 true a0_0 l0_1 a0_2))) = some r := h
 clear h
 have HC4 := Aside0.mk H
 clear H
 go_enter Try.func9, Try.ntmps9
 go_upto_region 1 with (first | ((with_reducible refine gate_dst (N := 3) rfl ?_); (try (refine gate_guard (by rfl) ?_; dsimp only)); refine box_event ?hg (N := 3) ?hd (cs := #[.int .i64 a0_0, .slice A0_1 l0_1.length c0_1, .int .i64 a0_2]) (t := 24) ?hr ?_; (case hd => rfl); (case hg => rfl); (case hr => first | (go_simp; done) | (go_simp; rfl)); intro gb408 hg w5 hbox hb; have n0_ := Aside0.mk (below_step (by repeat (first | (with_reducible first | exact HB.out | apply below_alloc | apply pw_below_drewN | apply below_drew1) | exact HB.out)) hb); have n1_ := Aside0.mk (hbox); have n2_ := Aside0.mk ((by rw [hg]; exact (below_size (by repeat (first | (with_reducible first | exact HB.out | apply below_alloc | apply pw_below_drewN | apply below_drew1) | exact HB.out))) : w.heap.size ≤ gb408)); have n3_ := Aside0.mk ((by rw [hg]; exact (below_size (by repeat (first | (with_reducible first | exact HB.out | apply below_alloc | apply pw_below_drewN | apply below_drew1) | exact HB.out))) : w.heap.size ≤ gb408)); clear HB; have HB := n0_; have BK408 := n1_; have GW408 := n2_; have GE408 := n3_; clear n0_ n1_ n2_ n3_; clear hb hbox hg))
 (try simp only [Act.put, List.setIfInBounds_toArray, List.set_cons_zero, List.set_cons_succ])
 go_cut [28] (fun v28 wc => ∃ (kq : Nat) (x28_3 : Bool), v28 = .bool x28_3 ∧ Aside0 (jacquardlaw30_DiffconsChecks.j0 kq l1 l2 x28_3 a0_0 l0_1 a0_2 = some r) ∧ Aside0 (kq ≤ k) ∧ Aside0 (wc.heap[gb408]? = some (.cells #[.int .i64 a0_0, (.slice A0_1 l0_1.length c0_1), .int .i64 a0_2] 24 (0, 0))) ∧ Aside0 (Below w.heap.size w wc))
 case first =>
  have H := HC4.out
  clear HC4
  replace H := Option.bind_eq_some_iff.mp H
  obtain ⟨t409, A60, H⟩ := H
  replace H : (if t409 = true then ((jacquardlaw30_few.f a0_0 l0_1 a0_2).bind fun t410 => (if t410 = true then (if (l1.length : Int) > 30 then (jacquardlaw30_DiffconsChecks.j0 k l1 l2 true a0_0 l0_1 a0_2) else (jacquardlaw30_DiffconsChecks.j0 k l1 l2 (decide ((l2.length : Int) > 30)) a0_0 l0_1 a0_2)) else (jacquardlaw30_DiffconsChecks.j0 k l1 l2 true a0_0 l0_1 a0_2))) else (jacquardlaw30_DiffconsChecks.j0 k l1 l2 true a0_0 l0_1 a0_2)) = some r := H
  have A6 := Aside0.mk A60
  clear A60
  by_cases c7 : t409 = true
  · subst c7
    have H1 : ((jacquardlaw30_few.f a0_0 l0_1 a0_2).bind fun t410 => (if t410 = true then (if (l1.length : Int) > 30 then (jacquardlaw30_DiffconsChecks.j0 k l1 l2 true a0_0 l0_1 a0_2) else (jacquardlaw30_DiffconsChecks.j0 k l1 l2 (decide ((l2.length : Int) > 30)) a0_0 l0_1 a0_2)) else (jacquardlaw30_DiffconsChecks.j0 k l1 l2 true a0_0 l0_1 a0_2))) = some r := by rw [if_pos rfl] at H; exact H
    clear H
    have H := H1
    clear H1
    replace H := Option.bind_eq_some_iff.mp H
    obtain ⟨t410, A80, H⟩ := H
    replace H : (if t410 = true then (if (l1.length : Int) > 30 then (jacquardlaw30_DiffconsChecks.j0 k l1 l2 true a0_0 l0_1 a0_2) else (jacquardlaw30_DiffconsChecks.j0 k l1 l2 (decide ((l2.length : Int) > 30)) a0_0 l0_1 a0_2)) else (jacquardlaw30_DiffconsChecks.j0 k l1 l2 true a0_0 l0_1 a0_2)) = some r := H
    have A8 := Aside0.mk A80
    clear A80
    by_cases c9 : t410 = true
    · subst c9
      have H1 : (if (l1.length : Int) > 30 then (jacquardlaw30_DiffconsChecks.j0 k l1 l2 true a0_0 l0_1 a0_2) else (jacquardlaw30_DiffconsChecks.j0 k l1 l2 (decide ((l2.length : Int) > 30)) a0_0 l0_1 a0_2)) = some r := by rw [if_pos rfl] at H; exact H
      clear H
      have H := H1
      clear H1
      by_cases c10 : (l1.length : Int) > 30
      · rw [if_pos c10] at H
        have c10b0 : decide (30 < (l1.length : Int)) = true := decide_eq_true c10
        have c10b1 : decide (30 < l1.length) = true := decide_eq_true (by omega)
        clear c10
        (first | rw [c10b0] | (simp only [i64_w, i32_w]; rw [c10b0]) | skip)
        have H' := Aside0.mk H
        clear H
        go_wp2_with (first | ((with_reducible refine gate_callee (f := 11) rfl ?_); refine goesL_ (some 12) rfl rfl Try.func11 (by kernel_rfl) rfl #[] rfl (by (try simp only [List.map_toArray, List.map_cons, List.map_nil]); first | done | rfl | (simp only [List.length_drop, List.length_take]; rfl)) ?_; (with_reducible refine (jacquardlaw30_awake.calls k  true _ A6.out).mono ?_); rintro e w11 ⟨rfl, hb⟩; refine ⟨_, rfl, ?_⟩; have n0_ := Aside0.mk (blk_below (g := gb408) (o := .cells #[.int .i64 a0_0, .slice A0_1 l0_1.length c0_1, .int .i64 a0_2] 24 (0, 0)) (by (with_reducible repeat (first | refine blk_drewN ?_ _ | refine blk_drew ?_ | refine blk_alloc ?_ _)); exact BK408.out) hb); have n1_ := Aside0.mk (below_step (by repeat (first | (with_reducible first | exact HB.out | apply below_alloc | apply pw_below_drewN | apply below_drew1 | refine below_set ?_ GE408.out) | exact HB.out)) hb); clear BK408; clear HB; have BK408 := n0_; have HB := n1_; clear n0_ n1_; (try clear hb); (try clear hb2); (try clear hk); (try clear hi); have hcz12_0 : w11.cell? ⟨gb408, 0, none⟩ = some (.int .i64 a0_0) := (blk_cell BK408.out 0).trans rfl; have hcz12_1 : w11.cell? ⟨gb408, 1, none⟩ = some (.slice A0_1 l0_1.length c0_1) := (blk_cell BK408.out 1).trans rfl; have hcz12_2 : w11.cell? ⟨gb408, 2, none⟩ = some (.int .i64 a0_2) := (blk_cell BK408.out 2).trans rfl; have hfz12_0 := blk_frozen BK408.out 0; have hfz12_1 := blk_frozen BK408.out 1; have hfz12_2 := blk_frozen BK408.out 2) | (go_at_call 12; (with_reducible refine (jacquardlaw30_few.calls a0_0 _ _ l0_1 a0_2 true _ ?side1 ?side2 A8.out).mono ?_); (case side1 => repeat (first | exact (Kd.C_below HR0_1.out HB.out) | (with_reducible refine Kd.C_alloc ?_ _) | (with_reducible refine Kd.C_drewN ?_ _) | (with_reducible refine Kd.C_drew ?_))); (case side2 => exact HC0_1.out); rintro e w13 ⟨rfl, hb⟩; have n0_ := Aside0.mk (blk_below (g := gb408) (o := .cells #[.int .i64 a0_0, .slice A0_1 l0_1.length c0_1, .int .i64 a0_2] 24 (0, 0)) (by (with_reducible repeat (first | refine blk_drewN ?_ _ | refine blk_drew ?_ | refine blk_alloc ?_ _)); exact BK408.out) hb); have n1_ := Aside0.mk (below_step (by repeat (first | (with_reducible first | exact HB.out | apply below_alloc | apply pw_below_drewN | apply below_drew1 | refine below_set ?_ GE408.out) | exact HB.out)) hb); clear BK408; clear HB; have BK408 := n0_; have HB := n1_; clear n0_ n1_; (try clear hb); (try clear hb2); (try clear hk); (try clear hi)))
        go_meet
        case rel => exact ⟨_, (true), (by first | rfl | (simp; done) | (simp [*]; done)), H', ⟨by first | omega | exact Nat.le_refl _⟩, ⟨by (with_reducible repeat (first | refine blk_drewN ?_ _ | refine blk_drew ?_ | refine blk_alloc ?_ _)); exact BK408.out⟩, ⟨by repeat (first | (with_reducible first | exact HB.out | apply below_alloc | apply pw_below_drewN | apply below_drew1 | refine below_set ?_ GE408.out) | exact HB.out)⟩⟩
      · rw [if_neg c10] at H
        have c10b0 : decide (30 < (l1.length : Int)) = false := decide_eq_false c10
        have c10b1 : decide (30 < l1.length) = false := decide_eq_false (by omega)
        clear c10
        (first | rw [c10b0] | (simp only [i64_w, i32_w]; rw [c10b0]) | skip)
        have H' := Aside0.mk H
        clear H
        go_wp2_with (first | ((with_reducible refine gate_callee (f := 11) rfl ?_); refine goesL_ (some 12) rfl rfl Try.func11 (by kernel_rfl) rfl #[] rfl (by (try simp only [List.map_toArray, List.map_cons, List.map_nil]); first | done | rfl | (simp only [List.length_drop, List.length_take]; rfl)) ?_; (with_reducible refine (jacquardlaw30_awake.calls k  true _ A6.out).mono ?_); rintro e w14 ⟨rfl, hb⟩; refine ⟨_, rfl, ?_⟩; have n0_ := Aside0.mk (blk_below (g := gb408) (o := .cells #[.int .i64 a0_0, .slice A0_1 l0_1.length c0_1, .int .i64 a0_2] 24 (0, 0)) (by (with_reducible repeat (first | refine blk_drewN ?_ _ | refine blk_drew ?_ | refine blk_alloc ?_ _)); exact BK408.out) hb); have n1_ := Aside0.mk (below_step (by repeat (first | (with_reducible first | exact HB.out | apply below_alloc | apply pw_below_drewN | apply below_drew1 | refine below_set ?_ GE408.out) | exact HB.out)) hb); clear BK408; clear HB; have BK408 := n0_; have HB := n1_; clear n0_ n1_; (try clear hb); (try clear hb2); (try clear hk); (try clear hi); have hcz15_0 : w14.cell? ⟨gb408, 0, none⟩ = some (.int .i64 a0_0) := (blk_cell BK408.out 0).trans rfl; have hcz15_1 : w14.cell? ⟨gb408, 1, none⟩ = some (.slice A0_1 l0_1.length c0_1) := (blk_cell BK408.out 1).trans rfl; have hcz15_2 : w14.cell? ⟨gb408, 2, none⟩ = some (.int .i64 a0_2) := (blk_cell BK408.out 2).trans rfl; have hfz15_0 := blk_frozen BK408.out 0; have hfz15_1 := blk_frozen BK408.out 1; have hfz15_2 := blk_frozen BK408.out 2) | (go_at_call 12; (with_reducible refine (jacquardlaw30_few.calls a0_0 _ _ l0_1 a0_2 true _ ?side1 ?side2 A8.out).mono ?_); (case side1 => repeat (first | exact (Kd.C_below HR0_1.out HB.out) | (with_reducible refine Kd.C_alloc ?_ _) | (with_reducible refine Kd.C_drewN ?_ _) | (with_reducible refine Kd.C_drew ?_))); (case side2 => exact HC0_1.out); rintro e w16 ⟨rfl, hb⟩; have n0_ := Aside0.mk (blk_below (g := gb408) (o := .cells #[.int .i64 a0_0, .slice A0_1 l0_1.length c0_1, .int .i64 a0_2] 24 (0, 0)) (by (with_reducible repeat (first | refine blk_drewN ?_ _ | refine blk_drew ?_ | refine blk_alloc ?_ _)); exact BK408.out) hb); have n1_ := Aside0.mk (below_step (by repeat (first | (with_reducible first | exact HB.out | apply below_alloc | apply pw_below_drewN | apply below_drew1 | refine below_set ?_ GE408.out) | exact HB.out)) hb); clear BK408; clear HB; have BK408 := n0_; have HB := n1_; clear n0_ n1_; (try clear hb); (try clear hb2); (try clear hk); (try clear hi)))
        go_meet
        case rel => exact ⟨_, (decide ((l2.length : Int) > 30)), (by first | rfl | (simp; done) | (simp [*]; done)), H', ⟨by first | omega | exact Nat.le_refl _⟩, ⟨by (with_reducible repeat (first | refine blk_drewN ?_ _ | refine blk_drew ?_ | refine blk_alloc ?_ _)); exact BK408.out⟩, ⟨by repeat (first | (with_reducible first | exact HB.out | apply below_alloc | apply pw_below_drewN | apply below_drew1 | refine below_set ?_ GE408.out) | exact HB.out)⟩⟩
    · replace c9 := Bool.eq_false_iff.mpr c9
      subst c9
      have H1 : (jacquardlaw30_DiffconsChecks.j0 k l1 l2 true a0_0 l0_1 a0_2) = some r := by rw [if_neg (show ¬ (false = true) by decide)] at H; exact H
      clear H
      have H := H1
      clear H1
      have H' := Aside0.mk H
      clear H
      go_wp2_with (first | ((with_reducible refine gate_callee (f := 11) rfl ?_); refine goesL_ (some 12) rfl rfl Try.func11 (by kernel_rfl) rfl #[] rfl (by (try simp only [List.map_toArray, List.map_cons, List.map_nil]); first | done | rfl | (simp only [List.length_drop, List.length_take]; rfl)) ?_; (with_reducible refine (jacquardlaw30_awake.calls k  true _ A6.out).mono ?_); rintro e w17 ⟨rfl, hb⟩; refine ⟨_, rfl, ?_⟩; have n0_ := Aside0.mk (blk_below (g := gb408) (o := .cells #[.int .i64 a0_0, .slice A0_1 l0_1.length c0_1, .int .i64 a0_2] 24 (0, 0)) (by (with_reducible repeat (first | refine blk_drewN ?_ _ | refine blk_drew ?_ | refine blk_alloc ?_ _)); exact BK408.out) hb); have n1_ := Aside0.mk (below_step (by repeat (first | (with_reducible first | exact HB.out | apply below_alloc | apply pw_below_drewN | apply below_drew1 | refine below_set ?_ GE408.out) | exact HB.out)) hb); clear BK408; clear HB; have BK408 := n0_; have HB := n1_; clear n0_ n1_; (try clear hb); (try clear hb2); (try clear hk); (try clear hi); have hcz18_0 : w17.cell? ⟨gb408, 0, none⟩ = some (.int .i64 a0_0) := (blk_cell BK408.out 0).trans rfl; have hcz18_1 : w17.cell? ⟨gb408, 1, none⟩ = some (.slice A0_1 l0_1.length c0_1) := (blk_cell BK408.out 1).trans rfl; have hcz18_2 : w17.cell? ⟨gb408, 2, none⟩ = some (.int .i64 a0_2) := (blk_cell BK408.out 2).trans rfl; have hfz18_0 := blk_frozen BK408.out 0; have hfz18_1 := blk_frozen BK408.out 1; have hfz18_2 := blk_frozen BK408.out 2) | (go_at_call 12; (with_reducible refine (jacquardlaw30_few.calls a0_0 _ _ l0_1 a0_2 false _ ?side1 ?side2 A8.out).mono ?_); (case side1 => repeat (first | exact (Kd.C_below HR0_1.out HB.out) | (with_reducible refine Kd.C_alloc ?_ _) | (with_reducible refine Kd.C_drewN ?_ _) | (with_reducible refine Kd.C_drew ?_))); (case side2 => exact HC0_1.out); rintro e w19 ⟨rfl, hb⟩; have n0_ := Aside0.mk (blk_below (g := gb408) (o := .cells #[.int .i64 a0_0, .slice A0_1 l0_1.length c0_1, .int .i64 a0_2] 24 (0, 0)) (by (with_reducible repeat (first | refine blk_drewN ?_ _ | refine blk_drew ?_ | refine blk_alloc ?_ _)); exact BK408.out) hb); have n1_ := Aside0.mk (below_step (by repeat (first | (with_reducible first | exact HB.out | apply below_alloc | apply pw_below_drewN | apply below_drew1 | refine below_set ?_ GE408.out) | exact HB.out)) hb); clear BK408; clear HB; have BK408 := n0_; have HB := n1_; clear n0_ n1_; (try clear hb); (try clear hb2); (try clear hk); (try clear hi)))
      go_meet
      case rel => exact ⟨_, (true), (by first | rfl | (simp; done) | (simp [*]; done)), H', ⟨by first | omega | exact Nat.le_refl _⟩, ⟨by (with_reducible repeat (first | refine blk_drewN ?_ _ | refine blk_drew ?_ | refine blk_alloc ?_ _)); exact BK408.out⟩, ⟨by repeat (first | (with_reducible first | exact HB.out | apply below_alloc | apply pw_below_drewN | apply below_drew1 | refine below_set ?_ GE408.out) | exact HB.out)⟩⟩
  · replace c7 := Bool.eq_false_iff.mpr c7
    subst c7
    have H1 : (jacquardlaw30_DiffconsChecks.j0 k l1 l2 true a0_0 l0_1 a0_2) = some r := by rw [if_neg (show ¬ (false = true) by decide)] at H; exact H
    clear H
    have H := H1
    clear H1
    have H' := Aside0.mk H
    clear H
    go_wp2_with (first | ((with_reducible refine gate_callee (f := 11) rfl ?_); refine goesL_ (some 12) rfl rfl Try.func11 (by kernel_rfl) rfl #[] rfl (by (try simp only [List.map_toArray, List.map_cons, List.map_nil]); first | done | rfl | (simp only [List.length_drop, List.length_take]; rfl)) ?_; (with_reducible refine (jacquardlaw30_awake.calls k  false _ A6.out).mono ?_); rintro e w20 ⟨rfl, hb⟩; refine ⟨_, rfl, ?_⟩; have n0_ := Aside0.mk (blk_below (g := gb408) (o := .cells #[.int .i64 a0_0, .slice A0_1 l0_1.length c0_1, .int .i64 a0_2] 24 (0, 0)) (by (with_reducible repeat (first | refine blk_drewN ?_ _ | refine blk_drew ?_ | refine blk_alloc ?_ _)); exact BK408.out) hb); have n1_ := Aside0.mk (below_step (by repeat (first | (with_reducible first | exact HB.out | apply below_alloc | apply pw_below_drewN | apply below_drew1 | refine below_set ?_ GE408.out) | exact HB.out)) hb); clear BK408; clear HB; have BK408 := n0_; have HB := n1_; clear n0_ n1_; (try clear hb); (try clear hb2); (try clear hk); (try clear hi)))
    go_meet
    case rel => exact ⟨_, (true), (by first | rfl | (simp; done) | (simp [*]; done)), H', ⟨by first | omega | exact Nat.le_refl _⟩, ⟨by (with_reducible repeat (first | refine blk_drewN ?_ _ | refine blk_drew ?_ | refine blk_alloc ?_ _)); exact BK408.out⟩, ⟨by repeat (first | (with_reducible first | exact HB.out | apply below_alloc | apply pw_below_drewN | apply below_drew1 | refine below_set ?_ GE408.out) | exact HB.out)⟩⟩
 case rest =>
  clear HC4
  try clear c1
  try clear c2
  try clear p2
  try clear c7
  try clear c9
  try clear c10
  try clear c10b0
  try clear c10b1
  try clear c11
  try clear hcz12_0
  try clear hcz12_1
  try clear hcz12_2
  try clear hcz15_0
  try clear hcz15_1
  try clear hcz15_2
  try clear hcz18_0
  try clear hcz18_1
  try clear hcz18_2
  try clear hfz12_0
  try clear hfz12_1
  try clear hfz12_2
  try clear hfz15_0
  try clear hfz15_1
  try clear hfz15_2
  try clear hfz18_0
  try clear hfz18_1
  try clear hfz18_2
  obtain ⟨kq, x28_3, rfl, HA, HJ3, BK408, HB⟩ := hcut
  cases kq with
  | zero => exact absurd HA.out (by simp [jacquardlaw30_DiffconsChecks.j0])
  | succ kj3 =>
   have H := HA.out
   clear HA
   simp only [jacquardlaw30_DiffconsChecks.j0] at H
   by_cases c21 : x28_3 = true
   · subst c21
     have H1 : ((jacquardlaw30_awake.f kj3).bind fun t411 => (some t411)) = some r := by rw [if_pos rfl] at H; exact H
     clear H
     have H := H1
     clear H1
     replace H := Option.bind_eq_some_iff.mp H
     obtain ⟨t411, A220, H⟩ := H
     replace H : (some t411) = some r := H
     have A22 := Aside0.mk A220
     clear A220
     obtain rfl := Option.some.inj H
     go_wp2_with (first | ((with_reducible refine gate_callee (f := 11) rfl ?_); refine goesL_ (some 29) rfl rfl Try.func11 (by kernel_rfl) rfl #[] rfl (by (try simp only [List.map_toArray, List.map_cons, List.map_nil]); first | done | rfl | (simp only [List.length_drop, List.length_take]; rfl)) ?_; (with_reducible refine (jacquardlaw30_awake.calls kj3  t411 _ A22.out).mono ?_); rintro e w23 ⟨rfl, hb⟩; refine ⟨_, rfl, ?_⟩; have n0_ := Aside0.mk (blk_below (g := gb408) (o := .cells #[.int .i64 a0_0, .slice A0_1 l0_1.length c0_1, .int .i64 a0_2] 24 (0, 0)) (by (with_reducible repeat (first | refine blk_drewN ?_ _ | refine blk_drew ?_ | refine blk_alloc ?_ _)); exact BK408.out) hb); have n1_ := Aside0.mk (below_step (by repeat (first | (with_reducible first | exact HB.out | apply below_alloc | apply pw_below_drewN | apply below_drew1 | refine below_set ?_ GE408.out) | exact HB.out)) hb); clear BK408; clear HB; have BK408 := n0_; have HB := n1_; clear n0_ n1_; (try clear hb); (try clear hb2); (try clear hk); (try clear hi)))
     go_ret
     exact ⟨by first | rfl | (simp [errW_none, errW_some] <;> rfl) | (simp [*, errW_none, errW_some] <;> rfl), by repeat (first | (with_reducible first | exact HB.out | apply below_alloc | apply pw_below_drewN | apply below_drew1 | refine below_set ?_ GE408.out) | exact HB.out)⟩
   · replace c21 := Bool.eq_false_iff.mpr c21
     subst c21
     have H1 : (jacquardlaw30_DiffconsChecks.l0 kj3 l1 l2 (l0_1.length : Int) 0 a0_0 l0_1 a0_2) = some r := by rw [if_neg (show ¬ (false = true) by decide)] at H; exact H
     clear H
     have H := H1
     clear H1
     have H' := Aside0.mk H
     clear H
     have hcz24_0 : wc.cell? ⟨gb408, 0, none⟩ = some (.int .i64 a0_0) := (blk_cell BK408.out 0).trans rfl
     have hcz24_1 : wc.cell? ⟨gb408, 1, none⟩ = some (.slice A0_1 l0_1.length c0_1) := (blk_cell BK408.out 1).trans rfl
     have hcz24_2 : wc.cell? ⟨gb408, 2, none⟩ = some (.int .i64 a0_2) := (blk_cell BK408.out 2).trans rfl
     have hfz24_0 := blk_frozen BK408.out 0
     have hfz24_1 := blk_frozen BK408.out 1
     have hfz24_2 := blk_frozen BK408.out 2
     go_wp2
     go_loopg [33] kj3 (fun kq v33 w' => ∃ (x33_2 : Int), v33 = .int .i64 x33_2 ∧ Aside0 (jacquardlaw30_DiffconsChecks.l0 kq l1 l2 (l0_1.length : Int) x33_2 a0_0 l0_1 a0_2 = some r) ∧ Aside0 (kq ≤ kj3) ∧ Aside0 (w'.heap[gb408]? = some (.cells #[.int .i64 a0_0, (.slice A0_1 l0_1.length c0_1), .int .i64 a0_2] 24 (0, 0))) ∧ Aside0 (Below w.heap.size w w'))
     case atStart => exact ⟨(0), (by first | rfl | (simp; done) | (simp [*]; done)), H', ⟨Nat.le_refl _⟩, ⟨by (with_reducible repeat (first | refine blk_drewN ?_ _ | refine blk_drew ?_ | refine blk_alloc ?_ _)); exact BK408.out⟩, ⟨by repeat (first | (with_reducible first | exact HB.out | apply below_alloc | apply pw_below_drewN | apply below_drew1 | refine below_set ?_ GE408.out) | exact HB.out)⟩⟩
     case round =>
      clear H'
      try clear c1
      try clear c2
      try clear p2
      try clear c7
      try clear c9
      try clear c10
      try clear c10b0
      try clear c10b1
      try clear c11
      try clear c21
      try clear hcz12_0
      try clear hcz12_1
      try clear hcz12_2
      try clear hcz15_0
      try clear hcz15_1
      try clear hcz15_2
      try clear hcz18_0
      try clear hcz18_1
      try clear hcz18_2
      try clear hcz24_0
      try clear hcz24_1
      try clear hcz24_2
      try clear hfz12_0
      try clear hfz12_1
      try clear hfz12_2
      try clear hfz15_0
      try clear hfz15_1
      try clear hfz15_2
      try clear hfz18_0
      try clear hfz18_1
      try clear hfz18_2
      try clear hfz24_0
      try clear hfz24_1
      try clear hfz24_2
      try clear p2
      obtain ⟨x33_2, rfl, HA, HK2, BK408, HB⟩ := hrel
      cases gk with
      | zero => exact absurd HA.out (by simp [jacquardlaw30_DiffconsChecks.l0])
      | succ k2 =>
       have H := HA.out
       clear HA
       simp only [jacquardlaw30_DiffconsChecks.l0] at H
       by_cases c25 : x33_2 < (l0_1.length : Int)
       · rw [if_pos c25] at H
         have c25b0 : decide (x33_2 < (l0_1.length : Int)) = true := decide_eq_true c25
         clear c25
         by_cases c26 : 0 ≤ x33_2
         · rw [if_pos c26] at H
           have c26b0 : decide (0 ≤ x33_2) = true := decide_eq_true c26
           clear c26
           by_cases c27 : x33_2 < (l0_1.length : Int)
           · rw [if_pos c27] at H
             have c27b0 : decide (x33_2 < (l0_1.length : Int)) = true := decide_eq_true c27
             clear c27
             replace H := Option.bind_eq_some_iff.mp H
             obtain ⟨t413, A280, H⟩ := H
             replace H : ((jacquardref30_Weight.f ((rd_T28 l0_1 x33_2).f0) ((rd_T28 l0_1 x33_2).f1) ((rd_T28 l0_1 x33_2).f2) ((rd_T28 l0_1 x33_2).f3) a0_2).bind fun t415 => (if t413 = t415 then (jacquardlaw30_DiffconsChecks.l0 k2 l1 l2 (l0_1.length : Int) (wrap64 (x33_2 + 1)) a0_0 l0_1 a0_2) else (some false))) = some r := H
             have A28 := Aside0.mk A280
             clear A280
             replace H := Option.bind_eq_some_iff.mp H
             obtain ⟨t415, A290, H⟩ := H
             replace H : (if t413 = t415 then (jacquardlaw30_DiffconsChecks.l0 k2 l1 l2 (l0_1.length : Int) (wrap64 (x33_2 + 1)) a0_0 l0_1 a0_2) else (some false)) = some r := H
             have A29 := Aside0.mk A290
             clear A290
             by_cases c30 : t413 = t415
             · rw [if_pos c30] at H
               have c30b0 : (t413 == t415) = true := beq_iff_eq.mpr c30
               have c30b1 : (t413 != t415) = false := bne_eq_false_iff_eq.mpr c30
               clear c30
               have H' := Aside0.mk H
               clear H
               try go_wp2
               have n0_ := Aside0.mk (blk_drew BK408.out)
               have n1_ := Aside0.mk (below_drew1 HB.out)
               clear BK408
               clear HB
               have BK408 := n0_
               have HB := n1_
               clear n0_ n1_
               have p412 : 0 ≤ (x33_2 : Int) := of_decide_eq_true (by first | (with_reducible assumption) | assumption)
               have q412 : x33_2 < (l0_1.length : Int) := of_decide_eq_true (by first | (with_reducible assumption) | assumption)
               obtain ⟨ad412, e412, hx412_0, hx412_1, hx412_2, hx412_3⟩ := at_T28 HR0_1.out x33_2 p412 q412
               have hw412_3 := hx412_3
               have hw412_2 := hx412_2
               have hw412_1 := hx412_1
               have hw412_0 := hx412_0
               cases e412
               replace hx412_0 := (HB.out.cell (World.block_lt_of_cell? w _ hx412_0)).trans hx412_0
               replace hx412_1 := (HB.out.cell (World.block_lt_of_cell? w _ hx412_1)).trans hx412_1
               replace hx412_2 := (HB.out.cell (World.block_lt_of_cell? w _ hx412_2)).trans hx412_2
               replace hx412_3 := (HB.out.cell (World.block_lt_of_cell? w _ hx412_3)).trans hx412_3
               replace p412 := eq_true p412
               replace q412 := eq_true q412
               have p414 : 0 ≤ (x33_2 : Int) := of_decide_eq_true (by first | (with_reducible assumption) | assumption)
               have q414 : x33_2 < (l0_1.length : Int) := of_decide_eq_true (by first | (with_reducible assumption) | assumption)
               obtain ⟨ad414, e414, hx414_0, hx414_1, hx414_2, hx414_3⟩ := at_T28 HR0_1.out x33_2 p414 q414
               have hw414_3 := hx414_3
               have hw414_2 := hx414_2
               have hw414_1 := hx414_1
               have hw414_0 := hx414_0
               obtain rfl : ad412 = ad414 := (by injection e414)
               replace hx414_0 := (HB.out.cell (World.block_lt_of_cell? w _ hx414_0)).trans hx414_0
               replace hx414_1 := (HB.out.cell (World.block_lt_of_cell? w _ hx414_1)).trans hx414_1
               replace hx414_2 := (HB.out.cell (World.block_lt_of_cell? w _ hx414_2)).trans hx414_2
               replace hx414_3 := (HB.out.cell (World.block_lt_of_cell? w _ hx414_3)).trans hx414_3
               replace p414 := eq_true p414
               replace q414 := eq_true q414
               refine start_ (n := 17) (S := fun w' => w'.cell? ⟨gb408, 0, none⟩ = some (.int .i64 a0_0) ∧ w'.cell? ⟨gb408, 1, none⟩ = some (.slice (some ad412) l0_1.length c0_1) ∧ w'.cell? ⟨gb408, 2, none⟩ = some (.int .i64 a0_2) ∧ w'.cell? (ad412.add ((x33_2).toNat * 4)) = some (.int .i64 ((rd_T28 l0_1 x33_2).f0)) ∧ w'.cell? ⟨(ad412.add ((x33_2).toNat * 4)).block, (ad412.add ((x33_2).toNat * 4)).off + 1, none⟩ = some (.int .i64 ((rd_T28 l0_1 x33_2).f1)) ∧ w'.cell? ⟨(ad412.add ((x33_2).toNat * 4)).block, (ad412.add ((x33_2).toNat * 4)).off + 2, none⟩ = some (.int .i64 ((rd_T28 l0_1 x33_2).f2)) ∧ w'.cell? ⟨(ad412.add ((x33_2).toNat * 4)).block, (ad412.add ((x33_2).toNat * 4)).off + 3, none⟩ = some (.int .i64 ((rd_T28 l0_1 x33_2).f3)) ∧ w'.cell? (ad412.add ((x33_2).toNat * 4)) = some (.int .i64 ((rd_T28 l0_1 x33_2).f0)) ∧ w'.cell? ⟨(ad412.add ((x33_2).toNat * 4)).block, (ad412.add ((x33_2).toNat * 4)).off + 1, none⟩ = some (.int .i64 ((rd_T28 l0_1 x33_2).f1)) ∧ w'.cell? ⟨(ad412.add ((x33_2).toNat * 4)).block, (ad412.add ((x33_2).toNat * 4)).off + 2, none⟩ = some (.int .i64 ((rd_T28 l0_1 x33_2).f2)) ∧ w'.cell? ⟨(ad412.add ((x33_2).toNat * 4)).block, (ad412.add ((x33_2).toNat * 4)).off + 3, none⟩ = some (.int .i64 ((rd_T28 l0_1 x33_2).f3))) (ds := []) #[false, false, false, false, false, false, false, false, false, false, false, false, false, false, false, false, false] (by kernel_rfl) rfl rfl ⟨(blk_cell BK408.out 0).trans rfl, (blk_cell BK408.out 1).trans rfl, (blk_cell BK408.out 2).trans rfl, ((HB.out.cell (World.block_lt_of_cell? w _ hw412_0)).trans hw412_0), ((HB.out.cell (World.block_lt_of_cell? w _ hw412_1)).trans hw412_1), ((HB.out.cell (World.block_lt_of_cell? w _ hw412_2)).trans hw412_2), ((HB.out.cell (World.block_lt_of_cell? w _ hw412_3)).trans hw412_3), ((HB.out.cell (World.block_lt_of_cell? w _ hw414_0)).trans hw414_0), ((HB.out.cell (World.block_lt_of_cell? w _ hw414_1)).trans hw414_1), ((HB.out.cell (World.block_lt_of_cell? w _ hw414_2)).trans hw414_2), ((HB.out.cell (World.block_lt_of_cell? w _ hw414_3)).trans hw414_3)⟩ (fun hHeld => ?_); refine with_tabW jacquardlaw30_DiffconsChecks.tab6 jacquardlaw30_DiffconsChecks.bits6 (fun HT_ HW_ => ?_)
               generalize wr.drew = w31 at BK408 HB hx412_0 hx412_1 hx412_2 hx412_3 hx414_0 hx414_1 hx414_2 hx414_3 hHeld ⊢
               refine pure_ (i := 0) (N := some 36) (v := ?_) (a' := ?_) #[true, false, false, false, false, false, false, false, false, false, false, false, false, false, false, false, false] rfl rfl (any_of HT_.out (by kernel_rfl)) (fun _ _ _ h => h) (Or.inl ⟨by rfl, ?_⟩) ?_ ?_
               rotate_left
               · intro w'
                 go_simp
                 with_reducible rfl
               rotate_left
               · simp only [Act.put, List.setIfInBounds_toArray, List.set_cons_zero, List.set_cons_succ, i64_w, i32_w]
                 rfl
               refine pure_ (i := 2) (N := some 38) (v := ?_) (a' := ?_) #[true, false, true, false, false, false, false, false, false, false, false, false, false, false, false, false, false] rfl rfl (any_of HT_.out (by kernel_rfl)) (fun _ _ _ h => h) (Or.inl ⟨by rfl, ?_⟩) ?_ ?_
               rotate_left
               · intro w'
                 go_simp
                 with_reducible rfl
               rotate_left
               · simp only [Act.put, List.setIfInBounds_toArray, List.set_cons_zero, List.set_cons_succ, i64_w, i32_w]
                 rfl
               refine pure_ (i := 5) (N := some 41) (v := ?_) (a' := ?_) #[true, false, true, false, false, true, false, false, false, false, false, false, false, false, false, false, false] rfl rfl (any_of HT_.out (by kernel_rfl)) (fun _ _ _ h => h) (Or.inl ⟨by rfl, ?_⟩) ?_ ?_
               rotate_left
               · intro w'
                 go_simp
                 with_reducible rfl
               rotate_left
               · simp only [Act.put, List.setIfInBounds_toArray, List.set_cons_zero, List.set_cons_succ, i64_w, i32_w]
                 rfl
               refine pure_ (i := 8) (N := some 44) (v := ?_) (a' := ?_) #[true, false, true, false, false, true, false, false, true, false, false, false, false, false, false, false, false] rfl rfl (any_of HT_.out (by kernel_rfl)) (fun _ _ _ h => h) (Or.inl ⟨by rfl, ?_⟩) ?_ ?_
               rotate_left
               · intro w'
                 go_simp
                 with_reducible rfl
               rotate_left
               · simp only [Act.put, List.setIfInBounds_toArray, List.set_cons_zero, List.set_cons_succ, i64_w, i32_w]
                 rfl
               refine pure_ (i := 10) (N := some 46) (v := ?_) (a' := ?_) #[true, false, true, false, false, true, false, false, true, false, true, false, false, false, false, false, false] rfl rfl (any_of HT_.out (by kernel_rfl)) (fun _ _ _ h => h) (Or.inl ⟨by rfl, ?_⟩) ?_ ?_
               rotate_left
               · intro w'
                 go_simp
                 with_reducible rfl
               rotate_left
               · simp only [Act.put, List.setIfInBounds_toArray, List.set_cons_zero, List.set_cons_succ, i64_w, i32_w]
                 rfl
               refine pure_ (i := 13) (N := some 49) (v := ?_) (a' := ?_) #[true, false, true, false, false, true, false, false, true, false, true, false, false, true, false, false, false] rfl rfl (any_of HT_.out (by kernel_rfl)) (fun _ _ _ h => h) (Or.inl ⟨by rfl, ?_⟩) ?_ ?_
               rotate_left
               · intro w'
                 go_simp
                 with_reducible rfl
               rotate_left
               · simp only [Act.put, List.setIfInBounds_toArray, List.set_cons_zero, List.set_cons_succ, i64_w, i32_w]
                 rfl
               refine take_ (i := 1) (N := some 37) (v := ?_) (a' := ?_) #[true, true, true, false, false, true, false, false, true, false, true, false, false, true, false, false, false] rfl rfl (take_ofW HT_.out HW_.out (by kernel_rfl)) (fun _ _ _ h => h) (Or.inl ⟨by rfl, ?_⟩) hHeld ?_ ?_
               rotate_left
               · rintro w' ⟨s0, s1, s2, s3, s4, s5, s6, s7, s8, s9, s10⟩
                 go_simp
                 with_reducible rfl
               rotate_left
               · simp only [Act.put, List.setIfInBounds_toArray, List.set_cons_zero, List.set_cons_succ, i64_w, i32_w]
                 rfl
               refine pure_ (i := 3) (N := some 39) (v := ?_) (a' := ?_) #[true, true, true, true, false, true, false, false, true, false, true, false, false, true, false, false, false] rfl rfl (any_of HT_.out (by kernel_rfl)) (fun _ _ _ h => h) (Or.inl ⟨by rfl, ?_⟩) ?_ ?_
               rotate_left
               · intro w'
                 go_simp
                 with_reducible rfl
               rotate_left
               · simp only [Act.put, List.setIfInBounds_toArray, List.set_cons_zero, List.set_cons_succ, i64_w, i32_w]
                 rfl
               refine take_ (i := 4) (N := some 40) (v := ?_) (a' := ?_) #[true, true, true, true, true, true, false, false, true, false, true, false, false, true, false, false, false] rfl rfl (take_ofW HT_.out HW_.out (by kernel_rfl)) (fun _ _ _ h => h) (Or.inl ⟨by rfl, ?_⟩) hHeld ?_ ?_
               rotate_left
               · rintro w' ⟨s0, s1, s2, s3, s4, s5, s6, s7, s8, s9, s10⟩
                 go_simp
                 with_reducible rfl
               rotate_left
               · simp only [Act.put, List.setIfInBounds_toArray, List.set_cons_zero, List.set_cons_succ, i64_w, i32_w]
                 rfl
               refine take_ (i := 6) (N := some 42) (v := ?_) (a' := ?_) #[true, true, true, true, true, true, true, false, true, false, true, false, false, true, false, false, false] rfl rfl (take_ofW HT_.out HW_.out (by kernel_rfl)) (fun _ _ _ h => h) (Or.inl ⟨by rfl, ?_⟩) hHeld ?_ ?_
               rotate_left
               · rintro w' ⟨s0, s1, s2, s3, s4, s5, s6, s7, s8, s9, s10⟩
                 go_simp
                 with_reducible rfl
               rotate_left
               · simp only [Act.put, List.setIfInBounds_toArray, List.set_cons_zero, List.set_cons_succ, i64_w, i32_w]
                 rfl
               refine take_ (i := 9) (N := some 45) (v := ?_) (a' := ?_) #[true, true, true, true, true, true, true, false, true, true, true, false, false, true, false, false, false] rfl rfl (take_ofW HT_.out HW_.out (by kernel_rfl)) (fun _ _ _ h => h) (Or.inl ⟨by rfl, ?_⟩) hHeld ?_ ?_
               rotate_left
               · rintro w' ⟨s0, s1, s2, s3, s4, s5, s6, s7, s8, s9, s10⟩
                 go_simp
                 with_reducible rfl
               rotate_left
               · simp only [Act.put, List.setIfInBounds_toArray, List.set_cons_zero, List.set_cons_succ, i64_w, i32_w]
                 rfl
               refine pure_ (i := 11) (N := some 47) (v := ?_) (a' := ?_) #[true, true, true, true, true, true, true, false, true, true, true, true, false, true, false, false, false] rfl rfl (any_of HT_.out (by kernel_rfl)) (fun _ _ _ h => h) (Or.inl ⟨by rfl, ?_⟩) ?_ ?_
               rotate_left
               · intro w'
                 go_simp
                 with_reducible rfl
               rotate_left
               · simp only [Act.put, List.setIfInBounds_toArray, List.set_cons_zero, List.set_cons_succ, i64_w, i32_w]
                 rfl
               refine take_ (i := 12) (N := some 48) (v := ?_) (a' := ?_) #[true, true, true, true, true, true, true, false, true, true, true, true, true, true, false, false, false] rfl rfl (take_ofW HT_.out HW_.out (by kernel_rfl)) (fun _ _ _ h => h) (Or.inl ⟨by rfl, ?_⟩) hHeld ?_ ?_
               rotate_left
               · rintro w' ⟨s0, s1, s2, s3, s4, s5, s6, s7, s8, s9, s10⟩
                 go_simp
                 with_reducible rfl
               rotate_left
               · simp only [Act.put, List.setIfInBounds_toArray, List.set_cons_zero, List.set_cons_succ, i64_w, i32_w]
                 rfl
               refine take_ (i := 14) (N := some 50) (v := ?_) (a' := ?_) #[true, true, true, true, true, true, true, false, true, true, true, true, true, true, true, false, false] rfl rfl (take_ofW HT_.out HW_.out (by kernel_rfl)) (fun _ _ _ h => h) (Or.inl ⟨by rfl, ?_⟩) hHeld ?_ ?_
               rotate_left
               · rintro w' ⟨s0, s1, s2, s3, s4, s5, s6, s7, s8, s9, s10⟩
                 go_simp
                 with_reducible rfl
               rotate_left
               · simp only [Act.put, List.setIfInBounds_toArray, List.set_cons_zero, List.set_cons_succ, i64_w, i32_w]
                 rfl
               refine one_ (i := 7) (N := some 43) #[true, true, true, true, true, true, true, true, true, true, true, true, true, true, true, false, false] rfl rfl (one_of HT_.out (by kernel_rfl)) (by decide) (fun K hK => ?_)
               refine goes_ Try.func23 (by kernel_rfl) rfl #[.agg #[.int .i64 ((rd_T28 l0_1 x33_2).f0), .int .i64 ((rd_T28 l0_1 x33_2).f1), .int .i64 ((rd_T28 l0_1 x33_2).f2), .int .i64 ((rd_T28 l0_1 x33_2).f3)], .int .i64 a0_2] (by rfl) rfl rfl (by (try simp only [List.map_toArray, List.map_cons, List.map_nil]); first | done | rfl | (simp only [List.length_drop, List.length_take]; rfl)) ?_
               with_reducible refine (diffcons_Weight.calls ((rd_T28 l0_1 x33_2).f0) ((rd_T28 l0_1 x33_2).f1) ((rd_T28 l0_1 x33_2).f2) ((rd_T28 l0_1 x33_2).f3) a0_2 t413 _ A28.out).mono ?_
               rintro e w32 ⟨rfl, hb⟩
               refine ⟨_, rfl, ?_⟩
               have n0_ := Aside0.mk (blk_below (g := gb408) (o := .cells #[.int .i64 a0_0, .slice (some ad412) l0_1.length c0_1, .int .i64 a0_2] 24 (0, 0)) (by (with_reducible repeat (first | refine blk_drewN ?_ _ | refine blk_drew ?_ | refine blk_alloc ?_ _)); exact BK408.out) hb)
               have n1_ := Aside0.mk (below_step (by repeat (first | (with_reducible first | exact HB.out | apply below_alloc | apply pw_below_drewN | apply below_drew1 | refine below_set ?_ GE408.out) | exact HB.out)) hb)
               clear BK408
               clear HB
               have BK408 := n0_
               have HB := n1_
               clear n0_ n1_
               (try clear hb)
               (try clear hb2)
               (try clear hk)
               (try clear hi)
               refine hK.out _ _ ⟨(blk_cell BK408.out 0).trans rfl, (blk_cell BK408.out 1).trans rfl, (blk_cell BK408.out 2).trans rfl, ((HB.out.cell (World.block_lt_of_cell? w _ hw412_0)).trans hw412_0), ((HB.out.cell (World.block_lt_of_cell? w _ hw412_1)).trans hw412_1), ((HB.out.cell (World.block_lt_of_cell? w _ hw412_2)).trans hw412_2), ((HB.out.cell (World.block_lt_of_cell? w _ hw412_3)).trans hw412_3), ((HB.out.cell (World.block_lt_of_cell? w _ hw414_0)).trans hw414_0), ((HB.out.cell (World.block_lt_of_cell? w _ hw414_1)).trans hw414_1), ((HB.out.cell (World.block_lt_of_cell? w _ hw414_2)).trans hw414_2), ((HB.out.cell (World.block_lt_of_cell? w _ hw414_3)).trans hw414_3)⟩ (fun hHeld => ?_)
               clear hK K
               refine norm_ (a' := ?_) ?_ ?_
               rotate_left
               · show Act.put _ (some 43) _ = _
                 simp only [Act.put, List.setIfInBounds_toArray, List.set_cons_zero, List.set_cons_succ, i64_w, i32_w]
                 rfl
               refine one_ (i := 15) (N := some 51) #[true, true, true, true, true, true, true, true, true, true, true, true, true, true, true, true, false] rfl rfl (one_of HT_.out (by kernel_rfl)) (by decide) (fun K hK => ?_)
               refine goes_ Try.func24 (by kernel_rfl) rfl #[.agg #[.int .i64 ((rd_T28 l0_1 x33_2).f0), .int .i64 ((rd_T28 l0_1 x33_2).f1), .int .i64 ((rd_T28 l0_1 x33_2).f2), .int .i64 ((rd_T28 l0_1 x33_2).f3)], .int .i64 a0_2] (by rfl) rfl rfl (by (try simp only [List.map_toArray, List.map_cons, List.map_nil]); first | done | rfl | (simp only [List.length_drop, List.length_take]; rfl)) ?_
               with_reducible refine (jacquardref30_Weight.calls ((rd_T28 l0_1 x33_2).f0) ((rd_T28 l0_1 x33_2).f1) ((rd_T28 l0_1 x33_2).f2) ((rd_T28 l0_1 x33_2).f3) a0_2 t415 _ A29.out).mono ?_
               rintro e w33 ⟨rfl, hb⟩
               refine ⟨_, rfl, ?_⟩
               have n0_ := Aside0.mk (blk_below (g := gb408) (o := .cells #[.int .i64 a0_0, .slice (some ad412) l0_1.length c0_1, .int .i64 a0_2] 24 (0, 0)) (by (with_reducible repeat (first | refine blk_drewN ?_ _ | refine blk_drew ?_ | refine blk_alloc ?_ _)); exact BK408.out) hb)
               have n1_ := Aside0.mk (below_step (by repeat (first | (with_reducible first | exact HB.out | apply below_alloc | apply pw_below_drewN | apply below_drew1 | refine below_set ?_ GE408.out) | exact HB.out)) hb)
               clear BK408
               clear HB
               have BK408 := n0_
               have HB := n1_
               clear n0_ n1_
               (try clear hb)
               (try clear hb2)
               (try clear hk)
               (try clear hi)
               refine hK.out _ _ ⟨(blk_cell BK408.out 0).trans rfl, (blk_cell BK408.out 1).trans rfl, (blk_cell BK408.out 2).trans rfl, ((HB.out.cell (World.block_lt_of_cell? w _ hw412_0)).trans hw412_0), ((HB.out.cell (World.block_lt_of_cell? w _ hw412_1)).trans hw412_1), ((HB.out.cell (World.block_lt_of_cell? w _ hw412_2)).trans hw412_2), ((HB.out.cell (World.block_lt_of_cell? w _ hw412_3)).trans hw412_3), ((HB.out.cell (World.block_lt_of_cell? w _ hw414_0)).trans hw414_0), ((HB.out.cell (World.block_lt_of_cell? w _ hw414_1)).trans hw414_1), ((HB.out.cell (World.block_lt_of_cell? w _ hw414_2)).trans hw414_2), ((HB.out.cell (World.block_lt_of_cell? w _ hw414_3)).trans hw414_3)⟩ (fun hHeld => ?_)
               clear hK K
               refine norm_ (a' := ?_) ?_ ?_
               rotate_left
               · show Act.put _ (some 51) _ = _
                 simp only [Act.put, List.setIfInBounds_toArray, List.set_cons_zero, List.set_cons_succ, i64_w, i32_w]
                 rfl
               refine pure_ (i := 16) (N := some 52) (v := ?_) (a' := ?_) #[true, true, true, true, true, true, true, true, true, true, true, true, true, true, true, true, true] rfl rfl (any_of HT_.out (by kernel_rfl)) (fun _ _ _ h => h) (Or.inl ⟨by rfl, ?_⟩) ?_ ?_
               rotate_left
               · intro w'
                 go_simp
                 with_reducible rfl
               rotate_left
               · simp only [Act.put, List.setIfInBounds_toArray, List.set_cons_zero, List.set_cons_succ, i64_w, i32_w]
                 rfl
               refine done_ (done_of HT_.out (by kernel_rfl)) ?_
               try go_wp2
               go_roundg k2
               case measure => have := HJ3.out; have := HK2.out; omega
               case rel => exact ⟨(wrap64 (x33_2 + 1)), (by first | rfl | (simp; done) | (simp [*]; done)), H', ⟨by have := HJ3.out; have := HK2.out; omega⟩, ⟨by (with_reducible repeat (first | refine blk_drewN ?_ _ | refine blk_drew ?_ | refine blk_alloc ?_ _)); exact BK408.out⟩, ⟨by repeat (first | (with_reducible first | exact HB.out | apply below_alloc | apply pw_below_drewN | apply below_drew1 | refine below_set ?_ GE408.out) | exact HB.out)⟩⟩
             · rw [if_neg c30] at H
               have c30b0 : (t413 == t415) = false := beq_eq_false_iff_ne.mpr c30
               have c30b1 : (t413 != t415) = true := bne_iff_ne.mpr c30
               obtain rfl := Option.some.inj H
               try go_wp2
               have n0_ := Aside0.mk (blk_drew BK408.out)
               have n1_ := Aside0.mk (below_drew1 HB.out)
               clear BK408
               clear HB
               have BK408 := n0_
               have HB := n1_
               clear n0_ n1_
               have p412 : 0 ≤ (x33_2 : Int) := of_decide_eq_true (by first | (with_reducible assumption) | assumption)
               have q412 : x33_2 < (l0_1.length : Int) := of_decide_eq_true (by first | (with_reducible assumption) | assumption)
               obtain ⟨ad412, e412, hx412_0, hx412_1, hx412_2, hx412_3⟩ := at_T28 HR0_1.out x33_2 p412 q412
               have hw412_3 := hx412_3
               have hw412_2 := hx412_2
               have hw412_1 := hx412_1
               have hw412_0 := hx412_0
               cases e412
               replace hx412_0 := (HB.out.cell (World.block_lt_of_cell? w _ hx412_0)).trans hx412_0
               replace hx412_1 := (HB.out.cell (World.block_lt_of_cell? w _ hx412_1)).trans hx412_1
               replace hx412_2 := (HB.out.cell (World.block_lt_of_cell? w _ hx412_2)).trans hx412_2
               replace hx412_3 := (HB.out.cell (World.block_lt_of_cell? w _ hx412_3)).trans hx412_3
               replace p412 := eq_true p412
               replace q412 := eq_true q412
               have p414 : 0 ≤ (x33_2 : Int) := of_decide_eq_true (by first | (with_reducible assumption) | assumption)
               have q414 : x33_2 < (l0_1.length : Int) := of_decide_eq_true (by first | (with_reducible assumption) | assumption)
               obtain ⟨ad414, e414, hx414_0, hx414_1, hx414_2, hx414_3⟩ := at_T28 HR0_1.out x33_2 p414 q414
               have hw414_3 := hx414_3
               have hw414_2 := hx414_2
               have hw414_1 := hx414_1
               have hw414_0 := hx414_0
               obtain rfl : ad412 = ad414 := (by injection e414)
               replace hx414_0 := (HB.out.cell (World.block_lt_of_cell? w _ hx414_0)).trans hx414_0
               replace hx414_1 := (HB.out.cell (World.block_lt_of_cell? w _ hx414_1)).trans hx414_1
               replace hx414_2 := (HB.out.cell (World.block_lt_of_cell? w _ hx414_2)).trans hx414_2
               replace hx414_3 := (HB.out.cell (World.block_lt_of_cell? w _ hx414_3)).trans hx414_3
               replace p414 := eq_true p414
               replace q414 := eq_true q414
               refine start_ (n := 17) (S := fun w' => w'.cell? ⟨gb408, 0, none⟩ = some (.int .i64 a0_0) ∧ w'.cell? ⟨gb408, 1, none⟩ = some (.slice (some ad412) l0_1.length c0_1) ∧ w'.cell? ⟨gb408, 2, none⟩ = some (.int .i64 a0_2) ∧ w'.cell? (ad412.add ((x33_2).toNat * 4)) = some (.int .i64 ((rd_T28 l0_1 x33_2).f0)) ∧ w'.cell? ⟨(ad412.add ((x33_2).toNat * 4)).block, (ad412.add ((x33_2).toNat * 4)).off + 1, none⟩ = some (.int .i64 ((rd_T28 l0_1 x33_2).f1)) ∧ w'.cell? ⟨(ad412.add ((x33_2).toNat * 4)).block, (ad412.add ((x33_2).toNat * 4)).off + 2, none⟩ = some (.int .i64 ((rd_T28 l0_1 x33_2).f2)) ∧ w'.cell? ⟨(ad412.add ((x33_2).toNat * 4)).block, (ad412.add ((x33_2).toNat * 4)).off + 3, none⟩ = some (.int .i64 ((rd_T28 l0_1 x33_2).f3)) ∧ w'.cell? (ad412.add ((x33_2).toNat * 4)) = some (.int .i64 ((rd_T28 l0_1 x33_2).f0)) ∧ w'.cell? ⟨(ad412.add ((x33_2).toNat * 4)).block, (ad412.add ((x33_2).toNat * 4)).off + 1, none⟩ = some (.int .i64 ((rd_T28 l0_1 x33_2).f1)) ∧ w'.cell? ⟨(ad412.add ((x33_2).toNat * 4)).block, (ad412.add ((x33_2).toNat * 4)).off + 2, none⟩ = some (.int .i64 ((rd_T28 l0_1 x33_2).f2)) ∧ w'.cell? ⟨(ad412.add ((x33_2).toNat * 4)).block, (ad412.add ((x33_2).toNat * 4)).off + 3, none⟩ = some (.int .i64 ((rd_T28 l0_1 x33_2).f3))) (ds := []) #[false, false, false, false, false, false, false, false, false, false, false, false, false, false, false, false, false] (by kernel_rfl) rfl rfl ⟨(blk_cell BK408.out 0).trans rfl, (blk_cell BK408.out 1).trans rfl, (blk_cell BK408.out 2).trans rfl, ((HB.out.cell (World.block_lt_of_cell? w _ hw412_0)).trans hw412_0), ((HB.out.cell (World.block_lt_of_cell? w _ hw412_1)).trans hw412_1), ((HB.out.cell (World.block_lt_of_cell? w _ hw412_2)).trans hw412_2), ((HB.out.cell (World.block_lt_of_cell? w _ hw412_3)).trans hw412_3), ((HB.out.cell (World.block_lt_of_cell? w _ hw414_0)).trans hw414_0), ((HB.out.cell (World.block_lt_of_cell? w _ hw414_1)).trans hw414_1), ((HB.out.cell (World.block_lt_of_cell? w _ hw414_2)).trans hw414_2), ((HB.out.cell (World.block_lt_of_cell? w _ hw414_3)).trans hw414_3)⟩ (fun hHeld => ?_); refine with_tabW jacquardlaw30_DiffconsChecks.tab6 jacquardlaw30_DiffconsChecks.bits6 (fun HT_ HW_ => ?_)
               generalize wr.drew = w34 at BK408 HB hx412_0 hx412_1 hx412_2 hx412_3 hx414_0 hx414_1 hx414_2 hx414_3 hHeld ⊢
               refine pure_ (i := 0) (N := some 36) (v := ?_) (a' := ?_) #[true, false, false, false, false, false, false, false, false, false, false, false, false, false, false, false, false] rfl rfl (any_of HT_.out (by kernel_rfl)) (fun _ _ _ h => h) (Or.inl ⟨by rfl, ?_⟩) ?_ ?_
               rotate_left
               · intro w'
                 go_simp
                 with_reducible rfl
               rotate_left
               · simp only [Act.put, List.setIfInBounds_toArray, List.set_cons_zero, List.set_cons_succ, i64_w, i32_w]
                 rfl
               refine pure_ (i := 2) (N := some 38) (v := ?_) (a' := ?_) #[true, false, true, false, false, false, false, false, false, false, false, false, false, false, false, false, false] rfl rfl (any_of HT_.out (by kernel_rfl)) (fun _ _ _ h => h) (Or.inl ⟨by rfl, ?_⟩) ?_ ?_
               rotate_left
               · intro w'
                 go_simp
                 with_reducible rfl
               rotate_left
               · simp only [Act.put, List.setIfInBounds_toArray, List.set_cons_zero, List.set_cons_succ, i64_w, i32_w]
                 rfl
               refine pure_ (i := 5) (N := some 41) (v := ?_) (a' := ?_) #[true, false, true, false, false, true, false, false, false, false, false, false, false, false, false, false, false] rfl rfl (any_of HT_.out (by kernel_rfl)) (fun _ _ _ h => h) (Or.inl ⟨by rfl, ?_⟩) ?_ ?_
               rotate_left
               · intro w'
                 go_simp
                 with_reducible rfl
               rotate_left
               · simp only [Act.put, List.setIfInBounds_toArray, List.set_cons_zero, List.set_cons_succ, i64_w, i32_w]
                 rfl
               refine pure_ (i := 8) (N := some 44) (v := ?_) (a' := ?_) #[true, false, true, false, false, true, false, false, true, false, false, false, false, false, false, false, false] rfl rfl (any_of HT_.out (by kernel_rfl)) (fun _ _ _ h => h) (Or.inl ⟨by rfl, ?_⟩) ?_ ?_
               rotate_left
               · intro w'
                 go_simp
                 with_reducible rfl
               rotate_left
               · simp only [Act.put, List.setIfInBounds_toArray, List.set_cons_zero, List.set_cons_succ, i64_w, i32_w]
                 rfl
               refine pure_ (i := 10) (N := some 46) (v := ?_) (a' := ?_) #[true, false, true, false, false, true, false, false, true, false, true, false, false, false, false, false, false] rfl rfl (any_of HT_.out (by kernel_rfl)) (fun _ _ _ h => h) (Or.inl ⟨by rfl, ?_⟩) ?_ ?_
               rotate_left
               · intro w'
                 go_simp
                 with_reducible rfl
               rotate_left
               · simp only [Act.put, List.setIfInBounds_toArray, List.set_cons_zero, List.set_cons_succ, i64_w, i32_w]
                 rfl
               refine pure_ (i := 13) (N := some 49) (v := ?_) (a' := ?_) #[true, false, true, false, false, true, false, false, true, false, true, false, false, true, false, false, false] rfl rfl (any_of HT_.out (by kernel_rfl)) (fun _ _ _ h => h) (Or.inl ⟨by rfl, ?_⟩) ?_ ?_
               rotate_left
               · intro w'
                 go_simp
                 with_reducible rfl
               rotate_left
               · simp only [Act.put, List.setIfInBounds_toArray, List.set_cons_zero, List.set_cons_succ, i64_w, i32_w]
                 rfl
               refine take_ (i := 1) (N := some 37) (v := ?_) (a' := ?_) #[true, true, true, false, false, true, false, false, true, false, true, false, false, true, false, false, false] rfl rfl (take_ofW HT_.out HW_.out (by kernel_rfl)) (fun _ _ _ h => h) (Or.inl ⟨by rfl, ?_⟩) hHeld ?_ ?_
               rotate_left
               · rintro w' ⟨s0, s1, s2, s3, s4, s5, s6, s7, s8, s9, s10⟩
                 go_simp
                 with_reducible rfl
               rotate_left
               · simp only [Act.put, List.setIfInBounds_toArray, List.set_cons_zero, List.set_cons_succ, i64_w, i32_w]
                 rfl
               refine pure_ (i := 3) (N := some 39) (v := ?_) (a' := ?_) #[true, true, true, true, false, true, false, false, true, false, true, false, false, true, false, false, false] rfl rfl (any_of HT_.out (by kernel_rfl)) (fun _ _ _ h => h) (Or.inl ⟨by rfl, ?_⟩) ?_ ?_
               rotate_left
               · intro w'
                 go_simp
                 with_reducible rfl
               rotate_left
               · simp only [Act.put, List.setIfInBounds_toArray, List.set_cons_zero, List.set_cons_succ, i64_w, i32_w]
                 rfl
               refine take_ (i := 4) (N := some 40) (v := ?_) (a' := ?_) #[true, true, true, true, true, true, false, false, true, false, true, false, false, true, false, false, false] rfl rfl (take_ofW HT_.out HW_.out (by kernel_rfl)) (fun _ _ _ h => h) (Or.inl ⟨by rfl, ?_⟩) hHeld ?_ ?_
               rotate_left
               · rintro w' ⟨s0, s1, s2, s3, s4, s5, s6, s7, s8, s9, s10⟩
                 go_simp
                 with_reducible rfl
               rotate_left
               · simp only [Act.put, List.setIfInBounds_toArray, List.set_cons_zero, List.set_cons_succ, i64_w, i32_w]
                 rfl
               refine take_ (i := 6) (N := some 42) (v := ?_) (a' := ?_) #[true, true, true, true, true, true, true, false, true, false, true, false, false, true, false, false, false] rfl rfl (take_ofW HT_.out HW_.out (by kernel_rfl)) (fun _ _ _ h => h) (Or.inl ⟨by rfl, ?_⟩) hHeld ?_ ?_
               rotate_left
               · rintro w' ⟨s0, s1, s2, s3, s4, s5, s6, s7, s8, s9, s10⟩
                 go_simp
                 with_reducible rfl
               rotate_left
               · simp only [Act.put, List.setIfInBounds_toArray, List.set_cons_zero, List.set_cons_succ, i64_w, i32_w]
                 rfl
               refine take_ (i := 9) (N := some 45) (v := ?_) (a' := ?_) #[true, true, true, true, true, true, true, false, true, true, true, false, false, true, false, false, false] rfl rfl (take_ofW HT_.out HW_.out (by kernel_rfl)) (fun _ _ _ h => h) (Or.inl ⟨by rfl, ?_⟩) hHeld ?_ ?_
               rotate_left
               · rintro w' ⟨s0, s1, s2, s3, s4, s5, s6, s7, s8, s9, s10⟩
                 go_simp
                 with_reducible rfl
               rotate_left
               · simp only [Act.put, List.setIfInBounds_toArray, List.set_cons_zero, List.set_cons_succ, i64_w, i32_w]
                 rfl
               refine pure_ (i := 11) (N := some 47) (v := ?_) (a' := ?_) #[true, true, true, true, true, true, true, false, true, true, true, true, false, true, false, false, false] rfl rfl (any_of HT_.out (by kernel_rfl)) (fun _ _ _ h => h) (Or.inl ⟨by rfl, ?_⟩) ?_ ?_
               rotate_left
               · intro w'
                 go_simp
                 with_reducible rfl
               rotate_left
               · simp only [Act.put, List.setIfInBounds_toArray, List.set_cons_zero, List.set_cons_succ, i64_w, i32_w]
                 rfl
               refine take_ (i := 12) (N := some 48) (v := ?_) (a' := ?_) #[true, true, true, true, true, true, true, false, true, true, true, true, true, true, false, false, false] rfl rfl (take_ofW HT_.out HW_.out (by kernel_rfl)) (fun _ _ _ h => h) (Or.inl ⟨by rfl, ?_⟩) hHeld ?_ ?_
               rotate_left
               · rintro w' ⟨s0, s1, s2, s3, s4, s5, s6, s7, s8, s9, s10⟩
                 go_simp
                 with_reducible rfl
               rotate_left
               · simp only [Act.put, List.setIfInBounds_toArray, List.set_cons_zero, List.set_cons_succ, i64_w, i32_w]
                 rfl
               refine take_ (i := 14) (N := some 50) (v := ?_) (a' := ?_) #[true, true, true, true, true, true, true, false, true, true, true, true, true, true, true, false, false] rfl rfl (take_ofW HT_.out HW_.out (by kernel_rfl)) (fun _ _ _ h => h) (Or.inl ⟨by rfl, ?_⟩) hHeld ?_ ?_
               rotate_left
               · rintro w' ⟨s0, s1, s2, s3, s4, s5, s6, s7, s8, s9, s10⟩
                 go_simp
                 with_reducible rfl
               rotate_left
               · simp only [Act.put, List.setIfInBounds_toArray, List.set_cons_zero, List.set_cons_succ, i64_w, i32_w]
                 rfl
               refine one_ (i := 7) (N := some 43) #[true, true, true, true, true, true, true, true, true, true, true, true, true, true, true, false, false] rfl rfl (one_of HT_.out (by kernel_rfl)) (by decide) (fun K hK => ?_)
               refine goes_ Try.func23 (by kernel_rfl) rfl #[.agg #[.int .i64 ((rd_T28 l0_1 x33_2).f0), .int .i64 ((rd_T28 l0_1 x33_2).f1), .int .i64 ((rd_T28 l0_1 x33_2).f2), .int .i64 ((rd_T28 l0_1 x33_2).f3)], .int .i64 a0_2] (by rfl) rfl rfl (by (try simp only [List.map_toArray, List.map_cons, List.map_nil]); first | done | rfl | (simp only [List.length_drop, List.length_take]; rfl)) ?_
               with_reducible refine (diffcons_Weight.calls ((rd_T28 l0_1 x33_2).f0) ((rd_T28 l0_1 x33_2).f1) ((rd_T28 l0_1 x33_2).f2) ((rd_T28 l0_1 x33_2).f3) a0_2 t413 _ A28.out).mono ?_
               rintro e w35 ⟨rfl, hb⟩
               refine ⟨_, rfl, ?_⟩
               have n0_ := Aside0.mk (blk_below (g := gb408) (o := .cells #[.int .i64 a0_0, .slice (some ad412) l0_1.length c0_1, .int .i64 a0_2] 24 (0, 0)) (by (with_reducible repeat (first | refine blk_drewN ?_ _ | refine blk_drew ?_ | refine blk_alloc ?_ _)); exact BK408.out) hb)
               have n1_ := Aside0.mk (below_step (by repeat (first | (with_reducible first | exact HB.out | apply below_alloc | apply pw_below_drewN | apply below_drew1 | refine below_set ?_ GE408.out) | exact HB.out)) hb)
               clear BK408
               clear HB
               have BK408 := n0_
               have HB := n1_
               clear n0_ n1_
               (try clear hb)
               (try clear hb2)
               (try clear hk)
               (try clear hi)
               refine hK.out _ _ ⟨(blk_cell BK408.out 0).trans rfl, (blk_cell BK408.out 1).trans rfl, (blk_cell BK408.out 2).trans rfl, ((HB.out.cell (World.block_lt_of_cell? w _ hw412_0)).trans hw412_0), ((HB.out.cell (World.block_lt_of_cell? w _ hw412_1)).trans hw412_1), ((HB.out.cell (World.block_lt_of_cell? w _ hw412_2)).trans hw412_2), ((HB.out.cell (World.block_lt_of_cell? w _ hw412_3)).trans hw412_3), ((HB.out.cell (World.block_lt_of_cell? w _ hw414_0)).trans hw414_0), ((HB.out.cell (World.block_lt_of_cell? w _ hw414_1)).trans hw414_1), ((HB.out.cell (World.block_lt_of_cell? w _ hw414_2)).trans hw414_2), ((HB.out.cell (World.block_lt_of_cell? w _ hw414_3)).trans hw414_3)⟩ (fun hHeld => ?_)
               clear hK K
               refine norm_ (a' := ?_) ?_ ?_
               rotate_left
               · show Act.put _ (some 43) _ = _
                 simp only [Act.put, List.setIfInBounds_toArray, List.set_cons_zero, List.set_cons_succ, i64_w, i32_w]
                 rfl
               refine one_ (i := 15) (N := some 51) #[true, true, true, true, true, true, true, true, true, true, true, true, true, true, true, true, false] rfl rfl (one_of HT_.out (by kernel_rfl)) (by decide) (fun K hK => ?_)
               refine goes_ Try.func24 (by kernel_rfl) rfl #[.agg #[.int .i64 ((rd_T28 l0_1 x33_2).f0), .int .i64 ((rd_T28 l0_1 x33_2).f1), .int .i64 ((rd_T28 l0_1 x33_2).f2), .int .i64 ((rd_T28 l0_1 x33_2).f3)], .int .i64 a0_2] (by rfl) rfl rfl (by (try simp only [List.map_toArray, List.map_cons, List.map_nil]); first | done | rfl | (simp only [List.length_drop, List.length_take]; rfl)) ?_
               with_reducible refine (jacquardref30_Weight.calls ((rd_T28 l0_1 x33_2).f0) ((rd_T28 l0_1 x33_2).f1) ((rd_T28 l0_1 x33_2).f2) ((rd_T28 l0_1 x33_2).f3) a0_2 t415 _ A29.out).mono ?_
               rintro e w36 ⟨rfl, hb⟩
               refine ⟨_, rfl, ?_⟩
               have n0_ := Aside0.mk (blk_below (g := gb408) (o := .cells #[.int .i64 a0_0, .slice (some ad412) l0_1.length c0_1, .int .i64 a0_2] 24 (0, 0)) (by (with_reducible repeat (first | refine blk_drewN ?_ _ | refine blk_drew ?_ | refine blk_alloc ?_ _)); exact BK408.out) hb)
               have n1_ := Aside0.mk (below_step (by repeat (first | (with_reducible first | exact HB.out | apply below_alloc | apply pw_below_drewN | apply below_drew1 | refine below_set ?_ GE408.out) | exact HB.out)) hb)
               clear BK408
               clear HB
               have BK408 := n0_
               have HB := n1_
               clear n0_ n1_
               (try clear hb)
               (try clear hb2)
               (try clear hk)
               (try clear hi)
               refine hK.out _ _ ⟨(blk_cell BK408.out 0).trans rfl, (blk_cell BK408.out 1).trans rfl, (blk_cell BK408.out 2).trans rfl, ((HB.out.cell (World.block_lt_of_cell? w _ hw412_0)).trans hw412_0), ((HB.out.cell (World.block_lt_of_cell? w _ hw412_1)).trans hw412_1), ((HB.out.cell (World.block_lt_of_cell? w _ hw412_2)).trans hw412_2), ((HB.out.cell (World.block_lt_of_cell? w _ hw412_3)).trans hw412_3), ((HB.out.cell (World.block_lt_of_cell? w _ hw414_0)).trans hw414_0), ((HB.out.cell (World.block_lt_of_cell? w _ hw414_1)).trans hw414_1), ((HB.out.cell (World.block_lt_of_cell? w _ hw414_2)).trans hw414_2), ((HB.out.cell (World.block_lt_of_cell? w _ hw414_3)).trans hw414_3)⟩ (fun hHeld => ?_)
               clear hK K
               refine norm_ (a' := ?_) ?_ ?_
               rotate_left
               · show Act.put _ (some 51) _ = _
                 simp only [Act.put, List.setIfInBounds_toArray, List.set_cons_zero, List.set_cons_succ, i64_w, i32_w]
                 rfl
               refine pure_ (i := 16) (N := some 52) (v := ?_) (a' := ?_) #[true, true, true, true, true, true, true, true, true, true, true, true, true, true, true, true, true] rfl rfl (any_of HT_.out (by kernel_rfl)) (fun _ _ _ h => h) (Or.inl ⟨by rfl, ?_⟩) ?_ ?_
               rotate_left
               · intro w'
                 go_simp
                 with_reducible rfl
               rotate_left
               · simp only [Act.put, List.setIfInBounds_toArray, List.set_cons_zero, List.set_cons_succ, i64_w, i32_w]
                 rfl
               refine done_ (done_of HT_.out (by kernel_rfl)) ?_
               try go_wp2
               go_ret
               exact ⟨by first | rfl | (simp [errW_none, errW_some] <;> rfl) | (simp [*, errW_none, errW_some] <;> rfl), by repeat (first | (with_reducible first | exact HB.out | apply below_alloc | apply pw_below_drewN | apply below_drew1 | refine below_set ?_ GE408.out) | exact HB.out)⟩
           · rw [if_neg c27] at H
             exact absurd H (by simp)
         · rw [if_neg c26] at H
           exact absurd H (by simp)
       · rw [if_neg c25] at H
         have c25b0 : decide (x33_2 < (l0_1.length : Int)) = false := decide_eq_false c25
         clear c25
         replace H := Option.bind_eq_some_iff.mp H
         obtain ⟨⟨t416, t417⟩, A370, H⟩ := H
         replace H : ((jacquardref30_Positive.f k2 a0_0 l0_1 a0_2 l1).bind fun bt418 => (if t416 = bt418.1 then (if (t417 == bt418.2) = true then ((diffcons_Violated.f a0_0 l0_1 a0_2 l2).bind fun t420 => ((jacquardref30_Violated.f k2 a0_0 l0_1 a0_2 l2).bind fun t421 => (some (t420 == t421)))) else (some false)) else (some false))) = some r := H
         have A37 := Aside0.mk A370
         clear A370
         replace H := Option.bind_eq_some_iff.mp H
         obtain ⟨⟨t418, t419⟩, A380, H⟩ := H
         replace H : (if t416 = t418 then (if (t417 == t419) = true then ((diffcons_Violated.f a0_0 l0_1 a0_2 l2).bind fun t420 => ((jacquardref30_Violated.f k2 a0_0 l0_1 a0_2 l2).bind fun t421 => (some (t420 == t421)))) else (some false)) else (some false)) = some r := H
         have A38 := Aside0.mk A380
         clear A380
         by_cases c39 : t416 = t418
         · rw [if_pos c39] at H
           have c39b0 : (t416 == t418) = true := beq_iff_eq.mpr c39
           have c39b1 : (t416 != t418) = false := bne_eq_false_iff_eq.mpr c39
           clear c39
           by_cases c40 : (t417 == t419) = true
           · rw [if_pos c40] at H
             have c40b0 : (t417 == t419) = true := c40
             (try (have c40b1 : decide (t417 = t419) = true := by simpa using c40))
             (try (have c40b2 : (t417 == t419) = true := by simpa using c40))
             clear c40
             replace H := Option.bind_eq_some_iff.mp H
             obtain ⟨t420, A410, H⟩ := H
             replace H : ((jacquardref30_Violated.f k2 a0_0 l0_1 a0_2 l2).bind fun t421 => (some (t420 == t421))) = some r := H
             have A41 := Aside0.mk A410
             clear A410
             replace H := Option.bind_eq_some_iff.mp H
             obtain ⟨t421, A420, H⟩ := H
             replace H : (some (t420 == t421)) = some r := H
             have A42 := Aside0.mk A420
             clear A420
             obtain rfl := Option.some.inj H
             have hcz43_0 : wr.cell? ⟨gb408, 0, none⟩ = some (.int .i64 a0_0) := (blk_cell BK408.out 0).trans rfl
             have hcz43_1 : wr.cell? ⟨gb408, 1, none⟩ = some (.slice A0_1 l0_1.length c0_1) := (blk_cell BK408.out 1).trans rfl
             have hcz43_2 : wr.cell? ⟨gb408, 2, none⟩ = some (.int .i64 a0_2) := (blk_cell BK408.out 2).trans rfl
             have hfz43_0 := blk_frozen BK408.out 0
             have hfz43_1 := blk_frozen BK408.out 1
             have hfz43_2 := blk_frozen BK408.out 2
             try go_wp2_with (first | ((with_reducible refine gate_callee (f := 25) rfl ?_); refine goesL_ (some 62) rfl rfl Try.func25 (by kernel_rfl) rfl #[.int .i64 a0_0, .slice A0_1 l0_1.length c0_1, .int .i64 a0_2, .slice A1 l1.length c1] rfl (by (try simp only [List.map_toArray, List.map_cons, List.map_nil]); first | done | rfl | (simp only [List.length_drop, List.length_take]; rfl)) ?_; (with_reducible refine (diffcons_Positive.calls a0_0 _ _ l0_1 a0_2 _ _ l1 t416 t417 _ ?side1 ?side2 ?side3 ?side4 A37.out).mono ?_); (case side1 => repeat (first | exact (Kd.C_below HR0_1.out HB.out) | (with_reducible refine Kd.C_alloc ?_ _) | (with_reducible refine Kd.C_drewN ?_ _) | (with_reducible refine Kd.C_drew ?_))); (case side2 => exact HC0_1.out); (case side3 => repeat (first | exact (Kd.C_below HR1.out HB.out) | (with_reducible refine Kd.C_alloc ?_ _) | (with_reducible refine Kd.C_drewN ?_ _) | (with_reducible refine Kd.C_drew ?_))); (case side4 => exact HC1.out); rintro e w44 ⟨rfl, hb⟩; refine ⟨_, rfl, ?_⟩; have n0_ := Aside0.mk (blk_below (g := gb408) (o := .cells #[.int .i64 a0_0, .slice A0_1 l0_1.length c0_1, .int .i64 a0_2] 24 (0, 0)) (by (with_reducible repeat (first | refine blk_drewN ?_ _ | refine blk_drew ?_ | refine blk_alloc ?_ _)); exact BK408.out) hb); have n1_ := Aside0.mk (below_step (by repeat (first | (with_reducible first | exact HB.out | apply below_alloc | apply pw_below_drewN | apply below_drew1 | refine below_set ?_ GE408.out) | exact HB.out)) hb); clear BK408; clear HB; have BK408 := n0_; have HB := n1_; clear n0_ n1_; (try clear hb); (try clear hb2); (try clear hk); (try clear hi); have hcz45_0 : w44.cell? ⟨gb408, 0, none⟩ = some (.int .i64 a0_0) := (blk_cell BK408.out 0).trans rfl; have hcz45_1 : w44.cell? ⟨gb408, 1, none⟩ = some (.slice A0_1 l0_1.length c0_1) := (blk_cell BK408.out 1).trans rfl; have hcz45_2 : w44.cell? ⟨gb408, 2, none⟩ = some (.int .i64 a0_2) := (blk_cell BK408.out 2).trans rfl; have hfz45_0 := blk_frozen BK408.out 0; have hfz45_1 := blk_frozen BK408.out 1; have hfz45_2 := blk_frozen BK408.out 2) | ((with_reducible refine gate_callee (f := 26) rfl ?_); refine goesL_ (some 73) rfl rfl Try.func26 (by kernel_rfl) rfl #[.int .i64 a0_0, .slice A0_1 l0_1.length c0_1, .int .i64 a0_2, .slice A1 l1.length c1] rfl (by (try simp only [List.map_toArray, List.map_cons, List.map_nil]); first | done | rfl | (simp only [List.length_drop, List.length_take]; rfl)) ?_; (with_reducible refine (jacquardref30_Positive.calls k2 a0_0 _ _ l0_1 a0_2 _ _ l1 t418 t419 _ ?side1 ?side2 ?side3 ?side4 A38.out).mono ?_); (case side1 => repeat (first | exact (Kd.C_below HR0_1.out HB.out) | (with_reducible refine Kd.C_alloc ?_ _) | (with_reducible refine Kd.C_drewN ?_ _) | (with_reducible refine Kd.C_drew ?_))); (case side2 => exact HC0_1.out); (case side3 => repeat (first | exact (Kd.C_below HR1.out HB.out) | (with_reducible refine Kd.C_alloc ?_ _) | (with_reducible refine Kd.C_drewN ?_ _) | (with_reducible refine Kd.C_drew ?_))); (case side4 => exact HC1.out); rintro e w46 ⟨rfl, hb⟩; refine ⟨_, rfl, ?_⟩; have n0_ := Aside0.mk (blk_below (g := gb408) (o := .cells #[.int .i64 a0_0, .slice A0_1 l0_1.length c0_1, .int .i64 a0_2] 24 (0, 0)) (by (with_reducible repeat (first | refine blk_drewN ?_ _ | refine blk_drew ?_ | refine blk_alloc ?_ _)); exact BK408.out) hb); have n1_ := Aside0.mk (below_step (by repeat (first | (with_reducible first | exact HB.out | apply below_alloc | apply pw_below_drewN | apply below_drew1 | refine below_set ?_ GE408.out) | exact HB.out)) hb); clear BK408; clear HB; have BK408 := n0_; have HB := n1_; clear n0_ n1_; (try clear hb); (try clear hb2); (try clear hk); (try clear hi)))
             have n0_ := Aside0.mk (blk_drew BK408.out)
             have n1_ := Aside0.mk (below_drew1 HB.out)
             clear BK408
             clear HB
             have BK408 := n0_
             have HB := n1_
             clear n0_ n1_
             refine start_ (n := 28) (S := fun w' => w'.cell? ⟨gb408, 0, none⟩ = some (.int .i64 a0_0) ∧ w'.cell? ⟨gb408, 1, none⟩ = some (.slice A0_1 l0_1.length c0_1) ∧ w'.cell? ⟨gb408, 2, none⟩ = some (.int .i64 a0_2)) (ds := []) #[false, false, false, false, false, false, false, false, false, false, false, false, false, false, false, false, false, false, false, false, false, false, false, false, false, false, false, false] (by kernel_rfl) rfl rfl ⟨(blk_cell BK408.out 0).trans rfl, (blk_cell BK408.out 1).trans rfl, (blk_cell BK408.out 2).trans rfl⟩ (fun hHeld => ?_); refine with_tabW jacquardlaw30_DiffconsChecks.tab11 jacquardlaw30_DiffconsChecks.bits11 (fun HT_ HW_ => ?_)
             generalize w46.drew = w47 at BK408 HB hHeld ⊢
             refine pure_ (i := 0) (N := some 76) (v := ?_) (a' := ?_) #[true, false, false, false, false, false, false, false, false, false, false, false, false, false, false, false, false, false, false, false, false, false, false, false, false, false, false, false] rfl rfl (any_of HT_.out (by kernel_rfl)) (fun _ _ _ h => h) (Or.inl ⟨by rfl, ?_⟩) ?_ ?_
             rotate_left
             · intro w'
               go_simp
               with_reducible rfl
             rotate_left
             · simp only [Act.put, List.setIfInBounds_toArray, List.set_cons_zero, List.set_cons_succ, i64_w, i32_w]
               rfl
             refine pure_ (i := 1) (N := some 77) (v := ?_) (a' := ?_) #[true, true, false, false, false, false, false, false, false, false, false, false, false, false, false, false, false, false, false, false, false, false, false, false, false, false, false, false] rfl rfl (any_of HT_.out (by kernel_rfl)) (fun _ _ _ h => h) (Or.inl ⟨by rfl, ?_⟩) ?_ ?_
             rotate_left
             · intro w'
               go_simp
               with_reducible rfl
             rotate_left
             · simp only [Act.put, List.setIfInBounds_toArray, List.set_cons_zero, List.set_cons_succ, i64_w, i32_w]
               rfl
             refine pure_ (i := 2) (N := some 78) (v := ?_) (a' := ?_) #[true, true, true, false, false, false, false, false, false, false, false, false, false, false, false, false, false, false, false, false, false, false, false, false, false, false, false, false] rfl rfl (any_of HT_.out (by kernel_rfl)) (fun _ _ _ h => h) (Or.inl ⟨by rfl, ?_⟩) ?_ ?_
             rotate_left
             · intro w'
               go_simp
               with_reducible rfl
             rotate_left
             · simp only [Act.put, List.setIfInBounds_toArray, List.set_cons_zero, List.set_cons_succ, i64_w, i32_w]
               rfl
             refine pure_ (i := 3) (N := some 79) (v := ?_) (a' := ?_) #[true, true, true, true, false, false, false, false, false, false, false, false, false, false, false, false, false, false, false, false, false, false, false, false, false, false, false, false] rfl rfl (any_of HT_.out (by kernel_rfl)) (fun _ _ _ h => h) (Or.inl ⟨by rfl, ?_⟩) ?_ ?_
             rotate_left
             · intro w'
               go_simp
               with_reducible rfl
             rotate_left
             · simp only [Act.put, List.setIfInBounds_toArray, List.set_cons_zero, List.set_cons_succ, i64_w, i32_w]
               rfl
             refine pure_ (i := 4) (N := some 80) (v := ?_) (a' := ?_) #[true, true, true, true, true, false, false, false, false, false, false, false, false, false, false, false, false, false, false, false, false, false, false, false, false, false, false, false] rfl rfl (any_of HT_.out (by kernel_rfl)) (fun _ _ _ h => h) (Or.inl ⟨by rfl, ?_⟩) ?_ ?_
             rotate_left
             · intro w'
               go_simp
               with_reducible rfl
             rotate_left
             · simp only [Act.put, List.setIfInBounds_toArray, List.set_cons_zero, List.set_cons_succ, i64_w, i32_w]
               rfl
             refine pure_ (i := 5) (N := some 81) (v := ?_) (a' := ?_) #[true, true, true, true, true, true, false, false, false, false, false, false, false, false, false, false, false, false, false, false, false, false, false, false, false, false, false, false] rfl rfl (any_of HT_.out (by kernel_rfl)) (fun _ _ _ h => h) (Or.inl ⟨by rfl, ?_⟩) ?_ ?_
             rotate_left
             · intro w'
               go_simp
               with_reducible rfl
             rotate_left
             · simp only [Act.put, List.setIfInBounds_toArray, List.set_cons_zero, List.set_cons_succ, i64_w, i32_w]
               rfl
             refine pure_ (i := 6) (N := some 82) (v := ?_) (a' := ?_) #[true, true, true, true, true, true, true, false, false, false, false, false, false, false, false, false, false, false, false, false, false, false, false, false, false, false, false, false] rfl rfl (any_of HT_.out (by kernel_rfl)) (fun _ _ _ h => h) (Or.inl ⟨by rfl, ?_⟩) ?_ ?_
             rotate_left
             · intro w'
               go_simp
               with_reducible rfl
             rotate_left
             · simp only [Act.put, List.setIfInBounds_toArray, List.set_cons_zero, List.set_cons_succ, i64_w, i32_w]
               rfl
             refine pure_ (i := 7) (N := some 83) (v := ?_) (a' := ?_) #[true, true, true, true, true, true, true, true, false, false, false, false, false, false, false, false, false, false, false, false, false, false, false, false, false, false, false, false] rfl rfl (any_of HT_.out (by kernel_rfl)) (fun _ _ _ h => h) (Or.inl ⟨by rfl, ?_⟩) ?_ ?_
             rotate_left
             · intro w'
               go_simp
               with_reducible rfl
             rotate_left
             · simp only [Act.put, List.setIfInBounds_toArray, List.set_cons_zero, List.set_cons_succ, i64_w, i32_w]
               rfl
             refine pure_ (i := 8) (N := some 84) (v := ?_) (a' := ?_) #[true, true, true, true, true, true, true, true, true, false, false, false, false, false, false, false, false, false, false, false, false, false, false, false, false, false, false, false] rfl rfl (any_of HT_.out (by kernel_rfl)) (fun _ _ _ h => h) (Or.inl ⟨by rfl, ?_⟩) ?_ ?_
             rotate_left
             · intro w'
               go_simp
               with_reducible rfl
             rotate_left
             · simp only [Act.put, List.setIfInBounds_toArray, List.set_cons_zero, List.set_cons_succ, i64_w, i32_w]
               rfl
             refine pure_ (i := 9) (N := some 85) (v := ?_) (a' := ?_) #[true, true, true, true, true, true, true, true, true, true, false, false, false, false, false, false, false, false, false, false, false, false, false, false, false, false, false, false] rfl rfl (any_of HT_.out (by kernel_rfl)) (fun _ _ _ h => h) (Or.inl ⟨by rfl, ?_⟩) ?_ ?_
             rotate_left
             · intro w'
               go_simp
               with_reducible rfl
             rotate_left
             · simp only [Act.put, List.setIfInBounds_toArray, List.set_cons_zero, List.set_cons_succ, i64_w, i32_w]
               rfl
             refine pure_ (i := 11) (N := some 87) (v := ?_) (a' := ?_) #[true, true, true, true, true, true, true, true, true, true, false, true, false, false, false, false, false, false, false, false, false, false, false, false, false, false, false, false] rfl rfl (any_of HT_.out (by kernel_rfl)) (fun _ _ _ h => h) (Or.inl ⟨by rfl, ?_⟩) ?_ ?_
             rotate_left
             · intro w'
               go_simp
               with_reducible rfl
             rotate_left
             · simp only [Act.put, List.setIfInBounds_toArray, List.set_cons_zero, List.set_cons_succ, i64_w, i32_w]
               rfl
             refine pure_ (i := 13) (N := some 89) (v := ?_) (a' := ?_) #[true, true, true, true, true, true, true, true, true, true, false, true, false, true, false, false, false, false, false, false, false, false, false, false, false, false, false, false] rfl rfl (any_of HT_.out (by kernel_rfl)) (fun _ _ _ h => h) (Or.inl ⟨by rfl, ?_⟩) ?_ ?_
             rotate_left
             · intro w'
               go_simp
               with_reducible rfl
             rotate_left
             · simp only [Act.put, List.setIfInBounds_toArray, List.set_cons_zero, List.set_cons_succ, i64_w, i32_w]
               rfl
             refine pure_ (i := 15) (N := some 91) (v := ?_) (a' := ?_) #[true, true, true, true, true, true, true, true, true, true, false, true, false, true, false, true, false, false, false, false, false, false, false, false, false, false, false, false] rfl rfl (any_of HT_.out (by kernel_rfl)) (fun _ _ _ h => h) (Or.inl ⟨by rfl, ?_⟩) ?_ ?_
             rotate_left
             · intro w'
               go_simp
               with_reducible rfl
             rotate_left
             · simp only [Act.put, List.setIfInBounds_toArray, List.set_cons_zero, List.set_cons_succ, i64_w, i32_w]
               rfl
             refine pure_ (i := 17) (N := some 93) (v := ?_) (a' := ?_) #[true, true, true, true, true, true, true, true, true, true, false, true, false, true, false, true, false, true, false, false, false, false, false, false, false, false, false, false] rfl rfl (any_of HT_.out (by kernel_rfl)) (fun _ _ _ h => h) (Or.inl ⟨by rfl, ?_⟩) ?_ ?_
             rotate_left
             · intro w'
               go_simp
               with_reducible rfl
             rotate_left
             · simp only [Act.put, List.setIfInBounds_toArray, List.set_cons_zero, List.set_cons_succ, i64_w, i32_w]
               rfl
             refine pure_ (i := 19) (N := some 95) (v := ?_) (a' := ?_) #[true, true, true, true, true, true, true, true, true, true, false, true, false, true, false, true, false, true, false, true, false, false, false, false, false, false, false, false] rfl rfl (any_of HT_.out (by kernel_rfl)) (fun _ _ _ h => h) (Or.inl ⟨by rfl, ?_⟩) ?_ ?_
             rotate_left
             · intro w'
               go_simp
               with_reducible rfl
             rotate_left
             · simp only [Act.put, List.setIfInBounds_toArray, List.set_cons_zero, List.set_cons_succ, i64_w, i32_w]
               rfl
             refine pure_ (i := 21) (N := some 97) (v := ?_) (a' := ?_) #[true, true, true, true, true, true, true, true, true, true, false, true, false, true, false, true, false, true, false, true, false, true, false, false, false, false, false, false] rfl rfl (any_of HT_.out (by kernel_rfl)) (fun _ _ _ h => h) (Or.inl ⟨by rfl, ?_⟩) ?_ ?_
             rotate_left
             · intro w'
               go_simp
               with_reducible rfl
             rotate_left
             · simp only [Act.put, List.setIfInBounds_toArray, List.set_cons_zero, List.set_cons_succ, i64_w, i32_w]
               rfl
             refine pure_ (i := 23) (N := some 99) (v := ?_) (a' := ?_) #[true, true, true, true, true, true, true, true, true, true, false, true, false, true, false, true, false, true, false, true, false, true, false, true, false, false, false, false] rfl rfl (any_of HT_.out (by kernel_rfl)) (fun _ _ _ h => h) (Or.inl ⟨by rfl, ?_⟩) ?_ ?_
             rotate_left
             · intro w'
               go_simp
               with_reducible rfl
             rotate_left
             · simp only [Act.put, List.setIfInBounds_toArray, List.set_cons_zero, List.set_cons_succ, i64_w, i32_w]
               rfl
             refine take_ (i := 10) (N := some 86) (v := ?_) (a' := ?_) #[true, true, true, true, true, true, true, true, true, true, true, true, false, true, false, true, false, true, false, true, false, true, false, true, false, false, false, false] rfl rfl (take_ofW HT_.out HW_.out (by kernel_rfl)) (fun _ _ _ h => h) (Or.inl ⟨by rfl, ?_⟩) hHeld ?_ ?_
             rotate_left
             · rintro w' ⟨s0, s1, s2⟩
               go_simp
               with_reducible rfl
             rotate_left
             · simp only [Act.put, List.setIfInBounds_toArray, List.set_cons_zero, List.set_cons_succ, i64_w, i32_w]
               rfl
             refine take_ (i := 12) (N := some 88) (v := ?_) (a' := ?_) #[true, true, true, true, true, true, true, true, true, true, true, true, true, true, false, true, false, true, false, true, false, true, false, true, false, false, false, false] rfl rfl (take_ofW HT_.out HW_.out (by kernel_rfl)) (fun _ _ _ h => h) (Or.inl ⟨by rfl, ?_⟩) hHeld ?_ ?_
             rotate_left
             · rintro w' ⟨s0, s1, s2⟩
               go_simp
               with_reducible rfl
             rotate_left
             · simp only [Act.put, List.setIfInBounds_toArray, List.set_cons_zero, List.set_cons_succ, i64_w, i32_w]
               rfl
             refine take_ (i := 14) (N := some 90) (v := ?_) (a' := ?_) #[true, true, true, true, true, true, true, true, true, true, true, true, true, true, true, true, false, true, false, true, false, true, false, true, false, false, false, false] rfl rfl (take_ofW HT_.out HW_.out (by kernel_rfl)) (fun _ _ _ h => h) (Or.inl ⟨by rfl, ?_⟩) hHeld ?_ ?_
             rotate_left
             · rintro w' ⟨s0, s1, s2⟩
               go_simp
               with_reducible rfl
             rotate_left
             · simp only [Act.put, List.setIfInBounds_toArray, List.set_cons_zero, List.set_cons_succ, i64_w, i32_w]
               rfl
             refine take_ (i := 18) (N := some 94) (v := ?_) (a' := ?_) #[true, true, true, true, true, true, true, true, true, true, true, true, true, true, true, true, false, true, true, true, false, true, false, true, false, false, false, false] rfl rfl (take_ofW HT_.out HW_.out (by kernel_rfl)) (fun _ _ _ h => h) (Or.inl ⟨by rfl, ?_⟩) hHeld ?_ ?_
             rotate_left
             · rintro w' ⟨s0, s1, s2⟩
               go_simp
               with_reducible rfl
             rotate_left
             · simp only [Act.put, List.setIfInBounds_toArray, List.set_cons_zero, List.set_cons_succ, i64_w, i32_w]
               rfl
             refine take_ (i := 20) (N := some 96) (v := ?_) (a' := ?_) #[true, true, true, true, true, true, true, true, true, true, true, true, true, true, true, true, false, true, true, true, true, true, false, true, false, false, false, false] rfl rfl (take_ofW HT_.out HW_.out (by kernel_rfl)) (fun _ _ _ h => h) (Or.inl ⟨by rfl, ?_⟩) hHeld ?_ ?_
             rotate_left
             · rintro w' ⟨s0, s1, s2⟩
               go_simp
               with_reducible rfl
             rotate_left
             · simp only [Act.put, List.setIfInBounds_toArray, List.set_cons_zero, List.set_cons_succ, i64_w, i32_w]
               rfl
             refine take_ (i := 22) (N := some 98) (v := ?_) (a' := ?_) #[true, true, true, true, true, true, true, true, true, true, true, true, true, true, true, true, false, true, true, true, true, true, true, true, false, false, false, false] rfl rfl (take_ofW HT_.out HW_.out (by kernel_rfl)) (fun _ _ _ h => h) (Or.inl ⟨by rfl, ?_⟩) hHeld ?_ ?_
             rotate_left
             · rintro w' ⟨s0, s1, s2⟩
               go_simp
               with_reducible rfl
             rotate_left
             · simp only [Act.put, List.setIfInBounds_toArray, List.set_cons_zero, List.set_cons_succ, i64_w, i32_w]
               rfl
             refine one_ (i := 16) (N := some 92) #[true, true, true, true, true, true, true, true, true, true, true, true, true, true, true, true, true, true, true, true, true, true, true, true, false, false, false, false] rfl rfl (one_of HT_.out (by kernel_rfl)) (by decide) (fun K hK => ?_)
             refine goes_ Try.func21 (by kernel_rfl) rfl #[.int .i64 a0_0, .slice A0_1 l0_1.length c0_1, .int .i64 a0_2, .slice A2 l2.length c2] (by rfl) rfl rfl (by (try simp only [List.map_toArray, List.map_cons, List.map_nil]); first | done | rfl | (simp only [List.length_drop, List.length_take]; rfl)) ?_
             with_reducible refine (diffcons_Violated.calls a0_0 _ _ l0_1 a0_2 _ _ l2 t420 _ ?side1 ?side2 ?side3 ?side4 A41.out).mono ?_
             (case side1 => repeat (first | exact (Kd.C_below HR0_1.out HB.out) | (with_reducible refine Kd.C_alloc ?_ _) | (with_reducible refine Kd.C_drewN ?_ _) | (with_reducible refine Kd.C_drew ?_)))
             (case side2 => exact HC0_1.out)
             (case side3 => repeat (first | exact (Kd.C_below HR2.out HB.out) | (with_reducible refine Kd.C_alloc ?_ _) | (with_reducible refine Kd.C_drewN ?_ _) | (with_reducible refine Kd.C_drew ?_)))
             (case side4 => exact HC2.out)
             rintro e w48 ⟨rfl, hb⟩
             refine ⟨_, rfl, ?_⟩
             have n0_ := Aside0.mk (blk_below (g := gb408) (o := .cells #[.int .i64 a0_0, .slice A0_1 l0_1.length c0_1, .int .i64 a0_2] 24 (0, 0)) (by (with_reducible repeat (first | refine blk_drewN ?_ _ | refine blk_drew ?_ | refine blk_alloc ?_ _)); exact BK408.out) hb)
             have n1_ := Aside0.mk (below_step (by repeat (first | (with_reducible first | exact HB.out | apply below_alloc | apply pw_below_drewN | apply below_drew1 | refine below_set ?_ GE408.out) | exact HB.out)) hb)
             clear BK408
             clear HB
             have BK408 := n0_
             have HB := n1_
             clear n0_ n1_
             (try clear hb)
             (try clear hb2)
             (try clear hk)
             (try clear hi)
             refine hK.out _ _ ⟨(blk_cell BK408.out 0).trans rfl, (blk_cell BK408.out 1).trans rfl, (blk_cell BK408.out 2).trans rfl⟩ (fun hHeld => ?_)
             clear hK K
             refine norm_ (a' := ?_) ?_ ?_
             rotate_left
             · show Act.put _ (some 92) _ = _
               simp only [Act.put, List.setIfInBounds_toArray, List.set_cons_zero, List.set_cons_succ, i64_w, i32_w]
               rfl
             refine one_ (i := 24) (N := some 100) #[true, true, true, true, true, true, true, true, true, true, true, true, true, true, true, true, true, true, true, true, true, true, true, true, true, false, false, false] rfl rfl (one_of HT_.out (by kernel_rfl)) (by decide) (fun K hK => ?_)
             refine goes_ Try.func27 (by kernel_rfl) rfl #[.int .i64 a0_0, .slice A0_1 l0_1.length c0_1, .int .i64 a0_2, .slice A2 l2.length c2] (by rfl) rfl rfl (by (try simp only [List.map_toArray, List.map_cons, List.map_nil]); first | done | rfl | (simp only [List.length_drop, List.length_take]; rfl)) ?_
             with_reducible refine (jacquardref30_Violated.calls k2 a0_0 _ _ l0_1 a0_2 _ _ l2 t421 _ ?side1 ?side2 ?side3 ?side4 A42.out).mono ?_
             (case side1 => repeat (first | exact (Kd.C_below HR0_1.out HB.out) | (with_reducible refine Kd.C_alloc ?_ _) | (with_reducible refine Kd.C_drewN ?_ _) | (with_reducible refine Kd.C_drew ?_)))
             (case side2 => exact HC0_1.out)
             (case side3 => repeat (first | exact (Kd.C_below HR2.out HB.out) | (with_reducible refine Kd.C_alloc ?_ _) | (with_reducible refine Kd.C_drewN ?_ _) | (with_reducible refine Kd.C_drew ?_)))
             (case side4 => exact HC2.out)
             rintro e w49 ⟨rfl, hb⟩
             refine ⟨_, rfl, ?_⟩
             have n0_ := Aside0.mk (blk_below (g := gb408) (o := .cells #[.int .i64 a0_0, .slice A0_1 l0_1.length c0_1, .int .i64 a0_2] 24 (0, 0)) (by (with_reducible repeat (first | refine blk_drewN ?_ _ | refine blk_drew ?_ | refine blk_alloc ?_ _)); exact BK408.out) hb)
             have n1_ := Aside0.mk (below_step (by repeat (first | (with_reducible first | exact HB.out | apply below_alloc | apply pw_below_drewN | apply below_drew1 | refine below_set ?_ GE408.out) | exact HB.out)) hb)
             clear BK408
             clear HB
             have BK408 := n0_
             have HB := n1_
             clear n0_ n1_
             (try clear hb)
             (try clear hb2)
             (try clear hk)
             (try clear hi)
             refine hK.out _ _ ⟨(blk_cell BK408.out 0).trans rfl, (blk_cell BK408.out 1).trans rfl, (blk_cell BK408.out 2).trans rfl⟩ (fun hHeld => ?_)
             clear hK K
             refine norm_ (a' := ?_) ?_ ?_
             rotate_left
             · show Act.put _ (some 100) _ = _
               simp only [Act.put, List.setIfInBounds_toArray, List.set_cons_zero, List.set_cons_succ, i64_w, i32_w]
               rfl
             refine pure_ (i := 25) (N := some 101) (v := ?_) (a' := ?_) #[true, true, true, true, true, true, true, true, true, true, true, true, true, true, true, true, true, true, true, true, true, true, true, true, true, true, false, false] rfl rfl (any_of HT_.out (by kernel_rfl)) (fun _ _ _ h => h) (Or.inl ⟨by rfl, ?_⟩) ?_ ?_
             rotate_left
             · intro w'
               go_simp
               with_reducible rfl
             rotate_left
             · simp only [Act.put, List.setIfInBounds_toArray, List.set_cons_zero, List.set_cons_succ, i64_w, i32_w]
               rfl
             refine pure_ (i := 26) (N := some 102) (v := ?_) (a' := ?_) #[true, true, true, true, true, true, true, true, true, true, true, true, true, true, true, true, true, true, true, true, true, true, true, true, true, true, true, false] rfl rfl (any_of HT_.out (by kernel_rfl)) (fun _ _ _ h => h) (Or.inl ⟨by rfl, ?_⟩) ?_ ?_
             rotate_left
             · intro w'
               go_simp
               with_reducible rfl
             rotate_left
             · simp only [Act.put, List.setIfInBounds_toArray, List.set_cons_zero, List.set_cons_succ, i64_w, i32_w]
               rfl
             refine pure_ (i := 27) (N := some 6) (v := ?_) (a' := ?_) #[true, true, true, true, true, true, true, true, true, true, true, true, true, true, true, true, true, true, true, true, true, true, true, true, true, true, true, true] rfl rfl (any_of HT_.out (by kernel_rfl)) (fun _ _ _ h => h) (Or.inl ⟨by rfl, ?_⟩) ?_ ?_
             rotate_left
             · intro w'
               go_simp
               with_reducible rfl
             rotate_left
             · simp only [Act.put, List.setIfInBounds_toArray, List.set_cons_zero, List.set_cons_succ, i64_w, i32_w]
               rfl
             refine done_ (done_of HT_.out (by kernel_rfl)) ?_
             try go_wp2
             go_ret
             exact ⟨by first | rfl | (simp [errW_none, errW_some] <;> rfl) | (simp [*, errW_none, errW_some] <;> rfl), by repeat (first | (with_reducible first | exact HB.out | apply below_alloc | apply pw_below_drewN | apply below_drew1 | refine below_set ?_ GE408.out) | exact HB.out)⟩
           · rw [if_neg c40] at H
             have c40b0 : (t417 == t419) = false := by simpa using c40
             (try (have c40b1 : decide (t417 = t419) = false := by simpa using c40))
             (try (have c40b2 : (t417 == t419) = false := by simpa using c40))
             (try (have c40b3 : ¬ (t417 = t419) := by simpa using c40))
             clear c40
             obtain rfl := Option.some.inj H
             have hcz50_0 : wr.cell? ⟨gb408, 0, none⟩ = some (.int .i64 a0_0) := (blk_cell BK408.out 0).trans rfl
             have hcz50_1 : wr.cell? ⟨gb408, 1, none⟩ = some (.slice A0_1 l0_1.length c0_1) := (blk_cell BK408.out 1).trans rfl
             have hcz50_2 : wr.cell? ⟨gb408, 2, none⟩ = some (.int .i64 a0_2) := (blk_cell BK408.out 2).trans rfl
             have hfz50_0 := blk_frozen BK408.out 0
             have hfz50_1 := blk_frozen BK408.out 1
             have hfz50_2 := blk_frozen BK408.out 2
             try go_wp2_with (first | ((with_reducible refine gate_callee (f := 25) rfl ?_); refine goesL_ (some 62) rfl rfl Try.func25 (by kernel_rfl) rfl #[.int .i64 a0_0, .slice A0_1 l0_1.length c0_1, .int .i64 a0_2, .slice A1 l1.length c1] rfl (by (try simp only [List.map_toArray, List.map_cons, List.map_nil]); first | done | rfl | (simp only [List.length_drop, List.length_take]; rfl)) ?_; (with_reducible refine (diffcons_Positive.calls a0_0 _ _ l0_1 a0_2 _ _ l1 t416 t417 _ ?side1 ?side2 ?side3 ?side4 A37.out).mono ?_); (case side1 => repeat (first | exact (Kd.C_below HR0_1.out HB.out) | (with_reducible refine Kd.C_alloc ?_ _) | (with_reducible refine Kd.C_drewN ?_ _) | (with_reducible refine Kd.C_drew ?_))); (case side2 => exact HC0_1.out); (case side3 => repeat (first | exact (Kd.C_below HR1.out HB.out) | (with_reducible refine Kd.C_alloc ?_ _) | (with_reducible refine Kd.C_drewN ?_ _) | (with_reducible refine Kd.C_drew ?_))); (case side4 => exact HC1.out); rintro e w51 ⟨rfl, hb⟩; refine ⟨_, rfl, ?_⟩; have n0_ := Aside0.mk (blk_below (g := gb408) (o := .cells #[.int .i64 a0_0, .slice A0_1 l0_1.length c0_1, .int .i64 a0_2] 24 (0, 0)) (by (with_reducible repeat (first | refine blk_drewN ?_ _ | refine blk_drew ?_ | refine blk_alloc ?_ _)); exact BK408.out) hb); have n1_ := Aside0.mk (below_step (by repeat (first | (with_reducible first | exact HB.out | apply below_alloc | apply pw_below_drewN | apply below_drew1 | refine below_set ?_ GE408.out) | exact HB.out)) hb); clear BK408; clear HB; have BK408 := n0_; have HB := n1_; clear n0_ n1_; (try clear hb); (try clear hb2); (try clear hk); (try clear hi); have hcz52_0 : w51.cell? ⟨gb408, 0, none⟩ = some (.int .i64 a0_0) := (blk_cell BK408.out 0).trans rfl; have hcz52_1 : w51.cell? ⟨gb408, 1, none⟩ = some (.slice A0_1 l0_1.length c0_1) := (blk_cell BK408.out 1).trans rfl; have hcz52_2 : w51.cell? ⟨gb408, 2, none⟩ = some (.int .i64 a0_2) := (blk_cell BK408.out 2).trans rfl; have hfz52_0 := blk_frozen BK408.out 0; have hfz52_1 := blk_frozen BK408.out 1; have hfz52_2 := blk_frozen BK408.out 2) | ((with_reducible refine gate_callee (f := 26) rfl ?_); refine goesL_ (some 73) rfl rfl Try.func26 (by kernel_rfl) rfl #[.int .i64 a0_0, .slice A0_1 l0_1.length c0_1, .int .i64 a0_2, .slice A1 l1.length c1] rfl (by (try simp only [List.map_toArray, List.map_cons, List.map_nil]); first | done | rfl | (simp only [List.length_drop, List.length_take]; rfl)) ?_; (with_reducible refine (jacquardref30_Positive.calls k2 a0_0 _ _ l0_1 a0_2 _ _ l1 t418 t419 _ ?side1 ?side2 ?side3 ?side4 A38.out).mono ?_); (case side1 => repeat (first | exact (Kd.C_below HR0_1.out HB.out) | (with_reducible refine Kd.C_alloc ?_ _) | (with_reducible refine Kd.C_drewN ?_ _) | (with_reducible refine Kd.C_drew ?_))); (case side2 => exact HC0_1.out); (case side3 => repeat (first | exact (Kd.C_below HR1.out HB.out) | (with_reducible refine Kd.C_alloc ?_ _) | (with_reducible refine Kd.C_drewN ?_ _) | (with_reducible refine Kd.C_drew ?_))); (case side4 => exact HC1.out); rintro e w53 ⟨rfl, hb⟩; refine ⟨_, rfl, ?_⟩; have n0_ := Aside0.mk (blk_below (g := gb408) (o := .cells #[.int .i64 a0_0, .slice A0_1 l0_1.length c0_1, .int .i64 a0_2] 24 (0, 0)) (by (with_reducible repeat (first | refine blk_drewN ?_ _ | refine blk_drew ?_ | refine blk_alloc ?_ _)); exact BK408.out) hb); have n1_ := Aside0.mk (below_step (by repeat (first | (with_reducible first | exact HB.out | apply below_alloc | apply pw_below_drewN | apply below_drew1 | refine below_set ?_ GE408.out) | exact HB.out)) hb); clear BK408; clear HB; have BK408 := n0_; have HB := n1_; clear n0_ n1_; (try clear hb); (try clear hb2); (try clear hk); (try clear hi)))
             have n0_ := Aside0.mk (blk_drew BK408.out)
             have n1_ := Aside0.mk (below_drew1 HB.out)
             clear BK408
             clear HB
             have BK408 := n0_
             have HB := n1_
             clear n0_ n1_
             refine start_ (n := 28) (S := fun w' => True) (ds := []) #[false, false, false, false, false, false, false, false, false, false, false, false, false, false, false, false, false, false, false, false, false, false, false, false, false, false, false, false] (by kernel_rfl) rfl rfl trivial (fun hHeld => ?_); refine with_tabW jacquardlaw30_DiffconsChecks.tab11 jacquardlaw30_DiffconsChecks.bits11 (fun HT_ HW_ => ?_)
             generalize w53.drew = w54 at BK408 HB hHeld ⊢
             refine pure_ (i := 0) (N := some 76) (v := ?_) (a' := ?_) #[true, false, false, false, false, false, false, false, false, false, false, false, false, false, false, false, false, false, false, false, false, false, false, false, false, false, false, false] rfl rfl (any_of HT_.out (by kernel_rfl)) (fun _ _ _ h => h) (Or.inl ⟨by rfl, ?_⟩) ?_ ?_
             rotate_left
             · intro w'
               go_simp
               with_reducible rfl
             rotate_left
             · simp only [Act.put, List.setIfInBounds_toArray, List.set_cons_zero, List.set_cons_succ, i64_w, i32_w]
               rfl
             refine pure_ (i := 1) (N := some 77) (v := ?_) (a' := ?_) #[true, true, false, false, false, false, false, false, false, false, false, false, false, false, false, false, false, false, false, false, false, false, false, false, false, false, false, false] rfl rfl (any_of HT_.out (by kernel_rfl)) (fun _ _ _ h => h) (Or.inl ⟨by rfl, ?_⟩) ?_ ?_
             rotate_left
             · intro w'
               go_simp
               with_reducible rfl
             rotate_left
             · simp only [Act.put, List.setIfInBounds_toArray, List.set_cons_zero, List.set_cons_succ, i64_w, i32_w]
               rfl
             refine pure_ (i := 2) (N := some 78) (v := ?_) (a' := ?_) #[true, true, true, false, false, false, false, false, false, false, false, false, false, false, false, false, false, false, false, false, false, false, false, false, false, false, false, false] rfl rfl (any_of HT_.out (by kernel_rfl)) (fun _ _ _ h => h) (Or.inl ⟨by rfl, ?_⟩) ?_ ?_
             rotate_left
             · intro w'
               go_simp
               with_reducible rfl
             rotate_left
             · simp only [Act.put, List.setIfInBounds_toArray, List.set_cons_zero, List.set_cons_succ, i64_w, i32_w]
               rfl
             refine pure_ (i := 3) (N := some 79) (v := ?_) (a' := ?_) #[true, true, true, true, false, false, false, false, false, false, false, false, false, false, false, false, false, false, false, false, false, false, false, false, false, false, false, false] rfl rfl (any_of HT_.out (by kernel_rfl)) (fun _ _ _ h => h) (Or.inl ⟨by rfl, ?_⟩) ?_ ?_
             rotate_left
             · intro w'
               go_simp
               with_reducible rfl
             rotate_left
             · simp only [Act.put, List.setIfInBounds_toArray, List.set_cons_zero, List.set_cons_succ, i64_w, i32_w]
               rfl
             refine pure_ (i := 4) (N := some 80) (v := ?_) (a' := ?_) #[true, true, true, true, true, false, false, false, false, false, false, false, false, false, false, false, false, false, false, false, false, false, false, false, false, false, false, false] rfl rfl (any_of HT_.out (by kernel_rfl)) (fun _ _ _ h => h) (Or.inl ⟨by rfl, ?_⟩) ?_ ?_
             rotate_left
             · intro w'
               go_simp
               with_reducible rfl
             rotate_left
             · simp only [Act.put, List.setIfInBounds_toArray, List.set_cons_zero, List.set_cons_succ, i64_w, i32_w]
               rfl
             refine pure_ (i := 5) (N := some 81) (v := ?_) (a' := ?_) #[true, true, true, true, true, true, false, false, false, false, false, false, false, false, false, false, false, false, false, false, false, false, false, false, false, false, false, false] rfl rfl (any_of HT_.out (by kernel_rfl)) (fun _ _ _ h => h) (Or.inl ⟨by rfl, ?_⟩) ?_ ?_
             rotate_left
             · intro w'
               go_simp
               with_reducible rfl
             rotate_left
             · simp only [Act.put, List.setIfInBounds_toArray, List.set_cons_zero, List.set_cons_succ, i64_w, i32_w]
               rfl
             refine pure_ (i := 6) (N := some 82) (v := ?_) (a' := ?_) #[true, true, true, true, true, true, true, false, false, false, false, false, false, false, false, false, false, false, false, false, false, false, false, false, false, false, false, false] rfl rfl (any_of HT_.out (by kernel_rfl)) (fun _ _ _ h => h) (Or.inl ⟨by rfl, ?_⟩) ?_ ?_
             rotate_left
             · intro w'
               go_simp
               with_reducible rfl
             rotate_left
             · simp only [Act.put, List.setIfInBounds_toArray, List.set_cons_zero, List.set_cons_succ, i64_w, i32_w]
               rfl
             refine pure_ (i := 7) (N := some 83) (v := ?_) (a' := ?_) #[true, true, true, true, true, true, true, true, false, false, false, false, false, false, false, false, false, false, false, false, false, false, false, false, false, false, false, false] rfl rfl (any_of HT_.out (by kernel_rfl)) (fun _ _ _ h => h) (Or.inl ⟨by rfl, ?_⟩) ?_ ?_
             rotate_left
             · intro w'
               go_simp
               with_reducible rfl
             rotate_left
             · simp only [Act.put, List.setIfInBounds_toArray, List.set_cons_zero, List.set_cons_succ, i64_w, i32_w]
               rfl
             refine pure_ (i := 8) (N := some 84) (v := ?_) (a' := ?_) #[true, true, true, true, true, true, true, true, true, false, false, false, false, false, false, false, false, false, false, false, false, false, false, false, false, false, false, false] rfl rfl (any_of HT_.out (by kernel_rfl)) (fun _ _ _ h => h) (Or.inl ⟨by rfl, ?_⟩) ?_ ?_
             rotate_left
             · intro w'
               go_simp
               with_reducible rfl
             rotate_left
             · simp only [Act.put, List.setIfInBounds_toArray, List.set_cons_zero, List.set_cons_succ, i64_w, i32_w]
               rfl
             refine pure_ (i := 9) (N := some 85) (v := undef) (a' := ?_) #[true, true, true, true, true, true, true, true, true, true, false, false, false, false, false, false, false, false, false, false, false, false, false, false, false, false, false, false] rfl rfl (any_of HT_.out (by kernel_rfl)) (fun _ _ _ h => h) (Or.inr ⟨by rfl, rfl⟩) ?_ ?_
             rotate_left
             · simp only [Act.put, List.setIfInBounds_toArray, List.set_cons_zero, List.set_cons_succ, i64_w, i32_w]
               rfl
             refine pure_ (i := 10) (N := some 86) (v := undef) (a' := ?_) #[true, true, true, true, true, true, true, true, true, true, true, false, false, false, false, false, false, false, false, false, false, false, false, false, false, false, false, false] rfl rfl (any_of HT_.out (by kernel_rfl)) (fun _ _ _ h => h) (Or.inr ⟨by rfl, rfl⟩) ?_ ?_
             rotate_left
             · simp only [Act.put, List.setIfInBounds_toArray, List.set_cons_zero, List.set_cons_succ, i64_w, i32_w]
               rfl
             refine pure_ (i := 11) (N := some 87) (v := undef) (a' := ?_) #[true, true, true, true, true, true, true, true, true, true, true, true, false, false, false, false, false, false, false, false, false, false, false, false, false, false, false, false] rfl rfl (any_of HT_.out (by kernel_rfl)) (fun _ _ _ h => h) (Or.inr ⟨by rfl, rfl⟩) ?_ ?_
             rotate_left
             · simp only [Act.put, List.setIfInBounds_toArray, List.set_cons_zero, List.set_cons_succ, i64_w, i32_w]
               rfl
             refine pure_ (i := 12) (N := some 88) (v := undef) (a' := ?_) #[true, true, true, true, true, true, true, true, true, true, true, true, true, false, false, false, false, false, false, false, false, false, false, false, false, false, false, false] rfl rfl (any_of HT_.out (by kernel_rfl)) (fun _ _ _ h => h) (Or.inr ⟨by rfl, rfl⟩) ?_ ?_
             rotate_left
             · simp only [Act.put, List.setIfInBounds_toArray, List.set_cons_zero, List.set_cons_succ, i64_w, i32_w]
               rfl
             refine pure_ (i := 13) (N := some 89) (v := undef) (a' := ?_) #[true, true, true, true, true, true, true, true, true, true, true, true, true, true, false, false, false, false, false, false, false, false, false, false, false, false, false, false] rfl rfl (any_of HT_.out (by kernel_rfl)) (fun _ _ _ h => h) (Or.inr ⟨by rfl, rfl⟩) ?_ ?_
             rotate_left
             · simp only [Act.put, List.setIfInBounds_toArray, List.set_cons_zero, List.set_cons_succ, i64_w, i32_w]
               rfl
             refine pure_ (i := 14) (N := some 90) (v := undef) (a' := ?_) #[true, true, true, true, true, true, true, true, true, true, true, true, true, true, true, false, false, false, false, false, false, false, false, false, false, false, false, false] rfl rfl (any_of HT_.out (by kernel_rfl)) (fun _ _ _ h => h) (Or.inr ⟨by rfl, rfl⟩) ?_ ?_
             rotate_left
             · simp only [Act.put, List.setIfInBounds_toArray, List.set_cons_zero, List.set_cons_succ, i64_w, i32_w]
               rfl
             refine pure_ (i := 15) (N := some 91) (v := undef) (a' := ?_) #[true, true, true, true, true, true, true, true, true, true, true, true, true, true, true, true, false, false, false, false, false, false, false, false, false, false, false, false] rfl rfl (any_of HT_.out (by kernel_rfl)) (fun _ _ _ h => h) (Or.inr ⟨by rfl, rfl⟩) ?_ ?_
             rotate_left
             · simp only [Act.put, List.setIfInBounds_toArray, List.set_cons_zero, List.set_cons_succ, i64_w, i32_w]
               rfl
             refine pure_ (i := 16) (N := some 92) (v := undef) (a' := ?_) #[true, true, true, true, true, true, true, true, true, true, true, true, true, true, true, true, true, false, false, false, false, false, false, false, false, false, false, false] rfl rfl (any_of HT_.out (by kernel_rfl)) (fun _ _ _ h => h) (Or.inr ⟨by rfl, rfl⟩) ?_ ?_
             rotate_left
             · simp only [Act.put, List.setIfInBounds_toArray, List.set_cons_zero, List.set_cons_succ, i64_w, i32_w]
               rfl
             refine pure_ (i := 17) (N := some 93) (v := undef) (a' := ?_) #[true, true, true, true, true, true, true, true, true, true, true, true, true, true, true, true, true, true, false, false, false, false, false, false, false, false, false, false] rfl rfl (any_of HT_.out (by kernel_rfl)) (fun _ _ _ h => h) (Or.inr ⟨by rfl, rfl⟩) ?_ ?_
             rotate_left
             · simp only [Act.put, List.setIfInBounds_toArray, List.set_cons_zero, List.set_cons_succ, i64_w, i32_w]
               rfl
             refine pure_ (i := 18) (N := some 94) (v := undef) (a' := ?_) #[true, true, true, true, true, true, true, true, true, true, true, true, true, true, true, true, true, true, true, false, false, false, false, false, false, false, false, false] rfl rfl (any_of HT_.out (by kernel_rfl)) (fun _ _ _ h => h) (Or.inr ⟨by rfl, rfl⟩) ?_ ?_
             rotate_left
             · simp only [Act.put, List.setIfInBounds_toArray, List.set_cons_zero, List.set_cons_succ, i64_w, i32_w]
               rfl
             refine pure_ (i := 19) (N := some 95) (v := undef) (a' := ?_) #[true, true, true, true, true, true, true, true, true, true, true, true, true, true, true, true, true, true, true, true, false, false, false, false, false, false, false, false] rfl rfl (any_of HT_.out (by kernel_rfl)) (fun _ _ _ h => h) (Or.inr ⟨by rfl, rfl⟩) ?_ ?_
             rotate_left
             · simp only [Act.put, List.setIfInBounds_toArray, List.set_cons_zero, List.set_cons_succ, i64_w, i32_w]
               rfl
             refine pure_ (i := 20) (N := some 96) (v := undef) (a' := ?_) #[true, true, true, true, true, true, true, true, true, true, true, true, true, true, true, true, true, true, true, true, true, false, false, false, false, false, false, false] rfl rfl (any_of HT_.out (by kernel_rfl)) (fun _ _ _ h => h) (Or.inr ⟨by rfl, rfl⟩) ?_ ?_
             rotate_left
             · simp only [Act.put, List.setIfInBounds_toArray, List.set_cons_zero, List.set_cons_succ, i64_w, i32_w]
               rfl
             refine pure_ (i := 21) (N := some 97) (v := undef) (a' := ?_) #[true, true, true, true, true, true, true, true, true, true, true, true, true, true, true, true, true, true, true, true, true, true, false, false, false, false, false, false] rfl rfl (any_of HT_.out (by kernel_rfl)) (fun _ _ _ h => h) (Or.inr ⟨by rfl, rfl⟩) ?_ ?_
             rotate_left
             · simp only [Act.put, List.setIfInBounds_toArray, List.set_cons_zero, List.set_cons_succ, i64_w, i32_w]
               rfl
             refine pure_ (i := 22) (N := some 98) (v := undef) (a' := ?_) #[true, true, true, true, true, true, true, true, true, true, true, true, true, true, true, true, true, true, true, true, true, true, true, false, false, false, false, false] rfl rfl (any_of HT_.out (by kernel_rfl)) (fun _ _ _ h => h) (Or.inr ⟨by rfl, rfl⟩) ?_ ?_
             rotate_left
             · simp only [Act.put, List.setIfInBounds_toArray, List.set_cons_zero, List.set_cons_succ, i64_w, i32_w]
               rfl
             refine pure_ (i := 23) (N := some 99) (v := undef) (a' := ?_) #[true, true, true, true, true, true, true, true, true, true, true, true, true, true, true, true, true, true, true, true, true, true, true, true, false, false, false, false] rfl rfl (any_of HT_.out (by kernel_rfl)) (fun _ _ _ h => h) (Or.inr ⟨by rfl, rfl⟩) ?_ ?_
             rotate_left
             · simp only [Act.put, List.setIfInBounds_toArray, List.set_cons_zero, List.set_cons_succ, i64_w, i32_w]
               rfl
             refine pure_ (i := 24) (N := some 100) (v := undef) (a' := ?_) #[true, true, true, true, true, true, true, true, true, true, true, true, true, true, true, true, true, true, true, true, true, true, true, true, true, false, false, false] rfl rfl (any_of HT_.out (by kernel_rfl)) (fun _ _ _ h => h) (Or.inr ⟨by rfl, rfl⟩) ?_ ?_
             rotate_left
             · simp only [Act.put, List.setIfInBounds_toArray, List.set_cons_zero, List.set_cons_succ, i64_w, i32_w]
               rfl
             refine pure_ (i := 25) (N := some 101) (v := undef) (a' := ?_) #[true, true, true, true, true, true, true, true, true, true, true, true, true, true, true, true, true, true, true, true, true, true, true, true, true, true, false, false] rfl rfl (any_of HT_.out (by kernel_rfl)) (fun _ _ _ h => h) (Or.inr ⟨by rfl, rfl⟩) ?_ ?_
             rotate_left
             · simp only [Act.put, List.setIfInBounds_toArray, List.set_cons_zero, List.set_cons_succ, i64_w, i32_w]
               rfl
             refine pure_ (i := 26) (N := some 102) (v := ?_) (a' := ?_) #[true, true, true, true, true, true, true, true, true, true, true, true, true, true, true, true, true, true, true, true, true, true, true, true, true, true, true, false] rfl rfl (any_of HT_.out (by kernel_rfl)) (fun _ _ _ h => h) (Or.inl ⟨by rfl, ?_⟩) ?_ ?_
             rotate_left
             · intro w'
               go_simp
               with_reducible rfl
             rotate_left
             · simp only [Act.put, List.setIfInBounds_toArray, List.set_cons_zero, List.set_cons_succ, i64_w, i32_w]
               rfl
             refine pure_ (i := 27) (N := some 6) (v := ?_) (a' := ?_) #[true, true, true, true, true, true, true, true, true, true, true, true, true, true, true, true, true, true, true, true, true, true, true, true, true, true, true, true] rfl rfl (any_of HT_.out (by kernel_rfl)) (fun _ _ _ h => h) (Or.inl ⟨by rfl, ?_⟩) ?_ ?_
             rotate_left
             · intro w'
               go_simp
               with_reducible rfl
             rotate_left
             · simp only [Act.put, List.setIfInBounds_toArray, List.set_cons_zero, List.set_cons_succ, i64_w, i32_w]
               rfl
             refine done_ (done_of HT_.out (by kernel_rfl)) ?_
             try go_wp2
             go_ret
             exact ⟨by first | rfl | (simp [errW_none, errW_some] <;> rfl) | (simp [*, errW_none, errW_some] <;> rfl), by repeat (first | (with_reducible first | exact HB.out | apply below_alloc | apply pw_below_drewN | apply below_drew1 | refine below_set ?_ GE408.out) | exact HB.out)⟩
         · rw [if_neg c39] at H
           have c39b0 : (t416 == t418) = false := beq_eq_false_iff_ne.mpr c39
           have c39b1 : (t416 != t418) = true := bne_iff_ne.mpr c39
           obtain rfl := Option.some.inj H
           have hcz55_0 : wr.cell? ⟨gb408, 0, none⟩ = some (.int .i64 a0_0) := (blk_cell BK408.out 0).trans rfl
           have hcz55_1 : wr.cell? ⟨gb408, 1, none⟩ = some (.slice A0_1 l0_1.length c0_1) := (blk_cell BK408.out 1).trans rfl
           have hcz55_2 : wr.cell? ⟨gb408, 2, none⟩ = some (.int .i64 a0_2) := (blk_cell BK408.out 2).trans rfl
           have hfz55_0 := blk_frozen BK408.out 0
           have hfz55_1 := blk_frozen BK408.out 1
           have hfz55_2 := blk_frozen BK408.out 2
           try go_wp2_with (first | ((with_reducible refine gate_callee (f := 25) rfl ?_); refine goesL_ (some 62) rfl rfl Try.func25 (by kernel_rfl) rfl #[.int .i64 a0_0, .slice A0_1 l0_1.length c0_1, .int .i64 a0_2, .slice A1 l1.length c1] rfl (by (try simp only [List.map_toArray, List.map_cons, List.map_nil]); first | done | rfl | (simp only [List.length_drop, List.length_take]; rfl)) ?_; (with_reducible refine (diffcons_Positive.calls a0_0 _ _ l0_1 a0_2 _ _ l1 t416 t417 _ ?side1 ?side2 ?side3 ?side4 A37.out).mono ?_); (case side1 => repeat (first | exact (Kd.C_below HR0_1.out HB.out) | (with_reducible refine Kd.C_alloc ?_ _) | (with_reducible refine Kd.C_drewN ?_ _) | (with_reducible refine Kd.C_drew ?_))); (case side2 => exact HC0_1.out); (case side3 => repeat (first | exact (Kd.C_below HR1.out HB.out) | (with_reducible refine Kd.C_alloc ?_ _) | (with_reducible refine Kd.C_drewN ?_ _) | (with_reducible refine Kd.C_drew ?_))); (case side4 => exact HC1.out); rintro e w56 ⟨rfl, hb⟩; refine ⟨_, rfl, ?_⟩; have n0_ := Aside0.mk (blk_below (g := gb408) (o := .cells #[.int .i64 a0_0, .slice A0_1 l0_1.length c0_1, .int .i64 a0_2] 24 (0, 0)) (by (with_reducible repeat (first | refine blk_drewN ?_ _ | refine blk_drew ?_ | refine blk_alloc ?_ _)); exact BK408.out) hb); have n1_ := Aside0.mk (below_step (by repeat (first | (with_reducible first | exact HB.out | apply below_alloc | apply pw_below_drewN | apply below_drew1 | refine below_set ?_ GE408.out) | exact HB.out)) hb); clear BK408; clear HB; have BK408 := n0_; have HB := n1_; clear n0_ n1_; (try clear hb); (try clear hb2); (try clear hk); (try clear hi); have hcz57_0 : w56.cell? ⟨gb408, 0, none⟩ = some (.int .i64 a0_0) := (blk_cell BK408.out 0).trans rfl; have hcz57_1 : w56.cell? ⟨gb408, 1, none⟩ = some (.slice A0_1 l0_1.length c0_1) := (blk_cell BK408.out 1).trans rfl; have hcz57_2 : w56.cell? ⟨gb408, 2, none⟩ = some (.int .i64 a0_2) := (blk_cell BK408.out 2).trans rfl; have hfz57_0 := blk_frozen BK408.out 0; have hfz57_1 := blk_frozen BK408.out 1; have hfz57_2 := blk_frozen BK408.out 2) | ((with_reducible refine gate_callee (f := 26) rfl ?_); refine goesL_ (some 73) rfl rfl Try.func26 (by kernel_rfl) rfl #[.int .i64 a0_0, .slice A0_1 l0_1.length c0_1, .int .i64 a0_2, .slice A1 l1.length c1] rfl (by (try simp only [List.map_toArray, List.map_cons, List.map_nil]); first | done | rfl | (simp only [List.length_drop, List.length_take]; rfl)) ?_; (with_reducible refine (jacquardref30_Positive.calls k2 a0_0 _ _ l0_1 a0_2 _ _ l1 t418 t419 _ ?side1 ?side2 ?side3 ?side4 A38.out).mono ?_); (case side1 => repeat (first | exact (Kd.C_below HR0_1.out HB.out) | (with_reducible refine Kd.C_alloc ?_ _) | (with_reducible refine Kd.C_drewN ?_ _) | (with_reducible refine Kd.C_drew ?_))); (case side2 => exact HC0_1.out); (case side3 => repeat (first | exact (Kd.C_below HR1.out HB.out) | (with_reducible refine Kd.C_alloc ?_ _) | (with_reducible refine Kd.C_drewN ?_ _) | (with_reducible refine Kd.C_drew ?_))); (case side4 => exact HC1.out); rintro e w58 ⟨rfl, hb⟩; refine ⟨_, rfl, ?_⟩; have n0_ := Aside0.mk (blk_below (g := gb408) (o := .cells #[.int .i64 a0_0, .slice A0_1 l0_1.length c0_1, .int .i64 a0_2] 24 (0, 0)) (by (with_reducible repeat (first | refine blk_drewN ?_ _ | refine blk_drew ?_ | refine blk_alloc ?_ _)); exact BK408.out) hb); have n1_ := Aside0.mk (below_step (by repeat (first | (with_reducible first | exact HB.out | apply below_alloc | apply pw_below_drewN | apply below_drew1 | refine below_set ?_ GE408.out) | exact HB.out)) hb); clear BK408; clear HB; have BK408 := n0_; have HB := n1_; clear n0_ n1_; (try clear hb); (try clear hb2); (try clear hk); (try clear hi)))
           have n0_ := Aside0.mk (blk_drew BK408.out)
           have n1_ := Aside0.mk (below_drew1 HB.out)
           clear BK408
           clear HB
           have BK408 := n0_
           have HB := n1_
           clear n0_ n1_
           refine start_ (n := 28) (S := fun w' => True) (ds := []) #[false, false, false, false, false, false, false, false, false, false, false, false, false, false, false, false, false, false, false, false, false, false, false, false, false, false, false, false] (by kernel_rfl) rfl rfl trivial (fun hHeld => ?_); refine with_tabW jacquardlaw30_DiffconsChecks.tab11 jacquardlaw30_DiffconsChecks.bits11 (fun HT_ HW_ => ?_)
           generalize w58.drew = w59 at BK408 HB hHeld ⊢
           refine pure_ (i := 0) (N := some 76) (v := ?_) (a' := ?_) #[true, false, false, false, false, false, false, false, false, false, false, false, false, false, false, false, false, false, false, false, false, false, false, false, false, false, false, false] rfl rfl (any_of HT_.out (by kernel_rfl)) (fun _ _ _ h => h) (Or.inl ⟨by rfl, ?_⟩) ?_ ?_
           rotate_left
           · intro w'
             go_simp
             with_reducible rfl
           rotate_left
           · simp only [Act.put, List.setIfInBounds_toArray, List.set_cons_zero, List.set_cons_succ, i64_w, i32_w]
             rfl
           refine pure_ (i := 1) (N := some 77) (v := ?_) (a' := ?_) #[true, true, false, false, false, false, false, false, false, false, false, false, false, false, false, false, false, false, false, false, false, false, false, false, false, false, false, false] rfl rfl (any_of HT_.out (by kernel_rfl)) (fun _ _ _ h => h) (Or.inl ⟨by rfl, ?_⟩) ?_ ?_
           rotate_left
           · intro w'
             go_simp
             with_reducible rfl
           rotate_left
           · simp only [Act.put, List.setIfInBounds_toArray, List.set_cons_zero, List.set_cons_succ, i64_w, i32_w]
             rfl
           refine pure_ (i := 2) (N := some 78) (v := ?_) (a' := ?_) #[true, true, true, false, false, false, false, false, false, false, false, false, false, false, false, false, false, false, false, false, false, false, false, false, false, false, false, false] rfl rfl (any_of HT_.out (by kernel_rfl)) (fun _ _ _ h => h) (Or.inl ⟨by rfl, ?_⟩) ?_ ?_
           rotate_left
           · intro w'
             go_simp
             with_reducible rfl
           rotate_left
           · simp only [Act.put, List.setIfInBounds_toArray, List.set_cons_zero, List.set_cons_succ, i64_w, i32_w]
             rfl
           refine pure_ (i := 3) (N := some 79) (v := ?_) (a' := ?_) #[true, true, true, true, false, false, false, false, false, false, false, false, false, false, false, false, false, false, false, false, false, false, false, false, false, false, false, false] rfl rfl (any_of HT_.out (by kernel_rfl)) (fun _ _ _ h => h) (Or.inl ⟨by rfl, ?_⟩) ?_ ?_
           rotate_left
           · intro w'
             go_simp
             with_reducible rfl
           rotate_left
           · simp only [Act.put, List.setIfInBounds_toArray, List.set_cons_zero, List.set_cons_succ, i64_w, i32_w]
             rfl
           refine pure_ (i := 4) (N := some 80) (v := undef) (a' := ?_) #[true, true, true, true, true, false, false, false, false, false, false, false, false, false, false, false, false, false, false, false, false, false, false, false, false, false, false, false] rfl rfl (any_of HT_.out (by kernel_rfl)) (fun _ _ _ h => h) (Or.inr ⟨by rfl, rfl⟩) ?_ ?_
           rotate_left
           · simp only [Act.put, List.setIfInBounds_toArray, List.set_cons_zero, List.set_cons_succ, i64_w, i32_w]
             rfl
           refine pure_ (i := 5) (N := some 81) (v := undef) (a' := ?_) #[true, true, true, true, true, true, false, false, false, false, false, false, false, false, false, false, false, false, false, false, false, false, false, false, false, false, false, false] rfl rfl (any_of HT_.out (by kernel_rfl)) (fun _ _ _ h => h) (Or.inr ⟨by rfl, rfl⟩) ?_ ?_
           rotate_left
           · simp only [Act.put, List.setIfInBounds_toArray, List.set_cons_zero, List.set_cons_succ, i64_w, i32_w]
             rfl
           refine pure_ (i := 6) (N := some 82) (v := undef) (a' := ?_) #[true, true, true, true, true, true, true, false, false, false, false, false, false, false, false, false, false, false, false, false, false, false, false, false, false, false, false, false] rfl rfl (any_of HT_.out (by kernel_rfl)) (fun _ _ _ h => h) (Or.inr ⟨by rfl, rfl⟩) ?_ ?_
           rotate_left
           · simp only [Act.put, List.setIfInBounds_toArray, List.set_cons_zero, List.set_cons_succ, i64_w, i32_w]
             rfl
           refine pure_ (i := 7) (N := some 83) (v := ?_) (a' := ?_) #[true, true, true, true, true, true, true, true, false, false, false, false, false, false, false, false, false, false, false, false, false, false, false, false, false, false, false, false] rfl rfl (any_of HT_.out (by kernel_rfl)) (fun _ _ _ h => h) (Or.inl ⟨by rfl, ?_⟩) ?_ ?_
           rotate_left
           · intro w'
             go_simp
             with_reducible rfl
           rotate_left
           · simp only [Act.put, List.setIfInBounds_toArray, List.set_cons_zero, List.set_cons_succ, i64_w, i32_w]
             rfl
           refine pure_ (i := 8) (N := some 84) (v := ?_) (a' := ?_) #[true, true, true, true, true, true, true, true, true, false, false, false, false, false, false, false, false, false, false, false, false, false, false, false, false, false, false, false] rfl rfl (any_of HT_.out (by kernel_rfl)) (fun _ _ _ h => h) (Or.inl ⟨by rfl, ?_⟩) ?_ ?_
           rotate_left
           · intro w'
             go_simp
             with_reducible rfl
           rotate_left
           · simp only [Act.put, List.setIfInBounds_toArray, List.set_cons_zero, List.set_cons_succ, i64_w, i32_w]
             rfl
           refine pure_ (i := 9) (N := some 85) (v := undef) (a' := ?_) #[true, true, true, true, true, true, true, true, true, true, false, false, false, false, false, false, false, false, false, false, false, false, false, false, false, false, false, false] rfl rfl (any_of HT_.out (by kernel_rfl)) (fun _ _ _ h => h) (Or.inr ⟨by rfl, rfl⟩) ?_ ?_
           rotate_left
           · simp only [Act.put, List.setIfInBounds_toArray, List.set_cons_zero, List.set_cons_succ, i64_w, i32_w]
             rfl
           refine pure_ (i := 10) (N := some 86) (v := undef) (a' := ?_) #[true, true, true, true, true, true, true, true, true, true, true, false, false, false, false, false, false, false, false, false, false, false, false, false, false, false, false, false] rfl rfl (any_of HT_.out (by kernel_rfl)) (fun _ _ _ h => h) (Or.inr ⟨by rfl, rfl⟩) ?_ ?_
           rotate_left
           · simp only [Act.put, List.setIfInBounds_toArray, List.set_cons_zero, List.set_cons_succ, i64_w, i32_w]
             rfl
           refine pure_ (i := 11) (N := some 87) (v := undef) (a' := ?_) #[true, true, true, true, true, true, true, true, true, true, true, true, false, false, false, false, false, false, false, false, false, false, false, false, false, false, false, false] rfl rfl (any_of HT_.out (by kernel_rfl)) (fun _ _ _ h => h) (Or.inr ⟨by rfl, rfl⟩) ?_ ?_
           rotate_left
           · simp only [Act.put, List.setIfInBounds_toArray, List.set_cons_zero, List.set_cons_succ, i64_w, i32_w]
             rfl
           refine pure_ (i := 12) (N := some 88) (v := undef) (a' := ?_) #[true, true, true, true, true, true, true, true, true, true, true, true, true, false, false, false, false, false, false, false, false, false, false, false, false, false, false, false] rfl rfl (any_of HT_.out (by kernel_rfl)) (fun _ _ _ h => h) (Or.inr ⟨by rfl, rfl⟩) ?_ ?_
           rotate_left
           · simp only [Act.put, List.setIfInBounds_toArray, List.set_cons_zero, List.set_cons_succ, i64_w, i32_w]
             rfl
           refine pure_ (i := 13) (N := some 89) (v := undef) (a' := ?_) #[true, true, true, true, true, true, true, true, true, true, true, true, true, true, false, false, false, false, false, false, false, false, false, false, false, false, false, false] rfl rfl (any_of HT_.out (by kernel_rfl)) (fun _ _ _ h => h) (Or.inr ⟨by rfl, rfl⟩) ?_ ?_
           rotate_left
           · simp only [Act.put, List.setIfInBounds_toArray, List.set_cons_zero, List.set_cons_succ, i64_w, i32_w]
             rfl
           refine pure_ (i := 14) (N := some 90) (v := undef) (a' := ?_) #[true, true, true, true, true, true, true, true, true, true, true, true, true, true, true, false, false, false, false, false, false, false, false, false, false, false, false, false] rfl rfl (any_of HT_.out (by kernel_rfl)) (fun _ _ _ h => h) (Or.inr ⟨by rfl, rfl⟩) ?_ ?_
           rotate_left
           · simp only [Act.put, List.setIfInBounds_toArray, List.set_cons_zero, List.set_cons_succ, i64_w, i32_w]
             rfl
           refine pure_ (i := 15) (N := some 91) (v := undef) (a' := ?_) #[true, true, true, true, true, true, true, true, true, true, true, true, true, true, true, true, false, false, false, false, false, false, false, false, false, false, false, false] rfl rfl (any_of HT_.out (by kernel_rfl)) (fun _ _ _ h => h) (Or.inr ⟨by rfl, rfl⟩) ?_ ?_
           rotate_left
           · simp only [Act.put, List.setIfInBounds_toArray, List.set_cons_zero, List.set_cons_succ, i64_w, i32_w]
             rfl
           refine pure_ (i := 16) (N := some 92) (v := undef) (a' := ?_) #[true, true, true, true, true, true, true, true, true, true, true, true, true, true, true, true, true, false, false, false, false, false, false, false, false, false, false, false] rfl rfl (any_of HT_.out (by kernel_rfl)) (fun _ _ _ h => h) (Or.inr ⟨by rfl, rfl⟩) ?_ ?_
           rotate_left
           · simp only [Act.put, List.setIfInBounds_toArray, List.set_cons_zero, List.set_cons_succ, i64_w, i32_w]
             rfl
           refine pure_ (i := 17) (N := some 93) (v := undef) (a' := ?_) #[true, true, true, true, true, true, true, true, true, true, true, true, true, true, true, true, true, true, false, false, false, false, false, false, false, false, false, false] rfl rfl (any_of HT_.out (by kernel_rfl)) (fun _ _ _ h => h) (Or.inr ⟨by rfl, rfl⟩) ?_ ?_
           rotate_left
           · simp only [Act.put, List.setIfInBounds_toArray, List.set_cons_zero, List.set_cons_succ, i64_w, i32_w]
             rfl
           refine pure_ (i := 18) (N := some 94) (v := undef) (a' := ?_) #[true, true, true, true, true, true, true, true, true, true, true, true, true, true, true, true, true, true, true, false, false, false, false, false, false, false, false, false] rfl rfl (any_of HT_.out (by kernel_rfl)) (fun _ _ _ h => h) (Or.inr ⟨by rfl, rfl⟩) ?_ ?_
           rotate_left
           · simp only [Act.put, List.setIfInBounds_toArray, List.set_cons_zero, List.set_cons_succ, i64_w, i32_w]
             rfl
           refine pure_ (i := 19) (N := some 95) (v := undef) (a' := ?_) #[true, true, true, true, true, true, true, true, true, true, true, true, true, true, true, true, true, true, true, true, false, false, false, false, false, false, false, false] rfl rfl (any_of HT_.out (by kernel_rfl)) (fun _ _ _ h => h) (Or.inr ⟨by rfl, rfl⟩) ?_ ?_
           rotate_left
           · simp only [Act.put, List.setIfInBounds_toArray, List.set_cons_zero, List.set_cons_succ, i64_w, i32_w]
             rfl
           refine pure_ (i := 20) (N := some 96) (v := undef) (a' := ?_) #[true, true, true, true, true, true, true, true, true, true, true, true, true, true, true, true, true, true, true, true, true, false, false, false, false, false, false, false] rfl rfl (any_of HT_.out (by kernel_rfl)) (fun _ _ _ h => h) (Or.inr ⟨by rfl, rfl⟩) ?_ ?_
           rotate_left
           · simp only [Act.put, List.setIfInBounds_toArray, List.set_cons_zero, List.set_cons_succ, i64_w, i32_w]
             rfl
           refine pure_ (i := 21) (N := some 97) (v := undef) (a' := ?_) #[true, true, true, true, true, true, true, true, true, true, true, true, true, true, true, true, true, true, true, true, true, true, false, false, false, false, false, false] rfl rfl (any_of HT_.out (by kernel_rfl)) (fun _ _ _ h => h) (Or.inr ⟨by rfl, rfl⟩) ?_ ?_
           rotate_left
           · simp only [Act.put, List.setIfInBounds_toArray, List.set_cons_zero, List.set_cons_succ, i64_w, i32_w]
             rfl
           refine pure_ (i := 22) (N := some 98) (v := undef) (a' := ?_) #[true, true, true, true, true, true, true, true, true, true, true, true, true, true, true, true, true, true, true, true, true, true, true, false, false, false, false, false] rfl rfl (any_of HT_.out (by kernel_rfl)) (fun _ _ _ h => h) (Or.inr ⟨by rfl, rfl⟩) ?_ ?_
           rotate_left
           · simp only [Act.put, List.setIfInBounds_toArray, List.set_cons_zero, List.set_cons_succ, i64_w, i32_w]
             rfl
           refine pure_ (i := 23) (N := some 99) (v := undef) (a' := ?_) #[true, true, true, true, true, true, true, true, true, true, true, true, true, true, true, true, true, true, true, true, true, true, true, true, false, false, false, false] rfl rfl (any_of HT_.out (by kernel_rfl)) (fun _ _ _ h => h) (Or.inr ⟨by rfl, rfl⟩) ?_ ?_
           rotate_left
           · simp only [Act.put, List.setIfInBounds_toArray, List.set_cons_zero, List.set_cons_succ, i64_w, i32_w]
             rfl
           refine pure_ (i := 24) (N := some 100) (v := undef) (a' := ?_) #[true, true, true, true, true, true, true, true, true, true, true, true, true, true, true, true, true, true, true, true, true, true, true, true, true, false, false, false] rfl rfl (any_of HT_.out (by kernel_rfl)) (fun _ _ _ h => h) (Or.inr ⟨by rfl, rfl⟩) ?_ ?_
           rotate_left
           · simp only [Act.put, List.setIfInBounds_toArray, List.set_cons_zero, List.set_cons_succ, i64_w, i32_w]
             rfl
           refine pure_ (i := 25) (N := some 101) (v := undef) (a' := ?_) #[true, true, true, true, true, true, true, true, true, true, true, true, true, true, true, true, true, true, true, true, true, true, true, true, true, true, false, false] rfl rfl (any_of HT_.out (by kernel_rfl)) (fun _ _ _ h => h) (Or.inr ⟨by rfl, rfl⟩) ?_ ?_
           rotate_left
           · simp only [Act.put, List.setIfInBounds_toArray, List.set_cons_zero, List.set_cons_succ, i64_w, i32_w]
             rfl
           refine pure_ (i := 26) (N := some 102) (v := ?_) (a' := ?_) #[true, true, true, true, true, true, true, true, true, true, true, true, true, true, true, true, true, true, true, true, true, true, true, true, true, true, true, false] rfl rfl (any_of HT_.out (by kernel_rfl)) (fun _ _ _ h => h) (Or.inl ⟨by rfl, ?_⟩) ?_ ?_
           rotate_left
           · intro w'
             go_simp
             with_reducible rfl
           rotate_left
           · simp only [Act.put, List.setIfInBounds_toArray, List.set_cons_zero, List.set_cons_succ, i64_w, i32_w]
             rfl
           refine pure_ (i := 27) (N := some 6) (v := ?_) (a' := ?_) #[true, true, true, true, true, true, true, true, true, true, true, true, true, true, true, true, true, true, true, true, true, true, true, true, true, true, true, true] rfl rfl (any_of HT_.out (by kernel_rfl)) (fun _ _ _ h => h) (Or.inl ⟨by rfl, ?_⟩) ?_ ?_
           rotate_left
           · intro w'
             go_simp
             with_reducible rfl
           rotate_left
           · simp only [Act.put, List.setIfInBounds_toArray, List.set_cons_zero, List.set_cons_succ, i64_w, i32_w]
             rfl
           refine done_ (done_of HT_.out (by kernel_rfl)) ?_
           try go_wp2
           go_ret
           exact ⟨by first | rfl | (simp [errW_none, errW_some] <;> rfl) | (simp [*, errW_none, errW_some] <;> rfl), by repeat (first | (with_reducible first | exact HB.out | apply below_alloc | apply pw_below_drewN | apply below_drew1 | refine below_set ?_ GE408.out) | exact HB.out)⟩
end Go.Proofs.Ytflefelgdcblgaa.Q
