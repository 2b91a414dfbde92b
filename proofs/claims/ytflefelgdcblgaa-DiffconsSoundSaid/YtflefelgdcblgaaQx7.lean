-- Printed by a program of this session (gprint.py, which runs the kit's print.py): Lean checks it.
import Derived.Test.YtflefelgdcblgaaQx0
import Derived.Test.YtflefelgdcblgaaQx4
import Derived.Test.YtflefelgdcblgaaQx6
namespace Go.Proofs.Ytflefelgdcblgaa.Q
open Go.RowKit Go.Proofs.YtflefelgdcblgaaW.PrintWords Go.Proofs.YtflefelgdcblgaaW.PrintLast Go.Proofs.YtflefelgdcblgaaW.PrintMore
attribute [local go_sem] max2_int min2_int max_two min_two max_three min_three max_four min_four   -- for this text's walks alone
set_option linter.unusedVariables false
set_option linter.unusedSimpArgs false
mutual
def jacquardref30_Walks.l0 : Nat → Int → List (S28) → Int → List (List Int) → Int → Int → Option ((List (List Int)) × Bool)
 | 0, _, _, _, _, _, _ => none
 | k + 1, x0, x1, x2, x8, x19, x20 => if x20 < x19 then (if 0 ≤ x0 then (if (x0 : Int).toNat ≤ 35184372088832 then (jacquardref30_Walks.l1 k x0 x1 x2 x8 x20 (List.replicate (x0 : Int).toNat 0) x19 x20 x0 0) else (none)) else (none)) else (jacquardref30_Walks.l2 k x0 x1 x2 x8 (x1.length : Int) 0)
def jacquardref30_Walks.l1 : Nat → Int → List (S28) → Int → List (List Int) → Int → List Int → Int → Int → Int → Int → Option ((List (List Int)) × Bool)
 | 0, _, _, _, _, _, _, _, _, _, _ => none
 | k + 1, x0, x1, x2, x8, x9, x10, x19, x20, x25, x26 => if x26 < x25 then (if 0 ≤ x26 then (if x26 < (x10.length : Int) then (jacquardref30_Walks.l1 k x0 x1 x2 x8 x9 (x10.set (x26 : Int).toNat (-1152921504606846976)) x19 x20 x25 (wrap64 (x26 + 1))) else (none)) else (none)) else (if 0 ≤ x9 then (if x9 < (x10.length : Int) then (if x8.length < 5864062014805 then (jacquardref30_Walks.l0 k x0 x1 x2 (x8 ++ [(x10.set (x9 : Int).toNat 0)]) x19 (wrap64 (x20 + 1))) else (none)) else (none)) else (none))
def jacquardref30_Walks.l2 : Nat → Int → List (S28) → Int → List (List Int) → Int → Int → Option ((List (List Int)) × Bool)
 | 0, _, _, _, _, _, _ => none
 | k + 1, x0, x1, x2, x8, x42, x43 => if x43 < x42 then (if 0 ≤ x43 then (if x43 < (x1.length : Int) then ((jacquardref30_Counts.f x0 ((rd_T28 x1 x43).f0) ((rd_T28 x1 x43).f1) ((rd_T28 x1 x43).f2) ((rd_T28 x1 x43).f3)).bind fun t196 => (if t196 = true then (if 0 ≤ ((rd_T28 x1 x43).f0) then (if ((rd_T28 x1 x43).f0) < (x8.length : Int) then (if 0 ≤ ((rd_T28 x1 x43).f1) then (if ((rd_T28 x1 x43).f1) < ((rd_L2 x8 ((rd_T28 x1 x43).f0)).length : Int) then ((jacquardref30_Weight.f ((rd_T28 x1 x43).f0) ((rd_T28 x1 x43).f1) ((rd_T28 x1 x43).f2) ((rd_T28 x1 x43).f3) x2).bind fun t205 => (jacquardref30_Walks.l2 k x0 x1 x2 (x8.set (((rd_T28 x1 x43).f0) : Int).toNat ((rd_L2 x8 ((rd_T28 x1 x43).f0)).set (((rd_T28 x1 x43).f1) : Int).toNat (mx (rd (rd_L2 x8 ((rd_T28 x1 x43).f0)) ((rd_T28 x1 x43).f1)) t205))) x42 (wrap64 (x43 + 1)))) else (none)) else (none)) else (none)) else (none)) else (jacquardref30_Walks.l2 k x0 x1 x2 x8 x42 (wrap64 (x43 + 1))))) else (none)) else (none)) else (jacquardref30_Walks.l3 k x0 x8 x0 0)
def jacquardref30_Walks.l3 : Nat → Int → List (List Int) → Int → Int → Option ((List (List Int)) × Bool)
 | 0, _, _, _, _ => none
 | k + 1, x0, x8, x89, x90 => if x90 < x89 then (if 0 ≤ x90 then (if x90 < (x8.length : Int) then (if x90 < ((rd_L2 x8 x90).length : Int) then (if (rd (rd_L2 x8 x90) x90) > 0 then (some (([] : List (List Int)), false)) else (jacquardref30_Walks.l4 k x0 x8 x90 x89 x90 x0 0)) else (none)) else (none)) else (none)) else (some (x8, true))
def jacquardref30_Walks.l4 : Nat → Int → List (List Int) → Int → Int → Int → Int → Int → Option ((List (List Int)) × Bool)
 | 0, _, _, _, _, _, _, _ => none
 | k + 1, x0, x8, x13, x89, x90, x101, x102 => if x102 < x101 then (jacquardref30_Walks.l5 k x0 x8 x13 x102 x89 x90 x101 x102 x0 0) else (jacquardref30_Walks.l6 k x0 x8 x89 x90 x0 0)
def jacquardref30_Walks.l5 : Nat → Int → List (List Int) → Int → Int → Int → Int → Int → Int → Int → Int → Option ((List (List Int)) × Bool)
 | 0, _, _, _, _, _, _, _, _, _, _ => none
 | k + 1, x0, x8, x13, x14, x89, x90, x101, x102, x105, x106 => if x106 < x105 then (if 0 ≤ x14 then (if x14 < (x8.length : Int) then (if 0 ≤ x13 then (if x13 < ((rd_L2 x8 x14).length : Int) then (if (rd (rd_L2 x8 x14) x13) > (-1152921504606846976) then (if x13 < (x8.length : Int) then (if 0 ≤ x106 then (if x106 < ((rd_L2 x8 x13).length : Int) then (if (rd (rd_L2 x8 x13) x106) > (-1152921504606846976) then (if x106 < ((rd_L2 x8 x14).length : Int) then (jacquardref30_Walks.l5 k x0 (x8.set (x14 : Int).toNat ((rd_L2 x8 x14).set (x106 : Int).toNat (mx (rd (rd_L2 x8 x14) x106) (wrap64 ((rd (rd_L2 x8 x14) x13) + (rd (rd_L2 x8 x13) x106)))))) x13 x14 x89 x90 x101 x102 x105 (wrap64 (x106 + 1))) else (none)) else (jacquardref30_Walks.l5 k x0 x8 x13 x14 x89 x90 x101 x102 x105 (wrap64 (x106 + 1)))) else (none)) else (none)) else (none)) else (jacquardref30_Walks.l5 k x0 x8 x13 x14 x89 x90 x101 x102 x105 (wrap64 (x106 + 1)))) else (none)) else (none)) else (none)) else (none)) else (jacquardref30_Walks.l4 k x0 x8 x13 x89 x90 x101 (wrap64 (x102 + 1)))
def jacquardref30_Walks.l6 : Nat → Int → List (List Int) → Int → Int → Int → Int → Option ((List (List Int)) × Bool)
 | 0, _, _, _, _, _, _ => none
 | k + 1, x0, x8, x89, x90, x158, x159 => if x159 < x158 then (if 0 ≤ x159 then (if x159 < (x8.length : Int) then (if x159 < ((rd_L2 x8 x159).length : Int) then (if (rd (rd_L2 x8 x159) x159) > 0 then (some (([] : List (List Int)), false)) else (jacquardref30_Walks.l6 k x0 x8 x89 x90 x158 (wrap64 (x159 + 1)))) else (none)) else (none)) else (none)) else (jacquardref30_Walks.l3 k x0 x8 x89 (wrap64 (x90 + 1)))
end
def jacquardref30_Walks.f (k : Nat) (a0 : Int) (l1 : List (S28)) (a2 : Int) : Option ((List (List Int)) × Bool) := (jacquardref30_Nodes.f a0).bind fun t186 => (jacquardref30_Walks.l0 k t186 l1 a2 ([] : List (List Int)) t186 0)
def jacquardref30_Walks.T19 : Bool × List (List Nat × List Nat) := (true, [([], []), ([], []), ([], []), ([1, 2], [1, 2]), ([3], [3]), ([4], [4]), ([0, 5], [0, 5]), ([6], [6]), ([], []), ([], []), ([8, 9], [8, 9]), ([10], [10]), ([11], [11]), ([], []), ([], []), ([], []), ([14, 15], [14, 15]), ([16], [16]), ([17], [17]), ([13, 18], [13, 18]), ([19], [19]), ([], []), ([], []), ([21, 22], [21, 22]), ([23], [23]), ([24], [24]), ([20, 25], [20, 25]), ([26], [26]), ([], []), ([], []), ([28, 29], [28, 29]), ([30], [30]), ([], []), ([31, 32], [31, 32]), ([27, 33], [27, 33]), ([7, 12, 0, 1, 2, 3, 4, 5, 6, 7, 8, 9, 10, 11, 12, 13, 14, 15, 16, 17, 18, 19, 20, 21, 22, 23, 24, 25, 26, 27, 28, 29, 30, 31, 32, 33, 34], [7, 12]), ([35, 34, 33, 0, 1, 2, 3, 4, 5, 6, 7, 8, 9, 10, 11, 12, 13, 14, 15, 16, 17, 18, 19, 20, 21, 22, 23, 24, 25, 26, 27, 28, 29, 30, 31, 32, 33, 34], [34, 35])])
def jacquardref30_Walks.B19 : List Nat := [0, 0, 0, 6, 14, 30, 63, 127, 0, 0, 768, 1792, 3840, 0, 0, 0, 49152, 114688, 245760, 516096, 1040384, 0, 0, 6291456, 14680064, 31457280, 67100672, 134209536, 0, 0, 805306368, 1879048192, 0, 8321499136, 17179860992, 34359738367, 68719476735]
theorem jacquardref30_Walks.tab19 : rtab .any (opsOf Try.f28 19) = jacquardref30_Walks.T19 := by kernel_rfl
theorem jacquardref30_Walks.bits19 : waitsOk jacquardref30_Walks.T19.2 jacquardref30_Walks.B19 = true := by kernel_rfl
def jacquardref30_Walks.T33 : Bool × List (List Nat × List Nat) := (true, [([], []), ([], []), ([0, 1], [0, 1]), ([2], [2]), ([], []), ([], []), ([], []), ([5, 6], [5, 6]), ([7], [7]), ([], []), ([8, 9], [8, 9]), ([10], [10]), ([], []), ([], []), ([12, 13], [12, 13]), ([14], [14]), ([], []), ([15, 16], [15, 16]), ([17], [17]), ([], []), ([], []), ([19, 20], [19, 20]), ([21], [21]), ([], []), ([22, 23], [22, 23]), ([24], [24]), ([18, 25], [18, 25]), ([11, 26], [11, 26]), ([3, 4, 0, 1, 2, 3, 4, 5, 6, 7, 8, 9, 10, 11, 12, 13, 14, 15, 16, 17, 18, 19, 20, 21, 22, 23, 24, 25, 26, 27], [3, 4]), ([28, 27, 0, 1, 2, 3, 4, 5, 6, 7, 8, 9, 10, 11, 12, 13, 14, 15, 16, 17, 18, 19, 20, 21, 22, 23, 24, 25, 26, 27], [27, 28])])
def jacquardref30_Walks.B33 : List Nat := [0, 0, 3, 7, 0, 0, 0, 96, 224, 0, 992, 2016, 0, 0, 12288, 28672, 0, 126976, 258048, 0, 0, 1572864, 3670016, 0, 16252928, 33030144, 67104768, 134217696, 268435455, 536870911]
theorem jacquardref30_Walks.tab33 : rtab .any (opsOf Try.f28 33) = jacquardref30_Walks.T33 := by kernel_rfl
theorem jacquardref30_Walks.bits33 : waitsOk jacquardref30_Walks.T33.2 jacquardref30_Walks.B33 = true := by kernel_rfl
set_option maxHeartbeats 8000000 in set_option maxRecDepth 100000 in theorem jacquardref30_Walks.calls (k : Nat) (a0 : Int) (A1 : Option Addr) (c1 : Nat) (l1 : List (S28)) (a2 : Int) (r1 : List (List Int)) (r2 : Bool) (w : World) (hr1 : Kd.C k28 w A1 l1.length l1) (hc1 : l1.length ≤ c1) (h : jacquardref30_Walks.f k a0 l1 a2 = some (r1, r2)) :
 Calls Try.prog 28 #[.int .i64 a0, .slice A1 l1.length c1, .int .i64 a2] w fun e w' => ∃ v0_ : Value, e = .returned (.tuple #[v0_, .bool r2]) ∧ Kd.S (Kd.slice 3 (Kd.int .i64)) 29 w' w.heap.size (fun _ => True) v0_ r1 ∧ Below w.heap.size w w' := by
 have hu28 := Try.underlying28
 have HR1 := Aside0.mk hr1
 have HC1 := Aside0.mk hc1
 clear hr1 hc1
 have HB := Aside0.mk (Below.refl w.heap.size w)
 have H : ((jacquardref30_Nodes.f a0).bind fun t186 => (jacquardref30_Walks.l0 k t186 l1 a2 ([] : List (List Int)) t186 0)) = some (r1, r2) := h
 clear h
 replace H := Option.bind_eq_some_iff.mp H
 obtain ⟨t186, A40, H⟩ := H
 replace H : (jacquardref30_Walks.l0 k t186 l1 a2 ([] : List (List Int)) t186 0) = some (r1, r2) := H
 have A4 := Aside0.mk A40
 clear A40
 have H' := Aside0.mk H
 clear H
 go_enter Try.func28, Try.ntmps28
 go_wp2_with (first | ((with_reducible refine gate_callee (f := 20) rfl ?_); refine goesL_ (some 18) rfl rfl Try.func20 (by kernel_rfl) rfl #[.int .i64 a0] rfl (by (try simp only [List.map_toArray, List.map_cons, List.map_nil]); first | done | rfl | (simp only [List.length_drop, List.length_take]; rfl)) ?_; (with_reducible refine (jacquardref30_Nodes.calls a0 t186 _ A4.out).mono ?_); rintro e w5 ⟨rfl, hb⟩; refine ⟨_, rfl, ?_⟩; have n0_ := Aside0.mk (below_step (by repeat (first | (with_reducible first | exact HB.out | apply below_alloc | apply pw_below_drewN | apply below_drew1) | exact HB.out)) hb); clear HB; have HB := n0_; clear n0_; (try clear hb); (try clear hb2); (try clear hk); (try clear hi)))
 go_loopg [8, 20] k (fun kq v8 v20 w' => ∃ (x8_1 : List (List Int)) (x20_1 : Int), v20 = .int .i64 x20_1 ∧ Aside0 (jacquardref30_Walks.l0 kq t186 l1 a2 x8_1 t186 x20_1 = some (r1, r2)) ∧ Aside0 (kq ≤ k) ∧ Aside0 (Kd.S (Kd.slice 3 (Kd.int .i64)) 29 w' w.heap.size (fun _ => True) v8 x8_1) ∧ Aside0 (Below w.heap.size w w'))
 case atStart => exact ⟨(([] : List (List Int))), (0), (by first | rfl | (simp; done) | (simp [*]; done)), H', ⟨Nat.le_refl _⟩, ⟨by first | exact Kd.S_nil _ _ _ _ _ | exact Kd.N_nil _ _ _ _ _ | exact Kd.V_nil _ _ _ _ _ | exact Kd.Q_nil _ _ _ _ _ | exact Kd.R_nil _ _ _ _ _⟩, ⟨by repeat (first | (with_reducible first | exact HB.out | apply below_alloc | apply pw_below_drewN | apply below_drew1) | exact HB.out)⟩⟩
 case round =>
  clear H'
  try clear c1
  try clear c2
  try clear p2
  obtain ⟨x8_1, x20_1, rfl, HA, HK1, HO_8, HB⟩ := hrel
  cases gk with
  | zero => exact absurd HA.out (by simp [jacquardref30_Walks.l0])
  | succ k1 =>
   have H := HA.out
   clear HA
   simp only [jacquardref30_Walks.l0] at H
   by_cases c6 : x20_1 < t186
   · rw [if_pos c6] at H
     have c6b0 : decide (x20_1 < t186) = true := decide_eq_true c6
     clear c6
     by_cases c7 : 0 ≤ t186
     · rw [if_pos c7] at H
       have c7b0 := eq_true c7
       have c7b1 : decide (0 ≤ t186) = true := decide_eq_true c7
       clear c7
       by_cases c8 : (t186 : Int).toNat ≤ 35184372088832
       · rw [if_pos c8] at H
         have c8b0 := eq_true c8
         have c8b1 : decide ((t186 : Int).toNat ≤ 35184372088832) = true := decide_eq_true c8
         clear c8
         obtain ⟨y187, hy187⟩ : ∃ y_ : List Int, y_ = (List.replicate (t186 : Int).toNat 0) := ⟨_, rfl⟩
         replace H : (jacquardref30_Walks.l1 k1 t186 l1 a2 x8_1 x20_1 y187 t186 x20_1 t186 0) = some (r1, r2) := by first | (rw [hy187]; with_reducible exact H) | (have H2_ := (Option.bind_some _ _).symm.trans H; rw [hy187]; with_reducible exact H2_) | (have H2_ := (Option.bind_some _ _).symm.trans H; with_reducible exact H2_) | with_reducible exact H | (rw [hy187]; exact H) | exact H
         have Ny187 := Aside0.mk hy187
         clear hy187
         have H' := Aside0.mk H
         clear H
         go_wp2_with (first | ((with_reducible refine gate_dst (N := 24) rfl ?_); refine Kd.R_make (Kd.int .i64) _ 3 rfl (N := 24) rfl 29 _ _ rfl t186 rfl rfl Try.underlying29 (.int .i64 0) 8 info3 rfl (by decide) (by omega) 0 (ok := fun _ => True) (okp := fun _ => True) rfl (fun _ hk => hk) trivial (of_decide_eq_true (by first | (with_reducible assumption) | assumption)) (Nat.le_trans (Nat.mul_le_mul_right _ (of_decide_eq_true (by first | (with_reducible assumption) | assumption) : t186.toNat ≤ 35184372088832)) (by omega)) (Below.refl _ _) (Nat.le_refl _) ?_; intro v188 w9 ho10 hb hg_ hnew_; clear hg_ hnew_; (first | rw [← Ny187.out] at ho10 | (simp only [Int.reduceToNat] at ho10; rw [← Ny187.out] at ho10)); have n0_ := Aside0.mk (Kd.S_elder' (by (with_reducible repeat (first | apply Kd.S_alloc | apply Kd.S_drewN | apply Kd.S_drew)); exact HO_8.out) (Kd.R_base ho10) hb); have n1_ := Aside0.mk (Kd.R_lower ho10 (below_size (by repeat (first | (with_reducible first | exact HB.out | apply below_alloc | apply pw_below_drewN | apply below_drew1) | exact HB.out)))); have n2_ := Aside0.mk (below_step (by repeat (first | (with_reducible first | exact HB.out | apply below_alloc | apply pw_below_drewN | apply below_drew1) | exact HB.out)) hb); clear HO_8; clear HB; have HO_8 := n0_; have HO189 := n1_; have HB := n2_; clear n0_ n1_ n2_; clear hb ho10))
         go_loopg [26] k1 (fun kq v26 w' => ∃ (x10_2 : List Int) (x26_2 : Int), v26 = .int .i64 x26_2 ∧ Aside0 (jacquardref30_Walks.l1 kq t186 l1 a2 x8_1 x20_1 x10_2 t186 x20_1 t186 x26_2 = some (r1, r2)) ∧ Aside0 (kq ≤ k1) ∧ Aside0 (Kd.S (Kd.slice 3 (Kd.int .i64)) 29 w' w.heap.size (fun k_ => some k_ ≠ (v188 : Value).ownBlock) u8 x8_1) ∧ Aside0 (Kd.R (Kd.int .i64) 3 w' w.heap.size (fun _ => True) v188 x10_2) ∧ Aside0 (Below w.heap.size w w'))
         case atStart => exact ⟨(y187), (0), (by first | rfl | (simp; done) | (simp [*]; done)), H', ⟨Nat.le_refl _⟩, ⟨by (with_reducible repeat (first | apply Kd.S_alloc | apply Kd.S_drewN | apply Kd.S_drew)); exact Kd.S_mono HO_8.out (fun _ hk => hk.2)⟩, ⟨by (with_reducible repeat (first | apply Kd.R_alloc | apply Kd.R_drewN | apply Kd.R_drew)); exact HO189.out⟩, ⟨by repeat (first | (with_reducible first | exact HB.out | apply below_alloc | apply pw_below_drewN | apply below_drew1) | exact HB.out)⟩⟩
         case round =>
          clear H'
          try clear c1
          try clear c2
          try clear p2
          try clear c6
          try clear c6b0
          try clear c7
          try clear c7b0
          try clear c7b1
          try clear c8
          try clear c8b0
          try clear c8b1
          try clear p2
          obtain ⟨x10_2, x26_2, rfl, HA, HK2, HO_8, HO_10, HB⟩ := hrel
          cases gk with
          | zero => exact absurd HA.out (by simp [jacquardref30_Walks.l1])
          | succ k2 =>
           have H := HA.out
           clear HA
           simp only [jacquardref30_Walks.l1] at H
           by_cases c11 : x26_2 < t186
           · rw [if_pos c11] at H
             have c11b0 : decide (x26_2 < t186) = true := decide_eq_true c11
             clear c11
             by_cases c12 : 0 ≤ x26_2
             · rw [if_pos c12] at H
               have c12b0 : decide (0 ≤ x26_2) = true := decide_eq_true c12
               clear c12
               by_cases c13 : x26_2 < (x10_2.length : Int)
               · rw [if_pos c13] at H
                 have c13b0 : decide (x26_2 < (x10_2.length : Int)) = true := decide_eq_true c13
                 clear c13
                 obtain ⟨y190, hy190⟩ : ∃ y_ : List Int, y_ = (x10_2.set (x26_2 : Int).toNat (-1152921504606846976)) := ⟨_, rfl⟩
                 replace H : (jacquardref30_Walks.l1 k2 t186 l1 a2 x8_1 x20_1 y190 t186 x20_1 t186 (wrap64 (x26_2 + 1))) = some (r1, r2) := by first | (rw [hy190]; with_reducible exact H) | (have H2_ := (Option.bind_some _ _).symm.trans H; rw [hy190]; with_reducible exact H2_) | (have H2_ := (Option.bind_some _ _).symm.trans H; with_reducible exact H2_) | with_reducible exact H | (rw [hy190]; exact H) | exact H
                 have Ny190 := Aside0.mk hy190
                 clear hy190
                 have H' := Aside0.mk H
                 clear H
                 have p14 : 0 ≤ (x26_2 : Int) := of_decide_eq_true (by first | (with_reducible assumption) | assumption)
                 have q14 : (x26_2 : Int) < ((x10_2.length : Int) : Int) := of_decide_eq_true (by first | (with_reducible assumption) | assumption)
                 obtain ⟨go14, co14, eo14, gb14, gl14, cl14, HG14⟩ := Kd.R_form HO_10.out (by omega)
                 (first | cases eo14 | (injection eo14 with ea_ en_ ec_; (first | subst ea_ | (injection ea_ with ea_; subst ea_)); subst ec_; clear en_))
                 have GB14 := Aside0.mk gb14
                 have GG14 := Aside0.mk HG14
                 clear gb14 gl14 HG14
                 obtain ⟨hx14_0, hf14_0⟩ := Kd.R_celln 0 HO_10.out (x26_2 : Int) p14 q14
                 replace p14 := eq_true p14
                 replace q14 := eq_true q14
                 have HP15 := Kd.R_putg HO_10.out (x26_2 : Int) (-1152921504606846976)
                 go_wp2_with (first | ((with_reducible refine gate_store (t := 3) (p := 31) rfl ?_); refine store_event (t := 3) (p := 31) (v := ?vo_w16) (w1 := (wr.setCell ⟨go14, (x26_2 : Int).toNat, none⟩ (.int .i64 (-1152921504606846976)))) ?hg ?ho ?hn ?hr ?_; (case ho => rfl); (case hg => rfl); (case hn => rfl); (case hr => first | (go_simp; done) | (go_simp; rfl)); intro w16 hw; have hg : wr.grownBy w16 (some go14) := (by rw [hw]; exact HP15.2); have hp_ : Kd.R (Kd.int .i64) 3 w16 w.heap.size (fun _ => True) (.slice (some ⟨go14, 0, none⟩) x10_2.length co14) y190 := (by rw [hw, Ny190.out]; exact HP15.1); clear HP15; have n0_ := Aside0.mk (Kd.S_after (v := (.slice (some ⟨go14, 0, none⟩) x10_2.length co14)) (v1 := (.slice (some ⟨go14, 0, none⟩) x10_2.length co14)) (ok := (fun _ => True)) (by (with_reducible repeat (first | apply Kd.S_alloc | apply Kd.S_drewN | apply Kd.S_drew)); exact Kd.S_mono HO_8.out (fun _ hk => ⟨trivial, hk⟩)) hg (.inl rfl)); have n1_ := Aside0.mk (hp_); have n2_ := Aside0.mk ((by rw [hw]; exact below_set (HB.out) GB14.out : Below w.heap.size w w16)); clear HO_8; clear HO_10; clear HB; have HO_8 := n0_; have HO_10 := n1_; have HB := n2_; clear n0_ n1_ n2_; clear hg hw hp_))
                 go_roundg k2
                 case measure => have := HK1.out; have := HK2.out; omega
                 case rel => exact ⟨(y190), (wrap64 (x26_2 + 1)), (by first | rfl | (simp; done) | (simp [*]; done)), H', ⟨by have := HK1.out; have := HK2.out; omega⟩, ⟨by (with_reducible repeat (first | apply Kd.S_alloc | apply Kd.S_drewN | apply Kd.S_drew)); exact Kd.S_mono HO_8.out (fun _ hk => hk.2)⟩, ⟨by (with_reducible repeat (first | apply Kd.R_alloc | apply Kd.R_drewN | apply Kd.R_drew)); exact HO_10.out⟩, ⟨by repeat (first | (with_reducible first | exact HB.out | apply below_alloc | apply pw_below_drewN | apply below_drew1) | exact HB.out)⟩⟩
               · rw [if_neg c13] at H
                 exact absurd H (by simp)
             · rw [if_neg c12] at H
               exact absurd H (by simp)
           · rw [if_neg c11] at H
             have c11b0 : decide (x26_2 < t186) = false := decide_eq_false c11
             clear c11
             by_cases c17 : 0 ≤ x20_1
             · rw [if_pos c17] at H
               have c17b0 : decide (0 ≤ x20_1) = true := decide_eq_true c17
               clear c17
               by_cases c18 : x20_1 < (x10_2.length : Int)
               · rw [if_pos c18] at H
                 have c18b0 : decide (x20_1 < (x10_2.length : Int)) = true := decide_eq_true c18
                 clear c18
                 obtain ⟨y191, hy191⟩ : ∃ y_ : List Int, y_ = (x10_2.set (x20_1 : Int).toNat 0) := ⟨_, rfl⟩
                 replace H : (if x8_1.length < 5864062014805 then (jacquardref30_Walks.l0 k2 t186 l1 a2 (x8_1 ++ [y191]) t186 (wrap64 (x20_1 + 1))) else (none)) = some (r1, r2) := by first | (rw [hy191]; with_reducible exact H) | (have H2_ := (Option.bind_some _ _).symm.trans H; rw [hy191]; with_reducible exact H2_) | (have H2_ := (Option.bind_some _ _).symm.trans H; with_reducible exact H2_) | with_reducible exact H | (rw [hy191]; exact H) | exact H
                 have Ny191 := Aside0.mk hy191
                 clear hy191
                 by_cases c20 : x8_1.length < 5864062014805
                 · rw [if_pos c20] at H
                   have LMc20 := Aside0.mk c20
                   clear c20
                   obtain ⟨y192, hy192⟩ : ∃ y_ : List (List Int), y_ = (x8_1 ++ [y191]) := ⟨_, rfl⟩
                   replace H : (jacquardref30_Walks.l0 k2 t186 l1 a2 y192 t186 (wrap64 (x20_1 + 1))) = some (r1, r2) := by first | (rw [hy192]; with_reducible exact H) | (have H2_ := (Option.bind_some _ _).symm.trans H; rw [hy192]; with_reducible exact H2_) | (have H2_ := (Option.bind_some _ _).symm.trans H; with_reducible exact H2_) | with_reducible exact H | (rw [hy192]; exact H) | exact H
                   have Ny192 := Aside0.mk hy192
                   clear hy192
                   have H' := Aside0.mk H
                   clear H
                   have p19 : 0 ≤ (x20_1 : Int) := of_decide_eq_true (by first | (with_reducible assumption) | assumption)
                   have q19 : (x20_1 : Int) < ((x10_2.length : Int) : Int) := of_decide_eq_true (by first | (with_reducible assumption) | assumption)
                   obtain ⟨go19, co19, eo19, gb19, gl19, cl19, HG19⟩ := Kd.R_form HO_10.out (by omega)
                   (first | cases eo19 | (injection eo19 with ea_ en_ ec_; (first | subst ea_ | (injection ea_ with ea_; subst ea_)); subst ec_; clear en_))
                   have GB19 := Aside0.mk gb19
                   have GG19 := Aside0.mk HG19
                   clear gb19 gl19 HG19
                   obtain ⟨hx19_0, hf19_0⟩ := Kd.R_celln 0 HO_10.out (x20_1 : Int) p19 q19
                   replace p19 := eq_true p19
                   replace q19 := eq_true q19
                   have HP21 := Kd.R_putg HO_10.out (x20_1 : Int) 0
                   go_wp2_with (first | ((with_reducible refine gate_store (t := 3) (p := 35) rfl ?_); refine store_event (t := 3) (p := 35) (v := ?vo_w22) (w1 := (wr.setCell ⟨go19, (x20_1 : Int).toNat, none⟩ (.int .i64 0))) ?hg ?ho ?hn ?hr ?_; (case ho => rfl); (case hg => rfl); (case hn => rfl); (case hr => first | (go_simp; done) | (go_simp; rfl)); intro w22 hw; have hg : wr.grownBy w22 (some go19) := (by rw [hw]; exact HP21.2); have hp_ : Kd.R (Kd.int .i64) 3 w22 w.heap.size (fun _ => True) (.slice (some ⟨go19, 0, none⟩) x10_2.length co19) y191 := (by rw [hw, Ny191.out]; exact HP21.1); clear HP21; have n0_ := Aside0.mk (Kd.S_after (v := (.slice (some ⟨go19, 0, none⟩) x10_2.length co19)) (v1 := (.slice (some ⟨go19, 0, none⟩) x10_2.length co19)) (ok := (fun _ => True)) (by (with_reducible repeat (first | apply Kd.S_alloc | apply Kd.S_drewN | apply Kd.S_drew)); exact Kd.S_mono HO_8.out (fun _ hk => ⟨trivial, hk⟩)) hg (.inl rfl)); have n1_ := Aside0.mk (hp_); have n2_ := Aside0.mk ((by rw [hw]; exact below_set (HB.out) GB19.out : Below w.heap.size w w22)); clear HO_8; clear HO_10; clear HB; have HO_8 := n0_; have HO_10 := n1_; have HB := n2_; clear n0_ n1_ n2_; clear hg hw hp_) | ((with_reducible refine gate_builtin (b := .append) (xs := #[.tmp 36, .tmp 38]) rfl ?_); at_builtin; refine Kd.S_append (Kd.slice 3 (Kd.int .i64)) (w0 := w) w.heap.size rfl (.tmp 36) (.tmp 38) 45 29 (.slice none 0 0) 24 rfl Try.underlying45 info29 rfl (by decide) (by omega) u8 x8_1 y191 [.slice (some ⟨go19, 0, none⟩) x10_2.length co19] (fun _ => True) (fun k_ => some k_ = (.slice (some ⟨go19, 0, none⟩) x10_2.length co19 : Value).ownBlock) rfl rfl ?aP (fun k_ hk_ => ((Kd.R_mono (ok' := fun k_ => ((fun _ => True)) k_ ∧ some k_ ≠ (u8 : Value).ownBlock) (Kd.R_apart' (HO_10.out) (Kd.S_typed HO_8.out) (by decide)) (fun k_ hk => ⟨trivial, hk.2⟩))).1 k_ hk_.symm) ?aF ?aO ?aB ?aS ?aL ?_; (case aP => exact Kd.M_row (Kd.R_mono (Kd.R_tight rfl (Kd.R_mono (ok' := fun k_ => ((fun _ => True)) k_ ∧ some k_ ≠ (u8 : Value).ownBlock) (Kd.R_apart' (HO_10.out) (Kd.S_typed HO_8.out) (by decide)) (fun k_ hk => ⟨trivial, hk.2⟩))) (fun _ h_ => h_))); (case aB => exact (by repeat (first | (with_reducible first | exact HB.out | apply below_alloc | apply pw_below_drewN | apply below_drew1) | exact HB.out))); (case aF => exact (fun _ _ => trivial)); (case aO => exact (by (with_reducible repeat (first | apply Kd.S_alloc | apply Kd.S_drewN | apply Kd.S_drew)); exact Kd.S_mono HO_8.out (fun k_ hk => ⟨trivial, fun e_ => hk.2 e_⟩))); (case aS => exact (below_size (by repeat (first | (with_reducible first | exact HB.out | apply below_alloc | apply pw_below_drewN | apply below_drew1) | exact HB.out)))); (case aL => have := LMc20.out; omega); intro v193 w23 ho hb hg hat; rw [← Ny192.out] at ho; have n0_ := Aside0.mk (hb); have n1_ := Aside0.mk (ho); clear HB; clear HO_8; clear HO_10; have HB := n0_; have HO194 := n1_; clear n0_ n1_; clear ho hb hg hat))
                   go_roundg k2
                   case measure => have := HK1.out; have := HK2.out; omega
                   case rel => exact ⟨(y192), (wrap64 (x20_1 + 1)), (by first | rfl | (simp; done) | (simp [*]; done)), H', ⟨by have := HK1.out; have := HK2.out; omega⟩, ⟨by (with_reducible repeat (first | apply Kd.S_alloc | apply Kd.S_drewN | apply Kd.S_drew)); exact HO194.out⟩, ⟨by repeat (first | (with_reducible first | exact HB.out | apply below_alloc | apply pw_below_drewN | apply below_drew1) | exact HB.out)⟩⟩
                 · rw [if_neg c20] at H
                   exact absurd H (by simp)
               · rw [if_neg c18] at H
                 exact absurd H (by simp)
             · rw [if_neg c17] at H
               exact absurd H (by simp)
       · rw [if_neg c8] at H
         exact absurd H (by simp)
     · rw [if_neg c7] at H
       exact absurd H (by simp)
   · rw [if_neg c6] at H
     have c6b0 : decide (x20_1 < t186) = false := decide_eq_false c6
     clear c6
     have H' := Aside0.mk H
     clear H
     go_wp2
     go_loopg [43] k1 (fun kq v43 w' => ∃ (x8_2 : List (List Int)) (x43_2 : Int), v43 = .int .i64 x43_2 ∧ Aside0 (jacquardref30_Walks.l2 kq t186 l1 a2 x8_2 (l1.length : Int) x43_2 = some (r1, r2)) ∧ Aside0 (kq ≤ k1) ∧ Aside0 (Kd.S (Kd.slice 3 (Kd.int .i64)) 29 w' w.heap.size (fun _ => True) u8 x8_2) ∧ Aside0 (Below w.heap.size w w'))
     case atStart => exact ⟨(x8_1), (0), (by first | rfl | (simp; done) | (simp [*]; done)), H', ⟨Nat.le_refl _⟩, ⟨by (with_reducible repeat (first | apply Kd.S_alloc | apply Kd.S_drewN | apply Kd.S_drew)); exact HO_8.out⟩, ⟨by repeat (first | (with_reducible first | exact HB.out | apply below_alloc | apply pw_below_drewN | apply below_drew1) | exact HB.out)⟩⟩
     case round =>
      clear H'
      try clear c1
      try clear p1
      try clear q1
      try clear hx1
      try clear c2
      try clear p2
      try clear c6
      try clear c6b0
      try clear p6
      try clear c7
      try clear c7b0
      try clear c7b1
      try clear c8
      try clear c8b0
      try clear c8b1
      try clear c11
      try clear c11b0
      try clear c12
      try clear c12b0
      try clear c13
      try clear c13b0
      try clear p14
      try clear q14
      try clear hx14
      try clear hf14
      try clear c17
      try clear c17b0
      try clear c18
      try clear c18b0
      try clear p19
      try clear q19
      try clear hx19
      try clear hf19
      try clear c20
      try clear hx14_0
      try clear hx19_0
      try clear p14
      try clear p19
      try clear p2
      try clear q14
      try clear q19
      obtain ⟨x8_2, x43_2, rfl, HA, HK2, HO_8, HB⟩ := hrel
      cases gk with
      | zero => exact absurd HA.out (by simp [jacquardref30_Walks.l2])
      | succ k2 =>
       have H := HA.out
       clear HA
       simp only [jacquardref30_Walks.l2] at H
       by_cases c24 : x43_2 < (l1.length : Int)
       · rw [if_pos c24] at H
         have c24b0 : decide (x43_2 < (l1.length : Int)) = true := decide_eq_true c24
         clear c24
         by_cases c25 : 0 ≤ x43_2
         · rw [if_pos c25] at H
           have c25b0 : decide (0 ≤ x43_2) = true := decide_eq_true c25
           clear c25
           by_cases c26 : x43_2 < (l1.length : Int)
           · rw [if_pos c26] at H
             have c26b0 : decide (x43_2 < (l1.length : Int)) = true := decide_eq_true c26
             clear c26
             replace H := Option.bind_eq_some_iff.mp H
             obtain ⟨t196, A270, H⟩ := H
             replace H : (if t196 = true then (if 0 ≤ ((rd_T28 l1 x43_2).f0) then (if ((rd_T28 l1 x43_2).f0) < (x8_2.length : Int) then (if 0 ≤ ((rd_T28 l1 x43_2).f1) then (if ((rd_T28 l1 x43_2).f1) < ((rd_L2 x8_2 ((rd_T28 l1 x43_2).f0)).length : Int) then ((jacquardref30_Weight.f ((rd_T28 l1 x43_2).f0) ((rd_T28 l1 x43_2).f1) ((rd_T28 l1 x43_2).f2) ((rd_T28 l1 x43_2).f3) a2).bind fun t205 => (jacquardref30_Walks.l2 k2 t186 l1 a2 (x8_2.set (((rd_T28 l1 x43_2).f0) : Int).toNat ((rd_L2 x8_2 ((rd_T28 l1 x43_2).f0)).set (((rd_T28 l1 x43_2).f1) : Int).toNat (mx (rd (rd_L2 x8_2 ((rd_T28 l1 x43_2).f0)) ((rd_T28 l1 x43_2).f1)) t205))) (l1.length : Int) (wrap64 (x43_2 + 1)))) else (none)) else (none)) else (none)) else (none)) else (jacquardref30_Walks.l2 k2 t186 l1 a2 x8_2 (l1.length : Int) (wrap64 (x43_2 + 1)))) = some (r1, r2) := H
             have A27 := Aside0.mk A270
             clear A270
             by_cases c28 : t196 = true
             · subst c28
               have H1 : (if 0 ≤ ((rd_T28 l1 x43_2).f0) then (if ((rd_T28 l1 x43_2).f0) < (x8_2.length : Int) then (if 0 ≤ ((rd_T28 l1 x43_2).f1) then (if ((rd_T28 l1 x43_2).f1) < ((rd_L2 x8_2 ((rd_T28 l1 x43_2).f0)).length : Int) then ((jacquardref30_Weight.f ((rd_T28 l1 x43_2).f0) ((rd_T28 l1 x43_2).f1) ((rd_T28 l1 x43_2).f2) ((rd_T28 l1 x43_2).f3) a2).bind fun t205 => (jacquardref30_Walks.l2 k2 t186 l1 a2 (x8_2.set (((rd_T28 l1 x43_2).f0) : Int).toNat ((rd_L2 x8_2 ((rd_T28 l1 x43_2).f0)).set (((rd_T28 l1 x43_2).f1) : Int).toNat (mx (rd (rd_L2 x8_2 ((rd_T28 l1 x43_2).f0)) ((rd_T28 l1 x43_2).f1)) t205))) (l1.length : Int) (wrap64 (x43_2 + 1)))) else (none)) else (none)) else (none)) else (none)) = some (r1, r2) := by rw [if_pos rfl] at H; exact H
               clear H
               have H := H1
               clear H1
               by_cases c29 : 0 ≤ ((rd_T28 l1 x43_2).f0)
               · rw [if_pos c29] at H
                 have c29b0 : decide (0 ≤ ((rd_T28 l1 x43_2).f0)) = true := decide_eq_true c29
                 clear c29
                 by_cases c30 : ((rd_T28 l1 x43_2).f0) < (x8_2.length : Int)
                 · rw [if_pos c30] at H
                   have c30b0 : decide (((rd_T28 l1 x43_2).f0) < (x8_2.length : Int)) = true := decide_eq_true c30
                   clear c30
                   by_cases c31 : 0 ≤ ((rd_T28 l1 x43_2).f1)
                   · rw [if_pos c31] at H
                     have c31b0 : decide (0 ≤ ((rd_T28 l1 x43_2).f1)) = true := decide_eq_true c31
                     clear c31
                     by_cases c32 : ((rd_T28 l1 x43_2).f1) < ((rd_L2 x8_2 ((rd_T28 l1 x43_2).f0)).length : Int)
                     · rw [if_pos c32] at H
                       have c32b0 : decide (((rd_T28 l1 x43_2).f1) < ((rd_L2 x8_2 ((rd_T28 l1 x43_2).f0)).length : Int)) = true := decide_eq_true c32
                       clear c32
                       replace H := Option.bind_eq_some_iff.mp H
                       obtain ⟨t205, A330, H⟩ := H
                       replace H : (jacquardref30_Walks.l2 k2 t186 l1 a2 (x8_2.set (((rd_T28 l1 x43_2).f0) : Int).toNat ((rd_L2 x8_2 ((rd_T28 l1 x43_2).f0)).set (((rd_T28 l1 x43_2).f1) : Int).toNat (mx (rd (rd_L2 x8_2 ((rd_T28 l1 x43_2).f0)) ((rd_T28 l1 x43_2).f1)) t205))) (l1.length : Int) (wrap64 (x43_2 + 1))) = some (r1, r2) := H
                       have A33 := Aside0.mk A330
                       clear A330
                       obtain ⟨ji34, hji34⟩ : ∃ j_ : Int, (mx (rd (rd_L2 x8_2 ((rd_T28 l1 x43_2).f0)) ((rd_T28 l1 x43_2).f1)) t205) = j_ := ⟨_, rfl⟩
                       replace H : (jacquardref30_Walks.l2 k2 t186 l1 a2 (x8_2.set (((rd_T28 l1 x43_2).f0) : Int).toNat ((rd_L2 x8_2 ((rd_T28 l1 x43_2).f0)).set (((rd_T28 l1 x43_2).f1) : Int).toNat (ji34))) (l1.length : Int) (wrap64 (x43_2 + 1))) = some (r1, r2) := by first | (rw [hji34] at H; exact H) | (simp only [hji34] at H ⊢; exact H)
                       (try rw [hji34] at A27)
                       (try rw [hji34] at A33)
                       have hji34_ : (if (rd (rd_L2 x8_2 ((rd_T28 l1 x43_2).f0)) ((rd_T28 l1 x43_2).f1)) < t205 then t205 else (rd (rd_L2 x8_2 ((rd_T28 l1 x43_2).f0)) ((rd_T28 l1 x43_2).f1))) = ji34 := hji34
                       obtain ⟨y206, hy206⟩ : ∃ y_ : List Int, y_ = ((rd_L2 x8_2 ((rd_T28 l1 x43_2).f0)).set (((rd_T28 l1 x43_2).f1) : Int).toNat (ji34)) := ⟨_, rfl⟩
                       replace H : (jacquardref30_Walks.l2 k2 t186 l1 a2 (x8_2.set (((rd_T28 l1 x43_2).f0) : Int).toNat y206) (l1.length : Int) (wrap64 (x43_2 + 1))) = some (r1, r2) := by first | (rw [hy206]; with_reducible exact H) | (have H2_ := (Option.bind_some _ _).symm.trans H; rw [hy206]; with_reducible exact H2_) | (have H2_ := (Option.bind_some _ _).symm.trans H; with_reducible exact H2_) | with_reducible exact H | (rw [hy206]; exact H) | exact H
                       have Ny206 := Aside0.mk hy206
                       clear hy206
                       obtain ⟨y208, hy208⟩ : ∃ y_ : List (List Int), y_ = (x8_2.set (((rd_T28 l1 x43_2).f0) : Int).toNat y206) := ⟨_, rfl⟩
                       replace H : (jacquardref30_Walks.l2 k2 t186 l1 a2 y208 (l1.length : Int) (wrap64 (x43_2 + 1))) = some (r1, r2) := by first | (rw [hy208]; with_reducible exact H) | (have H2_ := (Option.bind_some _ _).symm.trans H; rw [hy208]; with_reducible exact H2_) | (have H2_ := (Option.bind_some _ _).symm.trans H; with_reducible exact H2_) | with_reducible exact H | (rw [hy208]; exact H) | exact H
                       have Ny208 := Aside0.mk hy208
                       clear hy208
                       have H' := Aside0.mk H
                       clear H
                       have p195 : 0 ≤ (x43_2 : Int) := of_decide_eq_true (by first | (with_reducible assumption) | assumption)
                       have q195 : x43_2 < (l1.length : Int) := of_decide_eq_true (by first | (with_reducible assumption) | assumption)
                       obtain ⟨ad195, e195, hx195_0, hx195_1, hx195_2, hx195_3⟩ := at_T28 HR1.out x43_2 p195 q195
                       cases e195
                       replace hx195_0 := (HB.out.cell (World.block_lt_of_cell? w _ hx195_0)).trans hx195_0
                       replace hx195_1 := (HB.out.cell (World.block_lt_of_cell? w _ hx195_1)).trans hx195_1
                       replace hx195_2 := (HB.out.cell (World.block_lt_of_cell? w _ hx195_2)).trans hx195_2
                       replace hx195_3 := (HB.out.cell (World.block_lt_of_cell? w _ hx195_3)).trans hx195_3
                       replace p195 := eq_true p195
                       replace q195 := eq_true q195
                       try go_wp2_with (first | ((with_reducible refine gate_callee (f := 38) rfl ?_); refine goesL_ (some 51) rfl rfl Try.func38 (by kernel_rfl) rfl #[.int .i64 t186, .agg #[.int .i64 ((rd_T28 l1 x43_2).f0), .int .i64 ((rd_T28 l1 x43_2).f1), .int .i64 ((rd_T28 l1 x43_2).f2), .int .i64 ((rd_T28 l1 x43_2).f3)]] rfl (by (try simp only [List.map_toArray, List.map_cons, List.map_nil]); first | done | rfl | (simp only [List.length_drop, List.length_take]; rfl)) ?_; (with_reducible refine (jacquardref30_Counts.calls t186 ((rd_T28 l1 x43_2).f0) ((rd_T28 l1 x43_2).f1) ((rd_T28 l1 x43_2).f2) ((rd_T28 l1 x43_2).f3) true _ A27.out).mono ?_); rintro e w36 ⟨rfl, hb⟩; refine ⟨_, rfl, ?_⟩; have n0_ := Aside0.mk (Kd.S_below (by (with_reducible repeat (first | apply Kd.S_alloc | apply Kd.S_drewN | apply Kd.S_drew)); exact HO_8.out) hb); have n1_ := Aside0.mk (below_step (by repeat (first | (with_reducible first | exact HB.out | apply below_alloc | apply pw_below_drewN | apply below_drew1) | exact HB.out)) hb); clear HO_8; clear HB; have HO_8 := n0_; have HB := n1_; clear n0_ n1_; (try clear hb); (try clear hb2); (try clear hk); (try clear hi)))
                       have n0_ := Aside0.mk (Kd.S_drew HO_8.out)
                       have n1_ := Aside0.mk (below_drew1 HB.out)
                       clear HO_8
                       clear HB
                       have HO_8 := n0_
                       have HB := n1_
                       clear n0_ n1_
                       have p197 : 0 ≤ (x43_2 : Int) := of_decide_eq_true (by first | (with_reducible assumption) | assumption)
                       have q197 : x43_2 < (l1.length : Int) := of_decide_eq_true (by first | (with_reducible assumption) | assumption)
                       obtain ⟨ad197, e197, hx197_0, hx197_1, hx197_2, hx197_3⟩ := at_T28 HR1.out x43_2 p197 q197
                       have hw197_3 := hx197_3
                       have hw197_2 := hx197_2
                       have hw197_1 := hx197_1
                       have hw197_0 := hx197_0
                       obtain rfl : ad195 = ad197 := (by injection e197)
                       replace hx197_0 := (HB.out.cell (World.block_lt_of_cell? w _ hx197_0)).trans hx197_0
                       replace hx197_1 := (HB.out.cell (World.block_lt_of_cell? w _ hx197_1)).trans hx197_1
                       replace hx197_2 := (HB.out.cell (World.block_lt_of_cell? w _ hx197_2)).trans hx197_2
                       replace hx197_3 := (HB.out.cell (World.block_lt_of_cell? w _ hx197_3)).trans hx197_3
                       replace p197 := eq_true p197
                       replace q197 := eq_true q197
                       obtain ⟨Ao38, co38, eo38⟩ := Kd.S_slice HO_8.out
                       (first | subst eo38 | (injection eo38 with f1_ f2_ f3_; have f4_ := f1_.symm; have f5_ := f3_.symm; clear f1_ f2_ f3_; subst f4_; subst f5_))
                       have p198 : 0 ≤ (((rd_T28 l1 x43_2).f0) : Int) := of_decide_eq_true (by first | (with_reducible assumption) | assumption)
                       have q198 : ((rd_T28 l1 x43_2).f0) < (x8_2.length : Int) := of_decide_eq_true (by first | (with_reducible assumption) | assumption)
                       obtain ⟨ad198, A198_0, c198_0, e198, hx198_0, hl198_0, hi198_0⟩ := at_L2 (Kd.S_reads' HO_8.out).2.2 ((rd_T28 l1 x43_2).f0) p198 q198
                       cases e198
                       obtain ⟨ce198, hce198, hMe198, hcc198⟩ := Kd.S_get HO_8.out [] ((rd_T28 l1 x43_2).f0) p198 (by first | exact q198 | exact of_decide_eq_true (by first | (with_reducible assumption) | assumption) | (have e_ := (Kd.S_reads' HO_8.out).1; omega))
                       obtain ⟨ve198_0, rfl, ge198_0⟩ := hMe198
                       have hv198_0 := hcc198 0 _ rfl
                       rw [Nat.add_zero, show ((Kd.slice 3 (Kd.int .i64))).sz = 1 from rfl, Nat.mul_one] at hv198_0
                       replace hv198_0 := Option.some.inj (hv198_0.symm.trans hx198_0)
                       rw [hv198_0] at ge198_0
                       have HL198_0 := Aside0.mk (show Kd.R (Kd.int .i64) 3 _ _ _ _ (rd_L2 x8_2 ((rd_T28 l1 x43_2).f0)) from ge198_0)
                       clear hv198_0 ge198_0
                       have HX198_0 := Aside0.mk hx198_0
                       clear hcc198 hce198
                       have HR198_0 := Aside0.mk hi198_0
                       have HC198_0 := Aside0.mk hl198_0
                       clear hi198_0 hl198_0
                       replace p198 := eq_true p198
                       replace q198 := eq_true q198
                       have p199 : 0 ≤ (x43_2 : Int) := of_decide_eq_true (by first | (with_reducible assumption) | assumption)
                       have q199 : x43_2 < (l1.length : Int) := of_decide_eq_true (by first | (with_reducible assumption) | assumption)
                       obtain ⟨ad199, e199, hx199_0, hx199_1, hx199_2, hx199_3⟩ := at_T28 HR1.out x43_2 p199 q199
                       have hw199_3 := hx199_3
                       have hw199_2 := hx199_2
                       have hw199_1 := hx199_1
                       have hw199_0 := hx199_0
                       obtain rfl : ad195 = ad199 := (by injection e199)
                       replace hx199_0 := (HB.out.cell (World.block_lt_of_cell? w _ hx199_0)).trans hx199_0
                       replace hx199_1 := (HB.out.cell (World.block_lt_of_cell? w _ hx199_1)).trans hx199_1
                       replace hx199_2 := (HB.out.cell (World.block_lt_of_cell? w _ hx199_2)).trans hx199_2
                       replace hx199_3 := (HB.out.cell (World.block_lt_of_cell? w _ hx199_3)).trans hx199_3
                       replace p199 := eq_true p199
                       replace q199 := eq_true q199
                       have p200 : 0 ≤ (x43_2 : Int) := of_decide_eq_true (by first | (with_reducible assumption) | assumption)
                       have q200 : x43_2 < (l1.length : Int) := of_decide_eq_true (by first | (with_reducible assumption) | assumption)
                       obtain ⟨ad200, e200, hx200_0, hx200_1, hx200_2, hx200_3⟩ := at_T28 HR1.out x43_2 p200 q200
                       have hw200_3 := hx200_3
                       have hw200_2 := hx200_2
                       have hw200_1 := hx200_1
                       have hw200_0 := hx200_0
                       obtain rfl : ad195 = ad200 := (by injection e200)
                       replace hx200_0 := (HB.out.cell (World.block_lt_of_cell? w _ hx200_0)).trans hx200_0
                       replace hx200_1 := (HB.out.cell (World.block_lt_of_cell? w _ hx200_1)).trans hx200_1
                       replace hx200_2 := (HB.out.cell (World.block_lt_of_cell? w _ hx200_2)).trans hx200_2
                       replace hx200_3 := (HB.out.cell (World.block_lt_of_cell? w _ hx200_3)).trans hx200_3
                       replace p200 := eq_true p200
                       replace q200 := eq_true q200
                       have p201 : 0 ≤ (((rd_T28 l1 x43_2).f0) : Int) := of_decide_eq_true (by first | (with_reducible assumption) | assumption)
                       have q201 : ((rd_T28 l1 x43_2).f0) < (x8_2.length : Int) := of_decide_eq_true (by first | (with_reducible assumption) | assumption)
                       obtain ⟨ad201, A201_0, c201_0, e201, hx201_0, hl201_0, hi201_0⟩ := at_L2 (Kd.S_reads' HO_8.out).2.2 ((rd_T28 l1 x43_2).f0) p201 q201
                       obtain rfl : ad198 = ad201 := (by injection e201)
                       obtain ⟨ce201, hce201, hMe201, hcc201⟩ := Kd.S_get HO_8.out [] ((rd_T28 l1 x43_2).f0) p201 (by first | exact q201 | exact of_decide_eq_true (by first | (with_reducible assumption) | assumption) | (have e_ := (Kd.S_reads' HO_8.out).1; omega))
                       obtain ⟨ve201_0, rfl, ge201_0⟩ := hMe201
                       have hv201_0 := hcc201 0 _ rfl
                       rw [Nat.add_zero, show ((Kd.slice 3 (Kd.int .i64))).sz = 1 from rfl, Nat.mul_one] at hv201_0
                       replace hv201_0 := Option.some.inj (hv201_0.symm.trans hx201_0)
                       rw [hv201_0] at ge201_0
                       have HL201_0 := Aside0.mk (show Kd.R (Kd.int .i64) 3 _ _ _ _ (rd_L2 x8_2 ((rd_T28 l1 x43_2).f0)) from ge201_0)
                       clear hv201_0 ge201_0
                       have HX201_0 := Aside0.mk hx201_0
                       clear hcc201 hce201
                       have HR201_0 := Aside0.mk hi201_0
                       have HC201_0 := Aside0.mk hl201_0
                       clear hi201_0 hl201_0
                       replace p201 := eq_true p201
                       replace q201 := eq_true q201
                       have ea_ := Option.some.inj (hx198_0.symm.trans hx201_0)
                       injection ea_ with ea_ en_ ec_
                       subst ea_
                       subst ec_
                       clear en_
                       have p202 : 0 ≤ (x43_2 : Int) := of_decide_eq_true (by first | (with_reducible assumption) | assumption)
                       have q202 : x43_2 < (l1.length : Int) := of_decide_eq_true (by first | (with_reducible assumption) | assumption)
                       obtain ⟨ad202, e202, hx202_0, hx202_1, hx202_2, hx202_3⟩ := at_T28 HR1.out x43_2 p202 q202
                       have hw202_3 := hx202_3
                       have hw202_2 := hx202_2
                       have hw202_1 := hx202_1
                       have hw202_0 := hx202_0
                       obtain rfl : ad195 = ad202 := (by injection e202)
                       replace hx202_0 := (HB.out.cell (World.block_lt_of_cell? w _ hx202_0)).trans hx202_0
                       replace hx202_1 := (HB.out.cell (World.block_lt_of_cell? w _ hx202_1)).trans hx202_1
                       replace hx202_2 := (HB.out.cell (World.block_lt_of_cell? w _ hx202_2)).trans hx202_2
                       replace hx202_3 := (HB.out.cell (World.block_lt_of_cell? w _ hx202_3)).trans hx202_3
                       replace p202 := eq_true p202
                       replace q202 := eq_true q202
                       have p203 : 0 ≤ (((rd_T28 l1 x43_2).f1) : Int) := of_decide_eq_true (by first | (with_reducible assumption) | assumption)
                       have q203 : ((rd_T28 l1 x43_2).f1) < ((rd_L2 x8_2 ((rd_T28 l1 x43_2).f0)).length : Int) := of_decide_eq_true (by first | (with_reducible assumption) | assumption)
                       obtain ⟨ad203, e203, hx203_0⟩ := Kd.at_int (by repeat (first | (with_reducible exact HR201_0.out) | (with_reducible refine Kd.C_alloc ?_ _) | (with_reducible refine Kd.C_drewN ?_ _) | (with_reducible refine Kd.C_drew ?_) | exact HR201_0.out)) ((rd_T28 l1 x43_2).f1) p203 q203
                       cases e203
                       replace p203 := eq_true p203
                       replace q203 := eq_true q203
                       have p204 : 0 ≤ (x43_2 : Int) := of_decide_eq_true (by first | (with_reducible assumption) | assumption)
                       have q204 : x43_2 < (l1.length : Int) := of_decide_eq_true (by first | (with_reducible assumption) | assumption)
                       obtain ⟨ad204, e204, hx204_0, hx204_1, hx204_2, hx204_3⟩ := at_T28 HR1.out x43_2 p204 q204
                       have hw204_3 := hx204_3
                       have hw204_2 := hx204_2
                       have hw204_1 := hx204_1
                       have hw204_0 := hx204_0
                       obtain rfl : ad195 = ad204 := (by injection e204)
                       replace hx204_0 := (HB.out.cell (World.block_lt_of_cell? w _ hx204_0)).trans hx204_0
                       replace hx204_1 := (HB.out.cell (World.block_lt_of_cell? w _ hx204_1)).trans hx204_1
                       replace hx204_2 := (HB.out.cell (World.block_lt_of_cell? w _ hx204_2)).trans hx204_2
                       replace hx204_3 := (HB.out.cell (World.block_lt_of_cell? w _ hx204_3)).trans hx204_3
                       replace p204 := eq_true p204
                       replace q204 := eq_true q204
                       refine start_ (n := 37) (S := fun w' => w'.cell? (ad195.add ((x43_2).toNat * 4)) = some (.int .i64 ((rd_T28 l1 x43_2).f0)) ∧ w'.cell? ⟨(ad195.add ((x43_2).toNat * 4)).block, (ad195.add ((x43_2).toNat * 4)).off + 1, none⟩ = some (.int .i64 ((rd_T28 l1 x43_2).f1)) ∧ w'.cell? ⟨(ad195.add ((x43_2).toNat * 4)).block, (ad195.add ((x43_2).toNat * 4)).off + 2, none⟩ = some (.int .i64 ((rd_T28 l1 x43_2).f2)) ∧ w'.cell? ⟨(ad195.add ((x43_2).toNat * 4)).block, (ad195.add ((x43_2).toNat * 4)).off + 3, none⟩ = some (.int .i64 ((rd_T28 l1 x43_2).f3)) ∧ w'.cell? (ad198.add (((rd_T28 l1 x43_2).f0)).toNat) = some (.slice (some ad203) (rd_L2 x8_2 ((rd_T28 l1 x43_2).f0)).length c198_0) ∧ w'.cell? (ad195.add ((x43_2).toNat * 4)) = some (.int .i64 ((rd_T28 l1 x43_2).f0)) ∧ w'.cell? ⟨(ad195.add ((x43_2).toNat * 4)).block, (ad195.add ((x43_2).toNat * 4)).off + 1, none⟩ = some (.int .i64 ((rd_T28 l1 x43_2).f1)) ∧ w'.cell? ⟨(ad195.add ((x43_2).toNat * 4)).block, (ad195.add ((x43_2).toNat * 4)).off + 2, none⟩ = some (.int .i64 ((rd_T28 l1 x43_2).f2)) ∧ w'.cell? ⟨(ad195.add ((x43_2).toNat * 4)).block, (ad195.add ((x43_2).toNat * 4)).off + 3, none⟩ = some (.int .i64 ((rd_T28 l1 x43_2).f3)) ∧ w'.cell? (ad195.add ((x43_2).toNat * 4)) = some (.int .i64 ((rd_T28 l1 x43_2).f0)) ∧ w'.cell? ⟨(ad195.add ((x43_2).toNat * 4)).block, (ad195.add ((x43_2).toNat * 4)).off + 1, none⟩ = some (.int .i64 ((rd_T28 l1 x43_2).f1)) ∧ w'.cell? ⟨(ad195.add ((x43_2).toNat * 4)).block, (ad195.add ((x43_2).toNat * 4)).off + 2, none⟩ = some (.int .i64 ((rd_T28 l1 x43_2).f2)) ∧ w'.cell? ⟨(ad195.add ((x43_2).toNat * 4)).block, (ad195.add ((x43_2).toNat * 4)).off + 3, none⟩ = some (.int .i64 ((rd_T28 l1 x43_2).f3)) ∧ w'.cell? (ad198.add (((rd_T28 l1 x43_2).f0)).toNat) = some (.slice (some ad203) (rd_L2 x8_2 ((rd_T28 l1 x43_2).f0)).length c198_0) ∧ w'.cell? (ad195.add ((x43_2).toNat * 4)) = some (.int .i64 ((rd_T28 l1 x43_2).f0)) ∧ w'.cell? ⟨(ad195.add ((x43_2).toNat * 4)).block, (ad195.add ((x43_2).toNat * 4)).off + 1, none⟩ = some (.int .i64 ((rd_T28 l1 x43_2).f1)) ∧ w'.cell? ⟨(ad195.add ((x43_2).toNat * 4)).block, (ad195.add ((x43_2).toNat * 4)).off + 2, none⟩ = some (.int .i64 ((rd_T28 l1 x43_2).f2)) ∧ w'.cell? ⟨(ad195.add ((x43_2).toNat * 4)).block, (ad195.add ((x43_2).toNat * 4)).off + 3, none⟩ = some (.int .i64 ((rd_T28 l1 x43_2).f3)) ∧ w'.cell? (ad203.add (((rd_T28 l1 x43_2).f1)).toNat) = some (.int .i64 (rd (rd_L2 x8_2 ((rd_T28 l1 x43_2).f0)) ((rd_T28 l1 x43_2).f1))) ∧ w'.cell? (ad195.add ((x43_2).toNat * 4)) = some (.int .i64 ((rd_T28 l1 x43_2).f0)) ∧ w'.cell? ⟨(ad195.add ((x43_2).toNat * 4)).block, (ad195.add ((x43_2).toNat * 4)).off + 1, none⟩ = some (.int .i64 ((rd_T28 l1 x43_2).f1)) ∧ w'.cell? ⟨(ad195.add ((x43_2).toNat * 4)).block, (ad195.add ((x43_2).toNat * 4)).off + 2, none⟩ = some (.int .i64 ((rd_T28 l1 x43_2).f2)) ∧ w'.cell? ⟨(ad195.add ((x43_2).toNat * 4)).block, (ad195.add ((x43_2).toNat * 4)).off + 3, none⟩ = some (.int .i64 ((rd_T28 l1 x43_2).f3))) (ds := [36]) #[false, false, false, false, false, false, false, false, false, false, false, false, false, false, false, false, false, false, false, false, false, false, false, false, false, false, false, false, false, false, false, false, false, false, false, false, false] (by kernel_rfl) rfl rfl ⟨((HB.out.cell (World.block_lt_of_cell? w _ hw197_0)).trans hw197_0), ((HB.out.cell (World.block_lt_of_cell? w _ hw197_1)).trans hw197_1), ((HB.out.cell (World.block_lt_of_cell? w _ hw197_2)).trans hw197_2), ((HB.out.cell (World.block_lt_of_cell? w _ hw197_3)).trans hw197_3), hx198_0, ((HB.out.cell (World.block_lt_of_cell? w _ hw199_0)).trans hw199_0), ((HB.out.cell (World.block_lt_of_cell? w _ hw199_1)).trans hw199_1), ((HB.out.cell (World.block_lt_of_cell? w _ hw199_2)).trans hw199_2), ((HB.out.cell (World.block_lt_of_cell? w _ hw199_3)).trans hw199_3), ((HB.out.cell (World.block_lt_of_cell? w _ hw200_0)).trans hw200_0), ((HB.out.cell (World.block_lt_of_cell? w _ hw200_1)).trans hw200_1), ((HB.out.cell (World.block_lt_of_cell? w _ hw200_2)).trans hw200_2), ((HB.out.cell (World.block_lt_of_cell? w _ hw200_3)).trans hw200_3), hx201_0, ((HB.out.cell (World.block_lt_of_cell? w _ hw202_0)).trans hw202_0), ((HB.out.cell (World.block_lt_of_cell? w _ hw202_1)).trans hw202_1), ((HB.out.cell (World.block_lt_of_cell? w _ hw202_2)).trans hw202_2), ((HB.out.cell (World.block_lt_of_cell? w _ hw202_3)).trans hw202_3), hx203_0, ((HB.out.cell (World.block_lt_of_cell? w _ hw204_0)).trans hw204_0), ((HB.out.cell (World.block_lt_of_cell? w _ hw204_1)).trans hw204_1), ((HB.out.cell (World.block_lt_of_cell? w _ hw204_2)).trans hw204_2), ((HB.out.cell (World.block_lt_of_cell? w _ hw204_3)).trans hw204_3)⟩ (fun hHeld => ?_); refine with_tabW jacquardref30_Walks.tab19 jacquardref30_Walks.bits19 (fun HT_ HW_ => ?_)
                       generalize w36.drew = w37 at HO_8 HB HL198_0 HL201_0 HR198_0 HR201_0 HX198_0 HX201_0 hx197_0 hx197_1 hx197_2 hx197_3 hx198_0 hx199_0 hx199_1 hx199_2 hx199_3 hx200_0 hx200_1 hx200_2 hx200_3 hx201_0 hx202_0 hx202_1 hx202_2 hx202_3 hx203_0 hx204_0 hx204_1 hx204_2 hx204_3 hHeld ⊢
                       refine pure_ (i := 0) (N := some 52) (v := ?_) (a' := ?_) #[true, false, false, false, false, false, false, false, false, false, false, false, false, false, false, false, false, false, false, false, false, false, false, false, false, false, false, false, false, false, false, false, false, false, false, false, false] rfl rfl (any_of HT_.out (by kernel_rfl)) (fun _ _ _ h => h) (Or.inl ⟨by rfl, ?_⟩) ?_ ?_
                       rotate_left
                       · intro w'
                         go_simp
                         with_reducible rfl
                       rotate_left
                       · simp only [Act.put, List.setIfInBounds_toArray, List.set_cons_zero, List.set_cons_succ, i64_w, i32_w]
                         rfl
                       refine pure_ (i := 1) (N := some 53) (v := ?_) (a' := ?_) #[true, true, false, false, false, false, false, false, false, false, false, false, false, false, false, false, false, false, false, false, false, false, false, false, false, false, false, false, false, false, false, false, false, false, false, false, false] rfl rfl (any_of HT_.out (by kernel_rfl)) (fun _ _ _ h => h) (Or.inl ⟨by rfl, ?_⟩) ?_ ?_
                       rotate_left
                       · intro w'
                         go_simp
                         with_reducible rfl
                       rotate_left
                       · simp only [Act.put, List.setIfInBounds_toArray, List.set_cons_zero, List.set_cons_succ, i64_w, i32_w]
                         rfl
                       refine pure_ (i := 2) (N := some 54) (v := ?_) (a' := ?_) #[true, true, true, false, false, false, false, false, false, false, false, false, false, false, false, false, false, false, false, false, false, false, false, false, false, false, false, false, false, false, false, false, false, false, false, false, false] rfl rfl (any_of HT_.out (by kernel_rfl)) (fun _ _ _ h => h) (Or.inl ⟨by rfl, ?_⟩) ?_ ?_
                       rotate_left
                       · intro w'
                         go_simp
                         with_reducible rfl
                       rotate_left
                       · simp only [Act.put, List.setIfInBounds_toArray, List.set_cons_zero, List.set_cons_succ, i64_w, i32_w]
                         rfl
                       refine pure_ (i := 3) (N := some 55) (v := ?_) (a' := ?_) #[true, true, true, true, false, false, false, false, false, false, false, false, false, false, false, false, false, false, false, false, false, false, false, false, false, false, false, false, false, false, false, false, false, false, false, false, false] rfl rfl (any_of HT_.out (by kernel_rfl)) (fun _ _ _ h => h) (Or.inl ⟨by rfl, ?_⟩) ?_ ?_
                       rotate_left
                       · intro w'
                         go_simp
                         with_reducible rfl
                       rotate_left
                       · simp only [Act.put, List.setIfInBounds_toArray, List.set_cons_zero, List.set_cons_succ, i64_w, i32_w]
                         rfl
                       refine pure_ (i := 4) (N := some 56) (v := ?_) (a' := ?_) #[true, true, true, true, true, false, false, false, false, false, false, false, false, false, false, false, false, false, false, false, false, false, false, false, false, false, false, false, false, false, false, false, false, false, false, false, false] rfl rfl (any_of HT_.out (by kernel_rfl)) (fun _ _ _ h => h) (Or.inl ⟨by rfl, ?_⟩) ?_ ?_
                       rotate_left
                       · intro w'
                         go_simp
                         with_reducible rfl
                       rotate_left
                       · simp only [Act.put, List.setIfInBounds_toArray, List.set_cons_zero, List.set_cons_succ, i64_w, i32_w]
                         rfl
                       refine pure_ (i := 8) (N := some 60) (v := ?_) (a' := ?_) #[true, true, true, true, true, false, false, false, true, false, false, false, false, false, false, false, false, false, false, false, false, false, false, false, false, false, false, false, false, false, false, false, false, false, false, false, false] rfl rfl (any_of HT_.out (by kernel_rfl)) (fun _ _ _ h => h) (Or.inl ⟨by rfl, ?_⟩) ?_ ?_
                       rotate_left
                       · intro w'
                         go_simp
                         with_reducible rfl
                       rotate_left
                       · simp only [Act.put, List.setIfInBounds_toArray, List.set_cons_zero, List.set_cons_succ, i64_w, i32_w]
                         rfl
                       refine pure_ (i := 9) (N := some 61) (v := ?_) (a' := ?_) #[true, true, true, true, true, false, false, false, true, true, false, false, false, false, false, false, false, false, false, false, false, false, false, false, false, false, false, false, false, false, false, false, false, false, false, false, false] rfl rfl (any_of HT_.out (by kernel_rfl)) (fun _ _ _ h => h) (Or.inl ⟨by rfl, ?_⟩) ?_ ?_
                       rotate_left
                       · intro w'
                         go_simp
                         with_reducible rfl
                       rotate_left
                       · simp only [Act.put, List.setIfInBounds_toArray, List.set_cons_zero, List.set_cons_succ, i64_w, i32_w]
                         rfl
                       refine pure_ (i := 10) (N := some 62) (v := ?_) (a' := ?_) #[true, true, true, true, true, false, false, false, true, true, true, false, false, false, false, false, false, false, false, false, false, false, false, false, false, false, false, false, false, false, false, false, false, false, false, false, false] rfl rfl (any_of HT_.out (by kernel_rfl)) (fun _ _ _ h => h) (Or.inl ⟨by rfl, ?_⟩) ?_ ?_
                       rotate_left
                       · intro w'
                         go_simp
                         with_reducible rfl
                       rotate_left
                       · simp only [Act.put, List.setIfInBounds_toArray, List.set_cons_zero, List.set_cons_succ, i64_w, i32_w]
                         rfl
                       refine pure_ (i := 11) (N := some 63) (v := ?_) (a' := ?_) #[true, true, true, true, true, false, false, false, true, true, true, true, false, false, false, false, false, false, false, false, false, false, false, false, false, false, false, false, false, false, false, false, false, false, false, false, false] rfl rfl (any_of HT_.out (by kernel_rfl)) (fun _ _ _ h => h) (Or.inl ⟨by rfl, ?_⟩) ?_ ?_
                       rotate_left
                       · intro w'
                         go_simp
                         with_reducible rfl
                       rotate_left
                       · simp only [Act.put, List.setIfInBounds_toArray, List.set_cons_zero, List.set_cons_succ, i64_w, i32_w]
                         rfl
                       refine pure_ (i := 13) (N := some 65) (v := ?_) (a' := ?_) #[true, true, true, true, true, false, false, false, true, true, true, true, false, true, false, false, false, false, false, false, false, false, false, false, false, false, false, false, false, false, false, false, false, false, false, false, false] rfl rfl (any_of HT_.out (by kernel_rfl)) (fun _ _ _ h => h) (Or.inl ⟨by rfl, ?_⟩) ?_ ?_
                       rotate_left
                       · intro w'
                         go_simp
                         with_reducible rfl
                       rotate_left
                       · simp only [Act.put, List.setIfInBounds_toArray, List.set_cons_zero, List.set_cons_succ, i64_w, i32_w]
                         rfl
                       refine pure_ (i := 14) (N := some 66) (v := ?_) (a' := ?_) #[true, true, true, true, true, false, false, false, true, true, true, true, false, true, true, false, false, false, false, false, false, false, false, false, false, false, false, false, false, false, false, false, false, false, false, false, false] rfl rfl (any_of HT_.out (by kernel_rfl)) (fun _ _ _ h => h) (Or.inl ⟨by rfl, ?_⟩) ?_ ?_
                       rotate_left
                       · intro w'
                         go_simp
                         with_reducible rfl
                       rotate_left
                       · simp only [Act.put, List.setIfInBounds_toArray, List.set_cons_zero, List.set_cons_succ, i64_w, i32_w]
                         rfl
                       refine pure_ (i := 15) (N := some 67) (v := ?_) (a' := ?_) #[true, true, true, true, true, false, false, false, true, true, true, true, false, true, true, true, false, false, false, false, false, false, false, false, false, false, false, false, false, false, false, false, false, false, false, false, false] rfl rfl (any_of HT_.out (by kernel_rfl)) (fun _ _ _ h => h) (Or.inl ⟨by rfl, ?_⟩) ?_ ?_
                       rotate_left
                       · intro w'
                         go_simp
                         with_reducible rfl
                       rotate_left
                       · simp only [Act.put, List.setIfInBounds_toArray, List.set_cons_zero, List.set_cons_succ, i64_w, i32_w]
                         rfl
                       refine pure_ (i := 16) (N := some 68) (v := ?_) (a' := ?_) #[true, true, true, true, true, false, false, false, true, true, true, true, false, true, true, true, true, false, false, false, false, false, false, false, false, false, false, false, false, false, false, false, false, false, false, false, false] rfl rfl (any_of HT_.out (by kernel_rfl)) (fun _ _ _ h => h) (Or.inl ⟨by rfl, ?_⟩) ?_ ?_
                       rotate_left
                       · intro w'
                         go_simp
                         with_reducible rfl
                       rotate_left
                       · simp only [Act.put, List.setIfInBounds_toArray, List.set_cons_zero, List.set_cons_succ, i64_w, i32_w]
                         rfl
                       refine pure_ (i := 17) (N := some 69) (v := ?_) (a' := ?_) #[true, true, true, true, true, false, false, false, true, true, true, true, false, true, true, true, true, true, false, false, false, false, false, false, false, false, false, false, false, false, false, false, false, false, false, false, false] rfl rfl (any_of HT_.out (by kernel_rfl)) (fun _ _ _ h => h) (Or.inl ⟨by rfl, ?_⟩) ?_ ?_
                       rotate_left
                       · intro w'
                         go_simp
                         with_reducible rfl
                       rotate_left
                       · simp only [Act.put, List.setIfInBounds_toArray, List.set_cons_zero, List.set_cons_succ, i64_w, i32_w]
                         rfl
                       refine pure_ (i := 21) (N := some 73) (v := ?_) (a' := ?_) #[true, true, true, true, true, false, false, false, true, true, true, true, false, true, true, true, true, true, false, false, false, true, false, false, false, false, false, false, false, false, false, false, false, false, false, false, false] rfl rfl (any_of HT_.out (by kernel_rfl)) (fun _ _ _ h => h) (Or.inl ⟨by rfl, ?_⟩) ?_ ?_
                       rotate_left
                       · intro w'
                         go_simp
                         with_reducible rfl
                       rotate_left
                       · simp only [Act.put, List.setIfInBounds_toArray, List.set_cons_zero, List.set_cons_succ, i64_w, i32_w]
                         rfl
                       refine pure_ (i := 22) (N := some 74) (v := ?_) (a' := ?_) #[true, true, true, true, true, false, false, false, true, true, true, true, false, true, true, true, true, true, false, false, false, true, true, false, false, false, false, false, false, false, false, false, false, false, false, false, false] rfl rfl (any_of HT_.out (by kernel_rfl)) (fun _ _ _ h => h) (Or.inl ⟨by rfl, ?_⟩) ?_ ?_
                       rotate_left
                       · intro w'
                         go_simp
                         with_reducible rfl
                       rotate_left
                       · simp only [Act.put, List.setIfInBounds_toArray, List.set_cons_zero, List.set_cons_succ, i64_w, i32_w]
                         rfl
                       refine pure_ (i := 23) (N := some 75) (v := ?_) (a' := ?_) #[true, true, true, true, true, false, false, false, true, true, true, true, false, true, true, true, true, true, false, false, false, true, true, true, false, false, false, false, false, false, false, false, false, false, false, false, false] rfl rfl (any_of HT_.out (by kernel_rfl)) (fun _ _ _ h => h) (Or.inl ⟨by rfl, ?_⟩) ?_ ?_
                       rotate_left
                       · intro w'
                         go_simp
                         with_reducible rfl
                       rotate_left
                       · simp only [Act.put, List.setIfInBounds_toArray, List.set_cons_zero, List.set_cons_succ, i64_w, i32_w]
                         rfl
                       refine pure_ (i := 24) (N := some 76) (v := ?_) (a' := ?_) #[true, true, true, true, true, false, false, false, true, true, true, true, false, true, true, true, true, true, false, false, false, true, true, true, true, false, false, false, false, false, false, false, false, false, false, false, false] rfl rfl (any_of HT_.out (by kernel_rfl)) (fun _ _ _ h => h) (Or.inl ⟨by rfl, ?_⟩) ?_ ?_
                       rotate_left
                       · intro w'
                         go_simp
                         with_reducible rfl
                       rotate_left
                       · simp only [Act.put, List.setIfInBounds_toArray, List.set_cons_zero, List.set_cons_succ, i64_w, i32_w]
                         rfl
                       refine pure_ (i := 28) (N := some 80) (v := ?_) (a' := ?_) #[true, true, true, true, true, false, false, false, true, true, true, true, false, true, true, true, true, true, false, false, false, true, true, true, true, false, false, false, true, false, false, false, false, false, false, false, false] rfl rfl (any_of HT_.out (by kernel_rfl)) (fun _ _ _ h => h) (Or.inl ⟨by rfl, ?_⟩) ?_ ?_
                       rotate_left
                       · intro w'
                         go_simp
                         with_reducible rfl
                       rotate_left
                       · simp only [Act.put, List.setIfInBounds_toArray, List.set_cons_zero, List.set_cons_succ, i64_w, i32_w]
                         rfl
                       refine pure_ (i := 29) (N := some 81) (v := ?_) (a' := ?_) #[true, true, true, true, true, false, false, false, true, true, true, true, false, true, true, true, true, true, false, false, false, true, true, true, true, false, false, false, true, true, false, false, false, false, false, false, false] rfl rfl (any_of HT_.out (by kernel_rfl)) (fun _ _ _ h => h) (Or.inl ⟨by rfl, ?_⟩) ?_ ?_
                       rotate_left
                       · intro w'
                         go_simp
                         with_reducible rfl
                       rotate_left
                       · simp only [Act.put, List.setIfInBounds_toArray, List.set_cons_zero, List.set_cons_succ, i64_w, i32_w]
                         rfl
                       refine pure_ (i := 30) (N := some 82) (v := ?_) (a' := ?_) #[true, true, true, true, true, false, false, false, true, true, true, true, false, true, true, true, true, true, false, false, false, true, true, true, true, false, false, false, true, true, true, false, false, false, false, false, false] rfl rfl (any_of HT_.out (by kernel_rfl)) (fun _ _ _ h => h) (Or.inl ⟨by rfl, ?_⟩) ?_ ?_
                       rotate_left
                       · intro w'
                         go_simp
                         with_reducible rfl
                       rotate_left
                       · simp only [Act.put, List.setIfInBounds_toArray, List.set_cons_zero, List.set_cons_succ, i64_w, i32_w]
                         rfl
                       refine pure_ (i := 32) (N := some 84) (v := ?_) (a' := ?_) #[true, true, true, true, true, false, false, false, true, true, true, true, false, true, true, true, true, true, false, false, false, true, true, true, true, false, false, false, true, true, true, false, true, false, false, false, false] rfl rfl (any_of HT_.out (by kernel_rfl)) (fun _ _ _ h => h) (Or.inl ⟨by rfl, ?_⟩) ?_ ?_
                       rotate_left
                       · intro w'
                         go_simp
                         with_reducible rfl
                       rotate_left
                       · simp only [Act.put, List.setIfInBounds_toArray, List.set_cons_zero, List.set_cons_succ, i64_w, i32_w]
                         rfl
                       refine take_ (i := 5) (N := some 57) (v := ?_) (a' := ?_) #[true, true, true, true, true, true, false, false, true, true, true, true, false, true, true, true, true, true, false, false, false, true, true, true, true, false, false, false, true, true, true, false, true, false, false, false, false] rfl rfl (take_ofW HT_.out HW_.out (by kernel_rfl)) (fun _ _ _ h => h) (Or.inl ⟨by rfl, ?_⟩) hHeld ?_ ?_
                       rotate_left
                       · rintro w' ⟨s0, s1, s2, s3, s4, s5, s6, s7, s8, s9, s10, s11, s12, s13, s14, s15, s16, s17, s18, s19, s20, s21, s22⟩
                         go_simp
                         with_reducible rfl
                       rotate_left
                       · simp only [Act.put, List.setIfInBounds_toArray, List.set_cons_zero, List.set_cons_succ, i64_w, i32_w]
                         rfl
                       refine pure_ (i := 6) (N := some 58) (v := ?_) (a' := ?_) #[true, true, true, true, true, true, true, false, true, true, true, true, false, true, true, true, true, true, false, false, false, true, true, true, true, false, false, false, true, true, true, false, true, false, false, false, false] rfl rfl (any_of HT_.out (by kernel_rfl)) (fun _ _ _ h => h) (Or.inl ⟨by rfl, ?_⟩) ?_ ?_
                       rotate_left
                       · intro w'
                         go_simp
                         with_reducible rfl
                       rotate_left
                       · simp only [Act.put, List.setIfInBounds_toArray, List.set_cons_zero, List.set_cons_succ, i64_w, i32_w]
                         rfl
                       refine take_ (i := 7) (N := some 59) (v := ?_) (a' := ?_) #[true, true, true, true, true, true, true, true, true, true, true, true, false, true, true, true, true, true, false, false, false, true, true, true, true, false, false, false, true, true, true, false, true, false, false, false, false] rfl rfl (take_ofW HT_.out HW_.out (by kernel_rfl)) (fun _ _ _ h => h) (Or.inl ⟨by rfl, ?_⟩) hHeld ?_ ?_
                       rotate_left
                       · rintro w' ⟨s0, s1, s2, s3, s4, s5, s6, s7, s8, s9, s10, s11, s12, s13, s14, s15, s16, s17, s18, s19, s20, s21, s22⟩
                         go_simp
                         with_reducible rfl
                       rotate_left
                       · simp only [Act.put, List.setIfInBounds_toArray, List.set_cons_zero, List.set_cons_succ, i64_w, i32_w]
                         rfl
                       refine take_ (i := 12) (N := some 64) (v := ?_) (a' := ?_) #[true, true, true, true, true, true, true, true, true, true, true, true, true, true, true, true, true, true, false, false, false, true, true, true, true, false, false, false, true, true, true, false, true, false, false, false, false] rfl rfl (take_ofW HT_.out HW_.out (by kernel_rfl)) (fun _ _ _ h => h) (Or.inl ⟨by rfl, ?_⟩) hHeld ?_ ?_
                       rotate_left
                       · rintro w' ⟨s0, s1, s2, s3, s4, s5, s6, s7, s8, s9, s10, s11, s12, s13, s14, s15, s16, s17, s18, s19, s20, s21, s22⟩
                         go_simp
                         with_reducible rfl
                       rotate_left
                       · simp only [Act.put, List.setIfInBounds_toArray, List.set_cons_zero, List.set_cons_succ, i64_w, i32_w]
                         rfl
                       refine take_ (i := 18) (N := some 70) (v := ?_) (a' := ?_) #[true, true, true, true, true, true, true, true, true, true, true, true, true, true, true, true, true, true, true, false, false, true, true, true, true, false, false, false, true, true, true, false, true, false, false, false, false] rfl rfl (take_ofW HT_.out HW_.out (by kernel_rfl)) (fun _ _ _ h => h) (Or.inl ⟨by rfl, ?_⟩) hHeld ?_ ?_
                       rotate_left
                       · rintro w' ⟨s0, s1, s2, s3, s4, s5, s6, s7, s8, s9, s10, s11, s12, s13, s14, s15, s16, s17, s18, s19, s20, s21, s22⟩
                         go_simp
                         with_reducible rfl
                       rotate_left
                       · simp only [Act.put, List.setIfInBounds_toArray, List.set_cons_zero, List.set_cons_succ, i64_w, i32_w]
                         rfl
                       refine pure_ (i := 19) (N := some 71) (v := ?_) (a' := ?_) #[true, true, true, true, true, true, true, true, true, true, true, true, true, true, true, true, true, true, true, true, false, true, true, true, true, false, false, false, true, true, true, false, true, false, false, false, false] rfl rfl (any_of HT_.out (by kernel_rfl)) (fun _ _ _ h => h) (Or.inl ⟨by rfl, ?_⟩) ?_ ?_
                       rotate_left
                       · intro w'
                         go_simp
                         with_reducible rfl
                       rotate_left
                       · simp only [Act.put, List.setIfInBounds_toArray, List.set_cons_zero, List.set_cons_succ, i64_w, i32_w]
                         rfl
                       refine take_ (i := 20) (N := some 72) (v := ?_) (a' := ?_) #[true, true, true, true, true, true, true, true, true, true, true, true, true, true, true, true, true, true, true, true, true, true, true, true, true, false, false, false, true, true, true, false, true, false, false, false, false] rfl rfl (take_ofW HT_.out HW_.out (by kernel_rfl)) (fun _ _ _ h => h) (Or.inl ⟨by rfl, ?_⟩) hHeld ?_ ?_
                       rotate_left
                       · rintro w' ⟨s0, s1, s2, s3, s4, s5, s6, s7, s8, s9, s10, s11, s12, s13, s14, s15, s16, s17, s18, s19, s20, s21, s22⟩
                         go_simp
                         with_reducible rfl
                       rotate_left
                       · simp only [Act.put, List.setIfInBounds_toArray, List.set_cons_zero, List.set_cons_succ, i64_w, i32_w]
                         rfl
                       refine take_ (i := 25) (N := some 77) (v := ?_) (a' := ?_) #[true, true, true, true, true, true, true, true, true, true, true, true, true, true, true, true, true, true, true, true, true, true, true, true, true, true, false, false, true, true, true, false, true, false, false, false, false] rfl rfl (take_ofW HT_.out HW_.out (by kernel_rfl)) (fun _ _ _ h => h) (Or.inl ⟨by rfl, ?_⟩) hHeld ?_ ?_
                       rotate_left
                       · rintro w' ⟨s0, s1, s2, s3, s4, s5, s6, s7, s8, s9, s10, s11, s12, s13, s14, s15, s16, s17, s18, s19, s20, s21, s22⟩
                         go_simp
                         with_reducible rfl
                       rotate_left
                       · simp only [Act.put, List.setIfInBounds_toArray, List.set_cons_zero, List.set_cons_succ, i64_w, i32_w]
                         rfl
                       refine pure_ (i := 26) (N := some 78) (v := ?_) (a' := ?_) #[true, true, true, true, true, true, true, true, true, true, true, true, true, true, true, true, true, true, true, true, true, true, true, true, true, true, true, false, true, true, true, false, true, false, false, false, false] rfl rfl (any_of HT_.out (by kernel_rfl)) (fun _ _ _ h => h) (Or.inl ⟨by rfl, ?_⟩) ?_ ?_
                       rotate_left
                       · intro w'
                         go_simp
                         with_reducible rfl
                       rotate_left
                       · simp only [Act.put, List.setIfInBounds_toArray, List.set_cons_zero, List.set_cons_succ, i64_w, i32_w]
                         rfl
                       refine take_ (i := 27) (N := some 79) (v := ?_) (a' := ?_) #[true, true, true, true, true, true, true, true, true, true, true, true, true, true, true, true, true, true, true, true, true, true, true, true, true, true, true, true, true, true, true, false, true, false, false, false, false] rfl rfl (take_ofW HT_.out HW_.out (by kernel_rfl)) (fun _ _ _ h => h) (Or.inl ⟨by rfl, ?_⟩) hHeld ?_ ?_
                       rotate_left
                       · rintro w' ⟨s0, s1, s2, s3, s4, s5, s6, s7, s8, s9, s10, s11, s12, s13, s14, s15, s16, s17, s18, s19, s20, s21, s22⟩
                         go_simp
                         with_reducible rfl
                       rotate_left
                       · simp only [Act.put, List.setIfInBounds_toArray, List.set_cons_zero, List.set_cons_succ, i64_w, i32_w]
                         rfl
                       refine take_ (i := 31) (N := some 83) (v := ?_) (a' := ?_) #[true, true, true, true, true, true, true, true, true, true, true, true, true, true, true, true, true, true, true, true, true, true, true, true, true, true, true, true, true, true, true, true, true, false, false, false, false] rfl rfl (take_ofW HT_.out HW_.out (by kernel_rfl)) (fun _ _ _ h => h) (Or.inl ⟨by rfl, ?_⟩) hHeld ?_ ?_
                       rotate_left
                       · rintro w' ⟨s0, s1, s2, s3, s4, s5, s6, s7, s8, s9, s10, s11, s12, s13, s14, s15, s16, s17, s18, s19, s20, s21, s22⟩
                         go_simp
                         with_reducible rfl
                       rotate_left
                       · simp only [Act.put, List.setIfInBounds_toArray, List.set_cons_zero, List.set_cons_succ, i64_w, i32_w]
                         rfl
                       refine one_ (i := 33) (N := some 85) #[true, true, true, true, true, true, true, true, true, true, true, true, true, true, true, true, true, true, true, true, true, true, true, true, true, true, true, true, true, true, true, true, true, true, false, false, false] rfl rfl (one_of HT_.out (by kernel_rfl)) (by decide) (fun K hK => ?_)
                       refine goes_ Try.func24 (by kernel_rfl) rfl #[.agg #[.int .i64 ((rd_T28 l1 x43_2).f0), .int .i64 ((rd_T28 l1 x43_2).f1), .int .i64 ((rd_T28 l1 x43_2).f2), .int .i64 ((rd_T28 l1 x43_2).f3)], .int .i64 a2] (by rfl) rfl rfl (by (try simp only [List.map_toArray, List.map_cons, List.map_nil]); first | done | rfl | (simp only [List.length_drop, List.length_take]; rfl)) ?_
                       with_reducible refine (jacquardref30_Weight.calls ((rd_T28 l1 x43_2).f0) ((rd_T28 l1 x43_2).f1) ((rd_T28 l1 x43_2).f2) ((rd_T28 l1 x43_2).f3) a2 t205 _ A33.out).mono ?_
                       rintro e w39 ⟨rfl, hb⟩
                       have HS4_ := (hb.cell (World.block_lt_of_cell? _ _ (hHeld.2.2.2.2.1))).trans (hHeld.2.2.2.2.1)
                       have HS13_ := (hb.cell (World.block_lt_of_cell? _ _ (hHeld.2.2.2.2.2.2.2.2.2.2.2.2.2.1))).trans (hHeld.2.2.2.2.2.2.2.2.2.2.2.2.2.1)
                       have HS18_ := (hb.cell (World.block_lt_of_cell? _ _ (hHeld.2.2.2.2.2.2.2.2.2.2.2.2.2.2.2.2.2.2.1))).trans (hHeld.2.2.2.2.2.2.2.2.2.2.2.2.2.2.2.2.2.2.1)
                       refine ⟨_, rfl, ?_⟩
                       have n0_ := Aside0.mk (Kd.S_below (by (with_reducible repeat (first | apply Kd.S_alloc | apply Kd.S_drewN | apply Kd.S_drew)); exact HO_8.out) hb)
                       have n1_ := Aside0.mk (Kd.R_below (by (with_reducible repeat (first | apply Kd.R_alloc | apply Kd.R_drewN | apply Kd.R_drew)); exact HL198_0.out) hb)
                       have n2_ := Aside0.mk (Kd.R_below (by (with_reducible repeat (first | apply Kd.R_alloc | apply Kd.R_drewN | apply Kd.R_drew)); exact HL201_0.out) hb)
                       have n3_ := Aside0.mk (Kd.C_below (by repeat (first | (with_reducible exact HR198_0.out) | (with_reducible refine Kd.C_alloc ?_ _) | (with_reducible refine Kd.C_drewN ?_ _) | (with_reducible refine Kd.C_drew ?_) | exact HR198_0.out)) hb)
                       have n4_ := Aside0.mk (pw_cell_below hb HX198_0.out)
                       have n5_ := Aside0.mk (Kd.C_below (by repeat (first | (with_reducible exact HR201_0.out) | (with_reducible refine Kd.C_alloc ?_ _) | (with_reducible refine Kd.C_drewN ?_ _) | (with_reducible refine Kd.C_drew ?_) | exact HR201_0.out)) hb)
                       have n6_ := Aside0.mk (pw_cell_below hb HX201_0.out)
                       have n7_ := Aside0.mk (below_step (by repeat (first | (with_reducible first | exact HB.out | apply below_alloc | apply pw_below_drewN | apply below_drew1) | exact HB.out)) hb)
                       clear HO_8
                       clear HL198_0
                       clear HL201_0
                       clear HR198_0
                       clear HX198_0
                       clear HR201_0
                       clear HX201_0
                       clear HB
                       have HO_8 := n0_
                       have HL198_0 := n1_
                       have HL201_0 := n2_
                       have HR198_0 := n3_
                       have HX198_0 := n4_
                       have HR201_0 := n5_
                       have HX201_0 := n6_
                       have HB := n7_
                       clear n0_ n1_ n2_ n3_ n4_ n5_ n6_ n7_
                       (try clear hb)
                       (try clear hb2)
                       (try clear hk)
                       (try clear hi)
                       have p35 : 0 ≤ (((rd_T28 l1 x43_2).f1) : Int) := of_decide_eq_true (by first | (with_reducible assumption) | assumption)
                       have q35 : (((rd_T28 l1 x43_2).f1) : Int) < (((rd_L2 x8_2 ((rd_T28 l1 x43_2).f0)).length : Int) : Int) := of_decide_eq_true (by first | (with_reducible assumption) | assumption)
                       obtain ⟨go35, co35, eo35, gb35, gl35, cl35, HG35⟩ := Kd.R_form HL198_0.out (by omega)
                       (first | cases eo35 | (injection eo35 with ea_ en_ ec_; (first | subst ea_ | (injection ea_ with ea_; subst ea_)); subst ec_; clear en_))
                       have GB35 := Aside0.mk gb35
                       have GG35 := Aside0.mk HG35
                       clear gb35 gl35 HG35
                       (first | simp only [add_plain] at hx203_0 | skip)
                       obtain ⟨hx35_0, hf35_0⟩ := Kd.R_celln 0 HL198_0.out (((rd_T28 l1 x43_2).f1) : Int) p35 q35
                       replace p35 := eq_true p35
                       replace q35 := eq_true q35
                       have hq40 : (((rd_T28 l1 x43_2).f0) : Int) < (x8_2.length : Int) := (by have h_ : (((rd_T28 l1 x43_2).f0) : Int) < ((x8_2.length : Int) : Int) := of_decide_eq_true (by first | (with_reducible assumption) | assumption); first | exact h_ | (have e_ := (Kd.S_reads' HO_8.out).1; omega) | simpa only [List.length_set, List.length_set] using h_)
                       obtain ⟨oki40, ce40, hcl40, hM40, hcc40, hok40, hbk40⟩ := Kd.S_borrow HO_8.out [] (((rd_T28 l1 x43_2).f0) : Int) (of_decide_eq_true (by first | (with_reducible assumption) | assumption)) hq40
                       obtain ⟨ve40_0, rfl, ge40_0⟩ := hM40
                       have hv40 := hcc40 0 _ rfl
                       rw [Nat.add_zero, show ((Kd.slice 3 (Kd.int .i64))).sz = 1 from rfl, Nat.mul_one] at hv40
                       replace hv40 := Option.some.inj (hv40.symm.trans HX198_0.out)
                       subst hv40
                       clear hcc40 hcl40
                       replace ge40_0 := (show Kd.R (Kd.int .i64) 3 _ _ _ _ (rd_L2 x8_2 ((rd_T28 l1 x43_2).f0)) from ge40_0)
                       have HP40 := Kd.R_putg ge40_0 (((rd_T28 l1 x43_2).f1) : Int) ji34
                       rw [← Ny206.out] at HP40
                       have HS40 := hbk40 HP40.2 (fun k_ e_ => by injection e_ with e_; subst e_; exact ge40_0.1 _ rfl) (x' := y206) (Kd.M_row HP40.1)
                       rw [← Ny208.out] at HS40
                       have HQ40 := Aside0.mk HS40
                       clear HP40 HS40 hbk40 hok40
                       refine hK.out _ _ ⟨((HB.out.cell (World.block_lt_of_cell? w _ hw197_0)).trans hw197_0), ((HB.out.cell (World.block_lt_of_cell? w _ hw197_1)).trans hw197_1), ((HB.out.cell (World.block_lt_of_cell? w _ hw197_2)).trans hw197_2), ((HB.out.cell (World.block_lt_of_cell? w _ hw197_3)).trans hw197_3), HS4_, ((HB.out.cell (World.block_lt_of_cell? w _ hw199_0)).trans hw199_0), ((HB.out.cell (World.block_lt_of_cell? w _ hw199_1)).trans hw199_1), ((HB.out.cell (World.block_lt_of_cell? w _ hw199_2)).trans hw199_2), ((HB.out.cell (World.block_lt_of_cell? w _ hw199_3)).trans hw199_3), ((HB.out.cell (World.block_lt_of_cell? w _ hw200_0)).trans hw200_0), ((HB.out.cell (World.block_lt_of_cell? w _ hw200_1)).trans hw200_1), ((HB.out.cell (World.block_lt_of_cell? w _ hw200_2)).trans hw200_2), ((HB.out.cell (World.block_lt_of_cell? w _ hw200_3)).trans hw200_3), HS13_, ((HB.out.cell (World.block_lt_of_cell? w _ hw202_0)).trans hw202_0), ((HB.out.cell (World.block_lt_of_cell? w _ hw202_1)).trans hw202_1), ((HB.out.cell (World.block_lt_of_cell? w _ hw202_2)).trans hw202_2), ((HB.out.cell (World.block_lt_of_cell? w _ hw202_3)).trans hw202_3), HS18_, ((HB.out.cell (World.block_lt_of_cell? w _ hw204_0)).trans hw204_0), ((HB.out.cell (World.block_lt_of_cell? w _ hw204_1)).trans hw204_1), ((HB.out.cell (World.block_lt_of_cell? w _ hw204_2)).trans hw204_2), ((HB.out.cell (World.block_lt_of_cell? w _ hw204_3)).trans hw204_3)⟩ (fun hHeld => ?_)
                       clear hK K
                       refine norm_ (a' := ?_) ?_ ?_
                       rotate_left
                       · show Act.put _ (some 85) _ = _
                         simp only [Act.put, List.setIfInBounds_toArray, List.set_cons_zero, List.set_cons_succ, i64_w, i32_w]
                         rfl
                       refine pure_ (i := 34) (N := some 86) (v := ?_) (a' := ?_) #[true, true, true, true, true, true, true, true, true, true, true, true, true, true, true, true, true, true, true, true, true, true, true, true, true, true, true, true, true, true, true, true, true, true, true, false, false] rfl rfl (any_of HT_.out (by kernel_rfl)) (fun _ _ _ h => h) (Or.inl ⟨by rfl, ?_⟩) ?_ ?_
                       rotate_left
                       · intro w'
                         go_simp
                         with_reducible rfl
                       rotate_left
                       · simp only [Act.put, List.setIfInBounds_toArray, List.set_cons_zero, List.set_cons_succ, i64_w, i32_w]
                         rfl
                       refine pure_ (i := 35) (N := some 87) (v := ?_) (a' := ?_) #[true, true, true, true, true, true, true, true, true, true, true, true, true, true, true, true, true, true, true, true, true, true, true, true, true, true, true, true, true, true, true, true, true, true, true, true, false] rfl rfl (any_of HT_.out (by kernel_rfl)) (fun _ _ _ h => h) (Or.inl ⟨by rfl, ?_⟩) ?_ ?_
                       rotate_left
                       · intro w'
                         go_simp
                         with_reducible rfl
                       rotate_left
                       · simp only [Act.put, List.setIfInBounds_toArray, List.set_cons_zero, List.set_cons_succ, i64_w, i32_w]
                         rfl
                       refine last_ (i := 36) (N := none) #[true, true, true, true, true, true, true, true, true, true, true, true, true, true, true, true, true, true, true, true, true, true, true, true, true, true, true, true, true, true, true, true, true, true, true, true, true] rfl rfl (one_of HT_.out (by kernel_rfl)) (by decide) (fun K hK => ?_)
                       refine skip_ (w1 := ?_) (by rfl) rfl ?_ ?_
                       rotate_left
                       · go_simp
                         rfl
                       refine hK.out _ _ ?_
                       clear hK K
                       refine done_ (done_of HT_.out (by kernel_rfl)) ?_
                       try go_wp2
                       go_roundg k2
                       case measure => have := HK1.out; have := HK2.out; omega
                       case rel => exact ⟨(y208), (wrap64 (x43_2 + 1)), (by first | rfl | (simp; done) | (simp [*]; done)), H', ⟨by have := HK1.out; have := HK2.out; omega⟩, ⟨by (with_reducible repeat (first | apply Kd.S_alloc | apply Kd.S_drewN | apply Kd.S_drew)); exact HQ40.out⟩, ⟨by repeat (first | (with_reducible first | exact HB.out | apply below_alloc | apply pw_below_drewN | apply below_drew1 | refine below_set ?_ GB35.out) | exact HB.out)⟩⟩
                     · rw [if_neg c32] at H
                       exact absurd H (by simp)
                   · rw [if_neg c31] at H
                     exact absurd H (by simp)
                 · rw [if_neg c30] at H
                   exact absurd H (by simp)
               · rw [if_neg c29] at H
                 exact absurd H (by simp)
             · replace c28 := Bool.eq_false_iff.mpr c28
               subst c28
               have H1 : (jacquardref30_Walks.l2 k2 t186 l1 a2 x8_2 (l1.length : Int) (wrap64 (x43_2 + 1))) = some (r1, r2) := by rw [if_neg (show ¬ (false = true) by decide)] at H; exact H
               clear H
               have H := H1
               clear H1
               have H' := Aside0.mk H
               clear H
               have p195 : 0 ≤ (x43_2 : Int) := of_decide_eq_true (by first | (with_reducible assumption) | assumption)
               have q195 : x43_2 < (l1.length : Int) := of_decide_eq_true (by first | (with_reducible assumption) | assumption)
               obtain ⟨ad195, e195, hx195_0, hx195_1, hx195_2, hx195_3⟩ := at_T28 HR1.out x43_2 p195 q195
               cases e195
               replace hx195_0 := (HB.out.cell (World.block_lt_of_cell? w _ hx195_0)).trans hx195_0
               replace hx195_1 := (HB.out.cell (World.block_lt_of_cell? w _ hx195_1)).trans hx195_1
               replace hx195_2 := (HB.out.cell (World.block_lt_of_cell? w _ hx195_2)).trans hx195_2
               replace hx195_3 := (HB.out.cell (World.block_lt_of_cell? w _ hx195_3)).trans hx195_3
               replace p195 := eq_true p195
               replace q195 := eq_true q195
               go_wp2_with (first | ((with_reducible refine gate_callee (f := 38) rfl ?_); refine goesL_ (some 51) rfl rfl Try.func38 (by kernel_rfl) rfl #[.int .i64 t186, .agg #[.int .i64 ((rd_T28 l1 x43_2).f0), .int .i64 ((rd_T28 l1 x43_2).f1), .int .i64 ((rd_T28 l1 x43_2).f2), .int .i64 ((rd_T28 l1 x43_2).f3)]] rfl (by (try simp only [List.map_toArray, List.map_cons, List.map_nil]); first | done | rfl | (simp only [List.length_drop, List.length_take]; rfl)) ?_; (with_reducible refine (jacquardref30_Counts.calls t186 ((rd_T28 l1 x43_2).f0) ((rd_T28 l1 x43_2).f1) ((rd_T28 l1 x43_2).f2) ((rd_T28 l1 x43_2).f3) false _ A27.out).mono ?_); rintro e w42 ⟨rfl, hb⟩; refine ⟨_, rfl, ?_⟩; have n0_ := Aside0.mk (Kd.S_below (by (with_reducible repeat (first | apply Kd.S_alloc | apply Kd.S_drewN | apply Kd.S_drew)); exact HO_8.out) hb); have n1_ := Aside0.mk (below_step (by repeat (first | (with_reducible first | exact HB.out | apply below_alloc | apply pw_below_drewN | apply below_drew1) | exact HB.out)) hb); clear HO_8; clear HB; have HO_8 := n0_; have HB := n1_; clear n0_ n1_; (try clear hb); (try clear hb2); (try clear hk); (try clear hi)))
               go_roundg k2
               case measure => have := HK1.out; have := HK2.out; omega
               case rel => exact ⟨(x8_2), (wrap64 (x43_2 + 1)), (by first | rfl | (simp; done) | (simp [*]; done)), H', ⟨by have := HK1.out; have := HK2.out; omega⟩, ⟨by (with_reducible repeat (first | apply Kd.S_alloc | apply Kd.S_drewN | apply Kd.S_drew)); exact HO_8.out⟩, ⟨by repeat (first | (with_reducible first | exact HB.out | apply below_alloc | apply pw_below_drewN | apply below_drew1) | exact HB.out)⟩⟩
           · rw [if_neg c26] at H
             exact absurd H (by simp)
         · rw [if_neg c25] at H
           exact absurd H (by simp)
       · rw [if_neg c24] at H
         have c24b0 : decide (x43_2 < (l1.length : Int)) = false := decide_eq_false c24
         clear c24
         have H' := Aside0.mk H
         clear H
         go_wp2
         go_loopg [90] k2 (fun kq v90 w' => ∃ (x8_3 : List (List Int)) (x90_3 : Int), v90 = .int .i64 x90_3 ∧ Aside0 (jacquardref30_Walks.l3 kq t186 x8_3 t186 x90_3 = some (r1, r2)) ∧ Aside0 (kq ≤ k2) ∧ Aside0 (Kd.S (Kd.slice 3 (Kd.int .i64)) 29 w' w.heap.size (fun _ => True) u8 x8_3) ∧ Aside0 (Below w.heap.size w w'))
         case atStart => exact ⟨(x8_2), (0), (by first | rfl | (simp; done) | (simp [*]; done)), H', ⟨Nat.le_refl _⟩, ⟨by (with_reducible repeat (first | apply Kd.S_alloc | apply Kd.S_drewN | apply Kd.S_drew)); exact HO_8.out⟩, ⟨by repeat (first | (with_reducible first | exact HB.out | apply below_alloc | apply pw_below_drewN | apply below_drew1) | exact HB.out)⟩⟩
         case round =>
          clear H'
          try clear c1
          try clear p1
          try clear q1
          try clear hx1
          try clear c2
          try clear p2
          try clear q2
          try clear hx2
          try clear c3
          try clear p3
          try clear q3
          try clear hx3
          try clear hf3
          try clear c4
          try clear q4
          try clear p6
          try clear c19
          try clear p19
          try clear q19
          try clear hx19
          try clear c20
          try clear p20
          try clear q20
          try clear hx20
          try clear c24
          try clear c24b0
          try clear c25
          try clear c25b0
          try clear c26
          try clear c26b0
          try clear c28
          try clear c29
          try clear c29b0
          try clear c30
          try clear c30b0
          try clear c31
          try clear c31b0
          try clear c32
          try clear c32b0
          try clear p35
          try clear q35
          try clear hx35
          try clear hf35
          try clear c38
          try clear c40
          try clear q40
          try clear hx195_0
          try clear hx195_1
          try clear hx195_2
          try clear hx195_3
          try clear hx197_0
          try clear hx197_1
          try clear hx197_2
          try clear hx197_3
          try clear hx198_0
          try clear hx199_0
          try clear hx199_1
          try clear hx199_2
          try clear hx199_3
          try clear hx200_0
          try clear hx200_1
          try clear hx200_2
          try clear hx200_3
          try clear hx201_0
          try clear hx202_0
          try clear hx202_1
          try clear hx202_2
          try clear hx202_3
          try clear hx203_0
          try clear hx204_0
          try clear hx204_1
          try clear hx204_2
          try clear hx204_3
          try clear hx35_0
          try clear p195
          try clear p197
          try clear p198
          try clear p199
          try clear p200
          try clear p201
          try clear p202
          try clear p203
          try clear p204
          try clear p35
          try clear q195
          try clear q197
          try clear q198
          try clear q199
          try clear q200
          try clear q201
          try clear q202
          try clear q203
          try clear q204
          try clear q35
          obtain ⟨x8_3, x90_3, rfl, HA, HK3, HO_8, HB⟩ := hrel
          cases gk with
          | zero => exact absurd HA.out (by simp [jacquardref30_Walks.l3])
          | succ k3 =>
           have H := HA.out
           clear HA
           simp only [jacquardref30_Walks.l3] at H
           by_cases c43 : x90_3 < t186
           · rw [if_pos c43] at H
             have c43b0 : decide (x90_3 < t186) = true := decide_eq_true c43
             clear c43
             by_cases c44 : 0 ≤ x90_3
             · rw [if_pos c44] at H
               have c44b0 : decide (0 ≤ x90_3) = true := decide_eq_true c44
               clear c44
               by_cases c45 : x90_3 < (x8_3.length : Int)
               · rw [if_pos c45] at H
                 have c45b0 : decide (x90_3 < (x8_3.length : Int)) = true := decide_eq_true c45
                 clear c45
                 by_cases c46 : x90_3 < ((rd_L2 x8_3 x90_3).length : Int)
                 · rw [if_pos c46] at H
                   have c46b0 : decide (x90_3 < ((rd_L2 x8_3 x90_3).length : Int)) = true := decide_eq_true c46
                   clear c46
                   by_cases c47 : (rd (rd_L2 x8_3 x90_3) x90_3) > 0
                   · rw [if_pos c47] at H
                     have c47b0 : decide (0 < (rd (rd_L2 x8_3 x90_3) x90_3)) = true := decide_eq_true c47
                     clear c47
                     simp only [Option.some.injEq, Prod.mk.injEq] at H
                     obtain ⟨rfl, rfl⟩ := H
                     obtain ⟨Ao48, co48, eo48⟩ := Kd.S_slice HO_8.out
                     subst eo48
                     have p209 : 0 ≤ (x90_3 : Int) := of_decide_eq_true (by first | (with_reducible assumption) | assumption)
                     have q209 : x90_3 < (x8_3.length : Int) := of_decide_eq_true (by first | (with_reducible assumption) | assumption)
                     obtain ⟨ad209, A209_0, c209_0, e209, hx209_0, hl209_0, hi209_0⟩ := at_L2 (Kd.S_reads' HO_8.out).2.2 x90_3 p209 q209
                     cases e209
                     obtain ⟨ce209, hce209, hMe209, hcc209⟩ := Kd.S_get HO_8.out [] x90_3 p209 (by first | exact q209 | exact of_decide_eq_true (by first | (with_reducible assumption) | assumption) | (have e_ := (Kd.S_reads' HO_8.out).1; omega))
                     obtain ⟨ve209_0, rfl, ge209_0⟩ := hMe209
                     have hv209_0 := hcc209 0 _ rfl
                     rw [Nat.add_zero, show ((Kd.slice 3 (Kd.int .i64))).sz = 1 from rfl, Nat.mul_one] at hv209_0
                     replace hv209_0 := Option.some.inj (hv209_0.symm.trans hx209_0)
                     rw [hv209_0] at ge209_0
                     have HL209_0 := Aside0.mk (show Kd.R (Kd.int .i64) 3 _ _ _ _ (rd_L2 x8_3 x90_3) from ge209_0)
                     clear hv209_0 ge209_0
                     have HX209_0 := Aside0.mk hx209_0
                     clear hcc209 hce209
                     have HR209_0 := Aside0.mk hi209_0
                     have HC209_0 := Aside0.mk hl209_0
                     clear hi209_0 hl209_0
                     replace p209 := eq_true p209
                     replace q209 := eq_true q209
                     have p210 : 0 ≤ (x90_3 : Int) := of_decide_eq_true (by first | (with_reducible assumption) | assumption)
                     have q210 : x90_3 < ((rd_L2 x8_3 x90_3).length : Int) := of_decide_eq_true (by first | (with_reducible assumption) | assumption)
                     obtain ⟨ad210, e210, hx210_0⟩ := Kd.at_int (by repeat (first | (with_reducible exact HR209_0.out) | (with_reducible refine Kd.C_alloc ?_ _) | (with_reducible refine Kd.C_drewN ?_ _) | (with_reducible refine Kd.C_drew ?_) | exact HR209_0.out)) x90_3 p210 q210
                     cases e210
                     replace p210 := eq_true p210
                     replace q210 := eq_true q210
                     go_wp2
                     go_ret2
                     exact ⟨_, by first | rfl | (simp [errW_none, errW_some] <;> rfl) | (simp [*, errW_none, errW_some] <;> rfl), by first | exact Kd.S_nil _ _ _ _ _ | exact Kd.N_nil _ _ _ _ _ | exact Kd.V_nil _ _ _ _ _ | exact Kd.Q_nil _ _ _ _ _ | exact Kd.R_nil _ _ _ _ _, by repeat (first | (with_reducible first | exact HB.out | apply below_alloc | apply pw_below_drewN | apply below_drew1) | exact HB.out)⟩
                   · rw [if_neg c47] at H
                     have c47b0 : decide (0 < (rd (rd_L2 x8_3 x90_3) x90_3)) = false := decide_eq_false c47
                     clear c47
                     have H' := Aside0.mk H
                     clear H
                     obtain ⟨Ao49, co49, eo49⟩ := Kd.S_slice HO_8.out
                     subst eo49
                     have p209 : 0 ≤ (x90_3 : Int) := of_decide_eq_true (by first | (with_reducible assumption) | assumption)
                     have q209 : x90_3 < (x8_3.length : Int) := of_decide_eq_true (by first | (with_reducible assumption) | assumption)
                     obtain ⟨ad209, A209_0, c209_0, e209, hx209_0, hl209_0, hi209_0⟩ := at_L2 (Kd.S_reads' HO_8.out).2.2 x90_3 p209 q209
                     cases e209
                     obtain ⟨ce209, hce209, hMe209, hcc209⟩ := Kd.S_get HO_8.out [] x90_3 p209 (by first | exact q209 | exact of_decide_eq_true (by first | (with_reducible assumption) | assumption) | (have e_ := (Kd.S_reads' HO_8.out).1; omega))
                     obtain ⟨ve209_0, rfl, ge209_0⟩ := hMe209
                     have hv209_0 := hcc209 0 _ rfl
                     rw [Nat.add_zero, show ((Kd.slice 3 (Kd.int .i64))).sz = 1 from rfl, Nat.mul_one] at hv209_0
                     replace hv209_0 := Option.some.inj (hv209_0.symm.trans hx209_0)
                     rw [hv209_0] at ge209_0
                     have HL209_0 := Aside0.mk (show Kd.R (Kd.int .i64) 3 _ _ _ _ (rd_L2 x8_3 x90_3) from ge209_0)
                     clear hv209_0 ge209_0
                     have HX209_0 := Aside0.mk hx209_0
                     clear hcc209 hce209
                     have HR209_0 := Aside0.mk hi209_0
                     have HC209_0 := Aside0.mk hl209_0
                     clear hi209_0 hl209_0
                     replace p209 := eq_true p209
                     replace q209 := eq_true q209
                     have p210 : 0 ≤ (x90_3 : Int) := of_decide_eq_true (by first | (with_reducible assumption) | assumption)
                     have q210 : x90_3 < ((rd_L2 x8_3 x90_3).length : Int) := of_decide_eq_true (by first | (with_reducible assumption) | assumption)
                     obtain ⟨ad210, e210, hx210_0⟩ := Kd.at_int (by repeat (first | (with_reducible exact HR209_0.out) | (with_reducible refine Kd.C_alloc ?_ _) | (with_reducible refine Kd.C_drewN ?_ _) | (with_reducible refine Kd.C_drew ?_) | exact HR209_0.out)) x90_3 p210 q210
                     cases e210
                     replace p210 := eq_true p210
                     replace q210 := eq_true q210
                     go_wp2
                     go_loopg [102] k3 (fun kq v102 w' => ∃ (x8_4 : List (List Int)) (x102_4 : Int), v102 = .int .i64 x102_4 ∧ Aside0 (jacquardref30_Walks.l4 kq t186 x8_4 x90_3 t186 x90_3 t186 x102_4 = some (r1, r2)) ∧ Aside0 (kq ≤ k3) ∧ Aside0 (Kd.S (Kd.slice 3 (Kd.int .i64)) 29 w' w.heap.size (fun _ => True) (.slice (some ad209) x8_3.length co49) x8_4) ∧ Aside0 (Below w.heap.size w w'))
                     case atStart => exact ⟨(x8_3), (0), (by first | rfl | (simp; done) | (simp [*]; done)), H', ⟨Nat.le_refl _⟩, ⟨by (with_reducible repeat (first | apply Kd.S_alloc | apply Kd.S_drewN | apply Kd.S_drew)); exact HO_8.out⟩, ⟨by repeat (first | (with_reducible first | exact HB.out | apply below_alloc | apply pw_below_drewN | apply below_drew1) | exact HB.out)⟩⟩
                     case round =>
                      clear H'
                      try clear c1
                      try clear p1
                      try clear q1
                      try clear hx1
                      try clear c2
                      try clear p2
                      try clear q2
                      try clear hx2
                      try clear c3
                      try clear p3
                      try clear q3
                      try clear hx3
                      try clear hf3
                      try clear c4
                      try clear q4
                      try clear p6
                      try clear c19
                      try clear p19
                      try clear q19
                      try clear hx19
                      try clear c20
                      try clear p20
                      try clear q20
                      try clear hx20
                      try clear p21
                      try clear q21
                      try clear hx21
                      try clear c24
                      try clear c24b0
                      try clear c25
                      try clear c25b0
                      try clear c26
                      try clear c26b0
                      try clear c28
                      try clear c29
                      try clear c29b0
                      try clear c30
                      try clear c30b0
                      try clear c31
                      try clear c31b0
                      try clear c32
                      try clear c32b0
                      try clear p35
                      try clear q35
                      try clear hx35
                      try clear hf35
                      try clear c38
                      try clear c40
                      try clear q40
                      try clear c43
                      try clear c43b0
                      try clear c44
                      try clear c44b0
                      try clear c45
                      try clear c45b0
                      try clear c46
                      try clear c46b0
                      try clear c47
                      try clear c47b0
                      try clear hx195_0
                      try clear hx195_1
                      try clear hx195_2
                      try clear hx195_3
                      try clear hx197_0
                      try clear hx197_1
                      try clear hx197_2
                      try clear hx197_3
                      try clear hx198_0
                      try clear hx199_0
                      try clear hx199_1
                      try clear hx199_2
                      try clear hx199_3
                      try clear hx200_0
                      try clear hx200_1
                      try clear hx200_2
                      try clear hx200_3
                      try clear hx201_0
                      try clear hx202_0
                      try clear hx202_1
                      try clear hx202_2
                      try clear hx202_3
                      try clear hx203_0
                      try clear hx204_0
                      try clear hx204_1
                      try clear hx204_2
                      try clear hx204_3
                      try clear hx209_0
                      try clear hx210_0
                      try clear hx35_0
                      try clear p1
                      try clear p19
                      try clear p195
                      try clear p197
                      try clear p198
                      try clear p199
                      try clear p2
                      try clear p20
                      try clear p200
                      try clear p201
                      try clear p202
                      try clear p203
                      try clear p204
                      try clear p209
                      try clear p210
                      try clear p3
                      try clear p35
                      try clear p6
                      try clear q1
                      try clear q19
                      try clear q195
                      try clear q197
                      try clear q198
                      try clear q199
                      try clear q2
                      try clear q20
                      try clear q200
                      try clear q201
                      try clear q202
                      try clear q203
                      try clear q204
                      try clear q209
                      try clear q210
                      try clear q3
                      try clear q35
                      try clear q4
                      try clear q40
                      obtain ⟨x8_4, x102_4, rfl, HA, HK4, HO_8, HB⟩ := hrel
                      have hl8_4 := (Kd.S_reads' HO_8.out).1
                      rw [hl8_4] at HO_8
                      (try simp only [hl8_4])
                      cases gk with
                      | zero => exact absurd HA.out (by simp [jacquardref30_Walks.l4])
                      | succ k4 =>
                       have H := HA.out
                       clear HA
                       simp only [jacquardref30_Walks.l4] at H
                       by_cases c50 : x102_4 < t186
                       · rw [if_pos c50] at H
                         have c50b0 : decide (x102_4 < t186) = true := decide_eq_true c50
                         clear c50
                         have H' := Aside0.mk H
                         clear H
                         go_wp2
                         go_loopg [106] k4 (fun kq v106 w' => ∃ (x8_5 : List (List Int)) (x106_5 : Int), v106 = .int .i64 x106_5 ∧ Aside0 (jacquardref30_Walks.l5 kq t186 x8_5 x90_3 x102_4 t186 x90_3 t186 x102_4 t186 x106_5 = some (r1, r2)) ∧ Aside0 (kq ≤ k4) ∧ Aside0 (Kd.S (Kd.slice 3 (Kd.int .i64)) 29 w' w.heap.size (fun _ => True) (.slice (some ad209) x8_4.length co49) x8_5) ∧ Aside0 (Below w.heap.size w w'))
                         case atStart => exact ⟨(x8_4), (0), (by first | rfl | (simp; done) | (simp [*]; done)), H', ⟨Nat.le_refl _⟩, ⟨by (try simp only [hl8_4]); (with_reducible repeat (first | apply Kd.S_alloc | apply Kd.S_drewN | apply Kd.S_drew)); exact HO_8.out⟩, ⟨by repeat (first | (with_reducible first | exact HB.out | apply below_alloc | apply pw_below_drewN | apply below_drew1) | exact HB.out)⟩⟩
                         case round =>
                          clear H'
                          try clear c1
                          try clear p1
                          try clear q1
                          try clear hx1
                          try clear c2
                          try clear p2
                          try clear q2
                          try clear hx2
                          try clear c3
                          try clear p3
                          try clear q3
                          try clear hx3
                          try clear hf3
                          try clear c4
                          try clear q4
                          try clear c5
                          try clear p6
                          try clear c19
                          try clear p19
                          try clear q19
                          try clear hx19
                          try clear c20
                          try clear p20
                          try clear q20
                          try clear hx20
                          try clear p21
                          try clear q21
                          try clear hx21
                          try clear c24
                          try clear c24b0
                          try clear c25
                          try clear c25b0
                          try clear c26
                          try clear c26b0
                          try clear c28
                          try clear c29
                          try clear c29b0
                          try clear c30
                          try clear c30b0
                          try clear c31
                          try clear c31b0
                          try clear c32
                          try clear c32b0
                          try clear p35
                          try clear q35
                          try clear hx35
                          try clear hf35
                          try clear c38
                          try clear c40
                          try clear q40
                          try clear c43
                          try clear c43b0
                          try clear c44
                          try clear c44b0
                          try clear c45
                          try clear c45b0
                          try clear c46
                          try clear c46b0
                          try clear c47
                          try clear c47b0
                          try clear c50
                          try clear c50b0
                          try clear hx195_0
                          try clear hx195_1
                          try clear hx195_2
                          try clear hx195_3
                          try clear hx197_0
                          try clear hx197_1
                          try clear hx197_2
                          try clear hx197_3
                          try clear hx198_0
                          try clear hx199_0
                          try clear hx199_1
                          try clear hx199_2
                          try clear hx199_3
                          try clear hx200_0
                          try clear hx200_1
                          try clear hx200_2
                          try clear hx200_3
                          try clear hx201_0
                          try clear hx202_0
                          try clear hx202_1
                          try clear hx202_2
                          try clear hx202_3
                          try clear hx203_0
                          try clear hx204_0
                          try clear hx204_1
                          try clear hx204_2
                          try clear hx204_3
                          try clear hx209_0
                          try clear hx210_0
                          try clear hx35_0
                          try clear p1
                          try clear p19
                          try clear p195
                          try clear p197
                          try clear p198
                          try clear p199
                          try clear p2
                          try clear p20
                          try clear p200
                          try clear p201
                          try clear p202
                          try clear p203
                          try clear p204
                          try clear p209
                          try clear p21
                          try clear p210
                          try clear p3
                          try clear p35
                          try clear p6
                          try clear q1
                          try clear q19
                          try clear q195
                          try clear q197
                          try clear q198
                          try clear q199
                          try clear q2
                          try clear q20
                          try clear q200
                          try clear q201
                          try clear q202
                          try clear q203
                          try clear q204
                          try clear q209
                          try clear q21
                          try clear q210
                          try clear q3
                          try clear q35
                          try clear q4
                          try clear q40
                          obtain ⟨x8_5, x106_5, rfl, HA, HK5, HO_8, HB⟩ := hrel
                          have hl8_5 := (Kd.S_reads' HO_8.out).1
                          rw [hl8_5] at HO_8
                          (try simp only [hl8_5])
                          cases gk with
                          | zero => exact absurd HA.out (by simp [jacquardref30_Walks.l5])
                          | succ k5 =>
                           have H := HA.out
                           clear HA
                           simp only [jacquardref30_Walks.l5] at H
                           by_cases c51 : x106_5 < t186
                           · rw [if_pos c51] at H
                             have c51b0 : decide (x106_5 < t186) = true := decide_eq_true c51
                             clear c51
                             by_cases c52 : 0 ≤ x102_4
                             · rw [if_pos c52] at H
                               have c52b0 : decide (0 ≤ x102_4) = true := decide_eq_true c52
                               clear c52
                               by_cases c53 : x102_4 < (x8_5.length : Int)
                               · rw [if_pos c53] at H
                                 have c53b0 : decide (x102_4 < (x8_5.length : Int)) = true := decide_eq_true c53
                                 (try (have c53b0z := c53b0; simp only [hl8_4, hl8_5] at c53b0z))
                                 clear c53
                                 by_cases c54 : 0 ≤ x90_3
                                 · rw [if_pos c54] at H
                                   have c54b0 : decide (0 ≤ x90_3) = true := decide_eq_true c54
                                   clear c54
                                   by_cases c55 : x90_3 < ((rd_L2 x8_5 x102_4).length : Int)
                                   · rw [if_pos c55] at H
                                     have c55b0 : decide (x90_3 < ((rd_L2 x8_5 x102_4).length : Int)) = true := decide_eq_true c55
                                     (try (have c55b0z := c55b0; simp only [hl8_4, hl8_5] at c55b0z))
                                     clear c55
                                     by_cases c56 : (rd (rd_L2 x8_5 x102_4) x90_3) > (-1152921504606846976)
                                     · rw [if_pos c56] at H
                                       have c56b0 : decide ((-1152921504606846976) < (rd (rd_L2 x8_5 x102_4) x90_3)) = true := decide_eq_true c56
                                       clear c56
                                       by_cases c57 : x90_3 < (x8_5.length : Int)
                                       · rw [if_pos c57] at H
                                         have c57b0 : decide (x90_3 < (x8_5.length : Int)) = true := decide_eq_true c57
                                         (try (have c57b0z := c57b0; simp only [hl8_4, hl8_5] at c57b0z))
                                         clear c57
                                         by_cases c58 : 0 ≤ x106_5
                                         · rw [if_pos c58] at H
                                           have c58b0 : decide (0 ≤ x106_5) = true := decide_eq_true c58
                                           clear c58
                                           by_cases c59 : x106_5 < ((rd_L2 x8_5 x90_3).length : Int)
                                           · rw [if_pos c59] at H
                                             have c59b0 : decide (x106_5 < ((rd_L2 x8_5 x90_3).length : Int)) = true := decide_eq_true c59
                                             (try (have c59b0z := c59b0; simp only [hl8_4, hl8_5] at c59b0z))
                                             clear c59
                                             by_cases c60 : (rd (rd_L2 x8_5 x90_3) x106_5) > (-1152921504606846976)
                                             · rw [if_pos c60] at H
                                               have c60b0 : decide ((-1152921504606846976) < (rd (rd_L2 x8_5 x90_3) x106_5)) = true := decide_eq_true c60
                                               clear c60
                                               by_cases c61 : x106_5 < ((rd_L2 x8_5 x102_4).length : Int)
                                               · rw [if_pos c61] at H
                                                 have c61b0 : decide (x106_5 < ((rd_L2 x8_5 x102_4).length : Int)) = true := decide_eq_true c61
                                                 (try (have c61b0z := c61b0; simp only [hl8_4, hl8_5] at c61b0z))
                                                 clear c61
                                                 obtain ⟨ji62, hji62⟩ : ∃ j_ : Int, (mx (rd (rd_L2 x8_5 x102_4) x106_5) (wrap64 ((rd (rd_L2 x8_5 x102_4) x90_3) + (rd (rd_L2 x8_5 x90_3) x106_5)))) = j_ := ⟨_, rfl⟩
                                                 replace H : (jacquardref30_Walks.l5 k5 t186 (x8_5.set (x102_4 : Int).toNat ((rd_L2 x8_5 x102_4).set (x106_5 : Int).toNat (ji62))) x90_3 x102_4 t186 x90_3 t186 x102_4 t186 (wrap64 (x106_5 + 1))) = some (r1, r2) := by first | (rw [hji62] at H; exact H) | (simp only [hji62] at H ⊢; exact H)
                                                 have hji62_ : (if (rd (rd_L2 x8_5 x102_4) x106_5) < (wrap64 ((rd (rd_L2 x8_5 x102_4) x90_3) + (rd (rd_L2 x8_5 x90_3) x106_5))) then (wrap64 ((rd (rd_L2 x8_5 x102_4) x90_3) + (rd (rd_L2 x8_5 x90_3) x106_5))) else (rd (rd_L2 x8_5 x102_4) x106_5)) = ji62 := hji62
                                                 obtain ⟨y222, hy222⟩ : ∃ y_ : List Int, y_ = ((rd_L2 x8_5 x102_4).set (x106_5 : Int).toNat (ji62)) := ⟨_, rfl⟩
                                                 replace H : (jacquardref30_Walks.l5 k5 t186 (x8_5.set (x102_4 : Int).toNat y222) x90_3 x102_4 t186 x90_3 t186 x102_4 t186 (wrap64 (x106_5 + 1))) = some (r1, r2) := by first | (rw [hy222]; with_reducible exact H) | (have H2_ := (Option.bind_some _ _).symm.trans H; rw [hy222]; with_reducible exact H2_) | (have H2_ := (Option.bind_some _ _).symm.trans H; with_reducible exact H2_) | with_reducible exact H | (rw [hy222]; exact H) | exact H
                                                 have Ny222 := Aside0.mk hy222
                                                 clear hy222
                                                 obtain ⟨y224, hy224⟩ : ∃ y_ : List (List Int), y_ = (x8_5.set (x102_4 : Int).toNat y222) := ⟨_, rfl⟩
                                                 replace H : (jacquardref30_Walks.l5 k5 t186 y224 x90_3 x102_4 t186 x90_3 t186 x102_4 t186 (wrap64 (x106_5 + 1))) = some (r1, r2) := by first | (rw [hy224]; with_reducible exact H) | (have H2_ := (Option.bind_some _ _).symm.trans H; rw [hy224]; with_reducible exact H2_) | (have H2_ := (Option.bind_some _ _).symm.trans H; with_reducible exact H2_) | with_reducible exact H | (rw [hy224]; exact H) | exact H
                                                 have Ny224 := Aside0.mk hy224
                                                 clear hy224
                                                 have H' := Aside0.mk H
                                                 clear H
                                                 have p211 : 0 ≤ (x102_4 : Int) := of_decide_eq_true (by first | (with_reducible assumption) | assumption)
                                                 have q211 : x102_4 < (x8_5.length : Int) := of_decide_eq_true (by first | (with_reducible assumption) | assumption)
                                                 obtain ⟨ad211, A211_0, c211_0, e211, hx211_0, hl211_0, hi211_0⟩ := at_L2 (Kd.S_reads' HO_8.out).2.2 x102_4 p211 q211
                                                 obtain rfl : ad209 = ad211 := (by injection e211)
                                                 obtain ⟨ce211, hce211, hMe211, hcc211⟩ := Kd.S_get HO_8.out [] x102_4 p211 (by first | exact q211 | exact of_decide_eq_true (by first | (with_reducible assumption) | assumption) | (have e_ := (Kd.S_reads' HO_8.out).1; omega))
                                                 obtain ⟨ve211_0, rfl, ge211_0⟩ := hMe211
                                                 have hv211_0 := hcc211 0 _ rfl
                                                 rw [Nat.add_zero, show ((Kd.slice 3 (Kd.int .i64))).sz = 1 from rfl, Nat.mul_one] at hv211_0
                                                 replace hv211_0 := Option.some.inj (hv211_0.symm.trans hx211_0)
                                                 rw [hv211_0] at ge211_0
                                                 have HL211_0 := Aside0.mk (show Kd.R (Kd.int .i64) 3 _ _ _ _ (rd_L2 x8_5 x102_4) from ge211_0)
                                                 clear hv211_0 ge211_0
                                                 have HX211_0 := Aside0.mk hx211_0
                                                 clear hcc211 hce211
                                                 have HR211_0 := Aside0.mk hi211_0
                                                 have HC211_0 := Aside0.mk hl211_0
                                                 clear hi211_0 hl211_0
                                                 replace p211 := eq_true p211
                                                 replace q211 := eq_true q211
                                                 have p212 : 0 ≤ (x90_3 : Int) := of_decide_eq_true (by first | (with_reducible assumption) | assumption)
                                                 have q212 : x90_3 < ((rd_L2 x8_5 x102_4).length : Int) := of_decide_eq_true (by first | (with_reducible assumption) | assumption)
                                                 obtain ⟨ad212, e212, hx212_0⟩ := Kd.at_int (by repeat (first | (with_reducible exact HR211_0.out) | (with_reducible refine Kd.C_alloc ?_ _) | (with_reducible refine Kd.C_drewN ?_ _) | (with_reducible refine Kd.C_drew ?_) | exact HR211_0.out)) x90_3 p212 q212
                                                 cases e212
                                                 replace p212 := eq_true p212
                                                 replace q212 := eq_true q212
                                                 have p213 : 0 ≤ (x90_3 : Int) := of_decide_eq_true (by first | (with_reducible assumption) | assumption)
                                                 have q213 : x90_3 < (x8_5.length : Int) := of_decide_eq_true (by first | (with_reducible assumption) | assumption)
                                                 obtain ⟨ad213, A213_0, c213_0, e213, hx213_0, hl213_0, hi213_0⟩ := at_L2 (Kd.S_reads' HO_8.out).2.2 x90_3 p213 q213
                                                 obtain rfl : ad209 = ad213 := (by injection e213)
                                                 obtain ⟨ce213, hce213, hMe213, hcc213⟩ := Kd.S_get HO_8.out [] x90_3 p213 (by first | exact q213 | exact of_decide_eq_true (by first | (with_reducible assumption) | assumption) | (have e_ := (Kd.S_reads' HO_8.out).1; omega))
                                                 obtain ⟨ve213_0, rfl, ge213_0⟩ := hMe213
                                                 have hv213_0 := hcc213 0 _ rfl
                                                 rw [Nat.add_zero, show ((Kd.slice 3 (Kd.int .i64))).sz = 1 from rfl, Nat.mul_one] at hv213_0
                                                 replace hv213_0 := Option.some.inj (hv213_0.symm.trans hx213_0)
                                                 rw [hv213_0] at ge213_0
                                                 have HL213_0 := Aside0.mk (show Kd.R (Kd.int .i64) 3 _ _ _ _ (rd_L2 x8_5 x90_3) from ge213_0)
                                                 clear hv213_0 ge213_0
                                                 have HX213_0 := Aside0.mk hx213_0
                                                 clear hcc213 hce213
                                                 have HR213_0 := Aside0.mk hi213_0
                                                 have HC213_0 := Aside0.mk hl213_0
                                                 clear hi213_0 hl213_0
                                                 replace p213 := eq_true p213
                                                 replace q213 := eq_true q213
                                                 have p214 : 0 ≤ (x106_5 : Int) := of_decide_eq_true (by first | (with_reducible assumption) | assumption)
                                                 have q214 : x106_5 < ((rd_L2 x8_5 x90_3).length : Int) := of_decide_eq_true (by first | (with_reducible assumption) | assumption)
                                                 obtain ⟨ad214, e214, hx214_0⟩ := Kd.at_int (by repeat (first | (with_reducible exact HR213_0.out) | (with_reducible refine Kd.C_alloc ?_ _) | (with_reducible refine Kd.C_drewN ?_ _) | (with_reducible refine Kd.C_drew ?_) | exact HR213_0.out)) x106_5 p214 q214
                                                 cases e214
                                                 replace p214 := eq_true p214
                                                 replace q214 := eq_true q214
                                                 try go_wp2
                                                 have n0_ := Aside0.mk (Kd.S_drew HO_8.out)
                                                 have n1_ := Aside0.mk (Kd.R_drew HL211_0.out)
                                                 have n2_ := Aside0.mk (Kd.R_drew HL213_0.out)
                                                 have n3_ := Aside0.mk (Kd.C_drew HR211_0.out)
                                                 have n4_ := Aside0.mk (Kd.C_drew HR213_0.out)
                                                 have n5_ := Aside0.mk (below_drew1 HB.out)
                                                 clear HO_8
                                                 clear HL211_0
                                                 clear HL213_0
                                                 clear HR211_0
                                                 clear HR213_0
                                                 clear HB
                                                 have HO_8 := n0_
                                                 have HL211_0 := n1_
                                                 have HL213_0 := n2_
                                                 have HR211_0 := n3_
                                                 have HR213_0 := n4_
                                                 have HB := n5_
                                                 clear n0_ n1_ n2_ n3_ n4_ n5_
                                                 have p215 : 0 ≤ (x102_4 : Int) := of_decide_eq_true (by first | (with_reducible assumption) | assumption)
                                                 have q215 : x102_4 < (x8_5.length : Int) := of_decide_eq_true (by first | (with_reducible assumption) | assumption)
                                                 obtain ⟨ad215, A215_0, c215_0, e215, hx215_0, hl215_0, hi215_0⟩ := at_L2 (Kd.S_reads' HO_8.out).2.2 x102_4 p215 q215
                                                 obtain rfl : ad209 = ad215 := (by injection e215)
                                                 obtain ⟨ce215, hce215, hMe215, hcc215⟩ := Kd.S_get HO_8.out [] x102_4 p215 (by first | exact q215 | exact of_decide_eq_true (by first | (with_reducible assumption) | assumption) | (have e_ := (Kd.S_reads' HO_8.out).1; omega))
                                                 obtain ⟨ve215_0, rfl, ge215_0⟩ := hMe215
                                                 have hv215_0 := hcc215 0 _ rfl
                                                 rw [Nat.add_zero, show ((Kd.slice 3 (Kd.int .i64))).sz = 1 from rfl, Nat.mul_one] at hv215_0
                                                 replace hv215_0 := Option.some.inj (hv215_0.symm.trans hx215_0)
                                                 rw [hv215_0] at ge215_0
                                                 have HL215_0 := Aside0.mk (show Kd.R (Kd.int .i64) 3 _ _ _ _ (rd_L2 x8_5 x102_4) from ge215_0)
                                                 clear hv215_0 ge215_0
                                                 have HX215_0 := Aside0.mk hx215_0
                                                 clear hcc215 hce215
                                                 have HR215_0 := Aside0.mk hi215_0
                                                 have HC215_0 := Aside0.mk hl215_0
                                                 clear hi215_0 hl215_0
                                                 replace p215 := eq_true p215
                                                 replace q215 := eq_true q215
                                                 have p216 : 0 ≤ (x102_4 : Int) := of_decide_eq_true (by first | (with_reducible assumption) | assumption)
                                                 have q216 : x102_4 < (x8_5.length : Int) := of_decide_eq_true (by first | (with_reducible assumption) | assumption)
                                                 obtain ⟨ad216, A216_0, c216_0, e216, hx216_0, hl216_0, hi216_0⟩ := at_L2 (Kd.S_reads' HO_8.out).2.2 x102_4 p216 q216
                                                 obtain rfl : ad209 = ad216 := (by injection e216)
                                                 obtain ⟨ce216, hce216, hMe216, hcc216⟩ := Kd.S_get HO_8.out [] x102_4 p216 (by first | exact q216 | exact of_decide_eq_true (by first | (with_reducible assumption) | assumption) | (have e_ := (Kd.S_reads' HO_8.out).1; omega))
                                                 obtain ⟨ve216_0, rfl, ge216_0⟩ := hMe216
                                                 have hv216_0 := hcc216 0 _ rfl
                                                 rw [Nat.add_zero, show ((Kd.slice 3 (Kd.int .i64))).sz = 1 from rfl, Nat.mul_one] at hv216_0
                                                 replace hv216_0 := Option.some.inj (hv216_0.symm.trans hx216_0)
                                                 rw [hv216_0] at ge216_0
                                                 have HL216_0 := Aside0.mk (show Kd.R (Kd.int .i64) 3 _ _ _ _ (rd_L2 x8_5 x102_4) from ge216_0)
                                                 clear hv216_0 ge216_0
                                                 have HX216_0 := Aside0.mk hx216_0
                                                 clear hcc216 hce216
                                                 have HR216_0 := Aside0.mk hi216_0
                                                 have HC216_0 := Aside0.mk hl216_0
                                                 clear hi216_0 hl216_0
                                                 replace p216 := eq_true p216
                                                 replace q216 := eq_true q216
                                                 have ea_ := Option.some.inj (hx215_0.symm.trans hx216_0)
                                                 injection ea_ with ea_ en_ ec_
                                                 subst ea_
                                                 subst ec_
                                                 clear en_
                                                 have p217 : 0 ≤ (x106_5 : Int) := of_decide_eq_true (by first | (with_reducible assumption) | assumption)
                                                 have q217 : x106_5 < ((rd_L2 x8_5 x102_4).length : Int) := of_decide_eq_true (by first | (with_reducible assumption) | assumption)
                                                 obtain ⟨ad217, e217, hx217_0⟩ := Kd.at_int (by repeat (first | (with_reducible exact HR216_0.out) | (with_reducible refine Kd.C_alloc ?_ _) | (with_reducible refine Kd.C_drewN ?_ _) | (with_reducible refine Kd.C_drew ?_) | exact HR216_0.out)) x106_5 p217 q217
                                                 cases e217
                                                 replace p217 := eq_true p217
                                                 replace q217 := eq_true q217
                                                 have p218 : 0 ≤ (x102_4 : Int) := of_decide_eq_true (by first | (with_reducible assumption) | assumption)
                                                 have q218 : x102_4 < (x8_5.length : Int) := of_decide_eq_true (by first | (with_reducible assumption) | assumption)
                                                 obtain ⟨ad218, A218_0, c218_0, e218, hx218_0, hl218_0, hi218_0⟩ := at_L2 (Kd.S_reads' HO_8.out).2.2 x102_4 p218 q218
                                                 obtain rfl : ad209 = ad218 := (by injection e218)
                                                 obtain ⟨ce218, hce218, hMe218, hcc218⟩ := Kd.S_get HO_8.out [] x102_4 p218 (by first | exact q218 | exact of_decide_eq_true (by first | (with_reducible assumption) | assumption) | (have e_ := (Kd.S_reads' HO_8.out).1; omega))
                                                 obtain ⟨ve218_0, rfl, ge218_0⟩ := hMe218
                                                 have hv218_0 := hcc218 0 _ rfl
                                                 rw [Nat.add_zero, show ((Kd.slice 3 (Kd.int .i64))).sz = 1 from rfl, Nat.mul_one] at hv218_0
                                                 replace hv218_0 := Option.some.inj (hv218_0.symm.trans hx218_0)
                                                 rw [hv218_0] at ge218_0
                                                 have HL218_0 := Aside0.mk (show Kd.R (Kd.int .i64) 3 _ _ _ _ (rd_L2 x8_5 x102_4) from ge218_0)
                                                 clear hv218_0 ge218_0
                                                 have HX218_0 := Aside0.mk hx218_0
                                                 clear hcc218 hce218
                                                 have HR218_0 := Aside0.mk hi218_0
                                                 have HC218_0 := Aside0.mk hl218_0
                                                 clear hi218_0 hl218_0
                                                 replace p218 := eq_true p218
                                                 replace q218 := eq_true q218
                                                 have ea_ := Option.some.inj (hx215_0.symm.trans hx218_0)
                                                 injection ea_ with ea_ en_ ec_
                                                 subst ea_
                                                 subst ec_
                                                 clear en_
                                                 have p219 : 0 ≤ (x90_3 : Int) := of_decide_eq_true (by first | (with_reducible assumption) | assumption)
                                                 have q219 : x90_3 < ((rd_L2 x8_5 x102_4).length : Int) := of_decide_eq_true (by first | (with_reducible assumption) | assumption)
                                                 obtain ⟨ad219, e219, hx219_0⟩ := Kd.at_int (by repeat (first | (with_reducible exact HR218_0.out) | (with_reducible refine Kd.C_alloc ?_ _) | (with_reducible refine Kd.C_drewN ?_ _) | (with_reducible refine Kd.C_drew ?_) | exact HR218_0.out)) x90_3 p219 q219
                                                 cases e219
                                                 replace p219 := eq_true p219
                                                 replace q219 := eq_true q219
                                                 have p220 : 0 ≤ (x90_3 : Int) := of_decide_eq_true (by first | (with_reducible assumption) | assumption)
                                                 have q220 : x90_3 < (x8_5.length : Int) := of_decide_eq_true (by first | (with_reducible assumption) | assumption)
                                                 obtain ⟨ad220, A220_0, c220_0, e220, hx220_0, hl220_0, hi220_0⟩ := at_L2 (Kd.S_reads' HO_8.out).2.2 x90_3 p220 q220
                                                 obtain rfl : ad209 = ad220 := (by injection e220)
                                                 obtain ⟨ce220, hce220, hMe220, hcc220⟩ := Kd.S_get HO_8.out [] x90_3 p220 (by first | exact q220 | exact of_decide_eq_true (by first | (with_reducible assumption) | assumption) | (have e_ := (Kd.S_reads' HO_8.out).1; omega))
                                                 obtain ⟨ve220_0, rfl, ge220_0⟩ := hMe220
                                                 have hv220_0 := hcc220 0 _ rfl
                                                 rw [Nat.add_zero, show ((Kd.slice 3 (Kd.int .i64))).sz = 1 from rfl, Nat.mul_one] at hv220_0
                                                 replace hv220_0 := Option.some.inj (hv220_0.symm.trans hx220_0)
                                                 rw [hv220_0] at ge220_0
                                                 have HL220_0 := Aside0.mk (show Kd.R (Kd.int .i64) 3 _ _ _ _ (rd_L2 x8_5 x90_3) from ge220_0)
                                                 clear hv220_0 ge220_0
                                                 have HX220_0 := Aside0.mk hx220_0
                                                 clear hcc220 hce220
                                                 have HR220_0 := Aside0.mk hi220_0
                                                 have HC220_0 := Aside0.mk hl220_0
                                                 clear hi220_0 hl220_0
                                                 replace p220 := eq_true p220
                                                 replace q220 := eq_true q220
                                                 have p221 : 0 ≤ (x106_5 : Int) := of_decide_eq_true (by first | (with_reducible assumption) | assumption)
                                                 have q221 : x106_5 < ((rd_L2 x8_5 x90_3).length : Int) := of_decide_eq_true (by first | (with_reducible assumption) | assumption)
                                                 obtain ⟨ad221, e221, hx221_0⟩ := Kd.at_int (by repeat (first | (with_reducible exact HR220_0.out) | (with_reducible refine Kd.C_alloc ?_ _) | (with_reducible refine Kd.C_drewN ?_ _) | (with_reducible refine Kd.C_drew ?_) | exact HR220_0.out)) x106_5 p221 q221
                                                 cases e221
                                                 replace p221 := eq_true p221
                                                 replace q221 := eq_true q221
                                                 have p63 : 0 ≤ (x106_5 : Int) := of_decide_eq_true (by first | (with_reducible assumption) | assumption)
                                                 have q63 : (x106_5 : Int) < (((rd_L2 x8_5 x102_4).length : Int) : Int) := of_decide_eq_true (by first | (with_reducible assumption) | assumption)
                                                 obtain ⟨go63, co63, eo63, gb63, gl63, cl63, HG63⟩ := Kd.R_form HL215_0.out (by omega)
                                                 (first | cases eo63 | (injection eo63 with ea_ en_ ec_; (first | subst ea_ | (injection ea_ with ea_; subst ea_)); subst ec_; clear en_))
                                                 have GB63 := Aside0.mk gb63
                                                 have GG63 := Aside0.mk HG63
                                                 clear gb63 gl63 HG63
                                                 (first | simp only [add_plain, Nat.zero_add] at hx217_0 | skip)
                                                 (first | simp only [add_plain, Nat.zero_add] at hx219_0 | skip)
                                                 obtain ⟨hx63_0, hf63_0⟩ := Kd.R_celln 0 HL215_0.out (x106_5 : Int) p63 q63
                                                 replace p63 := eq_true p63
                                                 replace q63 := eq_true q63
                                                 have hq65 : (x102_4 : Int) < (x8_5.length : Int) := (by have h_ : (x102_4 : Int) < ((x8_5.length : Int) : Int) := of_decide_eq_true (by first | (with_reducible assumption) | assumption); first | exact h_ | (have e_ := (Kd.S_reads' HO_8.out).1; omega) | simpa only [List.length_set, List.length_set] using h_)
                                                 obtain ⟨oki65, ce65, hcl65, hM65, hcc65, hok65, hbk65⟩ := Kd.S_borrow HO_8.out [] (x102_4 : Int) (of_decide_eq_true (by first | (with_reducible assumption) | assumption)) hq65
                                                 obtain ⟨ve65_0, rfl, ge65_0⟩ := hM65
                                                 have hv65 := hcc65 0 _ rfl
                                                 rw [Nat.add_zero, show ((Kd.slice 3 (Kd.int .i64))).sz = 1 from rfl, Nat.mul_one] at hv65
                                                 replace hv65 := Option.some.inj (hv65.symm.trans HX215_0.out)
                                                 subst hv65
                                                 clear hcc65 hcl65
                                                 replace ge65_0 := (show Kd.R (Kd.int .i64) 3 _ _ _ _ (rd_L2 x8_5 x102_4) from ge65_0)
                                                 have HP65 := Kd.R_putg ge65_0 (x106_5 : Int) ji62
                                                 rw [← Ny222.out] at HP65
                                                 have HS65 := hbk65 HP65.2 (fun k_ e_ => by injection e_ with e_; subst e_; exact ge65_0.1 _ rfl) (x' := y222) (Kd.M_row HP65.1)
                                                 rw [← Ny224.out] at HS65
                                                 have HQ65 := Aside0.mk HS65
                                                 clear HP65 HS65 hbk65 hok65
                                                 refine start_ (n := 30) (S := fun w' => w'.cell? (ad209.add (x102_4).toNat) = some (.slice (some ⟨go63, 0, none⟩) (rd_L2 x8_5 x102_4).length c215_0) ∧ w'.cell? (ad209.add (x102_4).toNat) = some (.slice (some ⟨go63, 0, none⟩) (rd_L2 x8_5 x102_4).length c215_0) ∧ w'.cell? ⟨go63, (x106_5).toNat, none⟩ = some (.int .i64 (rd (rd_L2 x8_5 x102_4) x106_5)) ∧ w'.cell? (ad209.add (x102_4).toNat) = some (.slice (some ⟨go63, 0, none⟩) (rd_L2 x8_5 x102_4).length c215_0) ∧ w'.cell? ⟨go63, (x90_3).toNat, none⟩ = some (.int .i64 (rd (rd_L2 x8_5 x102_4) x90_3)) ∧ w'.cell? (ad209.add (x90_3).toNat) = some (.slice (some ad221) (rd_L2 x8_5 x90_3).length c220_0) ∧ w'.cell? (ad221.add (x106_5).toNat) = some (.int .i64 (rd (rd_L2 x8_5 x90_3) x106_5))) (ds := [29]) #[false, false, false, false, false, false, false, false, false, false, false, false, false, false, false, false, false, false, false, false, false, false, false, false, false, false, false, false, false, false] (by kernel_rfl) rfl rfl ⟨hx215_0, hx216_0, hx217_0, hx218_0, hx219_0, hx220_0, hx221_0⟩ (fun hHeld => ?_); refine with_tabW jacquardref30_Walks.tab33 jacquardref30_Walks.bits33 (fun HT_ HW_ => ?_)
                                                 generalize wr.drew = w64 at HO_8 HL211_0 HL213_0 HR211_0 HR213_0 HB GG63 HL215_0 HL216_0 HL218_0 HL220_0 HQ65 HR215_0 HR216_0 HR218_0 HR220_0 HX215_0 HX216_0 HX218_0 HX220_0 hf63_0 hx215_0 hx216_0 hx217_0 hx218_0 hx219_0 hx220_0 hx221_0 hx63_0 hHeld ⊢
                                                 refine pure_ (i := 0) (N := some 127) (v := ?_) (a' := ?_) #[true, false, false, false, false, false, false, false, false, false, false, false, false, false, false, false, false, false, false, false, false, false, false, false, false, false, false, false, false, false] rfl rfl (any_of HT_.out (by kernel_rfl)) (fun _ _ _ h => h) (Or.inl ⟨by rfl, ?_⟩) ?_ ?_
                                                 rotate_left
                                                 · intro w'
                                                   go_simp
                                                   with_reducible rfl
                                                 rotate_left
                                                 · simp only [Act.put, List.setIfInBounds_toArray, List.set_cons_zero, List.set_cons_succ, i64_w, i32_w]
                                                   rfl
                                                 refine pure_ (i := 1) (N := some 128) (v := ?_) (a' := ?_) #[true, true, false, false, false, false, false, false, false, false, false, false, false, false, false, false, false, false, false, false, false, false, false, false, false, false, false, false, false, false] rfl rfl (any_of HT_.out (by kernel_rfl)) (fun _ _ _ h => h) (Or.inl ⟨by rfl, ?_⟩) ?_ ?_
                                                 rotate_left
                                                 · intro w'
                                                   go_simp
                                                   with_reducible rfl
                                                 rotate_left
                                                 · simp only [Act.put, List.setIfInBounds_toArray, List.set_cons_zero, List.set_cons_succ, i64_w, i32_w]
                                                   rfl
                                                 refine pure_ (i := 2) (N := some 129) (v := ?_) (a' := ?_) #[true, true, true, false, false, false, false, false, false, false, false, false, false, false, false, false, false, false, false, false, false, false, false, false, false, false, false, false, false, false] rfl rfl (any_of HT_.out (by kernel_rfl)) (fun _ _ _ h => h) (Or.inl ⟨by rfl, ?_⟩) ?_ ?_
                                                 rotate_left
                                                 · intro w'
                                                   go_simp
                                                   with_reducible rfl
                                                 rotate_left
                                                 · simp only [Act.put, List.setIfInBounds_toArray, List.set_cons_zero, List.set_cons_succ, i64_w, i32_w]
                                                   rfl
                                                 refine pure_ (i := 4) (N := some 131) (v := ?_) (a' := ?_) #[true, true, true, false, true, false, false, false, false, false, false, false, false, false, false, false, false, false, false, false, false, false, false, false, false, false, false, false, false, false] rfl rfl (any_of HT_.out (by kernel_rfl)) (fun _ _ _ h => h) (Or.inl ⟨by rfl, ?_⟩) ?_ ?_
                                                 rotate_left
                                                 · intro w'
                                                   go_simp
                                                   with_reducible rfl
                                                 rotate_left
                                                 · simp only [Act.put, List.setIfInBounds_toArray, List.set_cons_zero, List.set_cons_succ, i64_w, i32_w]
                                                   rfl
                                                 refine pure_ (i := 5) (N := some 132) (v := ?_) (a' := ?_) #[true, true, true, false, true, true, false, false, false, false, false, false, false, false, false, false, false, false, false, false, false, false, false, false, false, false, false, false, false, false] rfl rfl (any_of HT_.out (by kernel_rfl)) (fun _ _ _ h => h) (Or.inl ⟨by rfl, ?_⟩) ?_ ?_
                                                 rotate_left
                                                 · intro w'
                                                   go_simp
                                                   with_reducible rfl
                                                 rotate_left
                                                 · simp only [Act.put, List.setIfInBounds_toArray, List.set_cons_zero, List.set_cons_succ, i64_w, i32_w]
                                                   rfl
                                                 refine pure_ (i := 6) (N := some 133) (v := ?_) (a' := ?_) #[true, true, true, false, true, true, true, false, false, false, false, false, false, false, false, false, false, false, false, false, false, false, false, false, false, false, false, false, false, false] rfl rfl (any_of HT_.out (by kernel_rfl)) (fun _ _ _ h => h) (Or.inl ⟨by rfl, ?_⟩) ?_ ?_
                                                 rotate_left
                                                 · intro w'
                                                   go_simp
                                                   with_reducible rfl
                                                 rotate_left
                                                 · simp only [Act.put, List.setIfInBounds_toArray, List.set_cons_zero, List.set_cons_succ, i64_w, i32_w]
                                                   rfl
                                                 refine pure_ (i := 7) (N := some 134) (v := ?_) (a' := ?_) #[true, true, true, false, true, true, true, true, false, false, false, false, false, false, false, false, false, false, false, false, false, false, false, false, false, false, false, false, false, false] rfl rfl (any_of HT_.out (by kernel_rfl)) (fun _ _ _ h => h) (Or.inl ⟨by rfl, ?_⟩) ?_ ?_
                                                 rotate_left
                                                 · intro w'
                                                   go_simp
                                                   with_reducible rfl
                                                 rotate_left
                                                 · simp only [Act.put, List.setIfInBounds_toArray, List.set_cons_zero, List.set_cons_succ, i64_w, i32_w]
                                                   rfl
                                                 refine pure_ (i := 9) (N := some 136) (v := ?_) (a' := ?_) #[true, true, true, false, true, true, true, true, false, true, false, false, false, false, false, false, false, false, false, false, false, false, false, false, false, false, false, false, false, false] rfl rfl (any_of HT_.out (by kernel_rfl)) (fun _ _ _ h => h) (Or.inl ⟨by rfl, ?_⟩) ?_ ?_
                                                 rotate_left
                                                 · intro w'
                                                   go_simp
                                                   with_reducible rfl
                                                 rotate_left
                                                 · simp only [Act.put, List.setIfInBounds_toArray, List.set_cons_zero, List.set_cons_succ, i64_w, i32_w]
                                                   rfl
                                                 refine pure_ (i := 12) (N := some 139) (v := ?_) (a' := ?_) #[true, true, true, false, true, true, true, true, false, true, false, false, true, false, false, false, false, false, false, false, false, false, false, false, false, false, false, false, false, false] rfl rfl (any_of HT_.out (by kernel_rfl)) (fun _ _ _ h => h) (Or.inl ⟨by rfl, ?_⟩) ?_ ?_
                                                 rotate_left
                                                 · intro w'
                                                   go_simp
                                                   with_reducible rfl
                                                 rotate_left
                                                 · simp only [Act.put, List.setIfInBounds_toArray, List.set_cons_zero, List.set_cons_succ, i64_w, i32_w]
                                                   rfl
                                                 refine pure_ (i := 13) (N := some 140) (v := ?_) (a' := ?_) #[true, true, true, false, true, true, true, true, false, true, false, false, true, true, false, false, false, false, false, false, false, false, false, false, false, false, false, false, false, false] rfl rfl (any_of HT_.out (by kernel_rfl)) (fun _ _ _ h => h) (Or.inl ⟨by rfl, ?_⟩) ?_ ?_
                                                 rotate_left
                                                 · intro w'
                                                   go_simp
                                                   with_reducible rfl
                                                 rotate_left
                                                 · simp only [Act.put, List.setIfInBounds_toArray, List.set_cons_zero, List.set_cons_succ, i64_w, i32_w]
                                                   rfl
                                                 refine pure_ (i := 14) (N := some 141) (v := ?_) (a' := ?_) #[true, true, true, false, true, true, true, true, false, true, false, false, true, true, true, false, false, false, false, false, false, false, false, false, false, false, false, false, false, false] rfl rfl (any_of HT_.out (by kernel_rfl)) (fun _ _ _ h => h) (Or.inl ⟨by rfl, ?_⟩) ?_ ?_
                                                 rotate_left
                                                 · intro w'
                                                   go_simp
                                                   with_reducible rfl
                                                 rotate_left
                                                 · simp only [Act.put, List.setIfInBounds_toArray, List.set_cons_zero, List.set_cons_succ, i64_w, i32_w]
                                                   rfl
                                                 refine pure_ (i := 16) (N := some 143) (v := ?_) (a' := ?_) #[true, true, true, false, true, true, true, true, false, true, false, false, true, true, true, false, true, false, false, false, false, false, false, false, false, false, false, false, false, false] rfl rfl (any_of HT_.out (by kernel_rfl)) (fun _ _ _ h => h) (Or.inl ⟨by rfl, ?_⟩) ?_ ?_
                                                 rotate_left
                                                 · intro w'
                                                   go_simp
                                                   with_reducible rfl
                                                 rotate_left
                                                 · simp only [Act.put, List.setIfInBounds_toArray, List.set_cons_zero, List.set_cons_succ, i64_w, i32_w]
                                                   rfl
                                                 refine pure_ (i := 19) (N := some 146) (v := ?_) (a' := ?_) #[true, true, true, false, true, true, true, true, false, true, false, false, true, true, true, false, true, false, false, true, false, false, false, false, false, false, false, false, false, false] rfl rfl (any_of HT_.out (by kernel_rfl)) (fun _ _ _ h => h) (Or.inl ⟨by rfl, ?_⟩) ?_ ?_
                                                 rotate_left
                                                 · intro w'
                                                   go_simp
                                                   with_reducible rfl
                                                 rotate_left
                                                 · simp only [Act.put, List.setIfInBounds_toArray, List.set_cons_zero, List.set_cons_succ, i64_w, i32_w]
                                                   rfl
                                                 refine pure_ (i := 20) (N := some 147) (v := ?_) (a' := ?_) #[true, true, true, false, true, true, true, true, false, true, false, false, true, true, true, false, true, false, false, true, true, false, false, false, false, false, false, false, false, false] rfl rfl (any_of HT_.out (by kernel_rfl)) (fun _ _ _ h => h) (Or.inl ⟨by rfl, ?_⟩) ?_ ?_
                                                 rotate_left
                                                 · intro w'
                                                   go_simp
                                                   with_reducible rfl
                                                 rotate_left
                                                 · simp only [Act.put, List.setIfInBounds_toArray, List.set_cons_zero, List.set_cons_succ, i64_w, i32_w]
                                                   rfl
                                                 refine pure_ (i := 21) (N := some 148) (v := ?_) (a' := ?_) #[true, true, true, false, true, true, true, true, false, true, false, false, true, true, true, false, true, false, false, true, true, true, false, false, false, false, false, false, false, false] rfl rfl (any_of HT_.out (by kernel_rfl)) (fun _ _ _ h => h) (Or.inl ⟨by rfl, ?_⟩) ?_ ?_
                                                 rotate_left
                                                 · intro w'
                                                   go_simp
                                                   with_reducible rfl
                                                 rotate_left
                                                 · simp only [Act.put, List.setIfInBounds_toArray, List.set_cons_zero, List.set_cons_succ, i64_w, i32_w]
                                                   rfl
                                                 refine pure_ (i := 23) (N := some 150) (v := ?_) (a' := ?_) #[true, true, true, false, true, true, true, true, false, true, false, false, true, true, true, false, true, false, false, true, true, true, false, true, false, false, false, false, false, false] rfl rfl (any_of HT_.out (by kernel_rfl)) (fun _ _ _ h => h) (Or.inl ⟨by rfl, ?_⟩) ?_ ?_
                                                 rotate_left
                                                 · intro w'
                                                   go_simp
                                                   with_reducible rfl
                                                 rotate_left
                                                 · simp only [Act.put, List.setIfInBounds_toArray, List.set_cons_zero, List.set_cons_succ, i64_w, i32_w]
                                                   rfl
                                                 refine take_ (i := 3) (N := some 130) (v := ?_) (a' := ?_) #[true, true, true, true, true, true, true, true, false, true, false, false, true, true, true, false, true, false, false, true, true, true, false, true, false, false, false, false, false, false] rfl rfl (take_ofW HT_.out HW_.out (by kernel_rfl)) (fun _ _ _ h => h) (Or.inl ⟨by rfl, ?_⟩) hHeld ?_ ?_
                                                 rotate_left
                                                 · rintro w' ⟨s0, s1, s2, s3, s4, s5, s6⟩
                                                   go_simp
                                                   with_reducible rfl
                                                 rotate_left
                                                 · simp only [Act.put, List.setIfInBounds_toArray, List.set_cons_zero, List.set_cons_succ, i64_w, i32_w]
                                                   rfl
                                                 refine take_ (i := 8) (N := some 135) (v := ?_) (a' := ?_) #[true, true, true, true, true, true, true, true, true, true, false, false, true, true, true, false, true, false, false, true, true, true, false, true, false, false, false, false, false, false] rfl rfl (take_ofW HT_.out HW_.out (by kernel_rfl)) (fun _ _ _ h => h) (Or.inl ⟨by rfl, ?_⟩) hHeld ?_ ?_
                                                 rotate_left
                                                 · rintro w' ⟨s0, s1, s2, s3, s4, s5, s6⟩
                                                   go_simp
                                                   with_reducible rfl
                                                 rotate_left
                                                 · simp only [Act.put, List.setIfInBounds_toArray, List.set_cons_zero, List.set_cons_succ, i64_w, i32_w]
                                                   rfl
                                                 refine pure_ (i := 10) (N := some 137) (v := ?_) (a' := ?_) #[true, true, true, true, true, true, true, true, true, true, true, false, true, true, true, false, true, false, false, true, true, true, false, true, false, false, false, false, false, false] rfl rfl (any_of HT_.out (by kernel_rfl)) (fun _ _ _ h => h) (Or.inl ⟨by rfl, ?_⟩) ?_ ?_
                                                 rotate_left
                                                 · intro w'
                                                   go_simp
                                                   with_reducible rfl
                                                 rotate_left
                                                 · simp only [Act.put, List.setIfInBounds_toArray, List.set_cons_zero, List.set_cons_succ, i64_w, i32_w]
                                                   rfl
                                                 refine take_ (i := 11) (N := some 138) (v := ?_) (a' := ?_) #[true, true, true, true, true, true, true, true, true, true, true, true, true, true, true, false, true, false, false, true, true, true, false, true, false, false, false, false, false, false] rfl rfl (take_ofW HT_.out HW_.out (by kernel_rfl)) (fun _ _ _ h => h) (Or.inl ⟨by rfl, ?_⟩) hHeld ?_ ?_
                                                 rotate_left
                                                 · rintro w' ⟨s0, s1, s2, s3, s4, s5, s6⟩
                                                   go_simp
                                                   with_reducible rfl
                                                 rotate_left
                                                 · simp only [Act.put, List.setIfInBounds_toArray, List.set_cons_zero, List.set_cons_succ, i64_w, i32_w]
                                                   rfl
                                                 refine take_ (i := 15) (N := some 142) (v := ?_) (a' := ?_) #[true, true, true, true, true, true, true, true, true, true, true, true, true, true, true, true, true, false, false, true, true, true, false, true, false, false, false, false, false, false] rfl rfl (take_ofW HT_.out HW_.out (by kernel_rfl)) (fun _ _ _ h => h) (Or.inl ⟨by rfl, ?_⟩) hHeld ?_ ?_
                                                 rotate_left
                                                 · rintro w' ⟨s0, s1, s2, s3, s4, s5, s6⟩
                                                   go_simp
                                                   with_reducible rfl
                                                 rotate_left
                                                 · simp only [Act.put, List.setIfInBounds_toArray, List.set_cons_zero, List.set_cons_succ, i64_w, i32_w]
                                                   rfl
                                                 refine pure_ (i := 17) (N := some 144) (v := ?_) (a' := ?_) #[true, true, true, true, true, true, true, true, true, true, true, true, true, true, true, true, true, true, false, true, true, true, false, true, false, false, false, false, false, false] rfl rfl (any_of HT_.out (by kernel_rfl)) (fun _ _ _ h => h) (Or.inl ⟨by rfl, ?_⟩) ?_ ?_
                                                 rotate_left
                                                 · intro w'
                                                   go_simp
                                                   with_reducible rfl
                                                 rotate_left
                                                 · simp only [Act.put, List.setIfInBounds_toArray, List.set_cons_zero, List.set_cons_succ, i64_w, i32_w]
                                                   rfl
                                                 refine take_ (i := 18) (N := some 145) (v := ?_) (a' := ?_) #[true, true, true, true, true, true, true, true, true, true, true, true, true, true, true, true, true, true, true, true, true, true, false, true, false, false, false, false, false, false] rfl rfl (take_ofW HT_.out HW_.out (by kernel_rfl)) (fun _ _ _ h => h) (Or.inl ⟨by rfl, ?_⟩) hHeld ?_ ?_
                                                 rotate_left
                                                 · rintro w' ⟨s0, s1, s2, s3, s4, s5, s6⟩
                                                   go_simp
                                                   with_reducible rfl
                                                 rotate_left
                                                 · simp only [Act.put, List.setIfInBounds_toArray, List.set_cons_zero, List.set_cons_succ, i64_w, i32_w]
                                                   rfl
                                                 refine take_ (i := 22) (N := some 149) (v := ?_) (a' := ?_) #[true, true, true, true, true, true, true, true, true, true, true, true, true, true, true, true, true, true, true, true, true, true, true, true, false, false, false, false, false, false] rfl rfl (take_ofW HT_.out HW_.out (by kernel_rfl)) (fun _ _ _ h => h) (Or.inl ⟨by rfl, ?_⟩) hHeld ?_ ?_
                                                 rotate_left
                                                 · rintro w' ⟨s0, s1, s2, s3, s4, s5, s6⟩
                                                   go_simp
                                                   with_reducible rfl
                                                 rotate_left
                                                 · simp only [Act.put, List.setIfInBounds_toArray, List.set_cons_zero, List.set_cons_succ, i64_w, i32_w]
                                                   rfl
                                                 refine pure_ (i := 24) (N := some 151) (v := ?_) (a' := ?_) #[true, true, true, true, true, true, true, true, true, true, true, true, true, true, true, true, true, true, true, true, true, true, true, true, true, false, false, false, false, false] rfl rfl (any_of HT_.out (by kernel_rfl)) (fun _ _ _ h => h) (Or.inl ⟨by rfl, ?_⟩) ?_ ?_
                                                 rotate_left
                                                 · intro w'
                                                   go_simp
                                                   with_reducible rfl
                                                 rotate_left
                                                 · simp only [Act.put, List.setIfInBounds_toArray, List.set_cons_zero, List.set_cons_succ, i64_w, i32_w]
                                                   rfl
                                                 refine take_ (i := 25) (N := some 152) (v := ?_) (a' := ?_) #[true, true, true, true, true, true, true, true, true, true, true, true, true, true, true, true, true, true, true, true, true, true, true, true, true, true, false, false, false, false] rfl rfl (take_ofW HT_.out HW_.out (by kernel_rfl)) (fun _ _ _ h => h) (Or.inl ⟨by rfl, ?_⟩) hHeld ?_ ?_
                                                 rotate_left
                                                 · rintro w' ⟨s0, s1, s2, s3, s4, s5, s6⟩
                                                   go_simp
                                                   with_reducible rfl
                                                 rotate_left
                                                 · simp only [Act.put, List.setIfInBounds_toArray, List.set_cons_zero, List.set_cons_succ, i64_w, i32_w]
                                                   rfl
                                                 refine pure_ (i := 26) (N := some 153) (v := ?_) (a' := ?_) #[true, true, true, true, true, true, true, true, true, true, true, true, true, true, true, true, true, true, true, true, true, true, true, true, true, true, true, false, false, false] rfl rfl (any_of HT_.out (by kernel_rfl)) (fun _ _ _ h => h) (Or.inl ⟨by rfl, ?_⟩) ?_ ?_
                                                 rotate_left
                                                 · intro w'
                                                   go_simp
                                                   with_reducible rfl
                                                 rotate_left
                                                 · simp only [Act.put, List.setIfInBounds_toArray, List.set_cons_zero, List.set_cons_succ, i64_w, i32_w]
                                                   rfl
                                                 refine pure_ (i := 27) (N := some 154) (v := ?_) (a' := ?_) #[true, true, true, true, true, true, true, true, true, true, true, true, true, true, true, true, true, true, true, true, true, true, true, true, true, true, true, true, false, false] rfl rfl (any_of HT_.out (by kernel_rfl)) (fun _ _ _ h => h) (Or.inl ⟨by rfl, ?_⟩) ?_ ?_
                                                 rotate_left
                                                 · intro w'
                                                   go_simp
                                                   with_reducible rfl
                                                 rotate_left
                                                 · simp only [Act.put, List.setIfInBounds_toArray, List.set_cons_zero, List.set_cons_succ, i64_w, i32_w]
                                                   rfl
                                                 refine pure_ (i := 28) (N := some 155) (v := ?_) (a' := ?_) #[true, true, true, true, true, true, true, true, true, true, true, true, true, true, true, true, true, true, true, true, true, true, true, true, true, true, true, true, true, false] rfl rfl (any_of HT_.out (by kernel_rfl)) (fun _ _ _ h => h) (Or.inl ⟨by rfl, ?_⟩) ?_ ?_
                                                 rotate_left
                                                 · intro w'
                                                   go_simp
                                                   with_reducible rfl
                                                 rotate_left
                                                 · simp only [Act.put, List.setIfInBounds_toArray, List.set_cons_zero, List.set_cons_succ, i64_w, i32_w]
                                                   rfl
                                                 refine last_ (i := 29) (N := none) #[true, true, true, true, true, true, true, true, true, true, true, true, true, true, true, true, true, true, true, true, true, true, true, true, true, true, true, true, true, true] rfl rfl (one_of HT_.out (by kernel_rfl)) (by decide) (fun K hK => ?_)
                                                 refine skip_ (w1 := ?_) (by rfl) rfl ?_ ?_
                                                 rotate_left
                                                 · go_simp
                                                   rfl
                                                 refine hK.out _ _ ?_
                                                 clear hK K
                                                 refine done_ (done_of HT_.out (by kernel_rfl)) ?_
                                                 try go_wp2
                                                 (try simp only [← hl8_5])
                                                 go_roundg k5
                                                 case measure => have := HK1.out; have := HK2.out; have := HK3.out; have := HK4.out; have := HK5.out; omega
                                                 case rel => exact ⟨(y224), (wrap64 (x106_5 + 1)), (by first | rfl | (simp; done) | (simp [*]; done)), H', ⟨by have := HK1.out; have := HK2.out; have := HK3.out; have := HK4.out; have := HK5.out; omega⟩, ⟨by (try simp only [hl8_4]); (try simp only [hl8_5]); (with_reducible repeat (first | apply Kd.S_alloc | apply Kd.S_drewN | apply Kd.S_drew)); exact HQ65.out⟩, ⟨by repeat (first | (with_reducible first | exact HB.out | apply below_alloc | apply pw_below_drewN | apply below_drew1 | refine below_set ?_ GB63.out) | exact HB.out)⟩⟩
                                               · rw [if_neg c61] at H
                                                 exact absurd H (by simp)
                                             · rw [if_neg c60] at H
                                               have c60b0 : decide ((-1152921504606846976) < (rd (rd_L2 x8_5 x90_3) x106_5)) = false := decide_eq_false c60
                                               clear c60
                                               have H' := Aside0.mk H
                                               clear H
                                               have p211 : 0 ≤ (x102_4 : Int) := of_decide_eq_true (by first | (with_reducible assumption) | assumption)
                                               have q211 : x102_4 < (x8_5.length : Int) := of_decide_eq_true (by first | (with_reducible assumption) | assumption)
                                               obtain ⟨ad211, A211_0, c211_0, e211, hx211_0, hl211_0, hi211_0⟩ := at_L2 (Kd.S_reads' HO_8.out).2.2 x102_4 p211 q211
                                               obtain rfl : ad209 = ad211 := (by injection e211)
                                               obtain ⟨ce211, hce211, hMe211, hcc211⟩ := Kd.S_get HO_8.out [] x102_4 p211 (by first | exact q211 | exact of_decide_eq_true (by first | (with_reducible assumption) | assumption) | (have e_ := (Kd.S_reads' HO_8.out).1; omega))
                                               obtain ⟨ve211_0, rfl, ge211_0⟩ := hMe211
                                               have hv211_0 := hcc211 0 _ rfl
                                               rw [Nat.add_zero, show ((Kd.slice 3 (Kd.int .i64))).sz = 1 from rfl, Nat.mul_one] at hv211_0
                                               replace hv211_0 := Option.some.inj (hv211_0.symm.trans hx211_0)
                                               rw [hv211_0] at ge211_0
                                               have HL211_0 := Aside0.mk (show Kd.R (Kd.int .i64) 3 _ _ _ _ (rd_L2 x8_5 x102_4) from ge211_0)
                                               clear hv211_0 ge211_0
                                               have HX211_0 := Aside0.mk hx211_0
                                               clear hcc211 hce211
                                               have HR211_0 := Aside0.mk hi211_0
                                               have HC211_0 := Aside0.mk hl211_0
                                               clear hi211_0 hl211_0
                                               replace p211 := eq_true p211
                                               replace q211 := eq_true q211
                                               have p212 : 0 ≤ (x90_3 : Int) := of_decide_eq_true (by first | (with_reducible assumption) | assumption)
                                               have q212 : x90_3 < ((rd_L2 x8_5 x102_4).length : Int) := of_decide_eq_true (by first | (with_reducible assumption) | assumption)
                                               obtain ⟨ad212, e212, hx212_0⟩ := Kd.at_int (by repeat (first | (with_reducible exact HR211_0.out) | (with_reducible refine Kd.C_alloc ?_ _) | (with_reducible refine Kd.C_drewN ?_ _) | (with_reducible refine Kd.C_drew ?_) | exact HR211_0.out)) x90_3 p212 q212
                                               cases e212
                                               replace p212 := eq_true p212
                                               replace q212 := eq_true q212
                                               have p213 : 0 ≤ (x90_3 : Int) := of_decide_eq_true (by first | (with_reducible assumption) | assumption)
                                               have q213 : x90_3 < (x8_5.length : Int) := of_decide_eq_true (by first | (with_reducible assumption) | assumption)
                                               obtain ⟨ad213, A213_0, c213_0, e213, hx213_0, hl213_0, hi213_0⟩ := at_L2 (Kd.S_reads' HO_8.out).2.2 x90_3 p213 q213
                                               obtain rfl : ad209 = ad213 := (by injection e213)
                                               obtain ⟨ce213, hce213, hMe213, hcc213⟩ := Kd.S_get HO_8.out [] x90_3 p213 (by first | exact q213 | exact of_decide_eq_true (by first | (with_reducible assumption) | assumption) | (have e_ := (Kd.S_reads' HO_8.out).1; omega))
                                               obtain ⟨ve213_0, rfl, ge213_0⟩ := hMe213
                                               have hv213_0 := hcc213 0 _ rfl
                                               rw [Nat.add_zero, show ((Kd.slice 3 (Kd.int .i64))).sz = 1 from rfl, Nat.mul_one] at hv213_0
                                               replace hv213_0 := Option.some.inj (hv213_0.symm.trans hx213_0)
                                               rw [hv213_0] at ge213_0
                                               have HL213_0 := Aside0.mk (show Kd.R (Kd.int .i64) 3 _ _ _ _ (rd_L2 x8_5 x90_3) from ge213_0)
                                               clear hv213_0 ge213_0
                                               have HX213_0 := Aside0.mk hx213_0
                                               clear hcc213 hce213
                                               have HR213_0 := Aside0.mk hi213_0
                                               have HC213_0 := Aside0.mk hl213_0
                                               clear hi213_0 hl213_0
                                               replace p213 := eq_true p213
                                               replace q213 := eq_true q213
                                               have p214 : 0 ≤ (x106_5 : Int) := of_decide_eq_true (by first | (with_reducible assumption) | assumption)
                                               have q214 : x106_5 < ((rd_L2 x8_5 x90_3).length : Int) := of_decide_eq_true (by first | (with_reducible assumption) | assumption)
                                               obtain ⟨ad214, e214, hx214_0⟩ := Kd.at_int (by repeat (first | (with_reducible exact HR213_0.out) | (with_reducible refine Kd.C_alloc ?_ _) | (with_reducible refine Kd.C_drewN ?_ _) | (with_reducible refine Kd.C_drew ?_) | exact HR213_0.out)) x106_5 p214 q214
                                               cases e214
                                               replace p214 := eq_true p214
                                               replace q214 := eq_true q214
                                               go_wp2
                                               (try simp only [← hl8_5])
                                               go_roundg k5
                                               case measure => have := HK1.out; have := HK2.out; have := HK3.out; have := HK4.out; have := HK5.out; omega
                                               case rel => exact ⟨(x8_5), (wrap64 (x106_5 + 1)), (by first | rfl | (simp; done) | (simp [*]; done)), H', ⟨by have := HK1.out; have := HK2.out; have := HK3.out; have := HK4.out; have := HK5.out; omega⟩, ⟨by (try simp only [hl8_4]); (try simp only [hl8_5]); (with_reducible repeat (first | apply Kd.S_alloc | apply Kd.S_drewN | apply Kd.S_drew)); exact HO_8.out⟩, ⟨by repeat (first | (with_reducible first | exact HB.out | apply below_alloc | apply pw_below_drewN | apply below_drew1) | exact HB.out)⟩⟩
                                           · rw [if_neg c59] at H
                                             exact absurd H (by simp)
                                         · rw [if_neg c58] at H
                                           exact absurd H (by simp)
                                       · rw [if_neg c57] at H
                                         exact absurd H (by simp)
                                     · rw [if_neg c56] at H
                                       have c56b0 : decide ((-1152921504606846976) < (rd (rd_L2 x8_5 x102_4) x90_3)) = false := decide_eq_false c56
                                       clear c56
                                       have H' := Aside0.mk H
                                       clear H
                                       have p211 : 0 ≤ (x102_4 : Int) := of_decide_eq_true (by first | (with_reducible assumption) | assumption)
                                       have q211 : x102_4 < (x8_5.length : Int) := of_decide_eq_true (by first | (with_reducible assumption) | assumption)
                                       obtain ⟨ad211, A211_0, c211_0, e211, hx211_0, hl211_0, hi211_0⟩ := at_L2 (Kd.S_reads' HO_8.out).2.2 x102_4 p211 q211
                                       obtain rfl : ad209 = ad211 := (by injection e211)
                                       obtain ⟨ce211, hce211, hMe211, hcc211⟩ := Kd.S_get HO_8.out [] x102_4 p211 (by first | exact q211 | exact of_decide_eq_true (by first | (with_reducible assumption) | assumption) | (have e_ := (Kd.S_reads' HO_8.out).1; omega))
                                       obtain ⟨ve211_0, rfl, ge211_0⟩ := hMe211
                                       have hv211_0 := hcc211 0 _ rfl
                                       rw [Nat.add_zero, show ((Kd.slice 3 (Kd.int .i64))).sz = 1 from rfl, Nat.mul_one] at hv211_0
                                       replace hv211_0 := Option.some.inj (hv211_0.symm.trans hx211_0)
                                       rw [hv211_0] at ge211_0
                                       have HL211_0 := Aside0.mk (show Kd.R (Kd.int .i64) 3 _ _ _ _ (rd_L2 x8_5 x102_4) from ge211_0)
                                       clear hv211_0 ge211_0
                                       have HX211_0 := Aside0.mk hx211_0
                                       clear hcc211 hce211
                                       have HR211_0 := Aside0.mk hi211_0
                                       have HC211_0 := Aside0.mk hl211_0
                                       clear hi211_0 hl211_0
                                       replace p211 := eq_true p211
                                       replace q211 := eq_true q211
                                       have p212 : 0 ≤ (x90_3 : Int) := of_decide_eq_true (by first | (with_reducible assumption) | assumption)
                                       have q212 : x90_3 < ((rd_L2 x8_5 x102_4).length : Int) := of_decide_eq_true (by first | (with_reducible assumption) | assumption)
                                       obtain ⟨ad212, e212, hx212_0⟩ := Kd.at_int (by repeat (first | (with_reducible exact HR211_0.out) | (with_reducible refine Kd.C_alloc ?_ _) | (with_reducible refine Kd.C_drewN ?_ _) | (with_reducible refine Kd.C_drew ?_) | exact HR211_0.out)) x90_3 p212 q212
                                       cases e212
                                       replace p212 := eq_true p212
                                       replace q212 := eq_true q212
                                       go_wp2
                                       (try simp only [← hl8_5])
                                       go_roundg k5
                                       case measure => have := HK1.out; have := HK2.out; have := HK3.out; have := HK4.out; have := HK5.out; omega
                                       case rel => exact ⟨(x8_5), (wrap64 (x106_5 + 1)), (by first | rfl | (simp; done) | (simp [*]; done)), H', ⟨by have := HK1.out; have := HK2.out; have := HK3.out; have := HK4.out; have := HK5.out; omega⟩, ⟨by (try simp only [hl8_4]); (try simp only [hl8_5]); (with_reducible repeat (first | apply Kd.S_alloc | apply Kd.S_drewN | apply Kd.S_drew)); exact HO_8.out⟩, ⟨by repeat (first | (with_reducible first | exact HB.out | apply below_alloc | apply pw_below_drewN | apply below_drew1) | exact HB.out)⟩⟩
                                   · rw [if_neg c55] at H
                                     exact absurd H (by simp)
                                 · rw [if_neg c54] at H
                                   exact absurd H (by simp)
                               · rw [if_neg c53] at H
                                 exact absurd H (by simp)
                             · rw [if_neg c52] at H
                               exact absurd H (by simp)
                           · rw [if_neg c51] at H
                             have c51b0 : decide (x106_5 < t186) = false := decide_eq_false c51
                             clear c51
                             have H' := Aside0.mk H
                             clear H
                             go_wp2
                             (try simp only [← hl8_4, ← hl8_5])
                             go_roundg k5
                             case measure => have := HK1.out; have := HK2.out; have := HK3.out; have := HK4.out; have := HK5.out; omega
                             case rel => exact ⟨(x8_5), (wrap64 (x102_4 + 1)), (by first | rfl | (simp; done) | (simp [*]; done)), H', ⟨by have := HK1.out; have := HK2.out; have := HK3.out; have := HK4.out; have := HK5.out; omega⟩, ⟨by (try simp only [hl8_4]); (try simp only [hl8_5]); (with_reducible repeat (first | apply Kd.S_alloc | apply Kd.S_drewN | apply Kd.S_drew)); exact HO_8.out⟩, ⟨by repeat (first | (with_reducible first | exact HB.out | apply below_alloc | apply pw_below_drewN | apply below_drew1) | exact HB.out)⟩⟩
                       · rw [if_neg c50] at H
                         have c50b0 : decide (x102_4 < t186) = false := decide_eq_false c50
                         clear c50
                         have H' := Aside0.mk H
                         clear H
                         go_wp2
                         go_loopg [159] k4 (fun kq v159 w' => ∃ (x159_5 : Int), v159 = .int .i64 x159_5 ∧ Aside0 (jacquardref30_Walks.l6 kq t186 x8_4 t186 x90_3 t186 x159_5 = some (r1, r2)) ∧ Aside0 (kq ≤ k4) ∧ Aside0 (Kd.S (Kd.slice 3 (Kd.int .i64)) 29 w' w.heap.size (fun _ => True) (.slice (some ad209) x8_4.length co49) x8_4) ∧ Aside0 (Below w.heap.size w w'))
                         case atStart => exact ⟨(0), (by first | rfl | (simp; done) | (simp [*]; done)), H', ⟨Nat.le_refl _⟩, ⟨by (try simp only [hl8_4]); (with_reducible repeat (first | apply Kd.S_alloc | apply Kd.S_drewN | apply Kd.S_drew)); exact HO_8.out⟩, ⟨by repeat (first | (with_reducible first | exact HB.out | apply below_alloc | apply pw_below_drewN | apply below_drew1) | exact HB.out)⟩⟩
                         case round =>
                          clear H'
                          try clear c2
                          try clear p2
                          try clear q2
                          try clear hx2
                          try clear c5
                          try clear c6
                          try clear p6
                          try clear q6
                          try clear hx6
                          try clear hf6
                          try clear c21
                          try clear p21
                          try clear q21
                          try clear hx21
                          try clear c22
                          try clear p22
                          try clear q22
                          try clear hx22
                          try clear c50
                          try clear c50b0
                          try clear c51
                          try clear c51b0
                          try clear c52
                          try clear c53
                          try clear c54
                          try clear c55
                          try clear c56
                          try clear c56b0
                          try clear c57
                          try clear c58
                          try clear c59
                          try clear c60
                          try clear c60b0
                          try clear c61
                          try clear c61b0
                          try clear p63
                          try clear q63
                          try clear hx63
                          try clear hf63
                          try clear p64
                          try clear c65
                          try clear q65
                          try clear hx211_0
                          try clear hx212_0
                          try clear hx213_0
                          try clear hx214_0
                          try clear hx215_0
                          try clear hx216_0
                          try clear hx217_0
                          try clear hx218_0
                          try clear hx219_0
                          try clear hx220_0
                          try clear hx221_0
                          try clear hx63_0
                          try clear p211
                          try clear p212
                          try clear p213
                          try clear p214
                          try clear p215
                          try clear p216
                          try clear p217
                          try clear p218
                          try clear p219
                          try clear p220
                          try clear p221
                          try clear p63
                          try clear q211
                          try clear q212
                          try clear q213
                          try clear q214
                          try clear q215
                          try clear q216
                          try clear q217
                          try clear q218
                          try clear q219
                          try clear q220
                          try clear q221
                          try clear q63
                          obtain ⟨x159_5, rfl, HA, HK5, HO_8, HB⟩ := hrel
                          cases gk with
                          | zero => exact absurd HA.out (by simp [jacquardref30_Walks.l6])
                          | succ k5 =>
                           have H := HA.out
                           clear HA
                           simp only [jacquardref30_Walks.l6] at H
                           by_cases c67 : x159_5 < t186
                           · rw [if_pos c67] at H
                             have c67b0 : decide (x159_5 < t186) = true := decide_eq_true c67
                             clear c67
                             by_cases c68 : 0 ≤ x159_5
                             · rw [if_pos c68] at H
                               have c68b0 : decide (0 ≤ x159_5) = true := decide_eq_true c68
                               clear c68
                               by_cases c69 : x159_5 < (x8_4.length : Int)
                               · rw [if_pos c69] at H
                                 have c69b0 : decide (x159_5 < (x8_4.length : Int)) = true := decide_eq_true c69
                                 (try (have c69b0z := c69b0; simp only [hl8_4] at c69b0z))
                                 clear c69
                                 by_cases c70 : x159_5 < ((rd_L2 x8_4 x159_5).length : Int)
                                 · rw [if_pos c70] at H
                                   have c70b0 : decide (x159_5 < ((rd_L2 x8_4 x159_5).length : Int)) = true := decide_eq_true c70
                                   (try (have c70b0z := c70b0; simp only [hl8_4] at c70b0z))
                                   clear c70
                                   by_cases c71 : (rd (rd_L2 x8_4 x159_5) x159_5) > 0
                                   · rw [if_pos c71] at H
                                     have c71b0 : decide (0 < (rd (rd_L2 x8_4 x159_5) x159_5)) = true := decide_eq_true c71
                                     clear c71
                                     simp only [Option.some.injEq, Prod.mk.injEq] at H
                                     obtain ⟨rfl, rfl⟩ := H
                                     have p225 : 0 ≤ (x159_5 : Int) := of_decide_eq_true (by first | (with_reducible assumption) | assumption)
                                     have q225 : x159_5 < (x8_4.length : Int) := of_decide_eq_true (by first | (with_reducible assumption) | assumption)
                                     obtain ⟨ad225, A225_0, c225_0, e225, hx225_0, hl225_0, hi225_0⟩ := at_L2 (Kd.S_reads' HO_8.out).2.2 x159_5 p225 q225
                                     obtain rfl : ad209 = ad225 := (by injection e225)
                                     obtain ⟨ce225, hce225, hMe225, hcc225⟩ := Kd.S_get HO_8.out [] x159_5 p225 (by first | exact q225 | exact of_decide_eq_true (by first | (with_reducible assumption) | assumption) | (have e_ := (Kd.S_reads' HO_8.out).1; omega))
                                     obtain ⟨ve225_0, rfl, ge225_0⟩ := hMe225
                                     have hv225_0 := hcc225 0 _ rfl
                                     rw [Nat.add_zero, show ((Kd.slice 3 (Kd.int .i64))).sz = 1 from rfl, Nat.mul_one] at hv225_0
                                     replace hv225_0 := Option.some.inj (hv225_0.symm.trans hx225_0)
                                     rw [hv225_0] at ge225_0
                                     have HL225_0 := Aside0.mk (show Kd.R (Kd.int .i64) 3 _ _ _ _ (rd_L2 x8_4 x159_5) from ge225_0)
                                     clear hv225_0 ge225_0
                                     have HX225_0 := Aside0.mk hx225_0
                                     clear hcc225 hce225
                                     have HR225_0 := Aside0.mk hi225_0
                                     have HC225_0 := Aside0.mk hl225_0
                                     clear hi225_0 hl225_0
                                     replace p225 := eq_true p225
                                     replace q225 := eq_true q225
                                     have p226 : 0 ≤ (x159_5 : Int) := of_decide_eq_true (by first | (with_reducible assumption) | assumption)
                                     have q226 : x159_5 < ((rd_L2 x8_4 x159_5).length : Int) := of_decide_eq_true (by first | (with_reducible assumption) | assumption)
                                     obtain ⟨ad226, e226, hx226_0⟩ := Kd.at_int (by repeat (first | (with_reducible exact HR225_0.out) | (with_reducible refine Kd.C_alloc ?_ _) | (with_reducible refine Kd.C_drewN ?_ _) | (with_reducible refine Kd.C_drew ?_) | exact HR225_0.out)) x159_5 p226 q226
                                     cases e226
                                     replace p226 := eq_true p226
                                     replace q226 := eq_true q226
                                     go_wp2
                                     go_ret2
                                     exact ⟨_, by first | rfl | (simp [errW_none, errW_some] <;> rfl) | (simp [*, errW_none, errW_some] <;> rfl), by first | exact Kd.S_nil _ _ _ _ _ | exact Kd.N_nil _ _ _ _ _ | exact Kd.V_nil _ _ _ _ _ | exact Kd.Q_nil _ _ _ _ _ | exact Kd.R_nil _ _ _ _ _, by repeat (first | (with_reducible first | exact HB.out | apply below_alloc | apply pw_below_drewN | apply below_drew1) | exact HB.out)⟩
                                   · rw [if_neg c71] at H
                                     have c71b0 : decide (0 < (rd (rd_L2 x8_4 x159_5) x159_5)) = false := decide_eq_false c71
                                     clear c71
                                     have H' := Aside0.mk H
                                     clear H
                                     have p225 : 0 ≤ (x159_5 : Int) := of_decide_eq_true (by first | (with_reducible assumption) | assumption)
                                     have q225 : x159_5 < (x8_4.length : Int) := of_decide_eq_true (by first | (with_reducible assumption) | assumption)
                                     obtain ⟨ad225, A225_0, c225_0, e225, hx225_0, hl225_0, hi225_0⟩ := at_L2 (Kd.S_reads' HO_8.out).2.2 x159_5 p225 q225
                                     obtain rfl : ad209 = ad225 := (by injection e225)
                                     obtain ⟨ce225, hce225, hMe225, hcc225⟩ := Kd.S_get HO_8.out [] x159_5 p225 (by first | exact q225 | exact of_decide_eq_true (by first | (with_reducible assumption) | assumption) | (have e_ := (Kd.S_reads' HO_8.out).1; omega))
                                     obtain ⟨ve225_0, rfl, ge225_0⟩ := hMe225
                                     have hv225_0 := hcc225 0 _ rfl
                                     rw [Nat.add_zero, show ((Kd.slice 3 (Kd.int .i64))).sz = 1 from rfl, Nat.mul_one] at hv225_0
                                     replace hv225_0 := Option.some.inj (hv225_0.symm.trans hx225_0)
                                     rw [hv225_0] at ge225_0
                                     have HL225_0 := Aside0.mk (show Kd.R (Kd.int .i64) 3 _ _ _ _ (rd_L2 x8_4 x159_5) from ge225_0)
                                     clear hv225_0 ge225_0
                                     have HX225_0 := Aside0.mk hx225_0
                                     clear hcc225 hce225
                                     have HR225_0 := Aside0.mk hi225_0
                                     have HC225_0 := Aside0.mk hl225_0
                                     clear hi225_0 hl225_0
                                     replace p225 := eq_true p225
                                     replace q225 := eq_true q225
                                     have p226 : 0 ≤ (x159_5 : Int) := of_decide_eq_true (by first | (with_reducible assumption) | assumption)
                                     have q226 : x159_5 < ((rd_L2 x8_4 x159_5).length : Int) := of_decide_eq_true (by first | (with_reducible assumption) | assumption)
                                     obtain ⟨ad226, e226, hx226_0⟩ := Kd.at_int (by repeat (first | (with_reducible exact HR225_0.out) | (with_reducible refine Kd.C_alloc ?_ _) | (with_reducible refine Kd.C_drewN ?_ _) | (with_reducible refine Kd.C_drew ?_) | exact HR225_0.out)) x159_5 p226 q226
                                     cases e226
                                     replace p226 := eq_true p226
                                     replace q226 := eq_true q226
                                     go_wp2
                                     go_roundg k5
                                     case measure => have := HK1.out; have := HK2.out; have := HK3.out; have := HK4.out; have := HK5.out; omega
                                     case rel => exact ⟨(wrap64 (x159_5 + 1)), (by first | rfl | (simp; done) | (simp [*]; done)), H', ⟨by have := HK1.out; have := HK2.out; have := HK3.out; have := HK4.out; have := HK5.out; omega⟩, ⟨by (try simp only [hl8_4]); (with_reducible repeat (first | apply Kd.S_alloc | apply Kd.S_drewN | apply Kd.S_drew)); exact HO_8.out⟩, ⟨by repeat (first | (with_reducible first | exact HB.out | apply below_alloc | apply pw_below_drewN | apply below_drew1) | exact HB.out)⟩⟩
                                 · rw [if_neg c70] at H
                                   exact absurd H (by simp)
                               · rw [if_neg c69] at H
                                 exact absurd H (by simp)
                             · rw [if_neg c68] at H
                               exact absurd H (by simp)
                           · rw [if_neg c67] at H
                             have c67b0 : decide (x159_5 < t186) = false := decide_eq_false c67
                             clear c67
                             have H' := Aside0.mk H
                             clear H
                             go_wp2
                             (try simp only [← hl8_4])
                             go_roundg k5
                             case measure => have := HK1.out; have := HK2.out; have := HK3.out; have := HK4.out; have := HK5.out; omega
                             case rel => exact ⟨(x8_4), (wrap64 (x90_3 + 1)), (by first | rfl | (simp; done) | (simp [*]; done)), H', ⟨by have := HK1.out; have := HK2.out; have := HK3.out; have := HK4.out; have := HK5.out; omega⟩, ⟨by (try simp only [hl8_4]); (with_reducible repeat (first | apply Kd.S_alloc | apply Kd.S_drewN | apply Kd.S_drew)); exact HO_8.out⟩, ⟨by repeat (first | (with_reducible first | exact HB.out | apply below_alloc | apply pw_below_drewN | apply below_drew1) | exact HB.out)⟩⟩
                 · rw [if_neg c46] at H
                   exact absurd H (by simp)
               · rw [if_neg c45] at H
                 exact absurd H (by simp)
             · rw [if_neg c44] at H
               exact absurd H (by simp)
           · rw [if_neg c43] at H
             have c43b0 : decide (x90_3 < t186) = false := decide_eq_false c43
             clear c43
             simp only [Option.some.injEq, Prod.mk.injEq] at H
             obtain ⟨rfl, rfl⟩ := H
             go_wp2
             go_ret2
             exact ⟨_, by first | rfl | (simp [errW_none, errW_some] <;> rfl) | (simp [*, errW_none, errW_some] <;> rfl), by (with_reducible repeat (first | apply Kd.S_alloc | apply Kd.S_drewN | apply Kd.S_drew)); exact HO_8.out, by repeat (first | (with_reducible first | exact HB.out | apply below_alloc | apply pw_below_drewN | apply below_drew1) | exact HB.out)⟩
end Go.Proofs.Ytflefelgdcblgaa.Q
