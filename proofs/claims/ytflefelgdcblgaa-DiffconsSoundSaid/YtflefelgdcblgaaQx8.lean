-- Printed by a program of this session (gprint.py, which runs the kit's print.py): Lean checks it.
import Derived.Test.YtflefelgdcblgaaQx0
import Derived.Test.YtflefelgdcblgaaQx6
import Derived.Test.YtflefelgdcblgaaQx7
namespace Go.Proofs.Ytflefelgdcblgaa.Q
open Go.RowKit Go.Proofs.YtflefelgdcblgaaW.PrintWords Go.Proofs.YtflefelgdcblgaaW.PrintLast Go.Proofs.YtflefelgdcblgaaW.PrintMore
attribute [local go_sem] max2_int min2_int max_two min_two max_three min_three max_four min_four   -- for this text's walks alone
set_option linter.unusedVariables false
set_option linter.unusedSimpArgs false
mutual
def jacquardref30_After.l0 : Nat → List Int → List (List Int) → List Int → Int → Int → Option (List Int × Bool)
 | 0, _, _, _, _, _ => none
 | k + 1, x3, x10, x12, x26, x27 => if x27 < x26 then ((jacquardref30_Bound.f x3 x27).bind fun t231 => (jacquardref30_After.l1 k x3 x10 x12 x27 t231 x26 x27 (x10.length : Int) 0)) else (some (x12, true))
def jacquardref30_After.l1 : Nat → List Int → List (List Int) → List Int → Int → Int → Int → Int → Int → Int → Option (List Int × Bool)
 | 0, _, _, _, _, _, _, _, _, _ => none
 | k + 1, x3, x10, x12, x13, x14, x26, x27, x34, x35 => if x35 < x34 then (if 0 ≤ x35 then (if x35 < (x10.length : Int) then (if 0 ≤ x13 then (if x13 < ((rd_L2 x10 x35).length : Int) then (if (rd (rd_L2 x10 x35) x13) > (-1152921504606846976) then ((jacquardref30_Bound.f x3 x35).bind fun t234 => (jacquardref30_After.l1 k x3 x10 x12 x13 (mx x14 (wrap64 (t234 + (rd (rd_L2 x10 x35) x13)))) x26 x27 x34 (wrap64 (x35 + 1)))) else (jacquardref30_After.l1 k x3 x10 x12 x13 x14 x26 x27 x34 (wrap64 (x35 + 1)))) else (none)) else (none)) else (none)) else (none)) else (if x12.length < 17592186044416 then (jacquardref30_After.l0 k x3 x10 (x12 ++ [x14]) x26 (wrap64 (x27 + 1))) else (none))
end
def jacquardref30_After.f (k : Nat) (a0 : Int) (l1 : List (S28)) (a2 : Int) (l3 : List Int) : Option (List Int × Bool) := (jacquardref30_Walks.f k a0 l1 a2).bind fun bt227 => (if bt227.2 = true then (jacquardref30_After.l0 k l3 bt227.1 ([] : List Int) (bt227.1.length : Int) 0) else (some (([] : List Int), false)))
def jacquardref30_After.T13 : Bool × List (List Nat × List Nat) := (true, [([], []), ([], []), ([], []), ([1, 2], [1, 2]), ([], []), ([], []), ([4, 5], [4, 5]), ([6], [6]), ([], []), ([7, 8], [7, 8]), ([9], [9]), ([3, 10], [3, 10]), ([0, 11], [0, 11]), ([12, 3, 0, 1, 2, 3, 4, 5, 6, 7, 8, 9, 10, 11, 12], [0, 12])])
def jacquardref30_After.B13 : List Nat := [0, 0, 0, 6, 0, 0, 48, 112, 0, 496, 1008, 2046, 4095, 8191]
theorem jacquardref30_After.tab13 : rtab .any (opsOf Try.f14 13) = jacquardref30_After.T13 := by kernel_rfl
theorem jacquardref30_After.bits13 : waitsOk jacquardref30_After.T13.2 jacquardref30_After.B13 = true := by kernel_rfl
set_option maxHeartbeats 8000000 in set_option maxRecDepth 100000 in theorem jacquardref30_After.calls (k : Nat) (a0 : Int) (A1 : Option Addr) (c1 : Nat) (l1 : List (S28)) (a2 : Int) (A3 : Option Addr) (c3 : Nat) (l3 : List Int) (r1 : List Int) (r2 : Bool) (w : World) (hr1 : Kd.C k28 w A1 l1.length l1) (hc1 : l1.length ≤ c1) (hr3 : Kd.C (Kd.int .i64) w A3 l3.length l3) (hc3 : l3.length ≤ c3) (h : jacquardref30_After.f k a0 l1 a2 l3 = some (r1, r2)) :
 Calls Try.prog 14 #[.int .i64 a0, .slice A1 l1.length c1, .int .i64 a2, .slice A3 l3.length c3] w fun e w' => ∃ v0_ : Value, e = .returned (.tuple #[v0_, .bool r2]) ∧ Kd.R (Kd.int .i64) 3 w' w.heap.size (fun _ => True) v0_ r1 ∧ Below w.heap.size w w' := by
 have HR1 := Aside0.mk hr1
 have HC1 := Aside0.mk hc1
 clear hr1 hc1
 have HR3 := Aside0.mk hr3
 have HC3 := Aside0.mk hc3
 clear hr3 hc3
 have HB := Aside0.mk (Below.refl w.heap.size w)
 have H : ((jacquardref30_Walks.f k a0 l1 a2).bind fun bt227 => (if bt227.2 = true then (jacquardref30_After.l0 k l3 bt227.1 ([] : List Int) (bt227.1.length : Int) 0) else (some (([] : List Int), false)))) = some (r1, r2) := h
 clear h
 replace H := Option.bind_eq_some_iff.mp H
 obtain ⟨⟨t227, t228⟩, A50, H⟩ := H
 replace H : (if t228 = true then (jacquardref30_After.l0 k l3 t227 ([] : List Int) (t227.length : Int) 0) else (some (([] : List Int), false))) = some (r1, r2) := H
 have A5 := Aside0.mk A50
 clear A50
 by_cases c6 : t228 = true
 · subst c6
   have H1 : (jacquardref30_After.l0 k l3 t227 ([] : List Int) (t227.length : Int) 0) = some (r1, r2) := by rw [if_pos rfl] at H; exact H
   clear H
   have H := H1
   clear H1
   have H' := Aside0.mk H
   clear H
   go_enter Try.func14, Try.ntmps14
   go_wp2_with (first | ((with_reducible refine gate_callee (f := 28) rfl ?_); refine goesL_ (some 20) rfl rfl Try.func28 (by kernel_rfl) rfl #[.int .i64 a0, .slice A1 l1.length c1, .int .i64 a2] rfl (by (try simp only [List.map_toArray, List.map_cons, List.map_nil]); first | done | rfl | (simp only [List.length_drop, List.length_take]; rfl)) ?_; (with_reducible refine (jacquardref30_Walks.calls k a0 _ _ l1 a2 t227 true _ ?side1 ?side2 A5.out).mono ?_); (case side1 => repeat (first | exact HR1.out | (with_reducible refine Kd.C_alloc ?_ _) | (with_reducible refine Kd.C_drewN ?_ _) | (with_reducible refine Kd.C_drew ?_))); (case side2 => exact HC1.out); rintro e w7 ⟨v229, rfl, ho0, hb⟩; refine ⟨_, rfl, ?_⟩; have n0_ := Aside0.mk (Kd.S_lower ho0 (below_size (by repeat (first | (with_reducible first | exact HB.out | apply below_alloc | apply pw_below_drewN | apply below_drew1) | exact HB.out)))); have n1_ := Aside0.mk (below_step (by repeat (first | (with_reducible first | exact HB.out | apply below_alloc | apply pw_below_drewN | apply below_drew1) | exact HB.out)) hb); clear HB; have HO230 := n0_; have HB := n1_; clear n0_ n1_; (try clear hb); (try clear hb2); (try clear hk); (try clear hi); (try clear ho0); obtain ⟨Ao8, co8, eo8⟩ := Kd.S_slice HO230.out; subst eo8))
   go_loopg [12, 27] k (fun kq v12 v27 w' => ∃ (x12_1 : List Int) (x27_1 : Int), v27 = .int .i64 x27_1 ∧ Aside0 (jacquardref30_After.l0 kq l3 t227 x12_1 (t227.length : Int) x27_1 = some (r1, r2)) ∧ Aside0 (kq ≤ k) ∧ Aside0 (Kd.S (Kd.slice 3 (Kd.int .i64)) 29 w' w.heap.size (fun k_ => some k_ ≠ (v12 : Value).ownBlock) (.slice Ao8 t227.length co8) t227) ∧ Aside0 (Kd.R (Kd.int .i64) 3 w' w.heap.size (fun _ => True) v12 x12_1) ∧ Aside0 (Below w.heap.size w w'))
   case atStart => exact ⟨(([] : List Int)), (0), (by first | rfl | (simp; done) | (simp [*]; done)), H', ⟨Nat.le_refl _⟩, ⟨by (with_reducible repeat (first | apply Kd.S_alloc | apply Kd.S_drewN | apply Kd.S_drew)); exact Kd.S_mono HO230.out (fun _ hk => (by simp [Value.ownBlock]))⟩, ⟨by first | exact Kd.R_nil _ _ _ _ _ | exact Kd.N_nil _ _ _ _ _ | exact Kd.V_nil _ _ _ _ _ | exact Kd.Q_nil _ _ _ _ _ | exact Kd.S_nil _ _ _ _ _⟩, ⟨by repeat (first | (with_reducible first | exact HB.out | apply below_alloc | apply pw_below_drewN | apply below_drew1) | exact HB.out)⟩⟩
   case round =>
    clear H'
    try clear c1
    try clear c2
    try clear p2
    try clear c3
    try clear c6
    obtain ⟨x12_1, x27_1, rfl, HA, HK1, HO_10, HO_12, HB⟩ := hrel
    cases gk with
    | zero => exact absurd HA.out (by simp [jacquardref30_After.l0])
    | succ k1 =>
     have H := HA.out
     clear HA
     simp only [jacquardref30_After.l0] at H
     by_cases c9 : x27_1 < (t227.length : Int)
     · rw [if_pos c9] at H
       have c9b0 : decide (x27_1 < (t227.length : Int)) = true := decide_eq_true c9
       clear c9
       replace H := Option.bind_eq_some_iff.mp H
       obtain ⟨t231, A100, H⟩ := H
       replace H : (jacquardref30_After.l1 k1 l3 t227 x12_1 x27_1 t231 (t227.length : Int) x27_1 (t227.length : Int) 0) = some (r1, r2) := H
       have A10 := Aside0.mk A100
       clear A100
       have H' := Aside0.mk H
       clear H
       go_wp2_with (first | ((with_reducible refine gate_callee (f := 18) rfl ?_); refine goesL_ (some 32) rfl rfl Try.func18 (by kernel_rfl) rfl #[.slice A3 l3.length c3, .int .i64 x27_1] rfl (by (try simp only [List.map_toArray, List.map_cons, List.map_nil]); first | done | rfl | (simp only [List.length_drop, List.length_take]; rfl)) ?_; (with_reducible refine (jacquardref30_Bound.calls _ _ l3 x27_1 t231 _ ?side1 ?side2 A10.out).mono ?_); (case side1 => repeat (first | exact (Kd.C_below HR3.out HB.out) | (with_reducible refine Kd.C_alloc ?_ _) | (with_reducible refine Kd.C_drewN ?_ _) | (with_reducible refine Kd.C_drew ?_))); (case side2 => exact HC3.out); rintro e w11 ⟨rfl, hb⟩; refine ⟨_, rfl, ?_⟩; have n0_ := Aside0.mk (Kd.S_below (by (with_reducible repeat (first | apply Kd.S_alloc | apply Kd.S_drewN | apply Kd.S_drew)); exact HO_10.out) hb); have n1_ := Aside0.mk (Kd.R_below (by (with_reducible repeat (first | apply Kd.R_alloc | apply Kd.R_drewN | apply Kd.R_drew)); exact HO_12.out) hb); have n2_ := Aside0.mk (below_step (by repeat (first | (with_reducible first | exact HB.out | apply below_alloc | apply pw_below_drewN | apply below_drew1) | exact HB.out)) hb); clear HO_10; clear HO_12; clear HB; have HO_10 := n0_; have HO_12 := n1_; have HB := n2_; clear n0_ n1_ n2_; (try clear hb); (try clear hb2); (try clear hk); (try clear hi)))
       go_loopg [14, 35] k1 (fun kq v14 v35 w' => ∃ (x14_2 : Int) (x35_2 : Int), v14 = .int .i64 x14_2 ∧ v35 = .int .i64 x35_2 ∧ Aside0 (jacquardref30_After.l1 kq l3 t227 x12_1 x27_1 x14_2 (t227.length : Int) x27_1 (t227.length : Int) x35_2 = some (r1, r2)) ∧ Aside0 (kq ≤ k1) ∧ Aside0 (Kd.S (Kd.slice 3 (Kd.int .i64)) 29 w' w.heap.size (fun k_ => some k_ ≠ (u12 : Value).ownBlock) (.slice Ao8 t227.length co8) t227) ∧ Aside0 (Kd.R (Kd.int .i64) 3 w' w.heap.size (fun _ => True) u12 x12_1) ∧ Aside0 (Below w.heap.size w w'))
       case atStart => exact ⟨(t231), (0), (by first | rfl | (simp; done) | (simp [*]; done)), (by first | rfl | (simp; done) | (simp [*]; done)), H', ⟨Nat.le_refl _⟩, ⟨by (with_reducible repeat (first | apply Kd.S_alloc | apply Kd.S_drewN | apply Kd.S_drew)); exact HO_10.out⟩, ⟨by (with_reducible repeat (first | apply Kd.R_alloc | apply Kd.R_drewN | apply Kd.R_drew)); exact HO_12.out⟩, ⟨by repeat (first | (with_reducible first | exact HB.out | apply below_alloc | apply pw_below_drewN | apply below_drew1) | exact HB.out)⟩⟩
       case round =>
        clear H'
        try clear c1
        try clear c2
        try clear p2
        try clear c3
        try clear c6
        try clear c9
        try clear c9b0
        try clear p2
        obtain ⟨x14_2, x35_2, rfl, rfl, HA, HK2, HO_10, HO_12, HB⟩ := hrel
        cases gk with
        | zero => exact absurd HA.out (by simp [jacquardref30_After.l1])
        | succ k2 =>
         have H := HA.out
         clear HA
         simp only [jacquardref30_After.l1] at H
         by_cases c12 : x35_2 < (t227.length : Int)
         · rw [if_pos c12] at H
           have c12b0 : decide (x35_2 < (t227.length : Int)) = true := decide_eq_true c12
           clear c12
           by_cases c13 : 0 ≤ x35_2
           · rw [if_pos c13] at H
             have c13b0 : decide (0 ≤ x35_2) = true := decide_eq_true c13
             clear c13
             by_cases c14 : x35_2 < (t227.length : Int)
             · rw [if_pos c14] at H
               have c14b0 : decide (x35_2 < (t227.length : Int)) = true := decide_eq_true c14
               clear c14
               by_cases c15 : 0 ≤ x27_1
               · rw [if_pos c15] at H
                 have c15b0 : decide (0 ≤ x27_1) = true := decide_eq_true c15
                 clear c15
                 by_cases c16 : x27_1 < ((rd_L2 t227 x35_2).length : Int)
                 · rw [if_pos c16] at H
                   have c16b0 : decide (x27_1 < ((rd_L2 t227 x35_2).length : Int)) = true := decide_eq_true c16
                   clear c16
                   by_cases c17 : (rd (rd_L2 t227 x35_2) x27_1) > (-1152921504606846976)
                   · rw [if_pos c17] at H
                     have c17b0 : decide ((-1152921504606846976) < (rd (rd_L2 t227 x35_2) x27_1)) = true := decide_eq_true c17
                     clear c17
                     replace H := Option.bind_eq_some_iff.mp H
                     obtain ⟨t234, A180, H⟩ := H
                     replace H : (jacquardref30_After.l1 k2 l3 t227 x12_1 x27_1 (mx x14_2 (wrap64 (t234 + (rd (rd_L2 t227 x35_2) x27_1)))) (t227.length : Int) x27_1 (t227.length : Int) (wrap64 (x35_2 + 1))) = some (r1, r2) := H
                     have A18 := Aside0.mk A180
                     clear A180
                     obtain ⟨ji19, hji19⟩ : ∃ j_ : Int, (mx x14_2 (wrap64 (t234 + (rd (rd_L2 t227 x35_2) x27_1)))) = j_ := ⟨_, rfl⟩
                     replace H : (jacquardref30_After.l1 k2 l3 t227 x12_1 x27_1 ji19 (t227.length : Int) x27_1 (t227.length : Int) (wrap64 (x35_2 + 1))) = some (r1, r2) := by first | (rw [hji19] at H; exact H) | (simp only [hji19] at H ⊢; exact H)
                     (try rw [hji19] at A18)
                     have hji19_ : (if x14_2 < (wrap64 (t234 + (rd (rd_L2 t227 x35_2) x27_1))) then (wrap64 (t234 + (rd (rd_L2 t227 x35_2) x27_1))) else x14_2) = ji19 := hji19
                     have H' := Aside0.mk H
                     clear H
                     have p232 : 0 ≤ (x35_2 : Int) := of_decide_eq_true (by first | (with_reducible assumption) | assumption)
                     have q232 : x35_2 < (t227.length : Int) := of_decide_eq_true (by first | (with_reducible assumption) | assumption)
                     obtain ⟨ad232, A232_0, c232_0, e232, hx232_0, hl232_0, hi232_0⟩ := at_L2 (Kd.S_reads' HO_10.out).2.2 x35_2 p232 q232
                     cases e232
                     obtain ⟨ce232, hce232, hMe232, hcc232⟩ := Kd.S_get HO_10.out [] x35_2 p232 (by first | exact q232 | exact of_decide_eq_true (by first | (with_reducible assumption) | assumption) | (have e_ := (Kd.S_reads' HO_10.out).1; omega))
                     obtain ⟨ve232_0, rfl, ge232_0⟩ := hMe232
                     have hv232_0 := hcc232 0 _ rfl
                     rw [Nat.add_zero, show ((Kd.slice 3 (Kd.int .i64))).sz = 1 from rfl, Nat.mul_one] at hv232_0
                     replace hv232_0 := Option.some.inj (hv232_0.symm.trans hx232_0)
                     rw [hv232_0] at ge232_0
                     have HL232_0 := Aside0.mk (show Kd.R (Kd.int .i64) 3 _ _ _ _ (rd_L2 t227 x35_2) from ge232_0)
                     clear hv232_0 ge232_0
                     clear hcc232 hce232
                     have HR232_0 := Aside0.mk hi232_0
                     have HC232_0 := Aside0.mk hl232_0
                     clear hi232_0 hl232_0
                     replace p232 := eq_true p232
                     replace q232 := eq_true q232
                     have p233 : 0 ≤ (x27_1 : Int) := of_decide_eq_true (by first | (with_reducible assumption) | assumption)
                     have q233 : x27_1 < ((rd_L2 t227 x35_2).length : Int) := of_decide_eq_true (by first | (with_reducible assumption) | assumption)
                     obtain ⟨ad233, e233, hx233_0⟩ := Kd.at_int (by repeat (first | (with_reducible exact HR232_0.out) | (with_reducible refine Kd.C_alloc ?_ _) | (with_reducible refine Kd.C_drewN ?_ _) | (with_reducible refine Kd.C_drew ?_) | exact HR232_0.out)) x27_1 p233 q233
                     cases e233
                     replace p233 := eq_true p233
                     replace q233 := eq_true q233
                     try go_wp2
                     have n0_ := Aside0.mk (Kd.S_drew HO_10.out)
                     have n1_ := Aside0.mk (Kd.R_drew HO_12.out)
                     have n2_ := Aside0.mk (Kd.R_drew HL232_0.out)
                     have n3_ := Aside0.mk (Kd.C_drew HR232_0.out)
                     have n4_ := Aside0.mk (below_drew1 HB.out)
                     clear HO_10
                     clear HO_12
                     clear HL232_0
                     clear HR232_0
                     clear HB
                     have HO_10 := n0_
                     have HO_12 := n1_
                     have HL232_0 := n2_
                     have HR232_0 := n3_
                     have HB := n4_
                     clear n0_ n1_ n2_ n3_ n4_
                     have p235 : 0 ≤ (x35_2 : Int) := of_decide_eq_true (by first | (with_reducible assumption) | assumption)
                     have q235 : x35_2 < (t227.length : Int) := of_decide_eq_true (by first | (with_reducible assumption) | assumption)
                     obtain ⟨ad235, A235_0, c235_0, e235, hx235_0, hl235_0, hi235_0⟩ := at_L2 (Kd.S_reads' HO_10.out).2.2 x35_2 p235 q235
                     obtain rfl : ad232 = ad235 := (by injection e235)
                     obtain ⟨ce235, hce235, hMe235, hcc235⟩ := Kd.S_get HO_10.out [] x35_2 p235 (by first | exact q235 | exact of_decide_eq_true (by first | (with_reducible assumption) | assumption) | (have e_ := (Kd.S_reads' HO_10.out).1; omega))
                     obtain ⟨ve235_0, rfl, ge235_0⟩ := hMe235
                     have hv235_0 := hcc235 0 _ rfl
                     rw [Nat.add_zero, show ((Kd.slice 3 (Kd.int .i64))).sz = 1 from rfl, Nat.mul_one] at hv235_0
                     replace hv235_0 := Option.some.inj (hv235_0.symm.trans hx235_0)
                     rw [hv235_0] at ge235_0
                     have HL235_0 := Aside0.mk (show Kd.R (Kd.int .i64) 3 _ _ _ _ (rd_L2 t227 x35_2) from ge235_0)
                     clear hv235_0 ge235_0
                     clear hcc235 hce235
                     have HR235_0 := Aside0.mk hi235_0
                     have HC235_0 := Aside0.mk hl235_0
                     clear hi235_0 hl235_0
                     replace p235 := eq_true p235
                     replace q235 := eq_true q235
                     have p236 : 0 ≤ (x27_1 : Int) := of_decide_eq_true (by first | (with_reducible assumption) | assumption)
                     have q236 : x27_1 < ((rd_L2 t227 x35_2).length : Int) := of_decide_eq_true (by first | (with_reducible assumption) | assumption)
                     obtain ⟨ad236, e236, hx236_0⟩ := Kd.at_int (by repeat (first | (with_reducible exact HR235_0.out) | (with_reducible refine Kd.C_alloc ?_ _) | (with_reducible refine Kd.C_drewN ?_ _) | (with_reducible refine Kd.C_drew ?_) | exact HR235_0.out)) x27_1 p236 q236
                     cases e236
                     replace p236 := eq_true p236
                     replace q236 := eq_true q236
                     refine start_ (n := 14) (S := fun w' => w'.cell? (ad232.add (x35_2).toNat) = some (.slice (some ad236) (rd_L2 t227 x35_2).length c235_0) ∧ w'.cell? (ad236.add (x27_1).toNat) = some (.int .i64 (rd (rd_L2 t227 x35_2) x27_1))) (ds := []) #[false, false, false, false, false, false, false, false, false, false, false, false, false, false] (by kernel_rfl) rfl rfl ⟨hx235_0, hx236_0⟩ (fun hHeld => ?_); refine with_tabW jacquardref30_After.tab13 jacquardref30_After.bits13 (fun HT_ HW_ => ?_)
                     generalize wr.drew = w20 at HO_10 HO_12 HL232_0 HR232_0 HB HL235_0 HR235_0 hx235_0 hx236_0 hHeld ⊢
                     refine pure_ (i := 0) (N := some 46) (v := ?_) (a' := ?_) #[true, false, false, false, false, false, false, false, false, false, false, false, false, false] rfl rfl (any_of HT_.out (by kernel_rfl)) (fun _ _ _ h => h) (Or.inl ⟨by rfl, ?_⟩) ?_ ?_
                     rotate_left
                     · intro w'
                       go_simp
                       with_reducible rfl
                     rotate_left
                     · simp only [Act.put, List.setIfInBounds_toArray, List.set_cons_zero, List.set_cons_succ, i64_w, i32_w]
                       rfl
                     refine pure_ (i := 1) (N := some 47) (v := ?_) (a' := ?_) #[true, true, false, false, false, false, false, false, false, false, false, false, false, false] rfl rfl (any_of HT_.out (by kernel_rfl)) (fun _ _ _ h => h) (Or.inl ⟨by rfl, ?_⟩) ?_ ?_
                     rotate_left
                     · intro w'
                       go_simp
                       with_reducible rfl
                     rotate_left
                     · simp only [Act.put, List.setIfInBounds_toArray, List.set_cons_zero, List.set_cons_succ, i64_w, i32_w]
                       rfl
                     refine pure_ (i := 2) (N := some 48) (v := ?_) (a' := ?_) #[true, true, true, false, false, false, false, false, false, false, false, false, false, false] rfl rfl (any_of HT_.out (by kernel_rfl)) (fun _ _ _ h => h) (Or.inl ⟨by rfl, ?_⟩) ?_ ?_
                     rotate_left
                     · intro w'
                       go_simp
                       with_reducible rfl
                     rotate_left
                     · simp only [Act.put, List.setIfInBounds_toArray, List.set_cons_zero, List.set_cons_succ, i64_w, i32_w]
                       rfl
                     refine pure_ (i := 4) (N := some 50) (v := ?_) (a' := ?_) #[true, true, true, false, true, false, false, false, false, false, false, false, false, false] rfl rfl (any_of HT_.out (by kernel_rfl)) (fun _ _ _ h => h) (Or.inl ⟨by rfl, ?_⟩) ?_ ?_
                     rotate_left
                     · intro w'
                       go_simp
                       with_reducible rfl
                     rotate_left
                     · simp only [Act.put, List.setIfInBounds_toArray, List.set_cons_zero, List.set_cons_succ, i64_w, i32_w]
                       rfl
                     refine pure_ (i := 5) (N := some 51) (v := ?_) (a' := ?_) #[true, true, true, false, true, true, false, false, false, false, false, false, false, false] rfl rfl (any_of HT_.out (by kernel_rfl)) (fun _ _ _ h => h) (Or.inl ⟨by rfl, ?_⟩) ?_ ?_
                     rotate_left
                     · intro w'
                       go_simp
                       with_reducible rfl
                     rotate_left
                     · simp only [Act.put, List.setIfInBounds_toArray, List.set_cons_zero, List.set_cons_succ, i64_w, i32_w]
                       rfl
                     refine pure_ (i := 6) (N := some 52) (v := ?_) (a' := ?_) #[true, true, true, false, true, true, true, false, false, false, false, false, false, false] rfl rfl (any_of HT_.out (by kernel_rfl)) (fun _ _ _ h => h) (Or.inl ⟨by rfl, ?_⟩) ?_ ?_
                     rotate_left
                     · intro w'
                       go_simp
                       with_reducible rfl
                     rotate_left
                     · simp only [Act.put, List.setIfInBounds_toArray, List.set_cons_zero, List.set_cons_succ, i64_w, i32_w]
                       rfl
                     refine pure_ (i := 8) (N := some 54) (v := ?_) (a' := ?_) #[true, true, true, false, true, true, true, false, true, false, false, false, false, false] rfl rfl (any_of HT_.out (by kernel_rfl)) (fun _ _ _ h => h) (Or.inl ⟨by rfl, ?_⟩) ?_ ?_
                     rotate_left
                     · intro w'
                       go_simp
                       with_reducible rfl
                     rotate_left
                     · simp only [Act.put, List.setIfInBounds_toArray, List.set_cons_zero, List.set_cons_succ, i64_w, i32_w]
                       rfl
                     refine take_ (i := 7) (N := some 53) (v := ?_) (a' := ?_) #[true, true, true, false, true, true, true, true, true, false, false, false, false, false] rfl rfl (take_ofW HT_.out HW_.out (by kernel_rfl)) (fun _ _ _ h => h) (Or.inl ⟨by rfl, ?_⟩) hHeld ?_ ?_
                     rotate_left
                     · rintro w' ⟨s0, s1⟩
                       go_simp
                       with_reducible rfl
                     rotate_left
                     · simp only [Act.put, List.setIfInBounds_toArray, List.set_cons_zero, List.set_cons_succ, i64_w, i32_w]
                       rfl
                     refine pure_ (i := 9) (N := some 55) (v := ?_) (a' := ?_) #[true, true, true, false, true, true, true, true, true, true, false, false, false, false] rfl rfl (any_of HT_.out (by kernel_rfl)) (fun _ _ _ h => h) (Or.inl ⟨by rfl, ?_⟩) ?_ ?_
                     rotate_left
                     · intro w'
                       go_simp
                       with_reducible rfl
                     rotate_left
                     · simp only [Act.put, List.setIfInBounds_toArray, List.set_cons_zero, List.set_cons_succ, i64_w, i32_w]
                       rfl
                     refine take_ (i := 10) (N := some 56) (v := ?_) (a' := ?_) #[true, true, true, false, true, true, true, true, true, true, true, false, false, false] rfl rfl (take_ofW HT_.out HW_.out (by kernel_rfl)) (fun _ _ _ h => h) (Or.inl ⟨by rfl, ?_⟩) hHeld ?_ ?_
                     rotate_left
                     · rintro w' ⟨s0, s1⟩
                       go_simp
                       with_reducible rfl
                     rotate_left
                     · simp only [Act.put, List.setIfInBounds_toArray, List.set_cons_zero, List.set_cons_succ, i64_w, i32_w]
                       rfl
                     refine one_ (i := 3) (N := some 49) #[true, true, true, true, true, true, true, true, true, true, true, false, false, false] rfl rfl (one_of HT_.out (by kernel_rfl)) (by decide) (fun K hK => ?_)
                     refine goes_ Try.func18 (by kernel_rfl) rfl #[.slice A3 l3.length c3, .int .i64 x35_2] (by rfl) rfl rfl (by (try simp only [List.map_toArray, List.map_cons, List.map_nil]); first | done | rfl | (simp only [List.length_drop, List.length_take]; rfl)) ?_
                     with_reducible refine (jacquardref30_Bound.calls _ _ l3 x35_2 t234 _ ?side1 ?side2 A18.out).mono ?_
                     (case side1 => repeat (first | exact (Kd.C_below HR3.out HB.out) | (with_reducible refine Kd.C_alloc ?_ _) | (with_reducible refine Kd.C_drewN ?_ _) | (with_reducible refine Kd.C_drew ?_)))
                     (case side2 => exact HC3.out)
                     rintro e w21 ⟨rfl, hb⟩
                     have HS0_ := (hb.cell (World.block_lt_of_cell? _ _ (hHeld.1))).trans (hHeld.1)
                     have HS1_ := (hb.cell (World.block_lt_of_cell? _ _ (hHeld.2))).trans (hHeld.2)
                     refine ⟨_, rfl, ?_⟩
                     have n0_ := Aside0.mk (Kd.S_below (by (with_reducible repeat (first | apply Kd.S_alloc | apply Kd.S_drewN | apply Kd.S_drew)); exact HO_10.out) hb)
                     have n1_ := Aside0.mk (Kd.R_below (by (with_reducible repeat (first | apply Kd.R_alloc | apply Kd.R_drewN | apply Kd.R_drew)); exact HO_12.out) hb)
                     have n2_ := Aside0.mk (Kd.R_below (by (with_reducible repeat (first | apply Kd.R_alloc | apply Kd.R_drewN | apply Kd.R_drew)); exact HL232_0.out) hb)
                     have n3_ := Aside0.mk (Kd.R_below (by (with_reducible repeat (first | apply Kd.R_alloc | apply Kd.R_drewN | apply Kd.R_drew)); exact HL235_0.out) hb)
                     have n4_ := Aside0.mk (Kd.C_below (by repeat (first | (with_reducible exact HR232_0.out) | (with_reducible refine Kd.C_alloc ?_ _) | (with_reducible refine Kd.C_drewN ?_ _) | (with_reducible refine Kd.C_drew ?_) | exact HR232_0.out)) hb)
                     have n5_ := Aside0.mk (Kd.C_below (by repeat (first | (with_reducible exact HR235_0.out) | (with_reducible refine Kd.C_alloc ?_ _) | (with_reducible refine Kd.C_drewN ?_ _) | (with_reducible refine Kd.C_drew ?_) | exact HR235_0.out)) hb)
                     have n6_ := Aside0.mk (below_step (by repeat (first | (with_reducible first | exact HB.out | apply below_alloc | apply pw_below_drewN | apply below_drew1) | exact HB.out)) hb)
                     clear HO_10
                     clear HO_12
                     clear HL232_0
                     clear HL235_0
                     clear HR232_0
                     clear HR235_0
                     clear HB
                     have HO_10 := n0_
                     have HO_12 := n1_
                     have HL232_0 := n2_
                     have HL235_0 := n3_
                     have HR232_0 := n4_
                     have HR235_0 := n5_
                     have HB := n6_
                     clear n0_ n1_ n2_ n3_ n4_ n5_ n6_
                     (try clear hb)
                     (try clear hb2)
                     (try clear hk)
                     (try clear hi)
                     refine hK.out _ _ ⟨HS0_, HS1_⟩ (fun hHeld => ?_)
                     clear hK K
                     refine norm_ (a' := ?_) ?_ ?_
                     rotate_left
                     · show Act.put _ (some 49) _ = _
                       simp only [Act.put, List.setIfInBounds_toArray, List.set_cons_zero, List.set_cons_succ, i64_w, i32_w]
                       rfl
                     refine pure_ (i := 11) (N := some 57) (v := ?_) (a' := ?_) #[true, true, true, true, true, true, true, true, true, true, true, true, false, false] rfl rfl (any_of HT_.out (by kernel_rfl)) (fun _ _ _ h => h) (Or.inl ⟨by rfl, ?_⟩) ?_ ?_
                     rotate_left
                     · intro w'
                       go_simp
                       with_reducible rfl
                     rotate_left
                     · simp only [Act.put, List.setIfInBounds_toArray, List.set_cons_zero, List.set_cons_succ, i64_w, i32_w]
                       rfl
                     refine pure_ (i := 12) (N := some 58) (v := ?_) (a' := ?_) #[true, true, true, true, true, true, true, true, true, true, true, true, true, false] rfl rfl (any_of HT_.out (by kernel_rfl)) (fun _ _ _ h => h) (Or.inl ⟨by rfl, ?_⟩) ?_ ?_
                     rotate_left
                     · intro w'
                       go_simp
                       with_reducible rfl
                     rotate_left
                     · simp only [Act.put, List.setIfInBounds_toArray, List.set_cons_zero, List.set_cons_succ, i64_w, i32_w]
                       rfl
                     refine pure_ (i := 13) (N := some 14) (v := ?_) (a' := ?_) #[true, true, true, true, true, true, true, true, true, true, true, true, true, true] rfl rfl (any_of HT_.out (by kernel_rfl)) (fun _ _ _ h => h) (Or.inl ⟨by rfl, ?_⟩) ?_ ?_
                     rotate_left
                     · intro w'
                       go_simp
                       with_reducible rfl
                     rotate_left
                     · simp only [Act.put, List.setIfInBounds_toArray, List.set_cons_zero, List.set_cons_succ, i64_w, i32_w]
                       rfl
                     refine done_ (done_of HT_.out (by kernel_rfl)) ?_
                     try go_wp2
                     go_roundg k2
                     case measure => have := HK1.out; have := HK2.out; omega
                     case rel => exact ⟨(ji19), (wrap64 (x35_2 + 1)), (by first | rfl | (simp; done) | (simp only [← hji19] <;> (first | rfl | simp)) | (simp [*]; done)), (by first | rfl | (simp; done) | (simp [*]; done)), H', ⟨by have := HK1.out; have := HK2.out; omega⟩, ⟨by (with_reducible repeat (first | apply Kd.S_alloc | apply Kd.S_drewN | apply Kd.S_drew)); exact HO_10.out⟩, ⟨by (with_reducible repeat (first | apply Kd.R_alloc | apply Kd.R_drewN | apply Kd.R_drew)); exact HO_12.out⟩, ⟨by repeat (first | (with_reducible first | exact HB.out | apply below_alloc | apply pw_below_drewN | apply below_drew1) | exact HB.out)⟩⟩
                   · rw [if_neg c17] at H
                     have c17b0 : decide ((-1152921504606846976) < (rd (rd_L2 t227 x35_2) x27_1)) = false := decide_eq_false c17
                     clear c17
                     have H' := Aside0.mk H
                     clear H
                     have p232 : 0 ≤ (x35_2 : Int) := of_decide_eq_true (by first | (with_reducible assumption) | assumption)
                     have q232 : x35_2 < (t227.length : Int) := of_decide_eq_true (by first | (with_reducible assumption) | assumption)
                     obtain ⟨ad232, A232_0, c232_0, e232, hx232_0, hl232_0, hi232_0⟩ := at_L2 (Kd.S_reads' HO_10.out).2.2 x35_2 p232 q232
                     cases e232
                     obtain ⟨ce232, hce232, hMe232, hcc232⟩ := Kd.S_get HO_10.out [] x35_2 p232 (by first | exact q232 | exact of_decide_eq_true (by first | (with_reducible assumption) | assumption) | (have e_ := (Kd.S_reads' HO_10.out).1; omega))
                     obtain ⟨ve232_0, rfl, ge232_0⟩ := hMe232
                     have hv232_0 := hcc232 0 _ rfl
                     rw [Nat.add_zero, show ((Kd.slice 3 (Kd.int .i64))).sz = 1 from rfl, Nat.mul_one] at hv232_0
                     replace hv232_0 := Option.some.inj (hv232_0.symm.trans hx232_0)
                     rw [hv232_0] at ge232_0
                     have HL232_0 := Aside0.mk (show Kd.R (Kd.int .i64) 3 _ _ _ _ (rd_L2 t227 x35_2) from ge232_0)
                     clear hv232_0 ge232_0
                     clear hcc232 hce232
                     have HR232_0 := Aside0.mk hi232_0
                     have HC232_0 := Aside0.mk hl232_0
                     clear hi232_0 hl232_0
                     replace p232 := eq_true p232
                     replace q232 := eq_true q232
                     have p233 : 0 ≤ (x27_1 : Int) := of_decide_eq_true (by first | (with_reducible assumption) | assumption)
                     have q233 : x27_1 < ((rd_L2 t227 x35_2).length : Int) := of_decide_eq_true (by first | (with_reducible assumption) | assumption)
                     obtain ⟨ad233, e233, hx233_0⟩ := Kd.at_int (by repeat (first | (with_reducible exact HR232_0.out) | (with_reducible refine Kd.C_alloc ?_ _) | (with_reducible refine Kd.C_drewN ?_ _) | (with_reducible refine Kd.C_drew ?_) | exact HR232_0.out)) x27_1 p233 q233
                     cases e233
                     replace p233 := eq_true p233
                     replace q233 := eq_true q233
                     go_wp2
                     go_roundg k2
                     case measure => have := HK1.out; have := HK2.out; omega
                     case rel => exact ⟨(x14_2), (wrap64 (x35_2 + 1)), (by first | rfl | (simp; done) | (simp [*]; done)), (by first | rfl | (simp; done) | (simp [*]; done)), H', ⟨by have := HK1.out; have := HK2.out; omega⟩, ⟨by (with_reducible repeat (first | apply Kd.S_alloc | apply Kd.S_drewN | apply Kd.S_drew)); exact HO_10.out⟩, ⟨by (with_reducible repeat (first | apply Kd.R_alloc | apply Kd.R_drewN | apply Kd.R_drew)); exact HO_12.out⟩, ⟨by repeat (first | (with_reducible first | exact HB.out | apply below_alloc | apply pw_below_drewN | apply below_drew1) | exact HB.out)⟩⟩
                 · rw [if_neg c16] at H
                   exact absurd H (by simp)
               · rw [if_neg c15] at H
                 exact absurd H (by simp)
             · rw [if_neg c14] at H
               exact absurd H (by simp)
           · rw [if_neg c13] at H
             exact absurd H (by simp)
         · rw [if_neg c12] at H
           have c12b0 : decide (x35_2 < (t227.length : Int)) = false := decide_eq_false c12
           clear c12
           by_cases c22 : x12_1.length < 17592186044416
           · rw [if_pos c22] at H
             have LMc22 := Aside0.mk c22
             clear c22
             obtain ⟨y237, hy237⟩ : ∃ y_ : List Int, y_ = (x12_1 ++ [x14_2]) := ⟨_, rfl⟩
             replace H : (jacquardref30_After.l0 k2 l3 t227 y237 (t227.length : Int) (wrap64 (x27_1 + 1))) = some (r1, r2) := by first | (rw [hy237]; with_reducible exact H) | (have H2_ := (Option.bind_some _ _).symm.trans H; rw [hy237]; with_reducible exact H2_) | (have H2_ := (Option.bind_some _ _).symm.trans H; with_reducible exact H2_) | with_reducible exact H | (rw [hy237]; exact H) | exact H
             have Ny237 := Aside0.mk hy237
             clear hy237
             have H' := Aside0.mk H
             clear H
             go_wp2_with (first | ((with_reducible refine gate_builtin (b := .append) (xs := #[.tmp 60, .tmp 62]) rfl ?_); at_builtin; refine Kd.R_append (Kd.int .i64) (w0 := w) w.heap.size rfl (.tmp 60) (.tmp 62) 29 3 (.int .i64 0) 8 rfl Try.underlying29 info3 rfl (by decide) (by omega) u12 x12_1 x14_2 [.int .i64 x14_2] (fun _ => True) (fun _ => False) rfl rfl ?aP (fun _ hk => hk.elim) ?aF ?aO ?aB ?aS ?aL ?_; (case aP => exact rfl); (case aB => exact (by repeat (first | (with_reducible first | exact HB.out | apply below_alloc | apply pw_below_drewN | apply below_drew1) | exact HB.out))); (case aF => exact (fun _ _ => trivial)); (case aO => exact (by (with_reducible repeat (first | apply Kd.R_alloc | apply Kd.R_drewN | apply Kd.R_drew)); exact HO_12.out)); (case aS => exact (below_size (by repeat (first | (with_reducible first | exact HB.out | apply below_alloc | apply pw_below_drewN | apply below_drew1) | exact HB.out)))); (case aL => have := LMc22.out; omega); intro v238 w23 ho hb hg hat; rw [← Ny237.out] at ho; have n0_ := Aside0.mk (Kd.S_after (ok := (fun _ => True)) (by (with_reducible repeat (first | apply Kd.S_alloc | apply Kd.S_drewN | apply Kd.S_drew)); exact Kd.S_mono HO_10.out (fun _ hk => ⟨trivial, hk⟩)) hg hat); have n1_ := Aside0.mk (hb); have n2_ := Aside0.mk (ho); clear HO_10; clear HB; clear HO_12; have HO_10 := n0_; have HB := n1_; have HO239 := n2_; clear n0_ n1_ n2_; clear ho hb hg hat))
             go_roundg k2
             case measure => have := HK1.out; have := HK2.out; omega
             case rel => exact ⟨(y237), (wrap64 (x27_1 + 1)), (by first | rfl | (simp; done) | (simp [*]; done)), H', ⟨by have := HK1.out; have := HK2.out; omega⟩, ⟨by (with_reducible repeat (first | apply Kd.S_alloc | apply Kd.S_drewN | apply Kd.S_drew)); exact Kd.S_mono HO_10.out (fun _ hk => hk.2)⟩, ⟨by (with_reducible repeat (first | apply Kd.R_alloc | apply Kd.R_drewN | apply Kd.R_drew)); exact HO239.out⟩, ⟨by repeat (first | (with_reducible first | exact HB.out | apply below_alloc | apply pw_below_drewN | apply below_drew1) | exact HB.out)⟩⟩
           · rw [if_neg c22] at H
             exact absurd H (by simp)
     · rw [if_neg c9] at H
       have c9b0 : decide (x27_1 < (t227.length : Int)) = false := decide_eq_false c9
       clear c9
       simp only [Option.some.injEq, Prod.mk.injEq] at H
       obtain ⟨rfl, rfl⟩ := H
       go_wp2
       go_ret2
       exact ⟨_, by first | rfl | (simp [errW_none, errW_some] <;> rfl) | (simp [*, errW_none, errW_some] <;> rfl), by (with_reducible repeat (first | apply Kd.R_alloc | apply Kd.R_drewN | apply Kd.R_drew)); exact HO_12.out, by repeat (first | (with_reducible first | exact HB.out | apply below_alloc | apply pw_below_drewN | apply below_drew1) | exact HB.out)⟩
 · replace c6 := Bool.eq_false_iff.mpr c6
   subst c6
   have H1 : (some (([] : List Int), false)) = some (r1, r2) := by rw [if_neg (show ¬ (false = true) by decide)] at H; exact H
   clear H
   have H := H1
   clear H1
   simp only [Option.some.injEq, Prod.mk.injEq] at H
   obtain ⟨rfl, rfl⟩ := H
   go_enter Try.func14, Try.ntmps14
   go_wp2_with (first | ((with_reducible refine gate_callee (f := 28) rfl ?_); refine goesL_ (some 20) rfl rfl Try.func28 (by kernel_rfl) rfl #[.int .i64 a0, .slice A1 l1.length c1, .int .i64 a2] rfl (by (try simp only [List.map_toArray, List.map_cons, List.map_nil]); first | done | rfl | (simp only [List.length_drop, List.length_take]; rfl)) ?_; (with_reducible refine (jacquardref30_Walks.calls k a0 _ _ l1 a2 t227 false _ ?side1 ?side2 A5.out).mono ?_); (case side1 => repeat (first | exact HR1.out | (with_reducible refine Kd.C_alloc ?_ _) | (with_reducible refine Kd.C_drewN ?_ _) | (with_reducible refine Kd.C_drew ?_))); (case side2 => exact HC1.out); rintro e w24 ⟨v229, rfl, ho0, hb⟩; refine ⟨_, rfl, ?_⟩; have n0_ := Aside0.mk (Kd.S_lower ho0 (below_size (by repeat (first | (with_reducible first | exact HB.out | apply below_alloc | apply pw_below_drewN | apply below_drew1) | exact HB.out)))); have n1_ := Aside0.mk (below_step (by repeat (first | (with_reducible first | exact HB.out | apply below_alloc | apply pw_below_drewN | apply below_drew1) | exact HB.out)) hb); clear HB; have HO230 := n0_; have HB := n1_; clear n0_ n1_; (try clear hb); (try clear hb2); (try clear hk); (try clear hi); (try clear ho0)))
   go_ret2
   exact ⟨_, by first | rfl | (simp [errW_none, errW_some] <;> rfl) | (simp [*, errW_none, errW_some] <;> rfl), by first | exact Kd.R_nil _ _ _ _ _ | exact Kd.N_nil _ _ _ _ _ | exact Kd.V_nil _ _ _ _ _ | exact Kd.Q_nil _ _ _ _ _ | exact Kd.S_nil _ _ _ _ _, by repeat (first | (with_reducible first | exact HB.out | apply below_alloc | apply pw_below_drewN | apply below_drew1) | exact HB.out)⟩
end Go.Proofs.Ytflefelgdcblgaa.Q
