-- Printed by a program of this session (gprint.py, which runs the kit's print.py): Lean checks it.
import Derived.Test.YtflefelgdcblgaaQx0
import Derived.Test.YtflefelgdcblgaaQx6
import Derived.Test.YtflefelgdcblgaaQx9
namespace Go.Proofs.Ytflefelgdcblgaa.Q
open Go.RowKit Go.Proofs.YtflefelgdcblgaaW.PrintWords Go.Proofs.YtflefelgdcblgaaW.PrintLast Go.Proofs.YtflefelgdcblgaaW.PrintMore
attribute [local go_sem] max2_int min2_int max_two min_two max_three min_three max_four min_four   -- for this text's walks alone
set_option linter.unusedVariables false
set_option linter.unusedSimpArgs false
mutual
def jacquardref30_Positive.l0 : Nat → Int → List (S28) → Int → List Int → Int → Int → Int → Option (Int × Bool)
 | 0, _, _, _, _, _, _, _ => none
 | k + 1, x0, x1, x2, x3, x10, x16, x17 => if x17 < x16 then (if 0 ≤ x17 then (if x17 < (x3.length : Int) then (if (rd x3 x17) < 0 then (some (0, false)) else (if (rd x3 x17) ≥ (x1.length : Int) then (some (0, false)) else (if 0 ≤ (rd x3 x17) then (if (rd x3 x17) < (x1.length : Int) then ((jacquardref30_Counts.f x0 ((rd_T28 x1 (rd x3 x17)).f0) ((rd_T28 x1 (rd x3 x17)).f1) ((rd_T28 x1 (rd x3 x17)).f2) ((rd_T28 x1 (rd x3 x17)).f3)).bind fun t244 => (if t244 = true then ((jacquardref30_Weight.f ((rd_T28 x1 (rd x3 x17)).f0) ((rd_T28 x1 (rd x3 x17)).f1) ((rd_T28 x1 (rd x3 x17)).f2) ((rd_T28 x1 (rd x3 x17)).f3) x2).bind fun t247 => (jacquardref30_Positive.l0 k x0 x1 x2 x3 (wrap64 (x10 + t247)) x16 (wrap64 (x17 + 1)))) else (some (0, false)))) else (none)) else (none)))) else (none)) else (none)) else (jacquardref30_Positive.l1 k x1 x3 x10 (x3.length : Int) 0)
def jacquardref30_Positive.l1 : Nat → List (S28) → List Int → Int → Int → Int → Option (Int × Bool)
 | 0, _, _, _, _, _ => none
 | k + 1, x1, x3, x10, x59, x60 => if x60 < x59 then (if (x3.length : Int) = 0 then (none) else (if 0 ≤ (Int.tmod (wrap64 (x60 + 1)) (x3.length : Int)) then (if (Int.tmod (wrap64 (x60 + 1)) (x3.length : Int)) < (x3.length : Int) then (if 0 ≤ x60 then (if x60 < (x3.length : Int) then (if 0 ≤ (rd x3 x60) then (if (rd x3 x60) < (x1.length : Int) then (if 0 ≤ (rd x3 (Int.tmod (wrap64 (x60 + 1)) (x3.length : Int))) then (if (rd x3 (Int.tmod (wrap64 (x60 + 1)) (x3.length : Int))) < (x1.length : Int) then (if ((rd_T28 x1 (rd x3 x60)).f1) = ((rd_T28 x1 (rd x3 (Int.tmod (wrap64 (x60 + 1)) (x3.length : Int)))).f0) then (jacquardref30_Positive.l2 k x1 x3 x10 x60 x59 x60 x60 0) else (some (0, false))) else (none)) else (none)) else (none)) else (none)) else (none)) else (none)) else (none)) else (none))) else (some (x10, decide (x10 > 0)))
def jacquardref30_Positive.l2 : Nat → List (S28) → List Int → Int → Int → Int → Int → Int → Int → Option (Int × Bool)
 | 0, _, _, _, _, _, _, _, _ => none
 | k + 1, x1, x3, x10, x12, x59, x60, x85, x86 => if x86 < x85 then (if 0 ≤ x86 then (if x86 < (x3.length : Int) then (if 0 ≤ (rd x3 x86) then (if (rd x3 x86) < (x1.length : Int) then (if 0 ≤ x12 then (if x12 < (x3.length : Int) then (if 0 ≤ (rd x3 x12) then (if (rd x3 x12) < (x1.length : Int) then (if ((rd_T28 x1 (rd x3 x86)).f0) = ((rd_T28 x1 (rd x3 x12)).f0) then (some (0, false)) else (jacquardref30_Positive.l2 k x1 x3 x10 x12 x59 x60 x85 (wrap64 (x86 + 1)))) else (none)) else (none)) else (none)) else (none)) else (none)) else (none)) else (none)) else (none)) else (jacquardref30_Positive.l1 k x1 x3 x10 x59 (wrap64 (x60 + 1)))
end
def jacquardref30_Positive.f (k : Nat) (a0 : Int) (l1 : List (S28)) (a2 : Int) (l3 : List Int) : Option (Int × Bool) := jacquardref30_Positive.l0 k a0 l1 a2 l3 0 (l3.length : Int) 0
set_option maxHeartbeats 8000000 in set_option maxRecDepth 100000 in theorem jacquardref30_Positive.calls (k : Nat) (a0 : Int) (A1 : Option Addr) (c1 : Nat) (l1 : List (S28)) (a2 : Int) (A3 : Option Addr) (c3 : Nat) (l3 : List Int) (r1 : Int) (r2 : Bool) (w : World) (hr1 : Kd.C k28 w A1 l1.length l1) (hc1 : l1.length ≤ c1) (hr3 : Kd.C (Kd.int .i64) w A3 l3.length l3) (hc3 : l3.length ≤ c3) (h : jacquardref30_Positive.f k a0 l1 a2 l3 = some (r1, r2)) :
 Calls Try.prog 26 #[.int .i64 a0, .slice A1 l1.length c1, .int .i64 a2, .slice A3 l3.length c3] w fun e w' => e = .returned (.tuple #[.int .i64 r1, .bool r2]) ∧ Below w.heap.size w w' := by
 have hu28 := Try.underlying28
 have HR1 := Aside0.mk hr1
 have HC1 := Aside0.mk hc1
 clear hr1 hc1
 have HR3 := Aside0.mk hr3
 have HC3 := Aside0.mk hc3
 clear hr3 hc3
 have HB := Aside0.mk (Below.refl w.heap.size w)
 have H : (jacquardref30_Positive.l0 k a0 l1 a2 l3 0 (l3.length : Int) 0) = some (r1, r2) := h
 clear h
 have H' := Aside0.mk H
 clear H
 go_enter Try.func26, Try.ntmps26
 go_wp2
 repeat (go_quiet (fail); try go_wp2)
 go_loopg [10, 17] k (fun kq v10 v17 w' => ∃ (x10_1 : Int) (x17_1 : Int), v10 = .int .i64 x10_1 ∧ v17 = .int .i64 x17_1 ∧ Aside0 (jacquardref30_Positive.l0 kq a0 l1 a2 l3 x10_1 (l3.length : Int) x17_1 = some (r1, r2)) ∧ Aside0 (kq ≤ k) ∧ Aside0 (Below w.heap.size w w'))
 case atStart => exact ⟨(0), (0), (by first | rfl | (simp; done) | (simp [*]; done)), (by first | rfl | (simp; done) | (simp [*]; done)), H', ⟨Nat.le_refl _⟩, ⟨by repeat (first | (with_reducible first | exact HB.out | apply below_alloc | apply pw_below_drewN | apply below_drew1) | exact HB.out)⟩⟩
 case round =>
  clear H'
  try clear c1
  try clear c2
  try clear p2
  try clear c3
  obtain ⟨x10_1, x17_1, rfl, rfl, HA, HK1, HB⟩ := hrel
  cases gk with
  | zero => exact absurd HA.out (by simp [jacquardref30_Positive.l0])
  | succ k1 =>
   have H := HA.out
   clear HA
   simp only [jacquardref30_Positive.l0] at H
   by_cases c5 : x17_1 < (l3.length : Int)
   · rw [if_pos c5] at H
     have c5b0 : decide (x17_1 < (l3.length : Int)) = true := decide_eq_true c5
     clear c5
     by_cases c6 : 0 ≤ x17_1
     · rw [if_pos c6] at H
       have c6b0 : decide (0 ≤ x17_1) = true := decide_eq_true c6
       clear c6
       by_cases c7 : x17_1 < (l3.length : Int)
       · rw [if_pos c7] at H
         have c7b0 : decide (x17_1 < (l3.length : Int)) = true := decide_eq_true c7
         clear c7
         by_cases c8 : (rd l3 x17_1) < 0
         · rw [if_pos c8] at H
           have c8b0 : decide ((rd l3 x17_1) < 0) = true := decide_eq_true c8
           clear c8
           simp only [Option.some.injEq, Prod.mk.injEq] at H
           obtain ⟨rfl, rfl⟩ := H
           have p240 : 0 ≤ (x17_1 : Int) := of_decide_eq_true (by first | (with_reducible assumption) | assumption)
           have q240 : x17_1 < (l3.length : Int) := of_decide_eq_true (by first | (with_reducible assumption) | assumption)
           obtain ⟨ad240, e240, hx240_0⟩ := Kd.at_int HR3.out x17_1 p240 q240
           cases e240
           replace hx240_0 := (HB.out.cell (World.block_lt_of_cell? w _ hx240_0)).trans hx240_0
           replace p240 := eq_true p240
           replace q240 := eq_true q240
           go_wp2
           repeat (go_quiet (fail); try go_wp2)
           go_ret2
           exact ⟨by first | rfl | (simp [errW_none, errW_some] <;> rfl) | (simp [*, errW_none, errW_some] <;> rfl), by repeat (first | (with_reducible first | exact HB.out | apply below_alloc | apply pw_below_drewN | apply below_drew1) | exact HB.out)⟩
         · rw [if_neg c8] at H
           have c8b0 : decide ((rd l3 x17_1) < 0) = false := decide_eq_false c8
           clear c8
           by_cases c9 : (rd l3 x17_1) ≥ (l1.length : Int)
           · rw [if_pos c9] at H
             have c9b0 : decide ((l1.length : Int) ≤ (rd l3 x17_1)) = true := decide_eq_true c9
             clear c9
             simp only [Option.some.injEq, Prod.mk.injEq] at H
             obtain ⟨rfl, rfl⟩ := H
             have p240 : 0 ≤ (x17_1 : Int) := of_decide_eq_true (by first | (with_reducible assumption) | assumption)
             have q240 : x17_1 < (l3.length : Int) := of_decide_eq_true (by first | (with_reducible assumption) | assumption)
             obtain ⟨ad240, e240, hx240_0⟩ := Kd.at_int HR3.out x17_1 p240 q240
             cases e240
             replace hx240_0 := (HB.out.cell (World.block_lt_of_cell? w _ hx240_0)).trans hx240_0
             replace p240 := eq_true p240
             replace q240 := eq_true q240
             have p241 : 0 ≤ (x17_1 : Int) := of_decide_eq_true (by first | (with_reducible assumption) | assumption)
             have q241 : x17_1 < (l3.length : Int) := of_decide_eq_true (by first | (with_reducible assumption) | assumption)
             obtain ⟨ad241, e241, hx241_0⟩ := Kd.at_int HR3.out x17_1 p241 q241
             obtain rfl : ad240 = ad241 := (by injection e241)
             replace hx241_0 := (HB.out.cell (World.block_lt_of_cell? w _ hx241_0)).trans hx241_0
             replace p241 := eq_true p241
             replace q241 := eq_true q241
             go_wp2
             repeat (go_quiet (fail); try go_wp2)
             go_ret2
             exact ⟨by first | rfl | (simp [errW_none, errW_some] <;> rfl) | (simp [*, errW_none, errW_some] <;> rfl), by repeat (first | (with_reducible first | exact HB.out | apply below_alloc | apply pw_below_drewN | apply below_drew1) | exact HB.out)⟩
           · rw [if_neg c9] at H
             have c9b0 : decide ((l1.length : Int) ≤ (rd l3 x17_1)) = false := decide_eq_false c9
             clear c9
             by_cases c10 : 0 ≤ (rd l3 x17_1)
             · rw [if_pos c10] at H
               have c10b0 : decide (0 ≤ (rd l3 x17_1)) = true := decide_eq_true c10
               clear c10
               by_cases c11 : (rd l3 x17_1) < (l1.length : Int)
               · rw [if_pos c11] at H
                 have c11b0 : decide ((rd l3 x17_1) < (l1.length : Int)) = true := decide_eq_true c11
                 clear c11
                 replace H := Option.bind_eq_some_iff.mp H
                 obtain ⟨t244, A120, H⟩ := H
                 replace H : (if t244 = true then ((jacquardref30_Weight.f ((rd_T28 l1 (rd l3 x17_1)).f0) ((rd_T28 l1 (rd l3 x17_1)).f1) ((rd_T28 l1 (rd l3 x17_1)).f2) ((rd_T28 l1 (rd l3 x17_1)).f3) a2).bind fun t247 => (jacquardref30_Positive.l0 k1 a0 l1 a2 l3 (wrap64 (x10_1 + t247)) (l3.length : Int) (wrap64 (x17_1 + 1)))) else (some (0, false))) = some (r1, r2) := H
                 have A12 := Aside0.mk A120
                 clear A120
                 by_cases c13 : t244 = true
                 · subst c13
                   have H1 : ((jacquardref30_Weight.f ((rd_T28 l1 (rd l3 x17_1)).f0) ((rd_T28 l1 (rd l3 x17_1)).f1) ((rd_T28 l1 (rd l3 x17_1)).f2) ((rd_T28 l1 (rd l3 x17_1)).f3) a2).bind fun t247 => (jacquardref30_Positive.l0 k1 a0 l1 a2 l3 (wrap64 (x10_1 + t247)) (l3.length : Int) (wrap64 (x17_1 + 1)))) = some (r1, r2) := by rw [if_pos rfl] at H; exact H
                   clear H
                   have H := H1
                   clear H1
                   replace H := Option.bind_eq_some_iff.mp H
                   obtain ⟨t247, A140, H⟩ := H
                   replace H : (jacquardref30_Positive.l0 k1 a0 l1 a2 l3 (wrap64 (x10_1 + t247)) (l3.length : Int) (wrap64 (x17_1 + 1))) = some (r1, r2) := H
                   have A14 := Aside0.mk A140
                   clear A140
                   have H' := Aside0.mk H
                   clear H
                   have p240 : 0 ≤ (x17_1 : Int) := of_decide_eq_true (by first | (with_reducible assumption) | assumption)
                   have q240 : x17_1 < (l3.length : Int) := of_decide_eq_true (by first | (with_reducible assumption) | assumption)
                   obtain ⟨ad240, e240, hx240_0⟩ := Kd.at_int HR3.out x17_1 p240 q240
                   cases e240
                   replace hx240_0 := (HB.out.cell (World.block_lt_of_cell? w _ hx240_0)).trans hx240_0
                   replace p240 := eq_true p240
                   replace q240 := eq_true q240
                   have p241 : 0 ≤ (x17_1 : Int) := of_decide_eq_true (by first | (with_reducible assumption) | assumption)
                   have q241 : x17_1 < (l3.length : Int) := of_decide_eq_true (by first | (with_reducible assumption) | assumption)
                   obtain ⟨ad241, e241, hx241_0⟩ := Kd.at_int HR3.out x17_1 p241 q241
                   obtain rfl : ad240 = ad241 := (by injection e241)
                   replace hx241_0 := (HB.out.cell (World.block_lt_of_cell? w _ hx241_0)).trans hx241_0
                   replace p241 := eq_true p241
                   replace q241 := eq_true q241
                   have p242 : 0 ≤ (x17_1 : Int) := of_decide_eq_true (by first | (with_reducible assumption) | assumption)
                   have q242 : x17_1 < (l3.length : Int) := of_decide_eq_true (by first | (with_reducible assumption) | assumption)
                   obtain ⟨ad242, e242, hx242_0⟩ := Kd.at_int HR3.out x17_1 p242 q242
                   obtain rfl : ad240 = ad242 := (by injection e242)
                   replace hx242_0 := (HB.out.cell (World.block_lt_of_cell? w _ hx242_0)).trans hx242_0
                   replace p242 := eq_true p242
                   replace q242 := eq_true q242
                   have p243 : 0 ≤ ((rd l3 x17_1) : Int) := of_decide_eq_true (by first | (with_reducible assumption) | assumption)
                   have q243 : (rd l3 x17_1) < (l1.length : Int) := of_decide_eq_true (by first | (with_reducible assumption) | assumption)
                   obtain ⟨ad243, e243, hx243_0, hx243_1, hx243_2, hx243_3⟩ := at_T28 HR1.out (rd l3 x17_1) p243 q243
                   cases e243
                   replace hx243_0 := (HB.out.cell (World.block_lt_of_cell? w _ hx243_0)).trans hx243_0
                   replace hx243_1 := (HB.out.cell (World.block_lt_of_cell? w _ hx243_1)).trans hx243_1
                   replace hx243_2 := (HB.out.cell (World.block_lt_of_cell? w _ hx243_2)).trans hx243_2
                   replace hx243_3 := (HB.out.cell (World.block_lt_of_cell? w _ hx243_3)).trans hx243_3
                   replace p243 := eq_true p243
                   replace q243 := eq_true q243
                   go_wp2_with (first | (go_at_call 38; (with_reducible refine (jacquardref30_Counts.calls a0 ((rd_T28 l1 (rd l3 x17_1)).f0) ((rd_T28 l1 (rd l3 x17_1)).f1) ((rd_T28 l1 (rd l3 x17_1)).f2) ((rd_T28 l1 (rd l3 x17_1)).f3) true _ A12.out).mono ?_); rintro e w15 ⟨rfl, hb⟩; have n0_ := Aside0.mk (below_step (by repeat (first | (with_reducible first | exact HB.out | apply below_alloc | apply pw_below_drewN | apply below_drew1) | exact HB.out)) hb); clear HB; have HB := n0_; clear n0_; (try clear hb); (try clear hb2); (try clear hk); (try clear hi); have p245 : 0 ≤ (x17_1 : Int) := of_decide_eq_true (by first | (with_reducible assumption) | assumption); have q245 : x17_1 < (l3.length : Int) := of_decide_eq_true (by first | (with_reducible assumption) | assumption); obtain ⟨ad245, e245, hx245_0⟩ := Kd.at_int HR3.out x17_1 p245 q245; obtain rfl : ad240 = ad245 := (by injection e245); replace hx245_0 := (HB.out.cell (World.block_lt_of_cell? w _ hx245_0)).trans hx245_0; replace p245 := eq_true p245; replace q245 := eq_true q245; have p246 : 0 ≤ ((rd l3 x17_1) : Int) := of_decide_eq_true (by first | (with_reducible assumption) | assumption); have q246 : (rd l3 x17_1) < (l1.length : Int) := of_decide_eq_true (by first | (with_reducible assumption) | assumption); obtain ⟨ad246, e246, hx246_0, hx246_1, hx246_2, hx246_3⟩ := at_T28 HR1.out (rd l3 x17_1) p246 q246; obtain rfl : ad243 = ad246 := (by injection e246); replace hx246_0 := (HB.out.cell (World.block_lt_of_cell? w _ hx246_0)).trans hx246_0; replace hx246_1 := (HB.out.cell (World.block_lt_of_cell? w _ hx246_1)).trans hx246_1; replace hx246_2 := (HB.out.cell (World.block_lt_of_cell? w _ hx246_2)).trans hx246_2; replace hx246_3 := (HB.out.cell (World.block_lt_of_cell? w _ hx246_3)).trans hx246_3; replace p246 := eq_true p246; replace q246 := eq_true q246) | (go_at_call 24; (with_reducible refine (jacquardref30_Weight.calls ((rd_T28 l1 (rd l3 x17_1)).f0) ((rd_T28 l1 (rd l3 x17_1)).f1) ((rd_T28 l1 (rd l3 x17_1)).f2) ((rd_T28 l1 (rd l3 x17_1)).f3) a2 t247 _ A14.out).mono ?_); rintro e w16 ⟨rfl, hb⟩; have n0_ := Aside0.mk (below_step (by repeat (first | (with_reducible first | exact HB.out | apply below_alloc | apply pw_below_drewN | apply below_drew1) | exact HB.out)) hb); clear HB; have HB := n0_; clear n0_; (try clear hb); (try clear hb2); (try clear hk); (try clear hi)))
                   repeat (go_quiet (first | (go_at_call 38; (with_reducible refine (jacquardref30_Counts.calls a0 ((rd_T28 l1 (rd l3 x17_1)).f0) ((rd_T28 l1 (rd l3 x17_1)).f1) ((rd_T28 l1 (rd l3 x17_1)).f2) ((rd_T28 l1 (rd l3 x17_1)).f3) true _ A12.out).mono ?_); rintro e w15 ⟨rfl, hb⟩; have n0_ := Aside0.mk (below_step (by repeat (first | (with_reducible first | exact HB.out | apply below_alloc | apply pw_below_drewN | apply below_drew1) | exact HB.out)) hb); clear HB; have HB := n0_; clear n0_; (try clear hb); (try clear hb2); (try clear hk); (try clear hi); have p245 : 0 ≤ (x17_1 : Int) := of_decide_eq_true (by first | (with_reducible assumption) | assumption); have q245 : x17_1 < (l3.length : Int) := of_decide_eq_true (by first | (with_reducible assumption) | assumption); obtain ⟨ad245, e245, hx245_0⟩ := Kd.at_int HR3.out x17_1 p245 q245; obtain rfl : ad240 = ad245 := (by injection e245); replace hx245_0 := (HB.out.cell (World.block_lt_of_cell? w _ hx245_0)).trans hx245_0; replace p245 := eq_true p245; replace q245 := eq_true q245; have p246 : 0 ≤ ((rd l3 x17_1) : Int) := of_decide_eq_true (by first | (with_reducible assumption) | assumption); have q246 : (rd l3 x17_1) < (l1.length : Int) := of_decide_eq_true (by first | (with_reducible assumption) | assumption); obtain ⟨ad246, e246, hx246_0, hx246_1, hx246_2, hx246_3⟩ := at_T28 HR1.out (rd l3 x17_1) p246 q246; obtain rfl : ad243 = ad246 := (by injection e246); replace hx246_0 := (HB.out.cell (World.block_lt_of_cell? w _ hx246_0)).trans hx246_0; replace hx246_1 := (HB.out.cell (World.block_lt_of_cell? w _ hx246_1)).trans hx246_1; replace hx246_2 := (HB.out.cell (World.block_lt_of_cell? w _ hx246_2)).trans hx246_2; replace hx246_3 := (HB.out.cell (World.block_lt_of_cell? w _ hx246_3)).trans hx246_3; replace p246 := eq_true p246; replace q246 := eq_true q246) | (go_at_call 24; (with_reducible refine (jacquardref30_Weight.calls ((rd_T28 l1 (rd l3 x17_1)).f0) ((rd_T28 l1 (rd l3 x17_1)).f1) ((rd_T28 l1 (rd l3 x17_1)).f2) ((rd_T28 l1 (rd l3 x17_1)).f3) a2 t247 _ A14.out).mono ?_); rintro e w16 ⟨rfl, hb⟩; have n0_ := Aside0.mk (below_step (by repeat (first | (with_reducible first | exact HB.out | apply below_alloc | apply pw_below_drewN | apply below_drew1) | exact HB.out)) hb); clear HB; have HB := n0_; clear n0_; (try clear hb); (try clear hb2); (try clear hk); (try clear hi))); try go_wp2_with (first | (go_at_call 38; (with_reducible refine (jacquardref30_Counts.calls a0 ((rd_T28 l1 (rd l3 x17_1)).f0) ((rd_T28 l1 (rd l3 x17_1)).f1) ((rd_T28 l1 (rd l3 x17_1)).f2) ((rd_T28 l1 (rd l3 x17_1)).f3) true _ A12.out).mono ?_); rintro e w15 ⟨rfl, hb⟩; have n0_ := Aside0.mk (below_step (by repeat (first | (with_reducible first | exact HB.out | apply below_alloc | apply pw_below_drewN | apply below_drew1) | exact HB.out)) hb); clear HB; have HB := n0_; clear n0_; (try clear hb); (try clear hb2); (try clear hk); (try clear hi); have p245 : 0 ≤ (x17_1 : Int) := of_decide_eq_true (by first | (with_reducible assumption) | assumption); have q245 : x17_1 < (l3.length : Int) := of_decide_eq_true (by first | (with_reducible assumption) | assumption); obtain ⟨ad245, e245, hx245_0⟩ := Kd.at_int HR3.out x17_1 p245 q245; obtain rfl : ad240 = ad245 := (by injection e245); replace hx245_0 := (HB.out.cell (World.block_lt_of_cell? w _ hx245_0)).trans hx245_0; replace p245 := eq_true p245; replace q245 := eq_true q245; have p246 : 0 ≤ ((rd l3 x17_1) : Int) := of_decide_eq_true (by first | (with_reducible assumption) | assumption); have q246 : (rd l3 x17_1) < (l1.length : Int) := of_decide_eq_true (by first | (with_reducible assumption) | assumption); obtain ⟨ad246, e246, hx246_0, hx246_1, hx246_2, hx246_3⟩ := at_T28 HR1.out (rd l3 x17_1) p246 q246; obtain rfl : ad243 = ad246 := (by injection e246); replace hx246_0 := (HB.out.cell (World.block_lt_of_cell? w _ hx246_0)).trans hx246_0; replace hx246_1 := (HB.out.cell (World.block_lt_of_cell? w _ hx246_1)).trans hx246_1; replace hx246_2 := (HB.out.cell (World.block_lt_of_cell? w _ hx246_2)).trans hx246_2; replace hx246_3 := (HB.out.cell (World.block_lt_of_cell? w _ hx246_3)).trans hx246_3; replace p246 := eq_true p246; replace q246 := eq_true q246) | (go_at_call 24; (with_reducible refine (jacquardref30_Weight.calls ((rd_T28 l1 (rd l3 x17_1)).f0) ((rd_T28 l1 (rd l3 x17_1)).f1) ((rd_T28 l1 (rd l3 x17_1)).f2) ((rd_T28 l1 (rd l3 x17_1)).f3) a2 t247 _ A14.out).mono ?_); rintro e w16 ⟨rfl, hb⟩; have n0_ := Aside0.mk (below_step (by repeat (first | (with_reducible first | exact HB.out | apply below_alloc | apply pw_below_drewN | apply below_drew1) | exact HB.out)) hb); clear HB; have HB := n0_; clear n0_; (try clear hb); (try clear hb2); (try clear hk); (try clear hi))))
                   go_roundg k1
                   case measure => have := HK1.out; omega
                   case rel => exact ⟨(wrap64 (x10_1 + t247)), (wrap64 (x17_1 + 1)), (by first | rfl | (simp; done) | (simp [*]; done)), (by first | rfl | (simp; done) | (simp [*]; done)), H', ⟨by have := HK1.out; omega⟩, ⟨by repeat (first | (with_reducible first | exact HB.out | apply below_alloc | apply pw_below_drewN | apply below_drew1) | exact HB.out)⟩⟩
                 · replace c13 := Bool.eq_false_iff.mpr c13
                   subst c13
                   have H1 : (some (0, false)) = some (r1, r2) := by rw [if_neg (show ¬ (false = true) by decide)] at H; exact H
                   clear H
                   have H := H1
                   clear H1
                   simp only [Option.some.injEq, Prod.mk.injEq] at H
                   obtain ⟨rfl, rfl⟩ := H
                   have p240 : 0 ≤ (x17_1 : Int) := of_decide_eq_true (by first | (with_reducible assumption) | assumption)
                   have q240 : x17_1 < (l3.length : Int) := of_decide_eq_true (by first | (with_reducible assumption) | assumption)
                   obtain ⟨ad240, e240, hx240_0⟩ := Kd.at_int HR3.out x17_1 p240 q240
                   cases e240
                   replace hx240_0 := (HB.out.cell (World.block_lt_of_cell? w _ hx240_0)).trans hx240_0
                   replace p240 := eq_true p240
                   replace q240 := eq_true q240
                   have p241 : 0 ≤ (x17_1 : Int) := of_decide_eq_true (by first | (with_reducible assumption) | assumption)
                   have q241 : x17_1 < (l3.length : Int) := of_decide_eq_true (by first | (with_reducible assumption) | assumption)
                   obtain ⟨ad241, e241, hx241_0⟩ := Kd.at_int HR3.out x17_1 p241 q241
                   obtain rfl : ad240 = ad241 := (by injection e241)
                   replace hx241_0 := (HB.out.cell (World.block_lt_of_cell? w _ hx241_0)).trans hx241_0
                   replace p241 := eq_true p241
                   replace q241 := eq_true q241
                   have p242 : 0 ≤ (x17_1 : Int) := of_decide_eq_true (by first | (with_reducible assumption) | assumption)
                   have q242 : x17_1 < (l3.length : Int) := of_decide_eq_true (by first | (with_reducible assumption) | assumption)
                   obtain ⟨ad242, e242, hx242_0⟩ := Kd.at_int HR3.out x17_1 p242 q242
                   obtain rfl : ad240 = ad242 := (by injection e242)
                   replace hx242_0 := (HB.out.cell (World.block_lt_of_cell? w _ hx242_0)).trans hx242_0
                   replace p242 := eq_true p242
                   replace q242 := eq_true q242
                   have p243 : 0 ≤ ((rd l3 x17_1) : Int) := of_decide_eq_true (by first | (with_reducible assumption) | assumption)
                   have q243 : (rd l3 x17_1) < (l1.length : Int) := of_decide_eq_true (by first | (with_reducible assumption) | assumption)
                   obtain ⟨ad243, e243, hx243_0, hx243_1, hx243_2, hx243_3⟩ := at_T28 HR1.out (rd l3 x17_1) p243 q243
                   cases e243
                   replace hx243_0 := (HB.out.cell (World.block_lt_of_cell? w _ hx243_0)).trans hx243_0
                   replace hx243_1 := (HB.out.cell (World.block_lt_of_cell? w _ hx243_1)).trans hx243_1
                   replace hx243_2 := (HB.out.cell (World.block_lt_of_cell? w _ hx243_2)).trans hx243_2
                   replace hx243_3 := (HB.out.cell (World.block_lt_of_cell? w _ hx243_3)).trans hx243_3
                   replace p243 := eq_true p243
                   replace q243 := eq_true q243
                   go_wp2_with (first | (go_at_call 38; (with_reducible refine (jacquardref30_Counts.calls a0 ((rd_T28 l1 (rd l3 x17_1)).f0) ((rd_T28 l1 (rd l3 x17_1)).f1) ((rd_T28 l1 (rd l3 x17_1)).f2) ((rd_T28 l1 (rd l3 x17_1)).f3) false _ A12.out).mono ?_); rintro e w17 ⟨rfl, hb⟩; have n0_ := Aside0.mk (below_step (by repeat (first | (with_reducible first | exact HB.out | apply below_alloc | apply pw_below_drewN | apply below_drew1) | exact HB.out)) hb); clear HB; have HB := n0_; clear n0_; (try clear hb); (try clear hb2); (try clear hk); (try clear hi)))
                   repeat (go_quiet (first | (go_at_call 38; (with_reducible refine (jacquardref30_Counts.calls a0 ((rd_T28 l1 (rd l3 x17_1)).f0) ((rd_T28 l1 (rd l3 x17_1)).f1) ((rd_T28 l1 (rd l3 x17_1)).f2) ((rd_T28 l1 (rd l3 x17_1)).f3) false _ A12.out).mono ?_); rintro e w17 ⟨rfl, hb⟩; have n0_ := Aside0.mk (below_step (by repeat (first | (with_reducible first | exact HB.out | apply below_alloc | apply pw_below_drewN | apply below_drew1) | exact HB.out)) hb); clear HB; have HB := n0_; clear n0_; (try clear hb); (try clear hb2); (try clear hk); (try clear hi))); try go_wp2_with (first | (go_at_call 38; (with_reducible refine (jacquardref30_Counts.calls a0 ((rd_T28 l1 (rd l3 x17_1)).f0) ((rd_T28 l1 (rd l3 x17_1)).f1) ((rd_T28 l1 (rd l3 x17_1)).f2) ((rd_T28 l1 (rd l3 x17_1)).f3) false _ A12.out).mono ?_); rintro e w17 ⟨rfl, hb⟩; have n0_ := Aside0.mk (below_step (by repeat (first | (with_reducible first | exact HB.out | apply below_alloc | apply pw_below_drewN | apply below_drew1) | exact HB.out)) hb); clear HB; have HB := n0_; clear n0_; (try clear hb); (try clear hb2); (try clear hk); (try clear hi))))
                   go_ret2
                   exact ⟨by first | rfl | (simp [errW_none, errW_some] <;> rfl) | (simp [*, errW_none, errW_some] <;> rfl), by repeat (first | (with_reducible first | exact HB.out | apply below_alloc | apply pw_below_drewN | apply below_drew1) | exact HB.out)⟩
               · rw [if_neg c11] at H
                 exact absurd H (by simp)
             · rw [if_neg c10] at H
               exact absurd H (by simp)
       · rw [if_neg c7] at H
         exact absurd H (by simp)
     · rw [if_neg c6] at H
       exact absurd H (by simp)
   · rw [if_neg c5] at H
     have c5b0 : decide (x17_1 < (l3.length : Int)) = false := decide_eq_false c5
     clear c5
     have H' := Aside0.mk H
     clear H
     go_wp2
     repeat (go_quiet (fail); try go_wp2)
     go_loopg [60] k1 (fun kq v60 w' => ∃ (x60_2 : Int), v60 = .int .i64 x60_2 ∧ Aside0 (jacquardref30_Positive.l1 kq l1 l3 x10_1 (l3.length : Int) x60_2 = some (r1, r2)) ∧ Aside0 (kq ≤ k1) ∧ Aside0 (Below w.heap.size w w'))
     case atStart => exact ⟨(0), (by first | rfl | (simp; done) | (simp [*]; done)), H', ⟨Nat.le_refl _⟩, ⟨by repeat (first | (with_reducible first | exact HB.out | apply below_alloc | apply pw_below_drewN | apply below_drew1) | exact HB.out)⟩⟩
     case round =>
      clear H'
      try clear c1
      try clear c2
      try clear p2
      try clear q2
      try clear hx2
      try clear c3
      try clear c5
      try clear c5b0
      try clear c6
      try clear c6b0
      try clear p6
      try clear c7
      try clear c7b0
      try clear c8
      try clear c8b0
      try clear c9
      try clear c9b0
      try clear c10
      try clear c10b0
      try clear c11
      try clear c11b0
      try clear c13
      try clear hx240_0
      try clear hx241_0
      try clear hx242_0
      try clear hx243_0
      try clear hx243_1
      try clear hx243_2
      try clear hx243_3
      try clear hx245_0
      try clear hx246_0
      try clear hx246_1
      try clear hx246_2
      try clear hx246_3
      try clear p2
      try clear p240
      try clear p241
      try clear p242
      try clear p243
      try clear p245
      try clear p246
      try clear q240
      try clear q241
      try clear q242
      try clear q243
      try clear q245
      try clear q246
      obtain ⟨x60_2, rfl, HA, HK2, HB⟩ := hrel
      cases gk with
      | zero => exact absurd HA.out (by simp [jacquardref30_Positive.l1])
      | succ k2 =>
       have H := HA.out
       clear HA
       simp only [jacquardref30_Positive.l1] at H
       by_cases c18 : x60_2 < (l3.length : Int)
       · rw [if_pos c18] at H
         have c18b0 : decide (x60_2 < (l3.length : Int)) = true := decide_eq_true c18
         clear c18
         by_cases c19 : (l3.length : Int) = 0
         · rw [if_pos c19] at H
           exact absurd H (by simp)
         · rw [if_neg c19] at H
           have c19b0 : ((l3.length : Int) == 0) = false := beq_eq_false_iff_ne.mpr c19
           have c19b1 : ((l3.length : Int) != 0) = true := bne_iff_ne.mpr c19
           have c19b2 : ¬ (l3 = []) := fun h_ => c19 (by rw [h_]; rfl)
           obtain ⟨ji20, hji20⟩ : ∃ j_ : Int, (Int.tmod (wrap64 (x60_2 + 1)) (l3.length : Int)) = j_ := ⟨_, rfl⟩
           replace H : (if 0 ≤ (ji20) then (if (ji20) < (l3.length : Int) then (if 0 ≤ x60_2 then (if x60_2 < (l3.length : Int) then (if 0 ≤ (rd l3 x60_2) then (if (rd l3 x60_2) < (l1.length : Int) then (if 0 ≤ (rd l3 (ji20)) then (if (rd l3 (ji20)) < (l1.length : Int) then (if ((rd_T28 l1 (rd l3 x60_2)).f1) = ((rd_T28 l1 (rd l3 (ji20))).f0) then (jacquardref30_Positive.l2 k2 l1 l3 x10_1 x60_2 (l3.length : Int) x60_2 x60_2 0) else (some (0, false))) else (none)) else (none)) else (none)) else (none)) else (none)) else (none)) else (none)) else (none)) = some (r1, r2) := by first | (rw [hji20] at H; exact H) | (simp only [hji20] at H ⊢; exact H)
           by_cases c21 : 0 ≤ (ji20)
           · rw [if_pos c21] at H
             have c21b0 : decide (0 ≤ (ji20)) = true := decide_eq_true c21
             clear c21
             by_cases c22 : (ji20) < (l3.length : Int)
             · rw [if_pos c22] at H
               have c22b0 : decide ((ji20) < (l3.length : Int)) = true := decide_eq_true c22
               clear c22
               by_cases c23 : 0 ≤ x60_2
               · rw [if_pos c23] at H
                 have c23b0 : decide (0 ≤ x60_2) = true := decide_eq_true c23
                 clear c23
                 by_cases c24 : x60_2 < (l3.length : Int)
                 · rw [if_pos c24] at H
                   have c24b0 : decide (x60_2 < (l3.length : Int)) = true := decide_eq_true c24
                   clear c24
                   by_cases c25 : 0 ≤ (rd l3 x60_2)
                   · rw [if_pos c25] at H
                     have c25b0 : decide (0 ≤ (rd l3 x60_2)) = true := decide_eq_true c25
                     clear c25
                     by_cases c26 : (rd l3 x60_2) < (l1.length : Int)
                     · rw [if_pos c26] at H
                       have c26b0 : decide ((rd l3 x60_2) < (l1.length : Int)) = true := decide_eq_true c26
                       clear c26
                       by_cases c27 : 0 ≤ (rd l3 (ji20))
                       · rw [if_pos c27] at H
                         have c27b0 : decide (0 ≤ (rd l3 (ji20))) = true := decide_eq_true c27
                         clear c27
                         by_cases c28 : (rd l3 (ji20)) < (l1.length : Int)
                         · rw [if_pos c28] at H
                           have c28b0 : decide ((rd l3 (ji20)) < (l1.length : Int)) = true := decide_eq_true c28
                           clear c28
                           by_cases c29 : ((rd_T28 l1 (rd l3 x60_2)).f1) = ((rd_T28 l1 (rd l3 (ji20))).f0)
                           · rw [if_pos c29] at H
                             have c29b0 : (((rd_T28 l1 (rd l3 x60_2)).f1) == ((rd_T28 l1 (rd l3 (ji20))).f0)) = true := beq_iff_eq.mpr c29
                             have c29b1 : (((rd_T28 l1 (rd l3 x60_2)).f1) != ((rd_T28 l1 (rd l3 (ji20))).f0)) = false := bne_eq_false_iff_eq.mpr c29
                             clear c29
                             have H' := Aside0.mk H
                             clear H
                             have p248 : 0 ≤ ((ji20) : Int) := of_decide_eq_true (by first | (with_reducible assumption) | assumption)
                             have q248 : (ji20) < (l3.length : Int) := of_decide_eq_true (by first | (with_reducible assumption) | assumption)
                             obtain ⟨ad248, e248, hx248_0⟩ := Kd.at_int HR3.out (ji20) p248 q248
                             cases e248
                             replace hx248_0 := (HB.out.cell (World.block_lt_of_cell? w _ hx248_0)).trans hx248_0
                             replace p248 := eq_true p248
                             replace q248 := eq_true q248
                             have p249 : 0 ≤ (x60_2 : Int) := of_decide_eq_true (by first | (with_reducible assumption) | assumption)
                             have q249 : x60_2 < (l3.length : Int) := of_decide_eq_true (by first | (with_reducible assumption) | assumption)
                             obtain ⟨ad249, e249, hx249_0⟩ := Kd.at_int HR3.out x60_2 p249 q249
                             obtain rfl : ad248 = ad249 := (by injection e249)
                             replace hx249_0 := (HB.out.cell (World.block_lt_of_cell? w _ hx249_0)).trans hx249_0
                             replace p249 := eq_true p249
                             replace q249 := eq_true q249
                             have p250 : 0 ≤ ((rd l3 x60_2) : Int) := of_decide_eq_true (by first | (with_reducible assumption) | assumption)
                             have q250 : (rd l3 x60_2) < (l1.length : Int) := of_decide_eq_true (by first | (with_reducible assumption) | assumption)
                             obtain ⟨ad250, e250, hx250_0, hx250_1, hx250_2, hx250_3⟩ := at_T28 HR1.out (rd l3 x60_2) p250 q250
                             cases e250
                             replace hx250_0 := (HB.out.cell (World.block_lt_of_cell? w _ hx250_0)).trans hx250_0
                             replace hx250_1 := (HB.out.cell (World.block_lt_of_cell? w _ hx250_1)).trans hx250_1
                             replace hx250_2 := (HB.out.cell (World.block_lt_of_cell? w _ hx250_2)).trans hx250_2
                             replace hx250_3 := (HB.out.cell (World.block_lt_of_cell? w _ hx250_3)).trans hx250_3
                             replace p250 := eq_true p250
                             replace q250 := eq_true q250
                             have p251 : 0 ≤ ((rd l3 (ji20)) : Int) := of_decide_eq_true (by first | (with_reducible assumption) | assumption)
                             have q251 : (rd l3 (ji20)) < (l1.length : Int) := of_decide_eq_true (by first | (with_reducible assumption) | assumption)
                             obtain ⟨ad251, e251, hx251_0, hx251_1, hx251_2, hx251_3⟩ := at_T28 HR1.out (rd l3 (ji20)) p251 q251
                             obtain rfl : ad250 = ad251 := (by injection e251)
                             replace hx251_0 := (HB.out.cell (World.block_lt_of_cell? w _ hx251_0)).trans hx251_0
                             replace hx251_1 := (HB.out.cell (World.block_lt_of_cell? w _ hx251_1)).trans hx251_1
                             replace hx251_2 := (HB.out.cell (World.block_lt_of_cell? w _ hx251_2)).trans hx251_2
                             replace hx251_3 := (HB.out.cell (World.block_lt_of_cell? w _ hx251_3)).trans hx251_3
                             replace p251 := eq_true p251
                             replace q251 := eq_true q251
                             go_wp2
                             repeat (go_quiet (fail); try go_wp2)
                             go_loopg [86] k2 (fun kq v86 w' => ∃ (x86_3 : Int), v86 = .int .i64 x86_3 ∧ Aside0 (jacquardref30_Positive.l2 kq l1 l3 x10_1 x60_2 (l3.length : Int) x60_2 x60_2 x86_3 = some (r1, r2)) ∧ Aside0 (kq ≤ k2) ∧ Aside0 (Below w.heap.size w w'))
                             case atStart => exact ⟨(0), (by first | rfl | (simp; done) | (simp [*]; done)), H', ⟨Nat.le_refl _⟩, ⟨by repeat (first | (with_reducible first | exact HB.out | apply below_alloc | apply pw_below_drewN | apply below_drew1) | exact HB.out)⟩⟩
                             case round =>
                              clear H'
                              try clear c1
                              try clear c2
                              try clear p2
                              try clear q2
                              try clear hx2
                              try clear c3
                              try clear c5
                              try clear c5b0
                              try clear c6
                              try clear c6b0
                              try clear p6
                              try clear c7
                              try clear c7b0
                              try clear c8
                              try clear c8b0
                              try clear c9
                              try clear c9b0
                              try clear c10
                              try clear c10b0
                              try clear c11
                              try clear c11b0
                              try clear c13
                              try clear c18
                              try clear c18b0
                              try clear c19
                              try clear c19b0
                              try clear c19b1
                              try clear c19b2
                              try clear c21
                              try clear c21b0
                              try clear c22
                              try clear c22b0
                              try clear c23
                              try clear c23b0
                              try clear c24
                              try clear c24b0
                              try clear p24
                              try clear q24
                              try clear hx24
                              try clear c25
                              try clear c25b0
                              try clear p25
                              try clear q25
                              try clear hx25
                              try clear c26
                              try clear c26b0
                              try clear c27
                              try clear c27b0
                              try clear c28
                              try clear c28b0
                              try clear c29
                              try clear c29b0
                              try clear c29b1
                              try clear hx240_0
                              try clear hx241_0
                              try clear hx242_0
                              try clear hx243_0
                              try clear hx243_1
                              try clear hx243_2
                              try clear hx243_3
                              try clear hx245_0
                              try clear hx246_0
                              try clear hx246_1
                              try clear hx246_2
                              try clear hx246_3
                              try clear hx248_0
                              try clear hx249_0
                              try clear hx250_0
                              try clear hx250_1
                              try clear hx250_2
                              try clear hx250_3
                              try clear hx251_0
                              try clear hx251_1
                              try clear hx251_2
                              try clear hx251_3
                              try clear p2
                              try clear p240
                              try clear p241
                              try clear p242
                              try clear p243
                              try clear p245
                              try clear p246
                              try clear p248
                              try clear p249
                              try clear p250
                              try clear p251
                              try clear p6
                              try clear q2
                              try clear q240
                              try clear q241
                              try clear q242
                              try clear q243
                              try clear q245
                              try clear q246
                              try clear q248
                              try clear q249
                              try clear q250
                              try clear q251
                              obtain ⟨x86_3, rfl, HA, HK3, HB⟩ := hrel
                              cases gk with
                              | zero => exact absurd HA.out (by simp [jacquardref30_Positive.l2])
                              | succ k3 =>
                               have H := HA.out
                               clear HA
                               simp only [jacquardref30_Positive.l2] at H
                               by_cases c30 : x86_3 < x60_2
                               · rw [if_pos c30] at H
                                 have c30b0 : decide (x86_3 < x60_2) = true := decide_eq_true c30
                                 clear c30
                                 by_cases c31 : 0 ≤ x86_3
                                 · rw [if_pos c31] at H
                                   have c31b0 : decide (0 ≤ x86_3) = true := decide_eq_true c31
                                   clear c31
                                   by_cases c32 : x86_3 < (l3.length : Int)
                                   · rw [if_pos c32] at H
                                     have c32b0 : decide (x86_3 < (l3.length : Int)) = true := decide_eq_true c32
                                     clear c32
                                     by_cases c33 : 0 ≤ (rd l3 x86_3)
                                     · rw [if_pos c33] at H
                                       have c33b0 : decide (0 ≤ (rd l3 x86_3)) = true := decide_eq_true c33
                                       clear c33
                                       by_cases c34 : (rd l3 x86_3) < (l1.length : Int)
                                       · rw [if_pos c34] at H
                                         have c34b0 : decide ((rd l3 x86_3) < (l1.length : Int)) = true := decide_eq_true c34
                                         clear c34
                                         by_cases c35 : 0 ≤ x60_2
                                         · rw [if_pos c35] at H
                                           have c35b0 : decide (0 ≤ x60_2) = true := decide_eq_true c35
                                           clear c35
                                           by_cases c36 : x60_2 < (l3.length : Int)
                                           · rw [if_pos c36] at H
                                             have c36b0 : decide (x60_2 < (l3.length : Int)) = true := decide_eq_true c36
                                             clear c36
                                             by_cases c37 : 0 ≤ (rd l3 x60_2)
                                             · rw [if_pos c37] at H
                                               have c37b0 : decide (0 ≤ (rd l3 x60_2)) = true := decide_eq_true c37
                                               clear c37
                                               by_cases c38 : (rd l3 x60_2) < (l1.length : Int)
                                               · rw [if_pos c38] at H
                                                 have c38b0 : decide ((rd l3 x60_2) < (l1.length : Int)) = true := decide_eq_true c38
                                                 clear c38
                                                 by_cases c39 : ((rd_T28 l1 (rd l3 x86_3)).f0) = ((rd_T28 l1 (rd l3 x60_2)).f0)
                                                 · rw [if_pos c39] at H
                                                   have c39b0 : (((rd_T28 l1 (rd l3 x86_3)).f0) == ((rd_T28 l1 (rd l3 x60_2)).f0)) = true := beq_iff_eq.mpr c39
                                                   have c39b1 : (((rd_T28 l1 (rd l3 x86_3)).f0) != ((rd_T28 l1 (rd l3 x60_2)).f0)) = false := bne_eq_false_iff_eq.mpr c39
                                                   clear c39
                                                   simp only [Option.some.injEq, Prod.mk.injEq] at H
                                                   obtain ⟨rfl, rfl⟩ := H
                                                   have p252 : 0 ≤ (x86_3 : Int) := of_decide_eq_true (by first | (with_reducible assumption) | assumption)
                                                   have q252 : x86_3 < (l3.length : Int) := of_decide_eq_true (by first | (with_reducible assumption) | assumption)
                                                   obtain ⟨ad252, e252, hx252_0⟩ := Kd.at_int HR3.out x86_3 p252 q252
                                                   obtain rfl : ad248 = ad252 := (by injection e252)
                                                   replace hx252_0 := (HB.out.cell (World.block_lt_of_cell? w _ hx252_0)).trans hx252_0
                                                   replace p252 := eq_true p252
                                                   replace q252 := eq_true q252
                                                   have p253 : 0 ≤ ((rd l3 x86_3) : Int) := of_decide_eq_true (by first | (with_reducible assumption) | assumption)
                                                   have q253 : (rd l3 x86_3) < (l1.length : Int) := of_decide_eq_true (by first | (with_reducible assumption) | assumption)
                                                   obtain ⟨ad253, e253, hx253_0, hx253_1, hx253_2, hx253_3⟩ := at_T28 HR1.out (rd l3 x86_3) p253 q253
                                                   obtain rfl : ad250 = ad253 := (by injection e253)
                                                   replace hx253_0 := (HB.out.cell (World.block_lt_of_cell? w _ hx253_0)).trans hx253_0
                                                   replace hx253_1 := (HB.out.cell (World.block_lt_of_cell? w _ hx253_1)).trans hx253_1
                                                   replace hx253_2 := (HB.out.cell (World.block_lt_of_cell? w _ hx253_2)).trans hx253_2
                                                   replace hx253_3 := (HB.out.cell (World.block_lt_of_cell? w _ hx253_3)).trans hx253_3
                                                   replace p253 := eq_true p253
                                                   replace q253 := eq_true q253
                                                   have p254 : 0 ≤ (x60_2 : Int) := of_decide_eq_true (by first | (with_reducible assumption) | assumption)
                                                   have q254 : x60_2 < (l3.length : Int) := of_decide_eq_true (by first | (with_reducible assumption) | assumption)
                                                   obtain ⟨ad254, e254, hx254_0⟩ := Kd.at_int HR3.out x60_2 p254 q254
                                                   obtain rfl : ad248 = ad254 := (by injection e254)
                                                   replace hx254_0 := (HB.out.cell (World.block_lt_of_cell? w _ hx254_0)).trans hx254_0
                                                   replace p254 := eq_true p254
                                                   replace q254 := eq_true q254
                                                   have p255 : 0 ≤ ((rd l3 x60_2) : Int) := of_decide_eq_true (by first | (with_reducible assumption) | assumption)
                                                   have q255 : (rd l3 x60_2) < (l1.length : Int) := of_decide_eq_true (by first | (with_reducible assumption) | assumption)
                                                   obtain ⟨ad255, e255, hx255_0, hx255_1, hx255_2, hx255_3⟩ := at_T28 HR1.out (rd l3 x60_2) p255 q255
                                                   obtain rfl : ad250 = ad255 := (by injection e255)
                                                   replace hx255_0 := (HB.out.cell (World.block_lt_of_cell? w _ hx255_0)).trans hx255_0
                                                   replace hx255_1 := (HB.out.cell (World.block_lt_of_cell? w _ hx255_1)).trans hx255_1
                                                   replace hx255_2 := (HB.out.cell (World.block_lt_of_cell? w _ hx255_2)).trans hx255_2
                                                   replace hx255_3 := (HB.out.cell (World.block_lt_of_cell? w _ hx255_3)).trans hx255_3
                                                   replace p255 := eq_true p255
                                                   replace q255 := eq_true q255
                                                   go_wp2
                                                   repeat (go_quiet (fail); try go_wp2)
                                                   go_ret2
                                                   exact ⟨by first | rfl | (simp [errW_none, errW_some] <;> rfl) | (simp only [← hji20]; first | rfl | (simp [errW_none, errW_some] <;> rfl)) | (simp [*, errW_none, errW_some] <;> rfl), by repeat (first | (with_reducible first | exact HB.out | apply below_alloc | apply pw_below_drewN | apply below_drew1) | exact HB.out)⟩
                                                 · rw [if_neg c39] at H
                                                   have c39b0 : (((rd_T28 l1 (rd l3 x86_3)).f0) == ((rd_T28 l1 (rd l3 x60_2)).f0)) = false := beq_eq_false_iff_ne.mpr c39
                                                   have c39b1 : (((rd_T28 l1 (rd l3 x86_3)).f0) != ((rd_T28 l1 (rd l3 x60_2)).f0)) = true := bne_iff_ne.mpr c39
                                                   have H' := Aside0.mk H
                                                   clear H
                                                   have p252 : 0 ≤ (x86_3 : Int) := of_decide_eq_true (by first | (with_reducible assumption) | assumption)
                                                   have q252 : x86_3 < (l3.length : Int) := of_decide_eq_true (by first | (with_reducible assumption) | assumption)
                                                   obtain ⟨ad252, e252, hx252_0⟩ := Kd.at_int HR3.out x86_3 p252 q252
                                                   obtain rfl : ad248 = ad252 := (by injection e252)
                                                   replace hx252_0 := (HB.out.cell (World.block_lt_of_cell? w _ hx252_0)).trans hx252_0
                                                   replace p252 := eq_true p252
                                                   replace q252 := eq_true q252
                                                   have p253 : 0 ≤ ((rd l3 x86_3) : Int) := of_decide_eq_true (by first | (with_reducible assumption) | assumption)
                                                   have q253 : (rd l3 x86_3) < (l1.length : Int) := of_decide_eq_true (by first | (with_reducible assumption) | assumption)
                                                   obtain ⟨ad253, e253, hx253_0, hx253_1, hx253_2, hx253_3⟩ := at_T28 HR1.out (rd l3 x86_3) p253 q253
                                                   obtain rfl : ad250 = ad253 := (by injection e253)
                                                   replace hx253_0 := (HB.out.cell (World.block_lt_of_cell? w _ hx253_0)).trans hx253_0
                                                   replace hx253_1 := (HB.out.cell (World.block_lt_of_cell? w _ hx253_1)).trans hx253_1
                                                   replace hx253_2 := (HB.out.cell (World.block_lt_of_cell? w _ hx253_2)).trans hx253_2
                                                   replace hx253_3 := (HB.out.cell (World.block_lt_of_cell? w _ hx253_3)).trans hx253_3
                                                   replace p253 := eq_true p253
                                                   replace q253 := eq_true q253
                                                   have p254 : 0 ≤ (x60_2 : Int) := of_decide_eq_true (by first | (with_reducible assumption) | assumption)
                                                   have q254 : x60_2 < (l3.length : Int) := of_decide_eq_true (by first | (with_reducible assumption) | assumption)
                                                   obtain ⟨ad254, e254, hx254_0⟩ := Kd.at_int HR3.out x60_2 p254 q254
                                                   obtain rfl : ad248 = ad254 := (by injection e254)
                                                   replace hx254_0 := (HB.out.cell (World.block_lt_of_cell? w _ hx254_0)).trans hx254_0
                                                   replace p254 := eq_true p254
                                                   replace q254 := eq_true q254
                                                   have p255 : 0 ≤ ((rd l3 x60_2) : Int) := of_decide_eq_true (by first | (with_reducible assumption) | assumption)
                                                   have q255 : (rd l3 x60_2) < (l1.length : Int) := of_decide_eq_true (by first | (with_reducible assumption) | assumption)
                                                   obtain ⟨ad255, e255, hx255_0, hx255_1, hx255_2, hx255_3⟩ := at_T28 HR1.out (rd l3 x60_2) p255 q255
                                                   obtain rfl : ad250 = ad255 := (by injection e255)
                                                   replace hx255_0 := (HB.out.cell (World.block_lt_of_cell? w _ hx255_0)).trans hx255_0
                                                   replace hx255_1 := (HB.out.cell (World.block_lt_of_cell? w _ hx255_1)).trans hx255_1
                                                   replace hx255_2 := (HB.out.cell (World.block_lt_of_cell? w _ hx255_2)).trans hx255_2
                                                   replace hx255_3 := (HB.out.cell (World.block_lt_of_cell? w _ hx255_3)).trans hx255_3
                                                   replace p255 := eq_true p255
                                                   replace q255 := eq_true q255
                                                   go_wp2
                                                   repeat (go_quiet (fail); try go_wp2)
                                                   go_roundg k3
                                                   case measure => have := HK1.out; have := HK2.out; have := HK3.out; omega
                                                   case rel => exact ⟨(wrap64 (x86_3 + 1)), (by first | rfl | (simp; done) | (simp [*]; done)), H', ⟨by have := HK1.out; have := HK2.out; have := HK3.out; omega⟩, ⟨by repeat (first | (with_reducible first | exact HB.out | apply below_alloc | apply pw_below_drewN | apply below_drew1) | exact HB.out)⟩⟩
                                               · rw [if_neg c38] at H
                                                 exact absurd H (by simp)
                                             · rw [if_neg c37] at H
                                               exact absurd H (by simp)
                                           · rw [if_neg c36] at H
                                             exact absurd H (by simp)
                                         · rw [if_neg c35] at H
                                           exact absurd H (by simp)
                                       · rw [if_neg c34] at H
                                         exact absurd H (by simp)
                                     · rw [if_neg c33] at H
                                       exact absurd H (by simp)
                                   · rw [if_neg c32] at H
                                     exact absurd H (by simp)
                                 · rw [if_neg c31] at H
                                   exact absurd H (by simp)
                               · rw [if_neg c30] at H
                                 have c30b0 : decide (x86_3 < x60_2) = false := decide_eq_false c30
                                 clear c30
                                 have H' := Aside0.mk H
                                 clear H
                                 go_wp2
                                 repeat (go_quiet (fail); try go_wp2)
                                 go_roundg k3
                                 case measure => have := HK1.out; have := HK2.out; have := HK3.out; omega
                                 case rel => exact ⟨(wrap64 (x60_2 + 1)), (by first | rfl | (simp; done) | (simp [*]; done)), H', ⟨by have := HK1.out; have := HK2.out; have := HK3.out; omega⟩, ⟨by repeat (first | (with_reducible first | exact HB.out | apply below_alloc | apply pw_below_drewN | apply below_drew1) | exact HB.out)⟩⟩
                           · rw [if_neg c29] at H
                             have c29b0 : (((rd_T28 l1 (rd l3 x60_2)).f1) == ((rd_T28 l1 (rd l3 (ji20))).f0)) = false := beq_eq_false_iff_ne.mpr c29
                             have c29b1 : (((rd_T28 l1 (rd l3 x60_2)).f1) != ((rd_T28 l1 (rd l3 (ji20))).f0)) = true := bne_iff_ne.mpr c29
                             simp only [Option.some.injEq, Prod.mk.injEq] at H
                             obtain ⟨rfl, rfl⟩ := H
                             have p248 : 0 ≤ ((ji20) : Int) := of_decide_eq_true (by first | (with_reducible assumption) | assumption)
                             have q248 : (ji20) < (l3.length : Int) := of_decide_eq_true (by first | (with_reducible assumption) | assumption)
                             obtain ⟨ad248, e248, hx248_0⟩ := Kd.at_int HR3.out (ji20) p248 q248
                             cases e248
                             replace hx248_0 := (HB.out.cell (World.block_lt_of_cell? w _ hx248_0)).trans hx248_0
                             replace p248 := eq_true p248
                             replace q248 := eq_true q248
                             have p249 : 0 ≤ (x60_2 : Int) := of_decide_eq_true (by first | (with_reducible assumption) | assumption)
                             have q249 : x60_2 < (l3.length : Int) := of_decide_eq_true (by first | (with_reducible assumption) | assumption)
                             obtain ⟨ad249, e249, hx249_0⟩ := Kd.at_int HR3.out x60_2 p249 q249
                             obtain rfl : ad248 = ad249 := (by injection e249)
                             replace hx249_0 := (HB.out.cell (World.block_lt_of_cell? w _ hx249_0)).trans hx249_0
                             replace p249 := eq_true p249
                             replace q249 := eq_true q249
                             have p250 : 0 ≤ ((rd l3 x60_2) : Int) := of_decide_eq_true (by first | (with_reducible assumption) | assumption)
                             have q250 : (rd l3 x60_2) < (l1.length : Int) := of_decide_eq_true (by first | (with_reducible assumption) | assumption)
                             obtain ⟨ad250, e250, hx250_0, hx250_1, hx250_2, hx250_3⟩ := at_T28 HR1.out (rd l3 x60_2) p250 q250
                             cases e250
                             replace hx250_0 := (HB.out.cell (World.block_lt_of_cell? w _ hx250_0)).trans hx250_0
                             replace hx250_1 := (HB.out.cell (World.block_lt_of_cell? w _ hx250_1)).trans hx250_1
                             replace hx250_2 := (HB.out.cell (World.block_lt_of_cell? w _ hx250_2)).trans hx250_2
                             replace hx250_3 := (HB.out.cell (World.block_lt_of_cell? w _ hx250_3)).trans hx250_3
                             replace p250 := eq_true p250
                             replace q250 := eq_true q250
                             have p251 : 0 ≤ ((rd l3 (ji20)) : Int) := of_decide_eq_true (by first | (with_reducible assumption) | assumption)
                             have q251 : (rd l3 (ji20)) < (l1.length : Int) := of_decide_eq_true (by first | (with_reducible assumption) | assumption)
                             obtain ⟨ad251, e251, hx251_0, hx251_1, hx251_2, hx251_3⟩ := at_T28 HR1.out (rd l3 (ji20)) p251 q251
                             obtain rfl : ad250 = ad251 := (by injection e251)
                             replace hx251_0 := (HB.out.cell (World.block_lt_of_cell? w _ hx251_0)).trans hx251_0
                             replace hx251_1 := (HB.out.cell (World.block_lt_of_cell? w _ hx251_1)).trans hx251_1
                             replace hx251_2 := (HB.out.cell (World.block_lt_of_cell? w _ hx251_2)).trans hx251_2
                             replace hx251_3 := (HB.out.cell (World.block_lt_of_cell? w _ hx251_3)).trans hx251_3
                             replace p251 := eq_true p251
                             replace q251 := eq_true q251
                             go_wp2
                             repeat (go_quiet (fail); try go_wp2)
                             go_ret2
                             exact ⟨by first | rfl | (simp [errW_none, errW_some] <;> rfl) | (simp only [← hji20]; first | rfl | (simp [errW_none, errW_some] <;> rfl)) | (simp [*, errW_none, errW_some] <;> rfl), by repeat (first | (with_reducible first | exact HB.out | apply below_alloc | apply pw_below_drewN | apply below_drew1) | exact HB.out)⟩
                         · rw [if_neg c28] at H
                           exact absurd H (by simp)
                       · rw [if_neg c27] at H
                         exact absurd H (by simp)
                     · rw [if_neg c26] at H
                       exact absurd H (by simp)
                   · rw [if_neg c25] at H
                     exact absurd H (by simp)
                 · rw [if_neg c24] at H
                   exact absurd H (by simp)
               · rw [if_neg c23] at H
                 exact absurd H (by simp)
             · rw [if_neg c22] at H
               exact absurd H (by simp)
           · rw [if_neg c21] at H
             exact absurd H (by simp)
       · rw [if_neg c18] at H
         have c18b0 : decide (x60_2 < (l3.length : Int)) = false := decide_eq_false c18
         clear c18
         simp only [Option.some.injEq, Prod.mk.injEq] at H
         obtain ⟨rfl, rfl⟩ := H
         go_wp2
         repeat (go_quiet (fail); try go_wp2)
         go_ret2
         exact ⟨by first | rfl | (simp [errW_none, errW_some] <;> rfl) | (simp [*, errW_none, errW_some] <;> rfl), by repeat (first | (with_reducible first | exact HB.out | apply below_alloc | apply pw_below_drewN | apply below_drew1) | exact HB.out)⟩
def jacquardlaw30_refused.f (k : Nat) (a0_0 : Int) (l0_1 : List (S28)) (a0_2 : Int) (l1 : List Int) (l2 : List Int) : Option (Bool) := (jacquardref30_Positive.f k a0_0 l0_1 a0_2 l2).bind fun bt257 => ((diffcons_Positive.f a0_0 l0_1 a0_2 l2).bind fun bt259 => (if (l1.length : Int) = 0 then (if bt257.2 = true then (if bt259.2 = true then (some (decide (bt259.1 > 0))) else (some false)) else (some false)) else (some false)))
set_option maxHeartbeats 8000000 in set_option maxRecDepth 100000 in theorem jacquardlaw30_refused.calls (k : Nat) (a0_0 : Int) (A0_1 : Option Addr) (c0_1 : Nat) (l0_1 : List (S28)) (a0_2 : Int) (A1 : Option Addr) (c1 : Nat) (l1 : List Int) (A2 : Option Addr) (c2 : Nat) (l2 : List Int) (r : Bool) (w : World) (hr0_1 : Kd.C k28 w A0_1 l0_1.length l0_1) (hc0_1 : l0_1.length ≤ c0_1) (hr1 : Kd.C (Kd.int .i64) w A1 l1.length l1) (hc1 : l1.length ≤ c1) (hr2 : Kd.C (Kd.int .i64) w A2 l2.length l2) (hc2 : l2.length ≤ c2) (h : jacquardlaw30_refused.f k a0_0 l0_1 a0_2 l1 l2 = some r) :
 Calls Try.prog 15 #[.agg #[.int .i64 a0_0, .slice A0_1 l0_1.length c0_1, .int .i64 a0_2], .slice A1 l1.length c1, .slice A2 l2.length c2] w fun e w' => e = .returned (.bool r) ∧ Below w.heap.size w w' := by
 have hu24 := Try.underlying24
 have HR0_1 := Aside0.mk hr0_1
 have HC0_1 := Aside0.mk hc0_1
 clear hr0_1 hc0_1
 have HR1 := Aside0.mk hr1
 have HC1 := Aside0.mk hc1
 clear hr1 hc1
 have HR2 := Aside0.mk hr2
 have HC2 := Aside0.mk hc2
 clear hr2 hc2
 have HB := Aside0.mk (Below.refl w.heap.size w)
 have H : ((jacquardref30_Positive.f k a0_0 l0_1 a0_2 l2).bind fun bt257 => ((diffcons_Positive.f a0_0 l0_1 a0_2 l2).bind fun bt259 => (if (l1.length : Int) = 0 then (if bt257.2 = true then (if bt259.2 = true then (some (decide (bt259.1 > 0))) else (some false)) else (some false)) else (some false)))) = some r := h
 clear h
 replace H := Option.bind_eq_some_iff.mp H
 obtain ⟨⟨t257, t258⟩, A40, H⟩ := H
 replace H : ((diffcons_Positive.f a0_0 l0_1 a0_2 l2).bind fun bt259 => (if (l1.length : Int) = 0 then (if t258 = true then (if bt259.2 = true then (some (decide (bt259.1 > 0))) else (some false)) else (some false)) else (some false))) = some r := H
 have A4 := Aside0.mk A40
 clear A40
 replace H := Option.bind_eq_some_iff.mp H
 obtain ⟨⟨t259, t260⟩, A50, H⟩ := H
 replace H : (if (l1.length : Int) = 0 then (if t258 = true then (if t260 = true then (some (decide (t259 > 0))) else (some false)) else (some false)) else (some false)) = some r := H
 have A5 := Aside0.mk A50
 clear A50
 by_cases c6 : (l1.length : Int) = 0
 · rw [if_pos c6] at H
   have c6b0 : ((l1.length : Int) == 0) = true := beq_iff_eq.mpr c6
   have c6b1 : ((l1.length : Int) != 0) = false := bne_eq_false_iff_eq.mpr c6
   clear c6
   by_cases c7 : t258 = true
   · subst c7
     have H1 : (if t260 = true then (some (decide (t259 > 0))) else (some false)) = some r := by rw [if_pos rfl] at H; exact H
     clear H
     have H := H1
     clear H1
     by_cases c8 : t260 = true
     · subst c8
       have H1 : (some (decide (t259 > 0))) = some r := by rw [if_pos rfl] at H; exact H
       clear H
       have H := H1
       clear H1
       obtain rfl := Option.some.inj H
       go_enter Try.func15, Try.ntmps15
       go_wp2_with (first | ((with_reducible refine gate_dst (N := 3) rfl ?_); refine box_event ?hg (N := 3) ?hd (cs := #[.int .i64 a0_0, .slice A0_1 l0_1.length c0_1, .int .i64 a0_2]) (t := 24) ?hr ?_; (case hd => rfl); (case hg => rfl); (case hr => first | (go_simp; done) | (go_simp; rfl)); intro gb256 hg w9 hbox hb; have n0_ := Aside0.mk (below_step (by repeat (first | (with_reducible first | exact HB.out | apply below_alloc | apply pw_below_drewN | apply below_drew1) | exact HB.out)) hb); have n1_ := Aside0.mk (hbox); have n2_ := Aside0.mk ((by rw [hg]; exact (below_size (by repeat (first | (with_reducible first | exact HB.out | apply below_alloc | apply pw_below_drewN | apply below_drew1) | exact HB.out))) : w.heap.size ≤ gb256)); have n3_ := Aside0.mk ((by rw [hg]; exact (below_size (by repeat (first | (with_reducible first | exact HB.out | apply below_alloc | apply pw_below_drewN | apply below_drew1) | exact HB.out))) : w.heap.size ≤ gb256)); clear HB; have HB := n0_; have BK256 := n1_; have GW256 := n2_; have GE256 := n3_; clear n0_ n1_ n2_ n3_; clear hb hbox hg; have hcz10_0 : w9.cell? ⟨gb256, 0, none⟩ = some (.int .i64 a0_0) := (blk_cell BK256.out 0).trans rfl; have hcz10_1 : w9.cell? ⟨gb256, 1, none⟩ = some (.slice A0_1 l0_1.length c0_1) := (blk_cell BK256.out 1).trans rfl; have hcz10_2 : w9.cell? ⟨gb256, 2, none⟩ = some (.int .i64 a0_2) := (blk_cell BK256.out 2).trans rfl; have hfz10_0 := blk_frozen BK256.out 0; have hfz10_1 := blk_frozen BK256.out 1; have hfz10_2 := blk_frozen BK256.out 2) | ((with_reducible refine gate_callee (f := 26) rfl ?_); refine goesL_ (some 19) rfl rfl Try.func26 (by kernel_rfl) rfl #[.int .i64 a0_0, .slice A0_1 l0_1.length c0_1, .int .i64 a0_2, .slice A2 l2.length c2] rfl (by (try simp only [List.map_toArray, List.map_cons, List.map_nil]); first | done | rfl | (simp only [List.length_drop, List.length_take]; rfl)) ?_; (with_reducible refine (jacquardref30_Positive.calls k a0_0 _ _ l0_1 a0_2 _ _ l2 t257 true _ ?side1 ?side2 ?side3 ?side4 A4.out).mono ?_); (case side1 => repeat (first | exact (Kd.C_below HR0_1.out HB.out) | (with_reducible refine Kd.C_alloc ?_ _) | (with_reducible refine Kd.C_drewN ?_ _) | (with_reducible refine Kd.C_drew ?_))); (case side2 => exact HC0_1.out); (case side3 => repeat (first | exact (Kd.C_below HR2.out HB.out) | (with_reducible refine Kd.C_alloc ?_ _) | (with_reducible refine Kd.C_drewN ?_ _) | (with_reducible refine Kd.C_drew ?_))); (case side4 => exact HC2.out); rintro e w11 ⟨rfl, hb⟩; refine ⟨_, rfl, ?_⟩; have n0_ := Aside0.mk (blk_below (g := gb256) (o := .cells #[.int .i64 a0_0, .slice A0_1 l0_1.length c0_1, .int .i64 a0_2] 24 (0, 0)) (by (with_reducible repeat (first | refine blk_drewN ?_ _ | refine blk_drew ?_ | refine blk_alloc ?_ _)); exact BK256.out) hb); have n1_ := Aside0.mk (below_step (by repeat (first | (with_reducible first | exact HB.out | apply below_alloc | apply pw_below_drewN | apply below_drew1 | refine below_set ?_ GE256.out) | exact HB.out)) hb); clear BK256; clear HB; have BK256 := n0_; have HB := n1_; clear n0_ n1_; (try clear hb); (try clear hb2); (try clear hk); (try clear hi); have hcz12_0 : w11.cell? ⟨gb256, 0, none⟩ = some (.int .i64 a0_0) := (blk_cell BK256.out 0).trans rfl; have hcz12_1 : w11.cell? ⟨gb256, 1, none⟩ = some (.slice A0_1 l0_1.length c0_1) := (blk_cell BK256.out 1).trans rfl; have hcz12_2 : w11.cell? ⟨gb256, 2, none⟩ = some (.int .i64 a0_2) := (blk_cell BK256.out 2).trans rfl; have hfz12_0 := blk_frozen BK256.out 0; have hfz12_1 := blk_frozen BK256.out 1; have hfz12_2 := blk_frozen BK256.out 2) | ((with_reducible refine gate_callee (f := 25) rfl ?_); refine goesL_ (some 30) rfl rfl Try.func25 (by kernel_rfl) rfl #[.int .i64 a0_0, .slice A0_1 l0_1.length c0_1, .int .i64 a0_2, .slice A2 l2.length c2] rfl (by (try simp only [List.map_toArray, List.map_cons, List.map_nil]); first | done | rfl | (simp only [List.length_drop, List.length_take]; rfl)) ?_; (with_reducible refine (diffcons_Positive.calls a0_0 _ _ l0_1 a0_2 _ _ l2 t259 true _ ?side1 ?side2 ?side3 ?side4 A5.out).mono ?_); (case side1 => repeat (first | exact (Kd.C_below HR0_1.out HB.out) | (with_reducible refine Kd.C_alloc ?_ _) | (with_reducible refine Kd.C_drewN ?_ _) | (with_reducible refine Kd.C_drew ?_))); (case side2 => exact HC0_1.out); (case side3 => repeat (first | exact (Kd.C_below HR2.out HB.out) | (with_reducible refine Kd.C_alloc ?_ _) | (with_reducible refine Kd.C_drewN ?_ _) | (with_reducible refine Kd.C_drew ?_))); (case side4 => exact HC2.out); rintro e w13 ⟨rfl, hb⟩; refine ⟨_, rfl, ?_⟩; have n0_ := Aside0.mk (blk_below (g := gb256) (o := .cells #[.int .i64 a0_0, .slice A0_1 l0_1.length c0_1, .int .i64 a0_2] 24 (0, 0)) (by (with_reducible repeat (first | refine blk_drewN ?_ _ | refine blk_drew ?_ | refine blk_alloc ?_ _)); exact BK256.out) hb); have n1_ := Aside0.mk (below_step (by repeat (first | (with_reducible first | exact HB.out | apply below_alloc | apply pw_below_drewN | apply below_drew1 | refine below_set ?_ GE256.out) | exact HB.out)) hb); clear BK256; clear HB; have BK256 := n0_; have HB := n1_; clear n0_ n1_; (try clear hb); (try clear hb2); (try clear hk); (try clear hi)))
       go_ret
       exact ⟨by first | rfl | (simp [errW_none, errW_some] <;> rfl) | (simp [*, errW_none, errW_some] <;> rfl), by repeat (first | (with_reducible first | exact HB.out | apply below_alloc | apply pw_below_drewN | apply below_drew1 | refine below_set ?_ GE256.out) | exact HB.out)⟩
     · replace c8 := Bool.eq_false_iff.mpr c8
       subst c8
       have H1 : (some false) = some r := by rw [if_neg (show ¬ (false = true) by decide)] at H; exact H
       clear H
       have H := H1
       clear H1
       obtain rfl := Option.some.inj H
       go_enter Try.func15, Try.ntmps15
       go_wp2_with (first | ((with_reducible refine gate_dst (N := 3) rfl ?_); refine box_event ?hg (N := 3) ?hd (cs := #[.int .i64 a0_0, .slice A0_1 l0_1.length c0_1, .int .i64 a0_2]) (t := 24) ?hr ?_; (case hd => rfl); (case hg => rfl); (case hr => first | (go_simp; done) | (go_simp; rfl)); intro gb256 hg w14 hbox hb; have n0_ := Aside0.mk (below_step (by repeat (first | (with_reducible first | exact HB.out | apply below_alloc | apply pw_below_drewN | apply below_drew1) | exact HB.out)) hb); have n1_ := Aside0.mk (hbox); have n2_ := Aside0.mk ((by rw [hg]; exact (below_size (by repeat (first | (with_reducible first | exact HB.out | apply below_alloc | apply pw_below_drewN | apply below_drew1) | exact HB.out))) : w.heap.size ≤ gb256)); have n3_ := Aside0.mk ((by rw [hg]; exact (below_size (by repeat (first | (with_reducible first | exact HB.out | apply below_alloc | apply pw_below_drewN | apply below_drew1) | exact HB.out))) : w.heap.size ≤ gb256)); clear HB; have HB := n0_; have BK256 := n1_; have GW256 := n2_; have GE256 := n3_; clear n0_ n1_ n2_ n3_; clear hb hbox hg; have hcz15_0 : w14.cell? ⟨gb256, 0, none⟩ = some (.int .i64 a0_0) := (blk_cell BK256.out 0).trans rfl; have hcz15_1 : w14.cell? ⟨gb256, 1, none⟩ = some (.slice A0_1 l0_1.length c0_1) := (blk_cell BK256.out 1).trans rfl; have hcz15_2 : w14.cell? ⟨gb256, 2, none⟩ = some (.int .i64 a0_2) := (blk_cell BK256.out 2).trans rfl; have hfz15_0 := blk_frozen BK256.out 0; have hfz15_1 := blk_frozen BK256.out 1; have hfz15_2 := blk_frozen BK256.out 2) | ((with_reducible refine gate_callee (f := 26) rfl ?_); refine goesL_ (some 19) rfl rfl Try.func26 (by kernel_rfl) rfl #[.int .i64 a0_0, .slice A0_1 l0_1.length c0_1, .int .i64 a0_2, .slice A2 l2.length c2] rfl (by (try simp only [List.map_toArray, List.map_cons, List.map_nil]); first | done | rfl | (simp only [List.length_drop, List.length_take]; rfl)) ?_; (with_reducible refine (jacquardref30_Positive.calls k a0_0 _ _ l0_1 a0_2 _ _ l2 t257 true _ ?side1 ?side2 ?side3 ?side4 A4.out).mono ?_); (case side1 => repeat (first | exact (Kd.C_below HR0_1.out HB.out) | (with_reducible refine Kd.C_alloc ?_ _) | (with_reducible refine Kd.C_drewN ?_ _) | (with_reducible refine Kd.C_drew ?_))); (case side2 => exact HC0_1.out); (case side3 => repeat (first | exact (Kd.C_below HR2.out HB.out) | (with_reducible refine Kd.C_alloc ?_ _) | (with_reducible refine Kd.C_drewN ?_ _) | (with_reducible refine Kd.C_drew ?_))); (case side4 => exact HC2.out); rintro e w16 ⟨rfl, hb⟩; refine ⟨_, rfl, ?_⟩; have n0_ := Aside0.mk (blk_below (g := gb256) (o := .cells #[.int .i64 a0_0, .slice A0_1 l0_1.length c0_1, .int .i64 a0_2] 24 (0, 0)) (by (with_reducible repeat (first | refine blk_drewN ?_ _ | refine blk_drew ?_ | refine blk_alloc ?_ _)); exact BK256.out) hb); have n1_ := Aside0.mk (below_step (by repeat (first | (with_reducible first | exact HB.out | apply below_alloc | apply pw_below_drewN | apply below_drew1 | refine below_set ?_ GE256.out) | exact HB.out)) hb); clear BK256; clear HB; have BK256 := n0_; have HB := n1_; clear n0_ n1_; (try clear hb); (try clear hb2); (try clear hk); (try clear hi); have hcz17_0 : w16.cell? ⟨gb256, 0, none⟩ = some (.int .i64 a0_0) := (blk_cell BK256.out 0).trans rfl; have hcz17_1 : w16.cell? ⟨gb256, 1, none⟩ = some (.slice A0_1 l0_1.length c0_1) := (blk_cell BK256.out 1).trans rfl; have hcz17_2 : w16.cell? ⟨gb256, 2, none⟩ = some (.int .i64 a0_2) := (blk_cell BK256.out 2).trans rfl; have hfz17_0 := blk_frozen BK256.out 0; have hfz17_1 := blk_frozen BK256.out 1; have hfz17_2 := blk_frozen BK256.out 2) | ((with_reducible refine gate_callee (f := 25) rfl ?_); refine goesL_ (some 30) rfl rfl Try.func25 (by kernel_rfl) rfl #[.int .i64 a0_0, .slice A0_1 l0_1.length c0_1, .int .i64 a0_2, .slice A2 l2.length c2] rfl (by (try simp only [List.map_toArray, List.map_cons, List.map_nil]); first | done | rfl | (simp only [List.length_drop, List.length_take]; rfl)) ?_; (with_reducible refine (diffcons_Positive.calls a0_0 _ _ l0_1 a0_2 _ _ l2 t259 false _ ?side1 ?side2 ?side3 ?side4 A5.out).mono ?_); (case side1 => repeat (first | exact (Kd.C_below HR0_1.out HB.out) | (with_reducible refine Kd.C_alloc ?_ _) | (with_reducible refine Kd.C_drewN ?_ _) | (with_reducible refine Kd.C_drew ?_))); (case side2 => exact HC0_1.out); (case side3 => repeat (first | exact (Kd.C_below HR2.out HB.out) | (with_reducible refine Kd.C_alloc ?_ _) | (with_reducible refine Kd.C_drewN ?_ _) | (with_reducible refine Kd.C_drew ?_))); (case side4 => exact HC2.out); rintro e w18 ⟨rfl, hb⟩; refine ⟨_, rfl, ?_⟩; have n0_ := Aside0.mk (blk_below (g := gb256) (o := .cells #[.int .i64 a0_0, .slice A0_1 l0_1.length c0_1, .int .i64 a0_2] 24 (0, 0)) (by (with_reducible repeat (first | refine blk_drewN ?_ _ | refine blk_drew ?_ | refine blk_alloc ?_ _)); exact BK256.out) hb); have n1_ := Aside0.mk (below_step (by repeat (first | (with_reducible first | exact HB.out | apply below_alloc | apply pw_below_drewN | apply below_drew1 | refine below_set ?_ GE256.out) | exact HB.out)) hb); clear BK256; clear HB; have BK256 := n0_; have HB := n1_; clear n0_ n1_; (try clear hb); (try clear hb2); (try clear hk); (try clear hi)))
       go_ret
       exact ⟨by first | rfl | (simp [errW_none, errW_some] <;> rfl) | (simp [*, errW_none, errW_some] <;> rfl), by repeat (first | (with_reducible first | exact HB.out | apply below_alloc | apply pw_below_drewN | apply below_drew1 | refine below_set ?_ GE256.out) | exact HB.out)⟩
   · replace c7 := Bool.eq_false_iff.mpr c7
     subst c7
     have H1 : (some false) = some r := by rw [if_neg (show ¬ (false = true) by decide)] at H; exact H
     clear H
     have H := H1
     clear H1
     obtain rfl := Option.some.inj H
     go_enter Try.func15, Try.ntmps15
     go_wp2_with (first | ((with_reducible refine gate_dst (N := 3) rfl ?_); refine box_event ?hg (N := 3) ?hd (cs := #[.int .i64 a0_0, .slice A0_1 l0_1.length c0_1, .int .i64 a0_2]) (t := 24) ?hr ?_; (case hd => rfl); (case hg => rfl); (case hr => first | (go_simp; done) | (go_simp; rfl)); intro gb256 hg w19 hbox hb; have n0_ := Aside0.mk (below_step (by repeat (first | (with_reducible first | exact HB.out | apply below_alloc | apply pw_below_drewN | apply below_drew1) | exact HB.out)) hb); have n1_ := Aside0.mk (hbox); have n2_ := Aside0.mk ((by rw [hg]; exact (below_size (by repeat (first | (with_reducible first | exact HB.out | apply below_alloc | apply pw_below_drewN | apply below_drew1) | exact HB.out))) : w.heap.size ≤ gb256)); have n3_ := Aside0.mk ((by rw [hg]; exact (below_size (by repeat (first | (with_reducible first | exact HB.out | apply below_alloc | apply pw_below_drewN | apply below_drew1) | exact HB.out))) : w.heap.size ≤ gb256)); clear HB; have HB := n0_; have BK256 := n1_; have GW256 := n2_; have GE256 := n3_; clear n0_ n1_ n2_ n3_; clear hb hbox hg; have hcz20_0 : w19.cell? ⟨gb256, 0, none⟩ = some (.int .i64 a0_0) := (blk_cell BK256.out 0).trans rfl; have hcz20_1 : w19.cell? ⟨gb256, 1, none⟩ = some (.slice A0_1 l0_1.length c0_1) := (blk_cell BK256.out 1).trans rfl; have hcz20_2 : w19.cell? ⟨gb256, 2, none⟩ = some (.int .i64 a0_2) := (blk_cell BK256.out 2).trans rfl; have hfz20_0 := blk_frozen BK256.out 0; have hfz20_1 := blk_frozen BK256.out 1; have hfz20_2 := blk_frozen BK256.out 2) | ((with_reducible refine gate_callee (f := 26) rfl ?_); refine goesL_ (some 19) rfl rfl Try.func26 (by kernel_rfl) rfl #[.int .i64 a0_0, .slice A0_1 l0_1.length c0_1, .int .i64 a0_2, .slice A2 l2.length c2] rfl (by (try simp only [List.map_toArray, List.map_cons, List.map_nil]); first | done | rfl | (simp only [List.length_drop, List.length_take]; rfl)) ?_; (with_reducible refine (jacquardref30_Positive.calls k a0_0 _ _ l0_1 a0_2 _ _ l2 t257 false _ ?side1 ?side2 ?side3 ?side4 A4.out).mono ?_); (case side1 => repeat (first | exact (Kd.C_below HR0_1.out HB.out) | (with_reducible refine Kd.C_alloc ?_ _) | (with_reducible refine Kd.C_drewN ?_ _) | (with_reducible refine Kd.C_drew ?_))); (case side2 => exact HC0_1.out); (case side3 => repeat (first | exact (Kd.C_below HR2.out HB.out) | (with_reducible refine Kd.C_alloc ?_ _) | (with_reducible refine Kd.C_drewN ?_ _) | (with_reducible refine Kd.C_drew ?_))); (case side4 => exact HC2.out); rintro e w21 ⟨rfl, hb⟩; refine ⟨_, rfl, ?_⟩; have n0_ := Aside0.mk (blk_below (g := gb256) (o := .cells #[.int .i64 a0_0, .slice A0_1 l0_1.length c0_1, .int .i64 a0_2] 24 (0, 0)) (by (with_reducible repeat (first | refine blk_drewN ?_ _ | refine blk_drew ?_ | refine blk_alloc ?_ _)); exact BK256.out) hb); have n1_ := Aside0.mk (below_step (by repeat (first | (with_reducible first | exact HB.out | apply below_alloc | apply pw_below_drewN | apply below_drew1 | refine below_set ?_ GE256.out) | exact HB.out)) hb); clear BK256; clear HB; have BK256 := n0_; have HB := n1_; clear n0_ n1_; (try clear hb); (try clear hb2); (try clear hk); (try clear hi); have hcz22_0 : w21.cell? ⟨gb256, 0, none⟩ = some (.int .i64 a0_0) := (blk_cell BK256.out 0).trans rfl; have hcz22_1 : w21.cell? ⟨gb256, 1, none⟩ = some (.slice A0_1 l0_1.length c0_1) := (blk_cell BK256.out 1).trans rfl; have hcz22_2 : w21.cell? ⟨gb256, 2, none⟩ = some (.int .i64 a0_2) := (blk_cell BK256.out 2).trans rfl; have hfz22_0 := blk_frozen BK256.out 0; have hfz22_1 := blk_frozen BK256.out 1; have hfz22_2 := blk_frozen BK256.out 2) | ((with_reducible refine gate_callee (f := 25) rfl ?_); refine goesL_ (some 30) rfl rfl Try.func25 (by kernel_rfl) rfl #[.int .i64 a0_0, .slice A0_1 l0_1.length c0_1, .int .i64 a0_2, .slice A2 l2.length c2] rfl (by (try simp only [List.map_toArray, List.map_cons, List.map_nil]); first | done | rfl | (simp only [List.length_drop, List.length_take]; rfl)) ?_; (with_reducible refine (diffcons_Positive.calls a0_0 _ _ l0_1 a0_2 _ _ l2 t259 t260 _ ?side1 ?side2 ?side3 ?side4 A5.out).mono ?_); (case side1 => repeat (first | exact (Kd.C_below HR0_1.out HB.out) | (with_reducible refine Kd.C_alloc ?_ _) | (with_reducible refine Kd.C_drewN ?_ _) | (with_reducible refine Kd.C_drew ?_))); (case side2 => exact HC0_1.out); (case side3 => repeat (first | exact (Kd.C_below HR2.out HB.out) | (with_reducible refine Kd.C_alloc ?_ _) | (with_reducible refine Kd.C_drewN ?_ _) | (with_reducible refine Kd.C_drew ?_))); (case side4 => exact HC2.out); rintro e w23 ⟨rfl, hb⟩; refine ⟨_, rfl, ?_⟩; have n0_ := Aside0.mk (blk_below (g := gb256) (o := .cells #[.int .i64 a0_0, .slice A0_1 l0_1.length c0_1, .int .i64 a0_2] 24 (0, 0)) (by (with_reducible repeat (first | refine blk_drewN ?_ _ | refine blk_drew ?_ | refine blk_alloc ?_ _)); exact BK256.out) hb); have n1_ := Aside0.mk (below_step (by repeat (first | (with_reducible first | exact HB.out | apply below_alloc | apply pw_below_drewN | apply below_drew1 | refine below_set ?_ GE256.out) | exact HB.out)) hb); clear BK256; clear HB; have BK256 := n0_; have HB := n1_; clear n0_ n1_; (try clear hb); (try clear hb2); (try clear hk); (try clear hi)))
     go_ret
     exact ⟨by first | rfl | (simp [errW_none, errW_some] <;> rfl) | (simp [*, errW_none, errW_some] <;> rfl), by repeat (first | (with_reducible first | exact HB.out | apply below_alloc | apply pw_below_drewN | apply below_drew1 | refine below_set ?_ GE256.out) | exact HB.out)⟩
 · rw [if_neg c6] at H
   have c6b0 : ((l1.length : Int) == 0) = false := beq_eq_false_iff_ne.mpr c6
   have c6b1 : ((l1.length : Int) != 0) = true := bne_iff_ne.mpr c6
   have c6b2 : ¬ (l1 = []) := fun h_ => c6 (by rw [h_]; rfl)
   obtain rfl := Option.some.inj H
   go_enter Try.func15, Try.ntmps15
   go_wp2_with (first | ((with_reducible refine gate_dst (N := 3) rfl ?_); refine box_event ?hg (N := 3) ?hd (cs := #[.int .i64 a0_0, .slice A0_1 l0_1.length c0_1, .int .i64 a0_2]) (t := 24) ?hr ?_; (case hd => rfl); (case hg => rfl); (case hr => first | (go_simp; done) | (go_simp; rfl)); intro gb256 hg w24 hbox hb; have n0_ := Aside0.mk (below_step (by repeat (first | (with_reducible first | exact HB.out | apply below_alloc | apply pw_below_drewN | apply below_drew1) | exact HB.out)) hb); have n1_ := Aside0.mk (hbox); have n2_ := Aside0.mk ((by rw [hg]; exact (below_size (by repeat (first | (with_reducible first | exact HB.out | apply below_alloc | apply pw_below_drewN | apply below_drew1) | exact HB.out))) : w.heap.size ≤ gb256)); have n3_ := Aside0.mk ((by rw [hg]; exact (below_size (by repeat (first | (with_reducible first | exact HB.out | apply below_alloc | apply pw_below_drewN | apply below_drew1) | exact HB.out))) : w.heap.size ≤ gb256)); clear HB; have HB := n0_; have BK256 := n1_; have GW256 := n2_; have GE256 := n3_; clear n0_ n1_ n2_ n3_; clear hb hbox hg; have hcz25_0 : w24.cell? ⟨gb256, 0, none⟩ = some (.int .i64 a0_0) := (blk_cell BK256.out 0).trans rfl; have hcz25_1 : w24.cell? ⟨gb256, 1, none⟩ = some (.slice A0_1 l0_1.length c0_1) := (blk_cell BK256.out 1).trans rfl; have hcz25_2 : w24.cell? ⟨gb256, 2, none⟩ = some (.int .i64 a0_2) := (blk_cell BK256.out 2).trans rfl; have hfz25_0 := blk_frozen BK256.out 0; have hfz25_1 := blk_frozen BK256.out 1; have hfz25_2 := blk_frozen BK256.out 2) | ((with_reducible refine gate_callee (f := 26) rfl ?_); refine goesL_ (some 19) rfl rfl Try.func26 (by kernel_rfl) rfl #[.int .i64 a0_0, .slice A0_1 l0_1.length c0_1, .int .i64 a0_2, .slice A2 l2.length c2] rfl (by (try simp only [List.map_toArray, List.map_cons, List.map_nil]); first | done | rfl | (simp only [List.length_drop, List.length_take]; rfl)) ?_; (with_reducible refine (jacquardref30_Positive.calls k a0_0 _ _ l0_1 a0_2 _ _ l2 t257 t258 _ ?side1 ?side2 ?side3 ?side4 A4.out).mono ?_); (case side1 => repeat (first | exact (Kd.C_below HR0_1.out HB.out) | (with_reducible refine Kd.C_alloc ?_ _) | (with_reducible refine Kd.C_drewN ?_ _) | (with_reducible refine Kd.C_drew ?_))); (case side2 => exact HC0_1.out); (case side3 => repeat (first | exact (Kd.C_below HR2.out HB.out) | (with_reducible refine Kd.C_alloc ?_ _) | (with_reducible refine Kd.C_drewN ?_ _) | (with_reducible refine Kd.C_drew ?_))); (case side4 => exact HC2.out); rintro e w26 ⟨rfl, hb⟩; refine ⟨_, rfl, ?_⟩; have n0_ := Aside0.mk (blk_below (g := gb256) (o := .cells #[.int .i64 a0_0, .slice A0_1 l0_1.length c0_1, .int .i64 a0_2] 24 (0, 0)) (by (with_reducible repeat (first | refine blk_drewN ?_ _ | refine blk_drew ?_ | refine blk_alloc ?_ _)); exact BK256.out) hb); have n1_ := Aside0.mk (below_step (by repeat (first | (with_reducible first | exact HB.out | apply below_alloc | apply pw_below_drewN | apply below_drew1 | refine below_set ?_ GE256.out) | exact HB.out)) hb); clear BK256; clear HB; have BK256 := n0_; have HB := n1_; clear n0_ n1_; (try clear hb); (try clear hb2); (try clear hk); (try clear hi); have hcz27_0 : w26.cell? ⟨gb256, 0, none⟩ = some (.int .i64 a0_0) := (blk_cell BK256.out 0).trans rfl; have hcz27_1 : w26.cell? ⟨gb256, 1, none⟩ = some (.slice A0_1 l0_1.length c0_1) := (blk_cell BK256.out 1).trans rfl; have hcz27_2 : w26.cell? ⟨gb256, 2, none⟩ = some (.int .i64 a0_2) := (blk_cell BK256.out 2).trans rfl; have hfz27_0 := blk_frozen BK256.out 0; have hfz27_1 := blk_frozen BK256.out 1; have hfz27_2 := blk_frozen BK256.out 2) | ((with_reducible refine gate_callee (f := 25) rfl ?_); refine goesL_ (some 30) rfl rfl Try.func25 (by kernel_rfl) rfl #[.int .i64 a0_0, .slice A0_1 l0_1.length c0_1, .int .i64 a0_2, .slice A2 l2.length c2] rfl (by (try simp only [List.map_toArray, List.map_cons, List.map_nil]); first | done | rfl | (simp only [List.length_drop, List.length_take]; rfl)) ?_; (with_reducible refine (diffcons_Positive.calls a0_0 _ _ l0_1 a0_2 _ _ l2 t259 t260 _ ?side1 ?side2 ?side3 ?side4 A5.out).mono ?_); (case side1 => repeat (first | exact (Kd.C_below HR0_1.out HB.out) | (with_reducible refine Kd.C_alloc ?_ _) | (with_reducible refine Kd.C_drewN ?_ _) | (with_reducible refine Kd.C_drew ?_))); (case side2 => exact HC0_1.out); (case side3 => repeat (first | exact (Kd.C_below HR2.out HB.out) | (with_reducible refine Kd.C_alloc ?_ _) | (with_reducible refine Kd.C_drewN ?_ _) | (with_reducible refine Kd.C_drew ?_))); (case side4 => exact HC2.out); rintro e w28 ⟨rfl, hb⟩; refine ⟨_, rfl, ?_⟩; have n0_ := Aside0.mk (blk_below (g := gb256) (o := .cells #[.int .i64 a0_0, .slice A0_1 l0_1.length c0_1, .int .i64 a0_2] 24 (0, 0)) (by (with_reducible repeat (first | refine blk_drewN ?_ _ | refine blk_drew ?_ | refine blk_alloc ?_ _)); exact BK256.out) hb); have n1_ := Aside0.mk (below_step (by repeat (first | (with_reducible first | exact HB.out | apply below_alloc | apply pw_below_drewN | apply below_drew1 | refine below_set ?_ GE256.out) | exact HB.out)) hb); clear BK256; clear HB; have BK256 := n0_; have HB := n1_; clear n0_ n1_; (try clear hb); (try clear hb2); (try clear hk); (try clear hi)))
   go_ret
   exact ⟨by first | rfl | (simp [errW_none, errW_some] <;> rfl) | (simp [*, errW_none, errW_some] <;> rfl), by repeat (first | (with_reducible first | exact HB.out | apply below_alloc | apply pw_below_drewN | apply below_drew1 | refine below_set ?_ GE256.out) | exact HB.out)⟩
end Go.Proofs.Ytflefelgdcblgaa.Q
