-- Printed by a program of this session (gprint.py, which runs the kit's print.py): Lean checks it.
import Derived.Test.YtflefelgdcblgaaQx0
import Derived.Test.YtflefelgdcblgaaQx1
import Derived.Test.YtflefelgdcblgaaQx3
namespace Go.Proofs.Ytflefelgdcblgaa.Q
open Go.RowKit Go.Proofs.YtflefelgdcblgaaW.PrintWords Go.Proofs.YtflefelgdcblgaaW.PrintLast Go.Proofs.YtflefelgdcblgaaW.PrintMore
attribute [local go_sem] max2_int min2_int max_two min_two max_three min_three max_four min_four   -- for this text's walks alone
set_option linter.unusedVariables false
set_option linter.unusedSimpArgs false
mutual
def diffcons_Latest.l0 : Nat → Int → Int → List Int → List (S28) → List (S28) → Int → Int → Option (List Int × List Int)
 | 0, _, _, _, _, _, _, _ => none
 | k + 1, x0, x2, x3, x10, x21, x22, x23 => if x23 < x22 then (if 0 ≤ x23 then (if x23 < (x21.length : Int) then (if x23 < (x10.length : Int) then (diffcons_Latest.l0 k x0 x2 x3 (x10.set (x23 : Int).toNat (⟨(rd_T28 x21 x23).f1, (rd_T28 x21 x23).f0, (rd_T28 x21 x23).f2, (rd_T28 x21 x23).f3⟩ : S28)) x21 x22 (wrap64 (x23 + 1))) else (none)) else (none)) else (none)) else (if 0 ≤ x0 then (if (x0 : Int).toNat ≤ 35184372088832 then ((some (List.replicate (x0 : Int).toNat 0 : List Int)).bind fun y302 => (diffcons_Latest.l1 k x0 x2 x3 x10 y302 (y302.length : Int) 0)) else (none)) else (none))
def diffcons_Latest.l1 : Nat → Int → Int → List Int → List (S28) → List Int → Int → Int → Option (List Int × List Int)
 | 0, _, _, _, _, _, _, _ => none
 | k + 1, x0, x2, x3, x10, x13, x44, x45 => if x45 < x44 then ((diffcons_bound.f x3 x45).bind fun t305 => (if 0 ≤ x45 then (if x45 < (x13.length : Int) then (diffcons_Latest.l1 k x0 x2 x3 x10 (x13.set (x45 : Int).toNat (wrap64 (-t305))) x44 (wrap64 (x45 + 1))) else (none)) else (none))) else ((diffcons_After.f k x0 x10 x2 x13).bind fun bt307 => (diffcons_Latest.l2 k bt307.1 bt307.2 (bt307.1.length : Int) 0))
def diffcons_Latest.l2 : Nat → List Int → List Int → Int → Int → Option (List Int × List Int)
 | 0, _, _, _, _ => none
 | k + 1, x8, x9, x65, x66 => if x66 < x65 then (if 0 ≤ x66 then (if x66 < (x8.length : Int) then (diffcons_Latest.l2 k (x8.set (x66 : Int).toNat (wrap64 (-(rd x8 x66)))) x9 x65 (wrap64 (x66 + 1))) else (none)) else (none)) else ((slices_Reverse_int_int.f k x9).bind fun t315 => (some (x8, t315)))
end
def diffcons_Latest.f (k : Nat) (a0 : Int) (l1 : List (S28)) (a2 : Int) (l3 : List Int) : Option (List Int × List Int) := (diffcons_nodes.f a0).bind fun t295 => (if 0 ≤ (l1.length : Int) then (if ((l1.length : Int) : Int).toNat ≤ 8796093022208 then (diffcons_Latest.l0 k t295 a2 l3 (List.replicate ((l1.length : Int) : Int).toNat z28) l1 (l1.length : Int) 0) else (none)) else (none))
set_option maxHeartbeats 8000000 in set_option maxRecDepth 100000 in theorem diffcons_Latest.calls (k : Nat) (a0 : Int) (A1 : Option Addr) (c1 : Nat) (l1 : List (S28)) (a2 : Int) (A3 : Option Addr) (c3 : Nat) (l3 : List Int) (r1 : List Int) (r2 : List Int) (w : World) (hr1 : Kd.C k28 w A1 l1.length l1) (hc1 : l1.length ≤ c1) (hr3 : Kd.C (Kd.int .i64) w A3 l3.length l3) (hc3 : l3.length ≤ c3) (h : diffcons_Latest.f k a0 l1 a2 l3 = some (r1, r2)) :
 Calls Try.prog 19 #[.int .i64 a0, .slice A1 l1.length c1, .int .i64 a2, .slice A3 l3.length c3] w fun e w' => ∃ v0_ v1_ : Value, e = .returned (.tuple #[v0_, v1_]) ∧ Kd.R (Kd.int .i64) 3 w' w.heap.size (fun k_ => some k_ ≠ (v1_ : Value).ownBlock) v0_ r1 ∧ Kd.R (Kd.int .i64) 3 w' w.heap.size (fun k_ => some k_ ≠ (v0_ : Value).ownBlock) v1_ r2 ∧ Below w.heap.size w w' := by
 have hu28 := Try.underlying28
 have HR1 := Aside0.mk hr1
 have HC1 := Aside0.mk hc1
 clear hr1 hc1
 have HR3 := Aside0.mk hr3
 have HC3 := Aside0.mk hc3
 clear hr3 hc3
 have HB := Aside0.mk (Below.refl w.heap.size w)
 have H : ((diffcons_nodes.f a0).bind fun t295 => (if 0 ≤ (l1.length : Int) then (if ((l1.length : Int) : Int).toNat ≤ 8796093022208 then (diffcons_Latest.l0 k t295 a2 l3 (List.replicate ((l1.length : Int) : Int).toNat z28) l1 (l1.length : Int) 0) else (none)) else (none))) = some (r1, r2) := h
 clear h
 replace H := Option.bind_eq_some_iff.mp H
 obtain ⟨t295, A50, H⟩ := H
 replace H : (if 0 ≤ (l1.length : Int) then (if ((l1.length : Int) : Int).toNat ≤ 8796093022208 then (diffcons_Latest.l0 k t295 a2 l3 (List.replicate ((l1.length : Int) : Int).toNat z28) l1 (l1.length : Int) 0) else (none)) else (none)) = some (r1, r2) := H
 have A5 := Aside0.mk A50
 clear A50
 by_cases c6 : 0 ≤ (l1.length : Int)
 · rw [if_pos c6] at H
   have c6b0 := eq_true c6
   have c6b1 : decide (0 ≤ (l1.length : Int)) = true := decide_eq_true c6
   clear c6
   by_cases c7 : ((l1.length : Int) : Int).toNat ≤ 8796093022208
   · rw [if_pos c7] at H
     have c7b0 := eq_true c7
     have c7b1 : decide (((l1.length : Int) : Int).toNat ≤ 8796093022208) = true := decide_eq_true c7
     clear c7
     obtain ⟨y296, hy296⟩ : ∃ y_ : List (S28), y_ = (List.replicate ((l1.length : Int) : Int).toNat z28) := ⟨_, rfl⟩
     replace H : (diffcons_Latest.l0 k t295 a2 l3 y296 l1 (l1.length : Int) 0) = some (r1, r2) := by first | (rw [hy296]; with_reducible exact H) | (have H2_ := (Option.bind_some _ _).symm.trans H; rw [hy296]; with_reducible exact H2_) | (have H2_ := (Option.bind_some _ _).symm.trans H; with_reducible exact H2_) | with_reducible exact H | (rw [hy296]; exact H) | exact H
     have Ny296 := Aside0.mk hy296
     clear hy296
     have H' := Aside0.mk H
     clear H
     go_enter Try.func19, Try.ntmps19
     go_wp2_with (first | ((with_reducible refine gate_callee (f := 29) rfl ?_); refine goesL_ (some 17) rfl rfl Try.func29 (by kernel_rfl) rfl #[.int .i64 a0] rfl (by (try simp only [List.map_toArray, List.map_cons, List.map_nil]); first | done | rfl | (simp only [List.length_drop, List.length_take]; rfl)) ?_; (with_reducible refine (diffcons_nodes.calls a0 t295 _ A5.out).mono ?_); rintro e w8 ⟨rfl, hb⟩; refine ⟨_, rfl, ?_⟩; have n0_ := Aside0.mk (below_step (by repeat (first | (with_reducible first | exact HB.out | apply below_alloc | apply pw_below_drewN | apply below_drew1) | exact HB.out)) hb); clear HB; have HB := n0_; clear n0_; (try clear hb); (try clear hb2); (try clear hk); (try clear hi)) | ((with_reducible refine gate_dst (N := 20) rfl ?_); refine Kd.R_make k28 _ 28 rfl (N := 20) rfl 22 _ _ rfl (l1.length : Int) rfl rfl Try.underlying22 (.agg #[(.int .i64 0), (.int .i64 0), (.int .i64 0), (.int .i64 0)]) 32 info28 rfl (by decide) (by omega) z28 (ok := fun _ => True) (okp := fun _ => True) (k28_mkM _ _ _ z28 ) (fun _ hk => hk) trivial (of_decide_eq_true (by first | (with_reducible assumption) | assumption)) (Nat.le_trans (Nat.mul_le_mul_right _ (of_decide_eq_true (by first | (with_reducible assumption) | assumption) : (l1.length : Int).toNat ≤ 8796093022208)) (by omega)) (Below.refl _ _) (Nat.le_refl _) ?_; intro v297 w9 ho10 hb hg_ hnew_; clear hg_ hnew_; (first | rw [← Ny296.out] at ho10 | (simp only [Int.reduceToNat] at ho10; rw [← Ny296.out] at ho10)); have n0_ := Aside0.mk (Kd.R_lower ho10 (below_size (by repeat (first | (with_reducible first | exact HB.out | apply below_alloc | apply pw_below_drewN | apply below_drew1) | exact HB.out)))); have n1_ := Aside0.mk (below_step (by repeat (first | (with_reducible first | exact HB.out | apply below_alloc | apply pw_below_drewN | apply below_drew1) | exact HB.out)) hb); clear HB; have HO298 := n0_; have HB := n1_; clear n0_ n1_; clear hb ho10))
     go_loopg [23] k (fun kq v23 w' => ∃ (x10_1 : List (S28)) (x23_1 : Int), v23 = .int .i64 x23_1 ∧ Aside0 (diffcons_Latest.l0 kq t295 a2 l3 x10_1 l1 (l1.length : Int) x23_1 = some (r1, r2)) ∧ Aside0 (kq ≤ k) ∧ Aside0 (Kd.R k28 28 w' w.heap.size (fun _ => True) v297 x10_1) ∧ Aside0 (Below w.heap.size w w'))
     case atStart => exact ⟨(y296), (0), (by first | rfl | (simp; done) | (simp [*]; done)), H', ⟨Nat.le_refl _⟩, ⟨by (with_reducible repeat (first | apply Kd.R_alloc | apply Kd.R_drewN | apply Kd.R_drew)); exact HO298.out⟩, ⟨by repeat (first | (with_reducible first | exact HB.out | apply below_alloc | apply pw_below_drewN | apply below_drew1) | exact HB.out)⟩⟩
     case round =>
      clear H'
      try clear c1
      try clear c2
      try clear p2
      try clear c3
      try clear c6
      try clear c6b0
      try clear c6b1
      try clear c7
      try clear c7b0
      try clear c7b1
      obtain ⟨x10_1, x23_1, rfl, HA, HK1, HO_10, HB⟩ := hrel
      cases gk with
      | zero => exact absurd HA.out (by simp [diffcons_Latest.l0])
      | succ k1 =>
       have H := HA.out
       clear HA
       simp only [diffcons_Latest.l0] at H
       by_cases c11 : x23_1 < (l1.length : Int)
       · rw [if_pos c11] at H
         have c11b0 : decide (x23_1 < (l1.length : Int)) = true := decide_eq_true c11
         clear c11
         by_cases c12 : 0 ≤ x23_1
         · rw [if_pos c12] at H
           have c12b0 : decide (0 ≤ x23_1) = true := decide_eq_true c12
           clear c12
           by_cases c13 : x23_1 < (l1.length : Int)
           · rw [if_pos c13] at H
             have c13b0 : decide (x23_1 < (l1.length : Int)) = true := decide_eq_true c13
             clear c13
             by_cases c14 : x23_1 < (x10_1.length : Int)
             · rw [if_pos c14] at H
               have c14b0 : decide (x23_1 < (x10_1.length : Int)) = true := decide_eq_true c14
               clear c14
               obtain ⟨y301, hy301⟩ : ∃ y_ : List (S28), y_ = (x10_1.set (x23_1 : Int).toNat (⟨(rd_T28 l1 x23_1).f1, (rd_T28 l1 x23_1).f0, (rd_T28 l1 x23_1).f2, (rd_T28 l1 x23_1).f3⟩ : S28)) := ⟨_, rfl⟩
               replace H : (diffcons_Latest.l0 k1 t295 a2 l3 y301 l1 (l1.length : Int) (wrap64 (x23_1 + 1))) = some (r1, r2) := by first | (rw [hy301]; with_reducible exact H) | (have H2_ := (Option.bind_some _ _).symm.trans H; rw [hy301]; with_reducible exact H2_) | (have H2_ := (Option.bind_some _ _).symm.trans H; with_reducible exact H2_) | with_reducible exact H | (rw [hy301]; exact H) | exact H
               have Ny301 := Aside0.mk hy301
               clear hy301
               have H' := Aside0.mk H
               clear H
               have p299 : 0 ≤ (x23_1 : Int) := of_decide_eq_true (by first | (with_reducible assumption) | assumption)
               have q299 : x23_1 < (l1.length : Int) := of_decide_eq_true (by first | (with_reducible assumption) | assumption)
               obtain ⟨ad299, e299, hx299_0, hx299_1, hx299_2, hx299_3⟩ := at_T28 HR1.out x23_1 p299 q299
               cases e299
               replace hx299_0 := (HB.out.cell (World.block_lt_of_cell? w _ hx299_0)).trans hx299_0
               replace hx299_1 := (HB.out.cell (World.block_lt_of_cell? w _ hx299_1)).trans hx299_1
               replace hx299_2 := (HB.out.cell (World.block_lt_of_cell? w _ hx299_2)).trans hx299_2
               replace hx299_3 := (HB.out.cell (World.block_lt_of_cell? w _ hx299_3)).trans hx299_3
               replace p299 := eq_true p299
               replace q299 := eq_true q299
               go_wp2_with (first | ((with_reducible refine gate_dst (N := 12) rfl ?_); refine box_event ?hg (N := 12) ?hd (cs := #[.int .i64 0, .int .i64 0, .int .i64 0, .int .i64 0]) (t := 28) ?hr ?_; (case hd => rfl); (case hg => rfl); (case hr => first | (go_simp; done) | (go_simp; rfl)); intro gb300 hg w16 hbox hb; have n0_ := Aside0.mk (Kd.R_below (Kd.R_elderB (by (with_reducible repeat (first | apply Kd.R_alloc | apply Kd.R_drewN | apply Kd.R_drew)); exact HO_10.out) gb300 (Nat.le_of_eq hg.symm)) hb); have n1_ := Aside0.mk (below_step (by repeat (first | (with_reducible first | exact HB.out | apply below_alloc | apply pw_below_drewN | apply below_drew1) | exact HB.out)) hb); have n2_ := Aside0.mk (hbox); have n3_ := Aside0.mk ((by rw [hg]; exact (below_size (by repeat (first | (with_reducible first | exact HB.out | apply below_alloc | apply pw_below_drewN | apply below_drew1) | exact HB.out))) : w.heap.size ≤ gb300)); have n4_ := Aside0.mk ((by rw [hg]; exact (below_size (by repeat (first | (with_reducible first | exact HB.out | apply below_alloc | apply pw_below_drewN | apply below_drew1) | exact HB.out))) : w.heap.size ≤ gb300)); clear HO_10; clear HB; have HO_10 := n0_; have HB := n1_; have BK300 := n2_; have GW300 := n3_; have GE300 := n4_; clear n0_ n1_ n2_ n3_ n4_; clear hb hbox hg; have hcz17_0 : w16.cell? ⟨gb300, 0, none⟩ = some (.int .i64 0) := (blk_cell BK300.out 0).trans rfl; have hcz17_1 : w16.cell? ⟨gb300, 1, none⟩ = some (.int .i64 0) := (blk_cell BK300.out 1).trans rfl; have hcz17_2 : w16.cell? ⟨gb300, 2, none⟩ = some (.int .i64 0) := (blk_cell BK300.out 2).trans rfl; have hcz17_3 : w16.cell? ⟨gb300, 3, none⟩ = some (.int .i64 0) := (blk_cell BK300.out 3).trans rfl; have hfz17_0 := blk_frozen BK300.out 0; have hfz17_1 := blk_frozen BK300.out 1; have hfz17_2 := blk_frozen BK300.out 2; have hfz17_3 := blk_frozen BK300.out 3) | ((with_reducible refine gate_store (t := 28) (p := 12) rfl ?_); refine store_event (t := 28) (p := 12) (v := ?vo_w18) (w1 := ((((w16.setCell ⟨gb300, 0, none⟩ (.int .i64 ((rd_T28 l1 x23_1).f0))).setCell ⟨gb300, 1, none⟩ (.int .i64 ((rd_T28 l1 x23_1).f1))).setCell ⟨gb300, 2, none⟩ (.int .i64 ((rd_T28 l1 x23_1).f2))).setCell ⟨gb300, 3, none⟩ (.int .i64 ((rd_T28 l1 x23_1).f3)))) ?hg ?ho ?hn ?hr ?_; (case ho => rfl); (case hg => rfl); (case hn => rfl); (case hr => first | (go_simp; done) | (go_simp; rfl)); intro w18 hw; have n0_ : Aside0 (Kd.R k28 28 w18 w.heap.size (fun k_ => k_ ≠ gb300) v297 x10_1) := ⟨(by rw [hw]; exact (by (with_reducible repeat (first | apply Kd.R_alloc | apply Kd.R_drewN | apply Kd.R_drew)); exact Kd.R_mono (Kd.R_far (p := ⟨gb300, 3, none⟩) (Kd.R_far (p := ⟨gb300, 2, none⟩) (Kd.R_far (p := ⟨gb300, 1, none⟩) (Kd.R_far (p := ⟨gb300, 0, none⟩) (Kd.R_mono HO_10.out (fun k_ hk => (⟨hk, hk.2⟩ : _ ∧ k_ ≠ gb300))) (fun _ hk => hk.2) (.int .i64 ((rd_T28 l1 x23_1).f0))) (fun _ hk => hk.2) (.int .i64 ((rd_T28 l1 x23_1).f1))) (fun _ hk => hk.2) (.int .i64 ((rd_T28 l1 x23_1).f2))) (fun _ hk => hk.2) (.int .i64 ((rd_T28 l1 x23_1).f3))) (fun _ hk => hk.1.2)))⟩; have n1_ : Aside0 (w18.heap[gb300]? = some (.cells #[.int .i64 ((rd_T28 l1 x23_1).f0), .int .i64 ((rd_T28 l1 x23_1).f1), .int .i64 ((rd_T28 l1 x23_1).f2), .int .i64 ((rd_T28 l1 x23_1).f3)] 28 (0, 0))) := ⟨(by rw [hw]; exact (by (with_reducible repeat (first | refine blk_drewN ?_ _ | refine blk_drew ?_ | refine blk_alloc ?_ _)); refine blk_put (cs := #[.int .i64 ((rd_T28 l1 x23_1).f0), .int .i64 ((rd_T28 l1 x23_1).f1), .int .i64 ((rd_T28 l1 x23_1).f2), .int .i64 0]) ?_ 3 _ rfl; (with_reducible repeat (first | refine blk_drewN ?_ _ | refine blk_drew ?_ | refine blk_alloc ?_ _)); refine blk_put (cs := #[.int .i64 ((rd_T28 l1 x23_1).f0), .int .i64 ((rd_T28 l1 x23_1).f1), .int .i64 0, .int .i64 0]) ?_ 2 _ rfl; (with_reducible repeat (first | refine blk_drewN ?_ _ | refine blk_drew ?_ | refine blk_alloc ?_ _)); refine blk_put (cs := #[.int .i64 ((rd_T28 l1 x23_1).f0), .int .i64 0, .int .i64 0, .int .i64 0]) ?_ 1 _ rfl; (with_reducible repeat (first | refine blk_drewN ?_ _ | refine blk_drew ?_ | refine blk_alloc ?_ _)); refine blk_put (cs := #[.int .i64 0, .int .i64 0, .int .i64 0, .int .i64 0]) ?_ 0 _ rfl; (with_reducible repeat (first | refine blk_drewN ?_ _ | refine blk_drew ?_ | refine blk_alloc ?_ _)); exact BK300.out))⟩; have n2_ : Aside0 (Below w.heap.size w w18) := ⟨(by rw [hw]; exact (by repeat (first | (with_reducible first | exact HB.out | apply below_alloc | apply pw_below_drewN | apply below_drew1 | refine below_set ?_ GE300.out) | exact HB.out)))⟩; clear hw; clear HO_10; clear BK300; clear HB; have HO_10 := n0_; have BK300 := n1_; have HB := n2_; clear n0_ n1_ n2_; have hcz19_0 : w18.cell? ⟨gb300, 0, none⟩ = some (.int .i64 ((rd_T28 l1 x23_1).f0)) := (blk_cell BK300.out 0).trans rfl; have hcz19_1 : w18.cell? ⟨gb300, 1, none⟩ = some (.int .i64 ((rd_T28 l1 x23_1).f1)) := (blk_cell BK300.out 1).trans rfl; have hcz19_2 : w18.cell? ⟨gb300, 2, none⟩ = some (.int .i64 ((rd_T28 l1 x23_1).f2)) := (blk_cell BK300.out 2).trans rfl; have hcz19_3 : w18.cell? ⟨gb300, 3, none⟩ = some (.int .i64 ((rd_T28 l1 x23_1).f3)) := (blk_cell BK300.out 3).trans rfl; have hfz19_0 := blk_frozen BK300.out 0; have hfz19_1 := blk_frozen BK300.out 1; have hfz19_2 := blk_frozen BK300.out 2; have hfz19_3 := blk_frozen BK300.out 3; have p15 : 0 ≤ (x23_1 : Int) := of_decide_eq_true (by first | (with_reducible assumption) | assumption); have q15 : (x23_1 : Int) < ((x10_1.length : Int) : Int) := of_decide_eq_true (by first | (with_reducible assumption) | assumption); obtain ⟨go15, co15, eo15, gb15, gl15, cl15, HG15⟩ := Kd.R_form HO_10.out (by omega); (first | cases eo15 | (injection eo15 with ea_ en_ ec_; (first | subst ea_ | (injection ea_ with ea_; subst ea_)); subst ec_; clear en_)); have GB15 := Aside0.mk gb15; have GG15 := Aside0.mk HG15; clear gb15 gl15 HG15; obtain ⟨ce15, hcl15, hM15, hcc15, hfr15⟩ := Kd.R_elem HO_10.out z28 (x23_1 : Int) p15 q15; obtain rfl := k28_openM hM15; have hx15_0 : w18.cell? ⟨go15, (x23_1 : Int).toNat * 4, none⟩ = some (.int .i64 ((rd_T28 x10_1 x23_1).f0)) := hcc15 0 _ rfl; have hx15_1 : w18.cell? ⟨go15, (x23_1 : Int).toNat * 4 + 1, none⟩ = some (.int .i64 ((rd_T28 x10_1 x23_1).f1)) := hcc15 1 _ rfl; have hx15_2 : w18.cell? ⟨go15, (x23_1 : Int).toNat * 4 + 2, none⟩ = some (.int .i64 ((rd_T28 x10_1 x23_1).f2)) := hcc15 2 _ rfl; have hx15_3 : w18.cell? ⟨go15, (x23_1 : Int).toNat * 4 + 3, none⟩ = some (.int .i64 ((rd_T28 x10_1 x23_1).f3)) := hcc15 3 _ rfl; have hf15_0 : w18.frozen? ⟨go15, (x23_1 : Int).toNat * 4, none⟩ = false := hfr15 0; have hf15_1 : w18.frozen? ⟨go15, (x23_1 : Int).toNat * 4 + 1, none⟩ = false := hfr15 1; have hf15_2 : w18.frozen? ⟨go15, (x23_1 : Int).toNat * 4 + 2, none⟩ = false := hfr15 2; have hf15_3 : w18.frozen? ⟨go15, (x23_1 : Int).toNat * 4 + 3, none⟩ = false := hfr15 3; clear hcl15 hcc15 hfr15 hM15; replace p15 := eq_true p15; replace q15 := eq_true q15; have HX20 := Aside0.mk (show Kd.R k28 28 w18 w.heap.size (fun k_ => k_ ≠ gb300) (.slice (some ⟨go15, 0, none⟩) x10_1.length co15) x10_1 from (by (with_reducible repeat (first | apply Kd.R_alloc | apply Kd.R_drewN | apply Kd.R_drew)); exact HO_10.out)); obtain ⟨ce20, hcl20, hM20, hcc20, hfr20⟩ := Kd.R_elem HX20.out z28 (x23_1 : Int) (of_decide_eq_true (by first | (with_reducible assumption) | assumption)) (by have h_ : (x23_1 : Int) < ((x10_1.length : Int) : Int) := of_decide_eq_true (by first | (with_reducible assumption) | assumption); first | exact h_ | (have e_ := (Kd.R_reads' HO_10.out).1; omega) | simpa using h_); obtain rfl := k28_openM hM20; have HP20 := Kd.R_seg HX20.out (x23_1 : Int) (of_decide_eq_true (by first | (with_reducible assumption) | assumption)) (by have h_ : (x23_1 : Int) < ((x10_1.length : Int) : Int) := of_decide_eq_true (by first | (with_reducible assumption) | assumption); first | exact h_ | (have e_ := (Kd.R_reads' HO_10.out).1; omega) | simpa using h_) (seg := [.int .i64 ((rd_T28 l1 x23_1).f1), .int .i64 ((rd_T28 l1 x23_1).f0), .int .i64 ((rd_T28 l1 x23_1).f2), .int .i64 ((rd_T28 l1 x23_1).f3)]) (j := 0) hcl20 hcc20 (show 4 ≤ 4 from by decide) (x' := (⟨(rd_T28 l1 x23_1).f1, (rd_T28 l1 x23_1).f0, (rd_T28 l1 x23_1).f2, (rd_T28 l1 x23_1).f3⟩ : S28)) (k28_mkM _ _ _ (⟨(rd_T28 l1 x23_1).f1, (rd_T28 l1 x23_1).f0, (rd_T28 l1 x23_1).f2, (rd_T28 l1 x23_1).f3⟩ : S28) ) (fun _ hk => hk); have hx20_0 := hcc20 0 _ rfl; (try simp only [show (k28).sz = 4 from rfl, Nat.mul_one, Nat.add_zero] at hx20_0); have hf20_0 := hfr20 0; (try simp only [show (k28).sz = 4 from rfl, Nat.mul_one, Nat.add_zero] at hf20_0); have hx20_1 := hcc20 1 _ rfl; (try simp only [show (k28).sz = 4 from rfl, Nat.mul_one, Nat.add_zero] at hx20_1); have hf20_1 := hfr20 1; (try simp only [show (k28).sz = 4 from rfl, Nat.mul_one, Nat.add_zero] at hf20_1); have hx20_2 := hcc20 2 _ rfl; (try simp only [show (k28).sz = 4 from rfl, Nat.mul_one, Nat.add_zero] at hx20_2); have hf20_2 := hfr20 2; (try simp only [show (k28).sz = 4 from rfl, Nat.mul_one, Nat.add_zero] at hf20_2); have hx20_3 := hcc20 3 _ rfl; (try simp only [show (k28).sz = 4 from rfl, Nat.mul_one, Nat.add_zero] at hx20_3); have hf20_3 := hfr20 3; (try simp only [show (k28).sz = 4 from rfl, Nat.mul_one, Nat.add_zero] at hf20_3); clear hcl20 hcc20 hfr20 hM20) | ((with_reducible refine gate_store (t := 28) (p := 39) rfl ?_); refine store_event (t := 28) (p := 39) (v := ?vo_w21) (w1 := ((((w18.setCell ⟨go15, (x23_1 : Int).toNat * 4, none⟩ (.int .i64 ((rd_T28 l1 x23_1).f1))).setCell ⟨go15, (x23_1 : Int).toNat * 4 + 1, none⟩ (.int .i64 ((rd_T28 l1 x23_1).f0))).setCell ⟨go15, (x23_1 : Int).toNat * 4 + 2, none⟩ (.int .i64 ((rd_T28 l1 x23_1).f2))).setCell ⟨go15, (x23_1 : Int).toNat * 4 + 3, none⟩ (.int .i64 ((rd_T28 l1 x23_1).f3)))) ?hg ?ho ?hn ?hr ?_; (case ho => rfl); (case hg => rfl); (case hn => rfl); (case hr => first | (go_simp; done) | (go_simp; rfl)); intro w21 hw; have hg : w18.grownBy w21 (some go15) := (by rw [hw]; exact HP20.2); have hp_ : Kd.R k28 28 w21 w.heap.size (fun k_ => k_ ≠ gb300) (.slice (some ⟨go15, 0, none⟩) x10_1.length co15) y301 := (by rw [hw, Ny301.out]; exact HP20.1); clear HP20; have n0_ := Aside0.mk (hp_); have n1_ := Aside0.mk (blk_grown (g := gb300) (o := .cells #[.int .i64 ((rd_T28 l1 x23_1).f0), .int .i64 ((rd_T28 l1 x23_1).f1), .int .i64 ((rd_T28 l1 x23_1).f2), .int .i64 ((rd_T28 l1 x23_1).f3)] 28 (0, 0)) (by (with_reducible repeat (first | refine blk_drewN ?_ _ | refine blk_drew ?_ | refine blk_alloc ?_ _)); exact BK300.out) hg (Kd.R_away HO_10.out (fun _ hk => hk))); have n2_ := Aside0.mk ((by rw [hw]; exact below_set (below_set (below_set (below_set (HB.out) GB15.out) GB15.out) GB15.out) GB15.out : Below w.heap.size w w21)); clear HO_10; clear BK300; clear HB; have HO_10 := n0_; have BK300 := n1_; have HB := n2_; clear n0_ n1_ n2_; clear hg hw hp_))
               go_roundg k1
               case measure => have := HK1.out; omega
               case rel => exact ⟨(y301), (wrap64 (x23_1 + 1)), (by first | rfl | (simp; done) | (simp [*]; done)), H', ⟨by have := HK1.out; omega⟩, ⟨by (with_reducible repeat (first | apply Kd.R_alloc | apply Kd.R_drewN | apply Kd.R_drew)); exact Kd.R_mono HO_10.out (fun _ hk => trivial)⟩, ⟨by repeat (first | (with_reducible first | exact HB.out | apply below_alloc | apply pw_below_drewN | apply below_drew1 | refine below_set ?_ GE300.out) | exact HB.out)⟩⟩
             · rw [if_neg c14] at H
               exact absurd H (by simp)
           · rw [if_neg c13] at H
             exact absurd H (by simp)
         · rw [if_neg c12] at H
           exact absurd H (by simp)
       · rw [if_neg c11] at H
         have c11b0 : decide (x23_1 < (l1.length : Int)) = false := decide_eq_false c11
         clear c11
         by_cases c22 : 0 ≤ t295
         · rw [if_pos c22] at H
           have c22b0 := eq_true c22
           have c22b1 : decide (0 ≤ t295) = true := decide_eq_true c22
           clear c22
           by_cases c23 : (t295 : Int).toNat ≤ 35184372088832
           · rw [if_pos c23] at H
             have c23b0 := eq_true c23
             have c23b1 : decide ((t295 : Int).toNat ≤ 35184372088832) = true := decide_eq_true c23
             clear c23
             obtain ⟨y302, hy302⟩ : ∃ y_ : List Int, y_ = (List.replicate (t295 : Int).toNat 0) := ⟨_, rfl⟩
             replace H : (diffcons_Latest.l1 k1 t295 a2 l3 x10_1 y302 (y302.length : Int) 0) = some (r1, r2) := by first | (rw [hy302]; with_reducible exact H) | (have H2_ := (Option.bind_some _ _).symm.trans H; rw [hy302]; with_reducible exact H2_) | (have H2_ := (Option.bind_some _ _).symm.trans H; with_reducible exact H2_) | with_reducible exact H | (rw [hy302]; exact H) | exact H
             have Ny302 := Aside0.mk hy302
             clear hy302
             have H' := Aside0.mk H
             clear H
             go_wp2_with (first | ((with_reducible refine gate_dst (N := 42) rfl ?_); refine Kd.R_make (Kd.int .i64) _ 3 rfl (N := 42) rfl 29 _ _ rfl t295 rfl rfl Try.underlying29 (.int .i64 0) 8 info3 rfl (by decide) (by omega) 0 (ok := fun _ => True) (okp := fun _ => True) rfl (fun _ hk => hk) trivial (of_decide_eq_true (by first | (with_reducible assumption) | assumption)) (Nat.le_trans (Nat.mul_le_mul_right _ (of_decide_eq_true (by first | (with_reducible assumption) | assumption) : t295.toNat ≤ 35184372088832)) (by omega)) (Below.refl _ _) (Nat.le_refl _) ?_; intro v303 w24 ho25 hb hg_ hnew_; clear hg_ hnew_; (first | rw [← Ny302.out] at ho25 | (simp only [Int.reduceToNat] at ho25; rw [← Ny302.out] at ho25)); have n0_ := Aside0.mk (Kd.R_below (by (with_reducible repeat (first | apply Kd.R_alloc | apply Kd.R_drewN | apply Kd.R_drew)); exact HO_10.out) hb); have n1_ := Aside0.mk (Kd.R_lower ho25 (below_size (by repeat (first | (with_reducible first | exact HB.out | apply below_alloc | apply pw_below_drewN | apply below_drew1) | exact HB.out)))); have n2_ := Aside0.mk (below_step (by repeat (first | (with_reducible first | exact HB.out | apply below_alloc | apply pw_below_drewN | apply below_drew1) | exact HB.out)) hb); clear HO_10; clear HB; have HO_10 := n0_; have HO304 := n1_; have HB := n2_; clear n0_ n1_ n2_; clear hb ho25; obtain ⟨Ao26, co26, eo26⟩ := Kd.R_slice HO304.out; subst eo26))
             go_loopg [45] k1 (fun kq v45 w' => ∃ (x13_2 : List Int) (x45_2 : Int), v45 = .int .i64 x45_2 ∧ Aside0 (diffcons_Latest.l1 kq t295 a2 l3 x10_1 x13_2 (y302.length : Int) x45_2 = some (r1, r2)) ∧ Aside0 (kq ≤ k1) ∧ Aside0 (Kd.R k28 28 w' w.heap.size (fun _ => True) v297 x10_1) ∧ Aside0 (Kd.R (Kd.int .i64) 3 w' w.heap.size (fun _ => True) (.slice Ao26 y302.length co26) x13_2) ∧ Aside0 (Below w.heap.size w w'))
             case atStart => exact ⟨(y302), (0), (by first | rfl | (simp; done) | (simp [*]; done)), H', ⟨Nat.le_refl _⟩, ⟨by (with_reducible repeat (first | apply Kd.R_alloc | apply Kd.R_drewN | apply Kd.R_drew)); exact HO_10.out⟩, ⟨by (with_reducible repeat (first | apply Kd.R_alloc | apply Kd.R_drewN | apply Kd.R_drew)); exact HO304.out⟩, ⟨by repeat (first | (with_reducible first | exact HB.out | apply below_alloc | apply pw_below_drewN | apply below_drew1) | exact HB.out)⟩⟩
             case round =>
              clear H'
              try clear c1
              try clear p1
              try clear q1
              try clear hx1
              try clear c2
              try clear p2
              try clear q2
              try clear hx2
              try clear c3
              try clear c6
              try clear c6b0
              try clear c6b1
              try clear p6
              try clear c7
              try clear c7b0
              try clear c7b1
              try clear c11
              try clear c11b0
              try clear c12
              try clear c12b0
              try clear c13
              try clear c13b0
              try clear c14
              try clear c14b0
              try clear c15
              try clear p15
              try clear q15
              try clear hx15
              try clear hf15
              try clear c19
              try clear c20
              try clear hx20
              try clear hf20
              try clear c22
              try clear c22b0
              try clear c22b1
              try clear c23
              try clear c23b0
              try clear c23b1
              try clear hcz17_0
              try clear hcz17_1
              try clear hcz17_2
              try clear hcz17_3
              try clear hcz19_0
              try clear hcz19_1
              try clear hcz19_2
              try clear hcz19_3
              try clear hfz17_0
              try clear hfz17_1
              try clear hfz17_2
              try clear hfz17_3
              try clear hfz19_0
              try clear hfz19_1
              try clear hfz19_2
              try clear hfz19_3
              try clear hx15_0
              try clear hx15_1
              try clear hx15_2
              try clear hx15_3
              try clear hx20_0
              try clear hx20_1
              try clear hx20_2
              try clear hx20_3
              try clear hx299_0
              try clear hx299_1
              try clear hx299_2
              try clear hx299_3
              try clear p15
              try clear p2
              try clear p299
              try clear q15
              try clear q299
              obtain ⟨x13_2, x45_2, rfl, HA, HK2, HO_10, HO_13, HB⟩ := hrel
              have hl13_2 := (Kd.R_reads' HO_13.out).1
              rw [hl13_2] at HO_13
              (try simp only [hl13_2])
              (try simp only [hl13_2] at HO_10)
              cases gk with
              | zero => exact absurd HA.out (by simp [diffcons_Latest.l1])
              | succ k2 =>
               have H := HA.out
               clear HA
               simp only [diffcons_Latest.l1] at H
               by_cases c27 : x45_2 < (y302.length : Int)
               · rw [if_pos c27] at H
                 have c27b0 : decide (x45_2 < (y302.length : Int)) = true := decide_eq_true c27
                 (try (have c27b0z := c27b0; simp only [hl13_2] at c27b0z))
                 clear c27
                 replace H := Option.bind_eq_some_iff.mp H
                 obtain ⟨t305, A280, H⟩ := H
                 replace H : (if 0 ≤ x45_2 then (if x45_2 < (x13_2.length : Int) then (diffcons_Latest.l1 k2 t295 a2 l3 x10_1 (x13_2.set (x45_2 : Int).toNat (wrap64 (-t305))) (y302.length : Int) (wrap64 (x45_2 + 1))) else (none)) else (none)) = some (r1, r2) := H
                 have A28 := Aside0.mk A280
                 clear A280
                 by_cases c29 : 0 ≤ x45_2
                 · rw [if_pos c29] at H
                   have c29b0 : decide (0 ≤ x45_2) = true := decide_eq_true c29
                   clear c29
                   by_cases c30 : x45_2 < (x13_2.length : Int)
                   · rw [if_pos c30] at H
                     have c30b0 : decide (x45_2 < (x13_2.length : Int)) = true := decide_eq_true c30
                     (try (have c30b0z := c30b0; simp only [hl13_2] at c30b0z))
                     clear c30
                     obtain ⟨y306, hy306⟩ : ∃ y_ : List Int, y_ = (x13_2.set (x45_2 : Int).toNat (wrap64 (-t305))) := ⟨_, rfl⟩
                     replace H : (diffcons_Latest.l1 k2 t295 a2 l3 x10_1 y306 (y302.length : Int) (wrap64 (x45_2 + 1))) = some (r1, r2) := by first | (rw [hy306]; with_reducible exact H) | (have H2_ := (Option.bind_some _ _).symm.trans H; rw [hy306]; with_reducible exact H2_) | (have H2_ := (Option.bind_some _ _).symm.trans H; with_reducible exact H2_) | with_reducible exact H | (rw [hy306]; exact H) | exact H
                     have Ny306 := Aside0.mk hy306
                     clear hy306
                     have H' := Aside0.mk H
                     clear H
                     go_wp2_with (first | ((with_reducible refine gate_callee (f := 30) rfl ?_); refine goesL_ (some 52) rfl rfl Try.func30 (by kernel_rfl) rfl #[.slice A3 l3.length c3, .int .i64 x45_2] rfl (by (try simp only [List.map_toArray, List.map_cons, List.map_nil]); first | done | rfl | (simp only [List.length_drop, List.length_take]; rfl)) ?_; (with_reducible refine (diffcons_bound.calls _ _ l3 x45_2 t305 _ ?side1 ?side2 A28.out).mono ?_); (case side1 => repeat (first | exact (Kd.C_below HR3.out HB.out) | (with_reducible refine Kd.C_alloc ?_ _) | (with_reducible refine Kd.C_drewN ?_ _) | (with_reducible refine Kd.C_drew ?_))); (case side2 => exact HC3.out); rintro e w32 ⟨rfl, hb⟩; refine ⟨_, rfl, ?_⟩; have n0_ := Aside0.mk (Kd.R_below (by (with_reducible repeat (first | apply Kd.R_alloc | apply Kd.R_drewN | apply Kd.R_drew)); exact HO_10.out) hb); have n1_ := Aside0.mk (Kd.R_below (by (with_reducible repeat (first | apply Kd.R_alloc | apply Kd.R_drewN | apply Kd.R_drew)); exact HO_13.out) hb); have n2_ := Aside0.mk (below_step (by repeat (first | (with_reducible first | exact HB.out | apply below_alloc | apply pw_below_drewN | apply below_drew1) | exact HB.out)) hb); clear HO_10; clear HO_13; clear HB; have HO_10 := n0_; have HO_13 := n1_; have HB := n2_; clear n0_ n1_ n2_; (try clear hb); (try clear hb2); (try clear hk); (try clear hi); have p31 : 0 ≤ (x45_2 : Int) := of_decide_eq_true (by first | (with_reducible assumption) | assumption); have q31 : (x45_2 : Int) < ((x13_2.length : Int) : Int) := of_decide_eq_true (by first | (with_reducible assumption) | assumption); obtain ⟨go31, co31, eo31, gb31, gl31, cl31, HG31⟩ := Kd.R_form HO_13.out (by omega); (first | cases eo31 | (injection eo31 with ea_ en_ ec_; (first | subst ea_ | (injection ea_ with ea_; subst ea_)); subst ec_; clear en_)); have GB31 := Aside0.mk gb31; have GG31 := Aside0.mk HG31; clear gb31 gl31 HG31; obtain ⟨hx31_0, hf31_0⟩ := Kd.R_celln 0 HO_13.out (x45_2 : Int) p31 q31; replace p31 := eq_true p31; replace q31 := eq_true q31; obtain ⟨hy33_, hz33_⟩ := Kd.R_celln 0 HO_13.out (x45_2 : Int) (of_decide_eq_true (by first | (with_reducible assumption) | assumption)) (of_decide_eq_true (by first | (with_reducible assumption) | assumption)); have HP33 := Kd.R_putg HO_13.out (x45_2 : Int) (wrap64 (-t305))) | ((with_reducible refine gate_store (t := 3) (p := 54) rfl ?_); refine store_event (t := 3) (p := 54) (v := ?vo_w34) (w1 := (w32.setCell ⟨go31, (x45_2 : Int).toNat, none⟩ (.int .i64 (wrap64 (-t305))))) ?hg ?ho ?hn ?hr ?_; (case ho => rfl); (case hg => rfl); (case hn => rfl); (case hr => first | (go_simp; done) | (go_simp; rfl)); intro w34 hw; have hg : w32.grownBy w34 (some go31) := (by rw [hw]; exact HP33.2); have hp_ : Kd.R (Kd.int .i64) 3 w34 w.heap.size (fun _ => True) (.slice (some ⟨go31, 0, none⟩) x13_2.length co26) y306 := (by rw [hw, Ny306.out]; exact HP33.1); clear HP33; have n0_ := Aside0.mk (Kd.R_over' (v := (.slice (some ⟨go31, 0, none⟩) x13_2.length co26)) (by (with_reducible repeat (first | apply Kd.R_alloc | apply Kd.R_drewN | apply Kd.R_drew)); exact HO_10.out) (Kd.R_typed HO_13.out) (by decide) hg); have n1_ := Aside0.mk (hp_); have n2_ := Aside0.mk ((by rw [hw]; exact below_set (HB.out) GB31.out : Below w.heap.size w w34)); clear HO_10; clear HO_13; clear HB; have HO_10 := n0_; have HO_13 := n1_; have HB := n2_; clear n0_ n1_ n2_; clear hg hw hp_))
                     (try simp only [← hl13_2])
                     go_roundg k2
                     case measure => have := HK1.out; have := HK2.out; omega
                     case rel => exact ⟨(y306), (wrap64 (x45_2 + 1)), (by first | rfl | (simp; done) | (simp [*]; done)), H', ⟨by have := HK1.out; have := HK2.out; omega⟩, ⟨by (try simp only [hl13_2]); (with_reducible repeat (first | apply Kd.R_alloc | apply Kd.R_drewN | apply Kd.R_drew)); exact HO_10.out⟩, ⟨by (try simp only [hl13_2]); (with_reducible repeat (first | apply Kd.R_alloc | apply Kd.R_drewN | apply Kd.R_drew)); exact HO_13.out⟩, ⟨by repeat (first | (with_reducible first | exact HB.out | apply below_alloc | apply pw_below_drewN | apply below_drew1) | exact HB.out)⟩⟩
                   · rw [if_neg c30] at H
                     exact absurd H (by simp)
                 · rw [if_neg c29] at H
                   exact absurd H (by simp)
               · rw [if_neg c27] at H
                 have c27b0 : decide (x45_2 < (y302.length : Int)) = false := decide_eq_false c27
                 (try (have c27b0z := c27b0; simp only [hl13_2] at c27b0z))
                 clear c27
                 replace H := Option.bind_eq_some_iff.mp H
                 obtain ⟨⟨t307, t308⟩, A350, H⟩ := H
                 replace H : (diffcons_Latest.l2 k2 t307 t308 (t307.length : Int) 0) = some (r1, r2) := H
                 have A35 := Aside0.mk A350
                 clear A350
                 have H' := Aside0.mk H
                 clear H
                 obtain ⟨Ao36, co36, eo36⟩ := Kd.R_slice HO_10.out
                 subst eo36
                 go_wp2_with (first | ((with_reducible refine gate_callee (f := 17) rfl ?_); refine goesL_ (some 61) rfl rfl Try.func17 (by kernel_rfl) rfl #[.int .i64 t295, .slice Ao36 x10_1.length co36, .int .i64 a2, .slice Ao26 x13_2.length co26] rfl (by (try simp only [List.map_toArray, List.map_cons, List.map_nil]); first | done | rfl | (simp only [List.length_drop, List.length_take]; rfl)) ?_; (with_reducible refine (diffcons_After.calls k2 t295 _ _ x10_1 a2 _ _ x13_2 t307 t308 _ ?side1 ?side2 ?side3 ?side4 A35.out).mono ?_); (case side1 => repeat (first | exact (Kd.R_reads' HO_10.out).2.2 | (with_reducible refine Kd.C_alloc ?_ _) | (with_reducible refine Kd.C_drewN ?_ _) | (with_reducible refine Kd.C_drew ?_))); (case side2 => exact (Kd.R_reads' HO_10.out).2.1); (case side3 => repeat (first | exact (Kd.R_reads' HO_13.out).2.2 | (with_reducible refine Kd.C_alloc ?_ _) | (with_reducible refine Kd.C_drewN ?_ _) | (with_reducible refine Kd.C_drew ?_))); (case side4 => exact (Kd.R_reads' HO_13.out).2.1); rintro e w37 ⟨v309, v311, rfl, ho0, ho1, hb⟩; refine ⟨_, rfl, ?_⟩; have n0_ := Aside0.mk (Kd.R_below (by (with_reducible repeat (first | apply Kd.R_alloc | apply Kd.R_drewN | apply Kd.R_drew)); exact HO_10.out) hb); have n1_ := Aside0.mk (Kd.R_mono (Kd.R_told (Kd.R_told (Kd.R_old (by (with_reducible repeat (first | apply Kd.R_alloc | apply Kd.R_drewN | apply Kd.R_drew)); exact HO_13.out) hb) (Kd.R_base ho0)) (Kd.R_base ho1)) (fun _ h_ => h_.1)); have n2_ := Aside0.mk (Kd.R_lower (Kd.R_new' ho0 (Kd.R_lt (by (with_reducible repeat (first | apply Kd.R_alloc | apply Kd.R_drewN | apply Kd.R_drew)); exact HO_13.out))) (below_size (by repeat (first | (with_reducible first | exact HB.out | apply below_alloc | apply pw_below_drewN | apply below_drew1) | exact HB.out)))); have n3_ := Aside0.mk (Kd.R_lower (Kd.R_new' ho1 (Kd.R_lt (by (with_reducible repeat (first | apply Kd.R_alloc | apply Kd.R_drewN | apply Kd.R_drew)); exact HO_13.out))) (below_size (by repeat (first | (with_reducible first | exact HB.out | apply below_alloc | apply pw_below_drewN | apply below_drew1) | exact HB.out)))); have n4_ := Aside0.mk (below_step (by repeat (first | (with_reducible first | exact HB.out | apply below_alloc | apply pw_below_drewN | apply below_drew1) | exact HB.out)) hb); clear HO_10; clear HO_13; clear HB; have HO_10 := n0_; have HO_13 := n1_; have HO310 := n2_; have HO312 := n3_; have HB := n4_; clear n0_ n1_ n2_ n3_ n4_; (try clear hb); (try clear hb2); (try clear hk); (try clear hi); (try clear ho0); (try clear ho1); obtain ⟨Ao38, co38, eo38⟩ := Kd.R_slice HO310.out; subst eo38))
                 go_loopg [66] k2 (fun kq v66 w' => ∃ (x8_3 : List Int) (x66_3 : Int), v66 = .int .i64 x66_3 ∧ Aside0 (diffcons_Latest.l2 kq x8_3 t308 (t307.length : Int) x66_3 = some (r1, r2)) ∧ Aside0 (kq ≤ k2) ∧ Aside0 (Kd.R (Kd.int .i64) 3 w' w.heap.size (fun k_ => some k_ ≠ (v311 : Value).ownBlock) (.slice Ao38 t307.length co38) x8_3) ∧ Aside0 (Kd.R (Kd.int .i64) 3 w' w.heap.size (fun k_ => some k_ ≠ ((.slice Ao38 t307.length co38) : Value).ownBlock) v311 t308) ∧ Aside0 (Below w.heap.size w w'))
                 case atStart => exact ⟨(t307), (0), (by first | rfl | (simp; done) | (simp [*]; done)), H', ⟨Nat.le_refl _⟩, ⟨by (try simp only [hl13_2]); (with_reducible repeat (first | apply Kd.R_alloc | apply Kd.R_drewN | apply Kd.R_drew)); exact Kd.R_mono HO310.out (fun _ hk => hk.1)⟩, ⟨by (try simp only [hl13_2]); (with_reducible repeat (first | apply Kd.R_alloc | apply Kd.R_drewN | apply Kd.R_drew)); exact Kd.R_mono HO312.out (fun _ hk => hk.1)⟩, ⟨by repeat (first | (with_reducible first | exact HB.out | apply below_alloc | apply pw_below_drewN | apply below_drew1) | exact HB.out)⟩⟩
                 case round =>
                  clear H'
                  try clear c1
                  try clear p1
                  try clear q1
                  try clear hx1
                  try clear c2
                  try clear p2
                  try clear q2
                  try clear hx2
                  try clear c3
                  try clear p3
                  try clear q3
                  try clear hx3
                  try clear c6
                  try clear c6b0
                  try clear c6b1
                  try clear p6
                  try clear c7
                  try clear c7b0
                  try clear c7b1
                  try clear c11
                  try clear c11b0
                  try clear c12
                  try clear c12b0
                  try clear c13
                  try clear c13b0
                  try clear c14
                  try clear c14b0
                  try clear c15
                  try clear p15
                  try clear q15
                  try clear hx15
                  try clear hf15
                  try clear c17
                  try clear c19
                  try clear c20
                  try clear hx20
                  try clear hf20
                  try clear c22
                  try clear c22b0
                  try clear c22b1
                  try clear c23
                  try clear c23b0
                  try clear c23b1
                  try clear c27
                  try clear c27b0
                  try clear c29
                  try clear c29b0
                  try clear p29
                  try clear q29
                  try clear hx29
                  try clear c30
                  try clear c30b0
                  try clear p31
                  try clear q31
                  try clear hx31
                  try clear hf31
                  try clear hcz17_0
                  try clear hcz17_1
                  try clear hcz17_2
                  try clear hcz17_3
                  try clear hcz19_0
                  try clear hcz19_1
                  try clear hcz19_2
                  try clear hcz19_3
                  try clear hfz17_0
                  try clear hfz17_1
                  try clear hfz17_2
                  try clear hfz17_3
                  try clear hfz19_0
                  try clear hfz19_1
                  try clear hfz19_2
                  try clear hfz19_3
                  try clear hx15_0
                  try clear hx15_1
                  try clear hx15_2
                  try clear hx15_3
                  try clear hx20_0
                  try clear hx20_1
                  try clear hx20_2
                  try clear hx20_3
                  try clear hx299_0
                  try clear hx299_1
                  try clear hx299_2
                  try clear hx299_3
                  try clear hx31_0
                  try clear p1
                  try clear p15
                  try clear p2
                  try clear p299
                  try clear p31
                  try clear p6
                  try clear q1
                  try clear q15
                  try clear q2
                  try clear q299
                  try clear q31
                  obtain ⟨x8_3, x66_3, rfl, HA, HK3, HO_8, HO_9, HB⟩ := hrel
                  have hl8_3 := (Kd.R_reads' HO_8.out).1
                  rw [hl8_3] at HO_8
                  (try simp only [hl8_3])
                  (try simp only [hl8_3] at HO_9)
                  cases gk with
                  | zero => exact absurd HA.out (by simp [diffcons_Latest.l2])
                  | succ k3 =>
                   have H := HA.out
                   clear HA
                   simp only [diffcons_Latest.l2] at H
                   by_cases c39 : x66_3 < (t307.length : Int)
                   · rw [if_pos c39] at H
                     have c39b0 : decide (x66_3 < (t307.length : Int)) = true := decide_eq_true c39
                     (try (have c39b0z := c39b0; simp only [hl13_2, hl8_3] at c39b0z))
                     clear c39
                     by_cases c40 : 0 ≤ x66_3
                     · rw [if_pos c40] at H
                       have c40b0 : decide (0 ≤ x66_3) = true := decide_eq_true c40
                       clear c40
                       by_cases c41 : x66_3 < (x8_3.length : Int)
                       · rw [if_pos c41] at H
                         have c41b0 : decide (x66_3 < (x8_3.length : Int)) = true := decide_eq_true c41
                         (try (have c41b0z := c41b0; simp only [hl13_2, hl8_3] at c41b0z))
                         clear c41
                         obtain ⟨y314, hy314⟩ : ∃ y_ : List Int, y_ = (x8_3.set (x66_3 : Int).toNat (wrap64 (-(rd x8_3 x66_3)))) := ⟨_, rfl⟩
                         replace H : (diffcons_Latest.l2 k3 y314 t308 (t307.length : Int) (wrap64 (x66_3 + 1))) = some (r1, r2) := by first | (rw [hy314]; with_reducible exact H) | (have H2_ := (Option.bind_some _ _).symm.trans H; rw [hy314]; with_reducible exact H2_) | (have H2_ := (Option.bind_some _ _).symm.trans H; with_reducible exact H2_) | with_reducible exact H | (rw [hy314]; exact H) | exact H
                         have Ny314 := Aside0.mk hy314
                         clear hy314
                         have H' := Aside0.mk H
                         clear H
                         have p313 : 0 ≤ (x66_3 : Int) := of_decide_eq_true (by first | (with_reducible assumption) | assumption)
                         have q313 : x66_3 < (x8_3.length : Int) := of_decide_eq_true (by first | (with_reducible assumption) | assumption)
                         obtain ⟨ad313, e313, hx313_0⟩ := Kd.at_int (Kd.R_reads' HO_8.out).2.2 x66_3 p313 q313
                         cases e313
                         replace p313 := eq_true p313
                         replace q313 := eq_true q313
                         have p42 : 0 ≤ (x66_3 : Int) := of_decide_eq_true (by first | (with_reducible assumption) | assumption)
                         have q42 : (x66_3 : Int) < ((x8_3.length : Int) : Int) := of_decide_eq_true (by first | (with_reducible assumption) | assumption)
                         obtain ⟨go42, co42, eo42, gb42, gl42, cl42, HG42⟩ := Kd.R_form HO_8.out (by omega)
                         (first | cases eo42 | (injection eo42 with ea_ en_ ec_; (first | subst ea_ | (injection ea_ with ea_; subst ea_)); subst ec_; clear en_))
                         have GB42 := Aside0.mk gb42
                         have GG42 := Aside0.mk HG42
                         clear gb42 gl42 HG42
                         (first | simp only [add_plain] at hx313_0 | skip)
                         obtain ⟨hx42_0, hf42_0⟩ := Kd.R_celln 0 HO_8.out (x66_3 : Int) p42 q42
                         replace p42 := eq_true p42
                         replace q42 := eq_true q42
                         have HP43 := Kd.R_putg HO_8.out (x66_3 : Int) (wrap64 (-(rd x8_3 x66_3)))
                         go_wp2_with (first | ((with_reducible refine gate_store (t := 3) (p := 76) rfl ?_); refine store_event (t := 3) (p := 76) (v := ?vo_w44) (w1 := (wr.setCell ⟨go42, (x66_3 : Int).toNat, none⟩ (.int .i64 (wrap64 (-(rd x8_3 x66_3)))))) ?hg ?ho ?hn ?hr ?_; (case ho => rfl); (case hg => rfl); (case hn => rfl); (case hr => first | (go_simp; done) | (go_simp; rfl)); intro w44 hw; have hg : wr.grownBy w44 (some go42) := (by rw [hw]; exact HP43.2); have hp_ : Kd.R (Kd.int .i64) 3 w44 w.heap.size (fun k_ => some k_ ≠ (v311 : Value).ownBlock) (.slice (some ⟨go42, 0, none⟩) x8_3.length co38) y314 := (by rw [hw, Ny314.out]; exact HP43.1); clear HP43; have n0_ := Aside0.mk (hp_); have n1_ := Aside0.mk (Kd.R_after (v := (.slice (some ⟨go42, 0, none⟩) x8_3.length co38)) (v1 := (.slice (some ⟨go42, 0, none⟩) x8_3.length co38)) (ok := (fun _ => True)) (by (with_reducible repeat (first | apply Kd.R_alloc | apply Kd.R_drewN | apply Kd.R_drew)); exact Kd.R_mono HO_9.out (fun _ hk => ⟨trivial, hk⟩)) hg (.inl rfl)); have n2_ := Aside0.mk ((by rw [hw]; exact below_set (HB.out) GB42.out : Below w.heap.size w w44)); clear HO_8; clear HO_9; clear HB; have HO_8 := n0_; have HO_9 := n1_; have HB := n2_; clear n0_ n1_ n2_; clear hg hw hp_))
                         (try simp only [← hl8_3])
                         go_roundg k3
                         case measure => have := HK1.out; have := HK2.out; have := HK3.out; omega
                         case rel => exact ⟨(y314), (wrap64 (x66_3 + 1)), (by first | rfl | (simp; done) | (simp [*]; done)), H', ⟨by have := HK1.out; have := HK2.out; have := HK3.out; omega⟩, ⟨by (try simp only [hl13_2]); (try simp only [hl8_3]); (with_reducible repeat (first | apply Kd.R_alloc | apply Kd.R_drewN | apply Kd.R_drew)); exact HO_8.out⟩, ⟨by (try simp only [hl13_2]); (try simp only [hl8_3]); (with_reducible repeat (first | apply Kd.R_alloc | apply Kd.R_drewN | apply Kd.R_drew)); exact Kd.R_mono HO_9.out (fun _ hk => hk.2)⟩, ⟨by repeat (first | (with_reducible first | exact HB.out | apply below_alloc | apply pw_below_drewN | apply below_drew1) | exact HB.out)⟩⟩
                       · rw [if_neg c41] at H
                         exact absurd H (by simp)
                     · rw [if_neg c40] at H
                       exact absurd H (by simp)
                   · rw [if_neg c39] at H
                     have c39b0 : decide (x66_3 < (t307.length : Int)) = false := decide_eq_false c39
                     (try (have c39b0z := c39b0; simp only [hl13_2, hl8_3] at c39b0z))
                     clear c39
                     replace H := Option.bind_eq_some_iff.mp H
                     obtain ⟨t315, A450, H⟩ := H
                     replace H : (some (x8_3, t315)) = some (r1, r2) := H
                     have A45 := Aside0.mk A450
                     clear A450
                     simp only [Option.some.injEq, Prod.mk.injEq] at H
                     obtain ⟨rfl, rfl⟩ := H
                     obtain ⟨Ao46, co46, eo46⟩ := Kd.R_slice HO_9.out
                     subst eo46
                     go_wp2_with (first | ((with_reducible refine gate_callee (f := 33) rfl ?_); refine goesL_ (some 79) rfl rfl Try.func33 (by kernel_rfl) rfl #[.slice Ao46 t308.length co46] rfl (by (try simp only [List.map_toArray, List.map_cons, List.map_nil]); first | done | rfl | (simp only [List.length_drop, List.length_take]; rfl)) ?_; (with_reducible refine (slices_Reverse_int_int.calls k3 (fun k_ => some k_ = (.slice Ao46 t308.length co46 : Value).ownBlock) (.slice Ao46 t308.length co46) t308 t315 w _ ?side1 ?side2 A45.out).mono ?_); (case side1 => repeat (first | (with_reducible first | exact HB.out | apply below_alloc | apply pw_below_drewN | apply below_drew1) | exact HB.out)); (case side2 => exact Kd.R_tight rfl HO_9.out); rintro e w47 ⟨rfl, hy0, hb, hkp⟩; refine ⟨_, rfl, ?_⟩; have n0_ := Aside0.mk (Kd.R_mono (ok' := fun k_ => some k_ ≠ (.slice Ao46 t308.length co46 : Value).ownBlock) (Kd.R_keptB (HO_8.out) hkp (fun k_ hk_ hs_ => (hk_) hs_)) (fun k_ hk_ => hk_.1)); have n1_ := Aside0.mk (Kd.R_reok rfl hy0 (fun k_ e_ => HO_9.out.1 k_ e_)); have n2_ := Aside0.mk (hb); clear HO_8; clear HO_9; clear HB; have HO_8 := n0_; have HO_9 := n1_; have HB := n2_; clear n0_ n1_ n2_; (try clear hb); (try clear hkp); (try clear hy0)))
                     go_ret2
                     exact ⟨_, _, by first | rfl | (simp [errW_none, errW_some] <;> rfl) | (simp [*, errW_none, errW_some] <;> rfl), by (with_reducible repeat (first | apply Kd.R_alloc | apply Kd.R_drewN | apply Kd.R_drew)); exact HO_8.out, by (with_reducible repeat (first | apply Kd.R_alloc | apply Kd.R_drewN | apply Kd.R_drew)); exact HO_9.out, by repeat (first | (with_reducible first | exact HB.out | apply below_alloc | apply pw_below_drewN | apply below_drew1) | exact HB.out)⟩
           · rw [if_neg c23] at H
             exact absurd H (by simp)
         · rw [if_neg c22] at H
           exact absurd H (by simp)
   · rw [if_neg c7] at H
     exact absurd H (by simp)
 · rw [if_neg c6] at H
   exact absurd H (by simp)
end Go.Proofs.Ytflefelgdcblgaa.Q
