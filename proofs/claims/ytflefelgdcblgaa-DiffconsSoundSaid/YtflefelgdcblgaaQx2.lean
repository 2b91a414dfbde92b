-- Printed by a program of this session (gprint.py, which runs the kit's print.py): Lean checks it.
import Derived.Test.YtflefelgdcblgaaQx0
import Derived.Test.YtflefelgdcblgaaQx1
namespace Go.Proofs.Ytflefelgdcblgaa.Q
open Go.RowKit Go.Proofs.YtflefelgdcblgaaW.PrintWords Go.Proofs.YtflefelgdcblgaaW.PrintLast Go.Proofs.YtflefelgdcblgaaW.PrintMore
attribute [local go_sem] max2_int min2_int max_two min_two max_three min_three max_four min_four   -- for this text's walks alone
set_option linter.unusedVariables false
set_option linter.unusedSimpArgs false
mutual
def diffcons_around.j1 : Nat → List (S28) → List Int → Int → Option (List Int)
 | 0, _, _, _ => none
 | k + 1, x0, x1, x2 => diffcons_around.l1 k x0 x1 x2 ([] : List Int) x2
def diffcons_around.l1 : Nat → List (S28) → List Int → Int → List Int → Int → Option (List Int)
 | 0, _, _, _, _, _ => none
 | k + 1, x0, x1, x2, x9, x10 => if 0 ≤ x10 then (if x10 < (x1.length : Int) then (if x9.length < 17592186044416 then ((some (x9 ++ [rd x1 x10] : List Int)).bind fun y117 => (if 0 ≤ (rd x1 x10) then (if (rd x1 x10) < (x0.length : Int) then (if ((rd_T28 x0 (rd x1 x10)).f0) = x2 then ((slices_Reverse_int_int.f k y117).bind fun t122 => (some t122)) else (diffcons_around.l1 k x0 x1 x2 y117 ((rd_T28 x0 (rd x1 x10)).f0))) else (none)) else (none))) else (none)) else (none)) else (none)
def diffcons_around.l0 : Nat → List (S28) → List Int → Int → Int → Int → Option (List Int)
 | 0, _, _, _, _, _ => none
 | k + 1, x0, x1, x2, x11, x12 => if x12 < x11 then (if 0 ≤ x2 then (if x2 < (x1.length : Int) then (if (rd x1 x2) < 0 then (diffcons_around.j1 k x0 x1 x2) else (if 0 ≤ (rd x1 x2) then (if (rd x1 x2) < (x0.length : Int) then (diffcons_around.l0 k x0 x1 ((rd_T28 x0 (rd x1 x2)).f0) x11 (wrap64 (x12 + 1))) else (none)) else (none))) else (none)) else (none)) else (diffcons_around.j1 k x0 x1 x2)
end
def diffcons_around.f (k : Nat) (l0 : List (S28)) (l1 : List Int) (a2 : Int) (a3 : Int) : Option (List Int) := diffcons_around.l0 k l0 l1 a2 a3 0
theorem diffcons_around.mono_l : ∀ k, (∀ y0 y1 y2, LeO (diffcons_around.j1 k y0 y1 y2) (diffcons_around.j1 (k + 1) y0 y1 y2)) ∧ (∀ y0 y1 y2 y3 y4, LeO (diffcons_around.l1 k y0 y1 y2 y3 y4) (diffcons_around.l1 (k + 1) y0 y1 y2 y3 y4)) ∧ (∀ y0 y1 y2 y3 y4, LeO (diffcons_around.l0 k y0 y1 y2 y3 y4) (diffcons_around.l0 (k + 1) y0 y1 y2 y3 y4))
 | 0 => ⟨fun _ _ _ r h => by simp [diffcons_around.j1] at h, fun _ _ _ _ _ r h => by simp [diffcons_around.l1] at h, fun _ _ _ _ _ r h => by simp [diffcons_around.l0] at h⟩
 | k + 1 => by
  obtain ⟨ih0, ih1, ih2⟩ := diffcons_around.mono_l k
  refine ⟨?_, ?_, ?_⟩
  · intro y0 y1 y2
    unfold diffcons_around.j1
    repeat' first
    | (with_reducible exact ih0 _ _ _)
    | (with_reducible exact ih1 _ _ _ _ _)
    | (with_reducible exact ih2 _ _ _ _ _)
    | (with_reducible exact slices_Reverse_int_int.mono _ _)
    | (with_reducible exact LeO.refl _)
    | (with_reducible exact LeO.none _)
    | (with_reducible refine LeO.ite ?_ ?_)
    | (with_reducible refine LeO.bind ?_ (fun _ => ?_))
    | exact ih0 _ _ _
    | exact ih1 _ _ _ _ _
    | exact ih2 _ _ _ _ _
    | exact slices_Reverse_int_int.mono _ _
    | exact LeO.none _
    | refine LeO.ite ?_ ?_
    | refine LeO.bind ?_ (fun _ => ?_)
  · intro y0 y1 y2 y3 y4
    unfold diffcons_around.l1
    repeat' first
    | (with_reducible exact ih0 _ _ _)
    | (with_reducible exact ih1 _ _ _ _ _)
    | (with_reducible exact ih2 _ _ _ _ _)
    | (with_reducible exact slices_Reverse_int_int.mono _ _)
    | (with_reducible exact LeO.refl _)
    | (with_reducible exact LeO.none _)
    | (with_reducible refine LeO.ite ?_ ?_)
    | (with_reducible refine LeO.bind ?_ (fun _ => ?_))
    | exact ih0 _ _ _
    | exact ih1 _ _ _ _ _
    | exact ih2 _ _ _ _ _
    | exact slices_Reverse_int_int.mono _ _
    | exact LeO.none _
    | refine LeO.ite ?_ ?_
    | refine LeO.bind ?_ (fun _ => ?_)
  · intro y0 y1 y2 y3 y4
    unfold diffcons_around.l0
    repeat' first
    | (with_reducible exact ih0 _ _ _)
    | (with_reducible exact ih1 _ _ _ _ _)
    | (with_reducible exact ih2 _ _ _ _ _)
    | (with_reducible exact slices_Reverse_int_int.mono _ _)
    | (with_reducible exact LeO.refl _)
    | (with_reducible exact LeO.none _)
    | (with_reducible refine LeO.ite ?_ ?_)
    | (with_reducible refine LeO.bind ?_ (fun _ => ?_))
    | exact ih0 _ _ _
    | exact ih1 _ _ _ _ _
    | exact ih2 _ _ _ _ _
    | exact slices_Reverse_int_int.mono _ _
    | exact LeO.none _
    | refine LeO.ite ?_ ?_
    | refine LeO.bind ?_ (fun _ => ?_)
theorem diffcons_around.mono : ∀ a0 a1 a2 a3 k, LeO (diffcons_around.f k a0 a1 a2 a3) (diffcons_around.f (k + 1) a0 a1 a2 a3) := by
 intro a0 a1 a2 a3 k
 obtain ⟨ih0, ih1, ih2⟩ := diffcons_around.mono_l k
 unfold diffcons_around.f
 repeat' first
  | (with_reducible exact ih0 _ _ _)
  | (with_reducible exact ih1 _ _ _ _ _)
  | (with_reducible exact ih2 _ _ _ _ _)
  | (with_reducible exact slices_Reverse_int_int.mono _ _)
  | (with_reducible exact LeO.refl _)
  | (with_reducible exact LeO.none _)
  | (with_reducible refine LeO.ite ?_ ?_)
  | (with_reducible refine LeO.bind ?_ (fun _ => ?_))
  | exact ih0 _ _ _
  | exact ih1 _ _ _ _ _
  | exact ih2 _ _ _ _ _
  | exact slices_Reverse_int_int.mono _ _
  | exact LeO.none _
  | refine LeO.ite ?_ ?_
  | refine LeO.bind ?_ (fun _ => ?_)
set_option maxHeartbeats 8000000 in set_option maxRecDepth 100000 in theorem diffcons_around.calls (k : Nat) (A0 : Option Addr) (c0 : Nat) (l0 : List (S28)) (A1 : Option Addr) (c1 : Nat) (l1 : List Int) (a2 : Int) (a3 : Int) (r : List Int) (w : World) (hr0 : Kd.C k28 w A0 l0.length l0) (hc0 : l0.length ≤ c0) (hr1 : Kd.C (Kd.int .i64) w A1 l1.length l1) (hc1 : l1.length ≤ c1) (h : diffcons_around.f k l0 l1 a2 a3 = some r) :
 Calls Try.prog 32 #[.slice A0 l0.length c0, .slice A1 l1.length c1, .int .i64 a2, .int .i64 a3] w fun e w' => ∃ v0_ : Value, e = .returned (v0_) ∧ Kd.R (Kd.int .i64) 3 w' w.heap.size (fun _ => True) v0_ r ∧ Below w.heap.size w w' := by
 have HR0 := Aside0.mk hr0
 have HC0 := Aside0.mk hc0
 clear hr0 hc0
 have HR1 := Aside0.mk hr1
 have HC1 := Aside0.mk hc1
 clear hr1 hc1
 have HB := Aside0.mk (Below.refl w.heap.size w)
 have H : (diffcons_around.l0 k l0 l1 a2 a3 0) = some r := h
 clear h
 have HC5 := Aside0.mk H
 clear H
 go_enter Try.func32, Try.ntmps32
 go_upto_block 0 with (fail)
 go_cut [2] (fun v2 wc => ∃ (kq : Nat) (x2_4 : Int), v2 = .int .i64 x2_4 ∧ Aside0 (diffcons_around.j1 kq l0 l1 x2_4 = some r) ∧ Aside0 (kq ≤ k) ∧ Aside0 (Below w.heap.size w wc))
 case first =>
  have H := HC5.out
  clear HC5
  have H' := Aside0.mk H
  clear H
  go_wp2
  go_loopg [2, 12] k (fun kq v2 v12 w' => ∃ (x2_1 : Int) (x12_1 : Int), v2 = .int .i64 x2_1 ∧ v12 = .int .i64 x12_1 ∧ Aside0 (diffcons_around.l0 kq l0 l1 x2_1 a3 x12_1 = some r) ∧ Aside0 (kq ≤ k) ∧ Aside0 (Below w.heap.size w w'))
  case atStart => exact ⟨(a2), (0), (by first | rfl | (simp; done) | (simp [*]; done)), (by first | rfl | (simp; done) | (simp [*]; done)), H', ⟨Nat.le_refl _⟩, ⟨by repeat (first | (with_reducible first | exact HB.out | apply below_alloc | apply pw_below_drewN | apply below_drew1) | exact HB.out)⟩⟩
  case round =>
   clear H'
   try clear c1
   try clear p2
   try clear c3
   obtain ⟨x2_1, x12_1, rfl, rfl, HA, HK1, HB⟩ := hrel
   cases gk with
   | zero => exact absurd HA.out (by simp [diffcons_around.l0])
   | succ k1 =>
    have H := HA.out
    clear HA
    simp only [diffcons_around.l0] at H
    by_cases c6 : x12_1 < a3
    · rw [if_pos c6] at H
      have c6b0 : decide (x12_1 < a3) = true := decide_eq_true c6
      clear c6
      (first | rw [c6b0] | (simp only [i64_w, i32_w]; rw [c6b0]) | skip)
      by_cases c7 : 0 ≤ x2_1
      · rw [if_pos c7] at H
        have c7b0 : decide (0 ≤ x2_1) = true := decide_eq_true c7
        clear c7
        by_cases c8 : x2_1 < (l1.length : Int)
        · rw [if_pos c8] at H
          have c8b0 : decide (x2_1 < (l1.length : Int)) = true := decide_eq_true c8
          clear c8
          by_cases c9 : (rd l1 x2_1) < 0
          · rw [if_pos c9] at H
            have c9b0 : decide ((rd l1 x2_1) < 0) = true := decide_eq_true c9
            clear c9
            have H' := Aside0.mk H
            clear H
            have p113 : 0 ≤ (x2_1 : Int) := of_decide_eq_true (by first | (with_reducible assumption) | assumption)
            have q113 : x2_1 < (l1.length : Int) := of_decide_eq_true (by first | (with_reducible assumption) | assumption)
            obtain ⟨ad113, e113, hx113_0⟩ := Kd.at_int HR1.out x2_1 p113 q113
            cases e113
            replace hx113_0 := (HB.out.cell (World.block_lt_of_cell? w _ hx113_0)).trans hx113_0
            replace p113 := eq_true p113
            replace q113 := eq_true q113
            go_wp2
            go_meet
            case rel => exact ⟨_, (x2_1), (by first | rfl | (simp; done) | (simp [*]; done)), H', ⟨by have := HK1.out; first | omega | exact Nat.le_refl _⟩, ⟨by repeat (first | (with_reducible first | exact HB.out | apply below_alloc | apply pw_below_drewN | apply below_drew1) | exact HB.out)⟩⟩
          · rw [if_neg c9] at H
            have c9b0 : decide ((rd l1 x2_1) < 0) = false := decide_eq_false c9
            clear c9
            by_cases c10 : 0 ≤ (rd l1 x2_1)
            · rw [if_pos c10] at H
              have c10b0 : decide (0 ≤ (rd l1 x2_1)) = true := decide_eq_true c10
              clear c10
              by_cases c11 : (rd l1 x2_1) < (l0.length : Int)
              · rw [if_pos c11] at H
                have c11b0 : decide ((rd l1 x2_1) < (l0.length : Int)) = true := decide_eq_true c11
                clear c11
                have H' := Aside0.mk H
                clear H
                have p113 : 0 ≤ (x2_1 : Int) := of_decide_eq_true (by first | (with_reducible assumption) | assumption)
                have q113 : x2_1 < (l1.length : Int) := of_decide_eq_true (by first | (with_reducible assumption) | assumption)
                obtain ⟨ad113, e113, hx113_0⟩ := Kd.at_int HR1.out x2_1 p113 q113
                cases e113
                replace hx113_0 := (HB.out.cell (World.block_lt_of_cell? w _ hx113_0)).trans hx113_0
                replace p113 := eq_true p113
                replace q113 := eq_true q113
                have p114 : 0 ≤ (x2_1 : Int) := of_decide_eq_true (by first | (with_reducible assumption) | assumption)
                have q114 : x2_1 < (l1.length : Int) := of_decide_eq_true (by first | (with_reducible assumption) | assumption)
                obtain ⟨ad114, e114, hx114_0⟩ := Kd.at_int HR1.out x2_1 p114 q114
                obtain rfl : ad113 = ad114 := (by injection e114)
                replace hx114_0 := (HB.out.cell (World.block_lt_of_cell? w _ hx114_0)).trans hx114_0
                replace p114 := eq_true p114
                replace q114 := eq_true q114
                have p115 : 0 ≤ ((rd l1 x2_1) : Int) := of_decide_eq_true (by first | (with_reducible assumption) | assumption)
                have q115 : (rd l1 x2_1) < (l0.length : Int) := of_decide_eq_true (by first | (with_reducible assumption) | assumption)
                obtain ⟨ad115, e115, hx115_0, hx115_1, hx115_2, hx115_3⟩ := at_T28 HR0.out (rd l1 x2_1) p115 q115
                cases e115
                replace hx115_0 := (HB.out.cell (World.block_lt_of_cell? w _ hx115_0)).trans hx115_0
                replace hx115_1 := (HB.out.cell (World.block_lt_of_cell? w _ hx115_1)).trans hx115_1
                replace hx115_2 := (HB.out.cell (World.block_lt_of_cell? w _ hx115_2)).trans hx115_2
                replace hx115_3 := (HB.out.cell (World.block_lt_of_cell? w _ hx115_3)).trans hx115_3
                replace p115 := eq_true p115
                replace q115 := eq_true q115
                go_wp2
                go_roundg k1
                case measure => have := HK1.out; omega
                case rel => exact ⟨((rd_T28 l0 (rd l1 x2_1)).f0), (wrap64 (x12_1 + 1)), (by first | rfl | (simp; done) | (simp [*]; done)), (by first | rfl | (simp; done) | (simp [*]; done)), H', ⟨by have := HK1.out; omega⟩, ⟨by repeat (first | (with_reducible first | exact HB.out | apply below_alloc | apply pw_below_drewN | apply below_drew1) | exact HB.out)⟩⟩
              · rw [if_neg c11] at H
                exact absurd H (by simp)
            · rw [if_neg c10] at H
              exact absurd H (by simp)
        · rw [if_neg c8] at H
          exact absurd H (by simp)
      · rw [if_neg c7] at H
        exact absurd H (by simp)
    · rw [if_neg c6] at H
      have c6b0 : decide (x12_1 < a3) = false := decide_eq_false c6
      clear c6
      (first | rw [c6b0] | (simp only [i64_w, i32_w]; rw [c6b0]) | skip)
      have H' := Aside0.mk H
      clear H
      go_wp2
      go_meet
      case rel => exact ⟨_, (x2_1), (by first | rfl | (simp; done) | (simp [*]; done)), H', ⟨by have := HK1.out; first | omega | exact Nat.le_refl _⟩, ⟨by repeat (first | (with_reducible first | exact HB.out | apply below_alloc | apply pw_below_drewN | apply below_drew1) | exact HB.out)⟩⟩
 case rest =>
  clear HC5
  try clear c1
  try clear p1
  try clear q1
  try clear hx1
  try clear p2
  try clear c3
  try clear c6
  try clear c6b0
  try clear p6
  try clear c7
  try clear c7b0
  try clear c8
  try clear c8b0
  try clear c9
  try clear c9b0
  try clear c10
  try clear c10b0
  try clear c11
  try clear c11b0
  try clear p11
  try clear q11
  try clear hx11
  try clear hx113_0
  try clear hx114_0
  try clear hx115_0
  try clear hx115_1
  try clear hx115_2
  try clear hx115_3
  try clear p113
  try clear p114
  try clear p115
  try clear p2
  try clear q113
  try clear q114
  try clear q115
  obtain ⟨kq, x2_4, rfl, HA, HJ4, HB⟩ := hcut
  cases kq with
  | zero => exact absurd HA.out (by simp [diffcons_around.j1])
  | succ kj4 =>
   have H := HA.out
   clear HA
   simp only [diffcons_around.j1] at H
   have H' := Aside0.mk H
   clear H
   go_wp2
   go_loopg [9, 10] kj4 (fun kq v9 v10 w' => ∃ (x9_2 : List Int) (x10_2 : Int), v10 = .int .i64 x10_2 ∧ Aside0 (diffcons_around.l1 kq l0 l1 x2_4 x9_2 x10_2 = some r) ∧ Aside0 (kq ≤ kj4) ∧ Aside0 (Kd.R (Kd.int .i64) 3 w' w.heap.size (fun _ => True) v9 x9_2) ∧ Aside0 (Below w.heap.size w w'))
   case atStart => exact ⟨(([] : List Int)), (x2_4), (by first | rfl | (simp; done) | (simp [*]; done)), H', ⟨Nat.le_refl _⟩, ⟨by first | exact Kd.R_nil _ _ _ _ _ | exact Kd.N_nil _ _ _ _ _ | exact Kd.V_nil _ _ _ _ _ | exact Kd.Q_nil _ _ _ _ _ | exact Kd.S_nil _ _ _ _ _⟩, ⟨by repeat (first | (with_reducible first | exact HB.out | apply below_alloc | apply pw_below_drewN | apply below_drew1) | exact HB.out)⟩⟩
   case round =>
    clear H'
    try clear c1
    try clear p1
    try clear q1
    try clear hx1
    try clear p2
    try clear c3
    try clear c6
    try clear c6b0
    try clear p6
    try clear c7
    try clear c7b0
    try clear c8
    try clear c8b0
    try clear c9
    try clear c9b0
    try clear c10
    try clear c10b0
    try clear c11
    try clear c11b0
    try clear p11
    try clear q11
    try clear hx11
    try clear hx113_0
    try clear hx114_0
    try clear hx115_0
    try clear hx115_1
    try clear hx115_2
    try clear hx115_3
    try clear p1
    try clear p11
    try clear p113
    try clear p114
    try clear p115
    try clear p2
    try clear p6
    try clear q1
    try clear q11
    try clear q113
    try clear q114
    try clear q115
    obtain ⟨x9_2, x10_2, rfl, HA, HK2, HO_9, HB⟩ := hrel
    cases gk with
    | zero => exact absurd HA.out (by simp [diffcons_around.l1])
    | succ k2 =>
     have H := HA.out
     clear HA
     simp only [diffcons_around.l1] at H
     by_cases c12 : 0 ≤ x10_2
     · rw [if_pos c12] at H
       have c12b0 : decide (0 ≤ x10_2) = true := decide_eq_true c12
       clear c12
       by_cases c13 : x10_2 < (l1.length : Int)
       · rw [if_pos c13] at H
         have c13b0 : decide (x10_2 < (l1.length : Int)) = true := decide_eq_true c13
         clear c13
         by_cases c14 : x9_2.length < 17592186044416
         · rw [if_pos c14] at H
           have LMc14 := Aside0.mk c14
           clear c14
           obtain ⟨y117, hy117⟩ : ∃ y_ : List Int, y_ = (x9_2 ++ [rd l1 x10_2]) := ⟨_, rfl⟩
           replace H : (if 0 ≤ (rd l1 x10_2) then (if (rd l1 x10_2) < (l0.length : Int) then (if ((rd_T28 l0 (rd l1 x10_2)).f0) = x2_4 then ((slices_Reverse_int_int.f k2 y117).bind fun t122 => (some t122)) else (diffcons_around.l1 k2 l0 l1 x2_4 y117 ((rd_T28 l0 (rd l1 x10_2)).f0))) else (none)) else (none)) = some r := by first | (rw [hy117]; with_reducible exact H) | (have H2_ := (Option.bind_some _ _).symm.trans H; rw [hy117]; with_reducible exact H2_) | (have H2_ := (Option.bind_some _ _).symm.trans H; with_reducible exact H2_) | with_reducible exact H | (rw [hy117]; exact H) | exact H
           have Ny117 := Aside0.mk hy117
           clear hy117
           by_cases c15 : 0 ≤ (rd l1 x10_2)
           · rw [if_pos c15] at H
             have c15b0 : decide (0 ≤ (rd l1 x10_2)) = true := decide_eq_true c15
             clear c15
             by_cases c16 : (rd l1 x10_2) < (l0.length : Int)
             · rw [if_pos c16] at H
               have c16b0 : decide ((rd l1 x10_2) < (l0.length : Int)) = true := decide_eq_true c16
               clear c16
               by_cases c17 : ((rd_T28 l0 (rd l1 x10_2)).f0) = x2_4
               · rw [if_pos c17] at H
                 have c17b0 : (((rd_T28 l0 (rd l1 x10_2)).f0) == x2_4) = true := beq_iff_eq.mpr c17
                 have c17b1 : (((rd_T28 l0 (rd l1 x10_2)).f0) != x2_4) = false := bne_eq_false_iff_eq.mpr c17
                 clear c17
                 replace H := Option.bind_eq_some_iff.mp H
                 obtain ⟨t122, A180, H⟩ := H
                 replace H : (some t122) = some r := H
                 have A18 := Aside0.mk A180
                 clear A180
                 obtain rfl := Option.some.inj H
                 have p116 : 0 ≤ (x10_2 : Int) := of_decide_eq_true (by first | (with_reducible assumption) | assumption)
                 have q116 : x10_2 < (l1.length : Int) := of_decide_eq_true (by first | (with_reducible assumption) | assumption)
                 obtain ⟨ad116, e116, hx116_0⟩ := Kd.at_int HR1.out x10_2 p116 q116
                 cases e116
                 replace hx116_0 := (HB.out.cell (World.block_lt_of_cell? w _ hx116_0)).trans hx116_0
                 replace p116 := eq_true p116
                 replace q116 := eq_true q116
                 go_wp2_with (first | ((with_reducible refine gate_builtin (b := .append) (xs := #[.tmp 29, .tmp 34]) rfl ?_); at_builtin; refine Kd.R_append (Kd.int .i64) (w0 := w) w.heap.size rfl (.tmp 29) (.tmp 34) 29 3 (.int .i64 0) 8 rfl Try.underlying29 info3 rfl (by decide) (by omega) u9 x9_2 (rd l1 x10_2) [.int .i64 (rd l1 x10_2)] (fun _ => True) (fun _ => False) rfl rfl ?aP (fun _ hk => hk.elim) ?aF ?aO ?aB ?aS ?aL ?_; (case aP => exact rfl); (case aB => exact (by repeat (first | (with_reducible first | exact HB.out | apply below_alloc | apply pw_below_drewN | apply below_drew1) | exact HB.out))); (case aF => exact (fun _ _ => trivial)); (case aO => exact (by (with_reducible repeat (first | apply Kd.R_alloc | apply Kd.R_drewN | apply Kd.R_drew)); exact HO_9.out)); (case aS => exact (below_size (by repeat (first | (with_reducible first | exact HB.out | apply below_alloc | apply pw_below_drewN | apply below_drew1) | exact HB.out)))); (case aL => have := LMc14.out; omega); intro v118 w19 ho hb hg hat; rw [← Ny117.out] at ho; have n0_ := Aside0.mk (hb); have n1_ := Aside0.mk (ho); clear HB; clear HO_9; have HB := n0_; have HO119 := n1_; clear n0_ n1_; clear ho hb hg hat; have p120 : 0 ≤ (x10_2 : Int) := of_decide_eq_true (by first | (with_reducible assumption) | assumption); have q120 : x10_2 < (l1.length : Int) := of_decide_eq_true (by first | (with_reducible assumption) | assumption); obtain ⟨ad120, e120, hx120_0⟩ := Kd.at_int HR1.out x10_2 p120 q120; obtain rfl : ad116 = ad120 := (by injection e120); replace hx120_0 := (HB.out.cell (World.block_lt_of_cell? w _ hx120_0)).trans hx120_0; replace p120 := eq_true p120; replace q120 := eq_true q120; have p121 : 0 ≤ ((rd l1 x10_2) : Int) := of_decide_eq_true (by first | (with_reducible assumption) | assumption); have q121 : (rd l1 x10_2) < (l0.length : Int) := of_decide_eq_true (by first | (with_reducible assumption) | assumption); obtain ⟨ad121, e121, hx121_0, hx121_1, hx121_2, hx121_3⟩ := at_T28 HR0.out (rd l1 x10_2) p121 q121; cases e121; replace hx121_0 := (HB.out.cell (World.block_lt_of_cell? w _ hx121_0)).trans hx121_0; replace hx121_1 := (HB.out.cell (World.block_lt_of_cell? w _ hx121_1)).trans hx121_1; replace hx121_2 := (HB.out.cell (World.block_lt_of_cell? w _ hx121_2)).trans hx121_2; replace hx121_3 := (HB.out.cell (World.block_lt_of_cell? w _ hx121_3)).trans hx121_3; replace p121 := eq_true p121; replace q121 := eq_true q121; obtain ⟨Ao20, co20, eo20⟩ := Kd.R_slice HO119.out; subst eo20) | ((with_reducible refine gate_callee (f := 33) rfl ?_); refine goesL_ (some 48) rfl rfl Try.func33 (by kernel_rfl) rfl #[.slice Ao20 y117.length co20] rfl (by (try simp only [List.map_toArray, List.map_cons, List.map_nil]); first | done | rfl | (simp only [List.length_drop, List.length_take]; rfl)) ?_; (with_reducible refine (slices_Reverse_int_int.calls k2 (fun k_ => some k_ = (.slice Ao20 y117.length co20 : Value).ownBlock) (.slice Ao20 y117.length co20) y117 t122 w _ ?side1 ?side2 A18.out).mono ?_); (case side1 => repeat (first | (with_reducible first | exact HB.out | apply below_alloc | apply pw_below_drewN | apply below_drew1) | exact HB.out)); (case side2 => exact Kd.R_tight rfl HO119.out); rintro e w21 ⟨rfl, hy0, hb, hkp⟩; refine ⟨_, rfl, ?_⟩; have n0_ := Aside0.mk (Kd.R_reok rfl hy0 (fun k_ e_ => HO119.out.1 k_ e_)); have n1_ := Aside0.mk (hb); clear HO119; clear HB; have HO119 := n0_; have HB := n1_; clear n0_ n1_; (try clear hb); (try clear hkp); (try clear hy0)))
                 go_ret
                 exact ⟨_, by first | rfl | (simp [errW_none, errW_some] <;> rfl) | (simp [*, errW_none, errW_some] <;> rfl), by (with_reducible repeat (first | apply Kd.R_alloc | apply Kd.R_drewN | apply Kd.R_drew)); exact HO119.out, by repeat (first | (with_reducible first | exact HB.out | apply below_alloc | apply pw_below_drewN | apply below_drew1) | exact HB.out)⟩
               · rw [if_neg c17] at H
                 have c17b0 : (((rd_T28 l0 (rd l1 x10_2)).f0) == x2_4) = false := beq_eq_false_iff_ne.mpr c17
                 have c17b1 : (((rd_T28 l0 (rd l1 x10_2)).f0) != x2_4) = true := bne_iff_ne.mpr c17
                 have H' := Aside0.mk H
                 clear H
                 have p116 : 0 ≤ (x10_2 : Int) := of_decide_eq_true (by first | (with_reducible assumption) | assumption)
                 have q116 : x10_2 < (l1.length : Int) := of_decide_eq_true (by first | (with_reducible assumption) | assumption)
                 obtain ⟨ad116, e116, hx116_0⟩ := Kd.at_int HR1.out x10_2 p116 q116
                 cases e116
                 replace hx116_0 := (HB.out.cell (World.block_lt_of_cell? w _ hx116_0)).trans hx116_0
                 replace p116 := eq_true p116
                 replace q116 := eq_true q116
                 go_wp2_with (first | ((with_reducible refine gate_builtin (b := .append) (xs := #[.tmp 29, .tmp 34]) rfl ?_); at_builtin; refine Kd.R_append (Kd.int .i64) (w0 := w) w.heap.size rfl (.tmp 29) (.tmp 34) 29 3 (.int .i64 0) 8 rfl Try.underlying29 info3 rfl (by decide) (by omega) u9 x9_2 (rd l1 x10_2) [.int .i64 (rd l1 x10_2)] (fun _ => True) (fun _ => False) rfl rfl ?aP (fun _ hk => hk.elim) ?aF ?aO ?aB ?aS ?aL ?_; (case aP => exact rfl); (case aB => exact (by repeat (first | (with_reducible first | exact HB.out | apply below_alloc | apply pw_below_drewN | apply below_drew1) | exact HB.out))); (case aF => exact (fun _ _ => trivial)); (case aO => exact (by (with_reducible repeat (first | apply Kd.R_alloc | apply Kd.R_drewN | apply Kd.R_drew)); exact HO_9.out)); (case aS => exact (below_size (by repeat (first | (with_reducible first | exact HB.out | apply below_alloc | apply pw_below_drewN | apply below_drew1) | exact HB.out)))); (case aL => have := LMc14.out; omega); intro v118 w22 ho hb hg hat; rw [← Ny117.out] at ho; have n0_ := Aside0.mk (hb); have n1_ := Aside0.mk (ho); clear HB; clear HO_9; have HB := n0_; have HO119 := n1_; clear n0_ n1_; clear ho hb hg hat; have p120 : 0 ≤ (x10_2 : Int) := of_decide_eq_true (by first | (with_reducible assumption) | assumption); have q120 : x10_2 < (l1.length : Int) := of_decide_eq_true (by first | (with_reducible assumption) | assumption); obtain ⟨ad120, e120, hx120_0⟩ := Kd.at_int HR1.out x10_2 p120 q120; obtain rfl : ad116 = ad120 := (by injection e120); replace hx120_0 := (HB.out.cell (World.block_lt_of_cell? w _ hx120_0)).trans hx120_0; replace p120 := eq_true p120; replace q120 := eq_true q120; have p121 : 0 ≤ ((rd l1 x10_2) : Int) := of_decide_eq_true (by first | (with_reducible assumption) | assumption); have q121 : (rd l1 x10_2) < (l0.length : Int) := of_decide_eq_true (by first | (with_reducible assumption) | assumption); obtain ⟨ad121, e121, hx121_0, hx121_1, hx121_2, hx121_3⟩ := at_T28 HR0.out (rd l1 x10_2) p121 q121; cases e121; replace hx121_0 := (HB.out.cell (World.block_lt_of_cell? w _ hx121_0)).trans hx121_0; replace hx121_1 := (HB.out.cell (World.block_lt_of_cell? w _ hx121_1)).trans hx121_1; replace hx121_2 := (HB.out.cell (World.block_lt_of_cell? w _ hx121_2)).trans hx121_2; replace hx121_3 := (HB.out.cell (World.block_lt_of_cell? w _ hx121_3)).trans hx121_3; replace p121 := eq_true p121; replace q121 := eq_true q121))
                 go_roundg k2
                 case measure => have := HJ4.out; have := HK2.out; omega
                 case rel => exact ⟨(y117), ((rd_T28 l0 (rd l1 x10_2)).f0), (by first | rfl | (simp; done) | (simp [*]; done)), H', ⟨by have := HJ4.out; have := HK2.out; omega⟩, ⟨by (with_reducible repeat (first | apply Kd.R_alloc | apply Kd.R_drewN | apply Kd.R_drew)); exact HO119.out⟩, ⟨by repeat (first | (with_reducible first | exact HB.out | apply below_alloc | apply pw_below_drewN | apply below_drew1) | exact HB.out)⟩⟩
             · rw [if_neg c16] at H
               exact absurd H (by simp)
           · rw [if_neg c15] at H
             exact absurd H (by simp)
         · rw [if_neg c14] at H
           exact absurd H (by simp)
       · rw [if_neg c13] at H
         exact absurd H (by simp)
     · rw [if_neg c12] at H
       exact absurd H (by simp)
end Go.Proofs.Ytflefelgdcblgaa.Q
