-- Printed by a program of this session (gprint.py, which runs the kit's print.py): Lean checks it.
import Derived.Test.YtflefelgdcblgaaQx0
import Derived.Test.YtflefelgdcblgaaQx1
import Derived.Test.YtflefelgdcblgaaQx9
namespace Go.Proofs.Ytflefelgdcblgaa.Q
open Go.RowKit Go.Proofs.YtflefelgdcblgaaW.PrintWords Go.Proofs.YtflefelgdcblgaaW.PrintLast Go.Proofs.YtflefelgdcblgaaW.PrintMore
attribute [local go_sem] max2_int min2_int max_two min_two max_three min_three max_four min_four   -- for this text's walks alone
set_option linter.unusedVariables false
set_option linter.unusedSimpArgs false
def diffcons_Violated.at_ (l3 : List Int) (v : Int) : Option Int := if v ≥ (l3.length : Int) then some 0 else if 0 ≤ v then diffcons_limit.f (rd l3 v) (-1099511627776) 1099511627776 else none
def diffcons_Violated.pred (n a2 : Int) (l3 : List Int) (a : S28) : Option Bool := (diffcons_within.f a.f0 a.f1 a.f2 a.f3 n).bind fun t =>
 if t = true then (diffcons_Violated.at_ l3 a.f1).bind fun x => (diffcons_Violated.at_ l3 a.f0).bind fun y => (diffcons_Weight.f a.f0 a.f1 a.f2 a.f3 a2).bind fun z => some (decide (wrap64 (x - y) < z)) else some false
def diffcons_Violated.go (n a2 : Int) (l3 : List Int) (l1 : List S28) : Nat → Nat → Option Int
 | _, 0 => some (-1)
 | k, d + 1 => (diffcons_Violated.pred n a2 l3 (rd_T28 l1 (k : Int))).bind fun b => if b = true then some (k : Int) else diffcons_Violated.go n a2 l3 l1 (k + 1) d
def diffcons_Violated.f (a0 : Int) (l1 : List S28) (a2 : Int) (l3 : List Int) : Option Int := (diffcons_nodes.f a0).bind fun n => diffcons_Violated.go n a2 l3 l1 0 l1.length
section
variable {P : Program} {md : Mode} {ops : Array Oper} {Q : Exit → Act → World → Prop}
theorem goesV_ {oi : Oper} {N : Option Tmp} {a : Act} {w : World} {K : Act → World → Prop} {f : FuncId} {fn : Func} {c : Operand} {xs : Array Operand} {ts : Array TypeId} {lb : Array Value} (hf : P.funcs[f]? = some fn) (hname : (fn.name == "runtime.NumGoroutine") = false) (hb : fn.body.isSome = true) (args : Array Value)
 (hw : Region.wanted oi (yielded ops a.tmps) = true) (hN : oi.dst = N) (hop : oi.op = .call { callee := .value c, args := xs, argTypes := ts }) (hc : a.eval c = .func (.func f) #[] lb) (hargs : xs.map a.eval ++ lb = args)
 (h : Calls P f args w fun e w' => ∃ v, e = .returned v ∧ K (a.put N v) w') : if Region.wanted oi (yielded ops a.tmps) = true then Oper.wp P oi a w K Q else K (a.put N undef) w := by
 refine call_ f args hw hN ?_ h
 have he := enters_ hf hname hb args w
 unfold execOp
 simp [hop, resolve, Deferred.ofValue, invoke, hc, hargs, he]
theorem goesVL_ {rest : List Oper} {oi : Oper} {a : Act} {w : World} (N : Option Tmp) (hd : oi.dst = N) (hg : oi.guard = none) {f : FuncId} {fn : Func} {c : Operand} {xs : Array Operand} {ts : Array TypeId} {lb : Array Value} (hf : P.funcs[f]? = some fn) (hname : (fn.name == "runtime.NumGoroutine") = false) (hb : fn.body.isSome = true) (args : Array Value)
 (hop : oi.op = .call { callee := .value c, args := xs, argTypes := ts }) (hc : a.eval c = .func (.func f) #[] lb) (hargs : xs.map a.eval ++ lb = args)
 (h : Calls P f args w fun e w' => ∃ v, e = .returned v ∧ wpList P ops Q rest (a.put N v) w') : wpList P ops Q (oi :: rest) a w := by
 refine wpList_plain hg fun K hK => ?_
 have he := enters_ hf hname hb args w
 have hrun : (execOp a.eval oi).run P w = .ok (.enter f args) w := by
  unfold execOp
  simp [hop, resolve, Deferred.ofValue, invoke, hc, hargs, he]
 unfold Oper.wp
 rw [hrun, Oper.upon_enter]
 refine h.mono fun e w'' hh => ?_
 obtain ⟨v, rfl, hk⟩ := hh
 subst hd
 exact hK _ _ hk
end
theorem diffcons_Violated.new_at (w2 : World) (a : Addr) (v : Value) (o : Obj) : ((w2.setCell a v).alloc o).heap[w2.heap.size]? = some o := by
 have h := heap_alloc_new (w2.setCell a v) o
 have e : (w2.setCell a v).heap.size = w2.heap.size := by simp
 rw [e] at h
 exact h
set_option maxHeartbeats 4000000 in set_option maxRecDepth 100000 in theorem diffcons_Violated.at_calls (v r : Int) (A3 : Option Addr) (c3 : Nat) (l3 : List Int) (b : Nat) (w : World) (hc : w.cell? ⟨b, 0, none⟩ = some (.slice A3 l3.length c3)) (hr3 : Kd.C (Kd.int .i64) w A3 l3.length l3) (h : diffcons_Violated.at_ l3 v = some r) :
 Calls Try.prog 34 #[.int .i64 v, .pointer (some ⟨b, 0, none⟩)] w fun e w' => e = .returned (.int .i64 r) ∧ Below w.heap.size w w' := by
 unfold diffcons_Violated.at_ at h
 by_cases h0 : v ≥ (l3.length : Int)
 · rw [if_pos h0] at h
   obtain rfl := Option.some.inj h
   have hd : decide ((l3.length : Int) ≤ v) = true := decide_eq_true h0
   clear h h0
   go_enter Try.func34, Try.ntmps34
   go_wp2
   go_ret
   exact ⟨rfl, Below.refl _ _⟩
 · rw [if_neg h0] at h
   by_cases h1 : 0 ≤ v
   · rw [if_pos h1] at h
     have hd : decide ((l3.length : Int) ≤ v) = false := decide_eq_false h0
     obtain ⟨ad3, cs0, hA3, _, hK0, hc0⟩ := Kd.C_get hr3 (0 : Int) v h1 (by omega)
     have hK0' : cs0 = [.int .i64 (rd l3 v)] := hK0
     have hcell0 : w.cell? (ad3.add v.toNat) = some (.int .i64 (rd l3 v)) := by simpa [Kd.int, Kd.scalar] using hc0 0 (.int .i64 (rd l3 v)) (by rw [hK0']; rfl)
     subst hA3
     have hlt : v < l3.length := by omega
     have H := Aside0.mk h
     clear h h0 hK0 hK0' hc0 hr3
     go_enter Try.func34, Try.ntmps34
     go_wp2_with (go_at_call 35; refine (diffcons_limit.calls (rd l3 v) (-1099511627776) 1099511627776 r _ H.out).mono ?_; rintro e w2 ⟨rfl, hb2⟩)
     go_ret
     exact ⟨rfl, hb2⟩
   · rw [if_neg h1] at h; cases h
set_option maxHeartbeats 8000000 in set_option maxRecDepth 100000 in theorem diffcons_Violated.pred_calls (a : S28) (n a2 : Int) (A3 : Option Addr) (c3 : Nat) (l3 : List Int) (b4 b6 b7 b9 : Nat) (r : Bool) (w : World)
 (x4 : w.cell? ⟨b4, 0, none⟩ = some (.int .i64 n)) (x9 : w.cell? ⟨b9, 0, none⟩ = some (.func (.func 34) #[] #[.pointer (some ⟨b7, 0, none⟩)])) (x6 : w.cell? ⟨b6, 0, none⟩ = some (.int .i64 a2)) (x7 : w.cell? ⟨b7, 0, none⟩ = some (.slice A3 l3.length c3))
 (hr3 : Kd.C (Kd.int .i64) w A3 l3.length l3) (h : diffcons_Violated.pred n a2 l3 a = some r) :
 Calls Try.prog 37 #[.agg #[.int .i64 a.f0, .int .i64 a.f1, .int .i64 a.f2, .int .i64 a.f3], .pointer (some ⟨b4, 0, none⟩), .pointer (some ⟨b9, 0, none⟩), .pointer (some ⟨b6, 0, none⟩)] w fun e w' => e = .returned (.bool r) ∧ Below w.heap.size w w' := by
 unfold diffcons_Violated.pred at h
 obtain ⟨t, ht, h⟩ := Option.bind_eq_some_iff.1 h
 have HT := Aside0.mk ht
 clear ht
 have HR3 := Aside0.mk hr3
 clear hr3
 have hHB := Below.refl w.heap.size w
 have hu := Try.underlying28
 cases t with
 | false =>
  rw [if_neg (by decide)] at h
  obtain rfl := Option.some.inj h
  clear h
  go_enter Try.func37, Try.ntmps37
  go_wp2
  have hbk := heap_alloc_new w (.cells #[.int .i64 a.f0, .int .i64 a.f1, .int .i64 a.f2, .int .i64 a.f3] 28)
  have HB := below_alloc (Below.refl w.heap.size w) (.cells #[.int .i64 a.f0, .int .i64 a.f1, .int .i64 a.f2, .int .i64 a.f3] 28)
  have y4 := cell_below HB x4
  have y9 := cell_below HB x9
  have y6 := cell_below HB x6
  have y7 := cell_below HB x7
  clear x4 x9 x6 x7
  generalize w.alloc (.cells #[.int .i64 a.f0, .int .i64 a.f1, .int .i64 a.f2, .int .i64 a.f3] 28) = w2 at hbk HB y4 y9 y6 y7 ⊢
  have z0 : w2.cell? ⟨w.heap.size, 0, none⟩ = some (.int .i64 a.f0) := (blk_cell hbk 0).trans rfl
  have z1 : w2.cell? ⟨w.heap.size, 1, none⟩ = some (.int .i64 a.f1) := (blk_cell hbk 1).trans rfl
  have z2 : w2.cell? ⟨w.heap.size, 2, none⟩ = some (.int .i64 a.f2) := (blk_cell hbk 2).trans rfl
  have z3 : w2.cell? ⟨w.heap.size, 3, none⟩ = some (.int .i64 a.f3) := (blk_cell hbk 3).trans rfl
  refine start_ (n := 19) (S := fun w' => w'.cell? ⟨w.heap.size, 0, none⟩ = some (.int .i64 a.f0) ∧ w'.cell? ⟨w.heap.size, 1, none⟩ = some (.int .i64 a.f1) ∧ w'.cell? ⟨w.heap.size, 2, none⟩ = some (.int .i64 a.f2) ∧ w'.cell? ⟨w.heap.size, 3, none⟩ = some (.int .i64 a.f3) ∧ w'.cell? ⟨b4, 0, none⟩ = some (.int .i64 n) ∧ w'.cell? ⟨b9, 0, none⟩ = some (.func (.func 34) #[] #[.pointer (some ⟨b7, 0, none⟩)]) ∧ w'.cell? ⟨b6, 0, none⟩ = some (.int .i64 a2) ∧ w'.cell? ⟨b7, 0, none⟩ = some (.slice A3 l3.length c3)) (ds := []) #[false, false, false, false, false, false, false, false, false, false, false, false, false, false, false, false, false, false, false] (by kernel_rfl) rfl rfl ⟨z0, z1, z2, z3, y4, y9, y6, y7⟩ (fun hHeld => ?_)
  have HB2 := below_drew1 HB
  generalize w2.drew = wd at HB2 hHeld ⊢
  refine take_ (i := 0) (N := some 6) (v := ?_) (a' := ?_) #[true, false, false, false, false, false, false, false, false, false, false, false, false, false, false, false, false, false, false] rfl rfl (by kernel_rfl) (fun _ _ _ h => h) (Or.inl ⟨by rfl, ?_⟩) hHeld ?_ ?_
  rotate_left
  · rintro w' ⟨s0, s1, s2, s3, s4, s5, s6, s7⟩
    go_simp
    with_reducible rfl
  rotate_left
  · simp only [Act.put, List.setIfInBounds_toArray, List.set_cons_zero, List.set_cons_succ, i64_w, i32_w]
    rfl
  refine take_ (i := 1) (N := some 7) (v := ?_) (a' := ?_) #[true, true, false, false, false, false, false, false, false, false, false, false, false, false, false, false, false, false, false] rfl rfl (by kernel_rfl) (fun _ _ _ h => h) (Or.inl ⟨by rfl, ?_⟩) hHeld ?_ ?_
  rotate_left
  · rintro w' ⟨s0, s1, s2, s3, s4, s5, s6, s7⟩
    go_simp
    with_reducible rfl
  rotate_left
  · simp only [Act.put, List.setIfInBounds_toArray, List.set_cons_zero, List.set_cons_succ, i64_w, i32_w]
    rfl
  refine one_ (i := 2) (N := some 8) #[true, true, true, false, false, false, false, false, false, false, false, false, false, false, false, false, false, false, false] rfl rfl (by kernel_rfl) (by decide) (fun K hK => ?_)
  refine goes_ Try.func31 (by kernel_rfl) rfl #[.agg #[.int .i64 a.f0, .int .i64 a.f1, .int .i64 a.f2, .int .i64 a.f3], .int .i64 n] (by rfl) rfl rfl (by simp only [List.map_toArray, List.map_cons, List.map_nil]; rfl) ?_
  with_reducible refine (diffcons_within.calls a.f0 a.f1 a.f2 a.f3 n false _ HT.out).mono ?_
  rintro e w3 ⟨rfl, hb3⟩
  have HB3 := below_step HB2 hb3
  refine ⟨_, rfl, ?_⟩
  refine hK.out _ _ ⟨(cell_below hb3 hHeld.1), (cell_below hb3 hHeld.2.1), (cell_below hb3 hHeld.2.2.1), (cell_below hb3 hHeld.2.2.2.1), (cell_below hb3 hHeld.2.2.2.2.1), (cell_below hb3 hHeld.2.2.2.2.2.1), (cell_below hb3 hHeld.2.2.2.2.2.2.1), (cell_below hb3 hHeld.2.2.2.2.2.2.2)⟩ (fun hHeld => ?_)
  clear hK K
  refine norm_ (a' := ?_) ?_ ?_
  rotate_left
  · show Act.put _ (some 8) _ = _
    simp only [Act.put, List.setIfInBounds_toArray, List.set_cons_zero, List.set_cons_succ, i64_w, i32_w]
    rfl
  refine pure_ (i := 3) (N := some 9) (v := ?_) (a' := ?_) #[true, true, true, true, false, false, false, false, false, false, false, false, false, false, false, false, false, false, false] rfl rfl (by kernel_rfl) (fun _ _ _ h => h) (Or.inl ⟨by rfl, ?_⟩) ?_ ?_
  rotate_left
  · intro w'
    go_simp
    with_reducible rfl
  rotate_left
  · simp only [Act.put, List.setIfInBounds_toArray, List.set_cons_zero, List.set_cons_succ, i64_w, i32_w]
    rfl
  refine pure_ (i := 4) (N := some 10) (v := undef) (a' := ?_) #[true, true, true, true, true, false, false, false, false, false, false, false, false, false, false, false, false, false, false] rfl rfl (by kernel_rfl) (fun _ _ _ h => h) (Or.inr ⟨by rfl, rfl⟩) ?_ ?_
  rotate_left
  · simp only [Act.put, List.setIfInBounds_toArray, List.set_cons_zero, List.set_cons_succ, i64_w, i32_w]
    rfl
  refine pure_ (i := 5) (N := some 11) (v := undef) (a' := ?_) #[true, true, true, true, true, true, false, false, false, false, false, false, false, false, false, false, false, false, false] rfl rfl (by kernel_rfl) (fun _ _ _ h => h) (Or.inr ⟨by rfl, rfl⟩) ?_ ?_
  rotate_left
  · simp only [Act.put, List.setIfInBounds_toArray, List.set_cons_zero, List.set_cons_succ, i64_w, i32_w]
    rfl
  refine pure_ (i := 6) (N := some 12) (v := undef) (a' := ?_) #[true, true, true, true, true, true, true, false, false, false, false, false, false, false, false, false, false, false, false] rfl rfl (by kernel_rfl) (fun _ _ _ h => h) (Or.inr ⟨by rfl, rfl⟩) ?_ ?_
  rotate_left
  · simp only [Act.put, List.setIfInBounds_toArray, List.set_cons_zero, List.set_cons_succ, i64_w, i32_w]
    rfl
  refine pure_ (i := 7) (N := some 13) (v := undef) (a' := ?_) #[true, true, true, true, true, true, true, true, false, false, false, false, false, false, false, false, false, false, false] rfl rfl (by kernel_rfl) (fun _ _ _ h => h) (Or.inr ⟨by rfl, rfl⟩) ?_ ?_
  rotate_left
  · simp only [Act.put, List.setIfInBounds_toArray, List.set_cons_zero, List.set_cons_succ, i64_w, i32_w]
    rfl
  refine pure_ (i := 8) (N := some 14) (v := undef) (a' := ?_) #[true, true, true, true, true, true, true, true, true, false, false, false, false, false, false, false, false, false, false] rfl rfl (by kernel_rfl) (fun _ _ _ h => h) (Or.inr ⟨by rfl, rfl⟩) ?_ ?_
  rotate_left
  · simp only [Act.put, List.setIfInBounds_toArray, List.set_cons_zero, List.set_cons_succ, i64_w, i32_w]
    rfl
  refine pure_ (i := 9) (N := some 15) (v := undef) (a' := ?_) #[true, true, true, true, true, true, true, true, true, true, false, false, false, false, false, false, false, false, false] rfl rfl (by kernel_rfl) (fun _ _ _ h => h) (Or.inr ⟨by rfl, rfl⟩) ?_ ?_
  rotate_left
  · simp only [Act.put, List.setIfInBounds_toArray, List.set_cons_zero, List.set_cons_succ, i64_w, i32_w]
    rfl
  refine pure_ (i := 10) (N := some 16) (v := undef) (a' := ?_) #[true, true, true, true, true, true, true, true, true, true, true, false, false, false, false, false, false, false, false] rfl rfl (by kernel_rfl) (fun _ _ _ h => h) (Or.inr ⟨by rfl, rfl⟩) ?_ ?_
  rotate_left
  · simp only [Act.put, List.setIfInBounds_toArray, List.set_cons_zero, List.set_cons_succ, i64_w, i32_w]
    rfl
  refine pure_ (i := 11) (N := some 17) (v := undef) (a' := ?_) #[true, true, true, true, true, true, true, true, true, true, true, true, false, false, false, false, false, false, false] rfl rfl (by kernel_rfl) (fun _ _ _ h => h) (Or.inr ⟨by rfl, rfl⟩) ?_ ?_
  rotate_left
  · simp only [Act.put, List.setIfInBounds_toArray, List.set_cons_zero, List.set_cons_succ, i64_w, i32_w]
    rfl
  refine pure_ (i := 12) (N := some 18) (v := undef) (a' := ?_) #[true, true, true, true, true, true, true, true, true, true, true, true, true, false, false, false, false, false, false] rfl rfl (by kernel_rfl) (fun _ _ _ h => h) (Or.inr ⟨by rfl, rfl⟩) ?_ ?_
  rotate_left
  · simp only [Act.put, List.setIfInBounds_toArray, List.set_cons_zero, List.set_cons_succ, i64_w, i32_w]
    rfl
  refine pure_ (i := 13) (N := some 19) (v := undef) (a' := ?_) #[true, true, true, true, true, true, true, true, true, true, true, true, true, true, false, false, false, false, false] rfl rfl (by kernel_rfl) (fun _ _ _ h => h) (Or.inr ⟨by rfl, rfl⟩) ?_ ?_
  rotate_left
  · simp only [Act.put, List.setIfInBounds_toArray, List.set_cons_zero, List.set_cons_succ, i64_w, i32_w]
    rfl
  refine pure_ (i := 14) (N := some 20) (v := undef) (a' := ?_) #[true, true, true, true, true, true, true, true, true, true, true, true, true, true, true, false, false, false, false] rfl rfl (by kernel_rfl) (fun _ _ _ h => h) (Or.inr ⟨by rfl, rfl⟩) ?_ ?_
  rotate_left
  · simp only [Act.put, List.setIfInBounds_toArray, List.set_cons_zero, List.set_cons_succ, i64_w, i32_w]
    rfl
  refine pure_ (i := 15) (N := some 21) (v := undef) (a' := ?_) #[true, true, true, true, true, true, true, true, true, true, true, true, true, true, true, true, false, false, false] rfl rfl (by kernel_rfl) (fun _ _ _ h => h) (Or.inr ⟨by rfl, rfl⟩) ?_ ?_
  rotate_left
  · simp only [Act.put, List.setIfInBounds_toArray, List.set_cons_zero, List.set_cons_succ, i64_w, i32_w]
    rfl
  refine pure_ (i := 16) (N := some 22) (v := undef) (a' := ?_) #[true, true, true, true, true, true, true, true, true, true, true, true, true, true, true, true, true, false, false] rfl rfl (by kernel_rfl) (fun _ _ _ h => h) (Or.inr ⟨by rfl, rfl⟩) ?_ ?_
  rotate_left
  · simp only [Act.put, List.setIfInBounds_toArray, List.set_cons_zero, List.set_cons_succ, i64_w, i32_w]
    rfl
  refine pure_ (i := 17) (N := some 23) (v := ?_) (a' := ?_) #[true, true, true, true, true, true, true, true, true, true, true, true, true, true, true, true, true, true, false] rfl rfl (by kernel_rfl) (fun _ _ _ h => h) (Or.inl ⟨by rfl, ?_⟩) ?_ ?_
  rotate_left
  · intro w'
    go_simp
    with_reducible rfl
  rotate_left
  · simp only [Act.put, List.setIfInBounds_toArray, List.set_cons_zero, List.set_cons_succ, i64_w, i32_w]
    rfl
  refine pure_ (i := 18) (N := some 5) (v := ?_) (a' := ?_) #[true, true, true, true, true, true, true, true, true, true, true, true, true, true, true, true, true, true, true] rfl rfl (by kernel_rfl) (fun _ _ _ h => h) (Or.inl ⟨by rfl, ?_⟩) ?_ ?_
  rotate_left
  · intro w'
    go_simp
    with_reducible rfl
  rotate_left
  · simp only [Act.put, List.setIfInBounds_toArray, List.set_cons_zero, List.set_cons_succ, i64_w, i32_w]
    rfl
  refine done_ (by kernel_rfl) ?_
  clear hHeld
  go_wp2
  go_ret
  exact ⟨rfl, by repeat (first | (with_reducible first | exact HB3 | apply below_alloc | apply pw_below_drewN | apply below_drew1) | exact HB3)⟩
 | true =>
  rw [if_pos rfl] at h
  obtain ⟨x, hx, h⟩ := Option.bind_eq_some_iff.1 h
  obtain ⟨y, hy, h⟩ := Option.bind_eq_some_iff.1 h
  obtain ⟨z, hz, h⟩ := Option.bind_eq_some_iff.1 h
  have HX := Aside0.mk hx
  have HY := Aside0.mk hy
  have HZ := Aside0.mk hz
  obtain rfl := Option.some.inj h
  clear h hx hy hz
  go_enter Try.func37, Try.ntmps37
  go_wp2
  have hbk := heap_alloc_new w (.cells #[.int .i64 a.f0, .int .i64 a.f1, .int .i64 a.f2, .int .i64 a.f3] 28)
  have HB := below_alloc (Below.refl w.heap.size w) (.cells #[.int .i64 a.f0, .int .i64 a.f1, .int .i64 a.f2, .int .i64 a.f3] 28)
  have y4 := cell_below HB x4
  have y9 := cell_below HB x9
  have y6 := cell_below HB x6
  have y7 := cell_below HB x7
  clear x4 x9 x6 x7
  generalize w.alloc (.cells #[.int .i64 a.f0, .int .i64 a.f1, .int .i64 a.f2, .int .i64 a.f3] 28) = w2 at hbk HB y4 y9 y6 y7 ⊢
  have z0 : w2.cell? ⟨w.heap.size, 0, none⟩ = some (.int .i64 a.f0) := (blk_cell hbk 0).trans rfl
  have z1 : w2.cell? ⟨w.heap.size, 1, none⟩ = some (.int .i64 a.f1) := (blk_cell hbk 1).trans rfl
  have z2 : w2.cell? ⟨w.heap.size, 2, none⟩ = some (.int .i64 a.f2) := (blk_cell hbk 2).trans rfl
  have z3 : w2.cell? ⟨w.heap.size, 3, none⟩ = some (.int .i64 a.f3) := (blk_cell hbk 3).trans rfl
  refine start_ (n := 19) (S := fun w' => w'.cell? ⟨w.heap.size, 0, none⟩ = some (.int .i64 a.f0) ∧ w'.cell? ⟨w.heap.size, 1, none⟩ = some (.int .i64 a.f1) ∧ w'.cell? ⟨w.heap.size, 2, none⟩ = some (.int .i64 a.f2) ∧ w'.cell? ⟨w.heap.size, 3, none⟩ = some (.int .i64 a.f3) ∧ w'.cell? ⟨b4, 0, none⟩ = some (.int .i64 n) ∧ w'.cell? ⟨b9, 0, none⟩ = some (.func (.func 34) #[] #[.pointer (some ⟨b7, 0, none⟩)]) ∧ w'.cell? ⟨b6, 0, none⟩ = some (.int .i64 a2) ∧ w'.cell? ⟨b7, 0, none⟩ = some (.slice A3 l3.length c3)) (ds := []) #[false, false, false, false, false, false, false, false, false, false, false, false, false, false, false, false, false, false, false] (by kernel_rfl) rfl rfl ⟨z0, z1, z2, z3, y4, y9, y6, y7⟩ (fun hHeld => ?_)
  have HB2 := below_drew1 HB
  generalize w2.drew = wd at HB2 hHeld ⊢
  refine take_ (i := 0) (N := some 6) (v := ?_) (a' := ?_) #[true, false, false, false, false, false, false, false, false, false, false, false, false, false, false, false, false, false, false] rfl rfl (by kernel_rfl) (fun _ _ _ h => h) (Or.inl ⟨by rfl, ?_⟩) hHeld ?_ ?_
  rotate_left
  · rintro w' ⟨s0, s1, s2, s3, s4, s5, s6, s7⟩
    go_simp
    with_reducible rfl
  rotate_left
  · simp only [Act.put, List.setIfInBounds_toArray, List.set_cons_zero, List.set_cons_succ, i64_w, i32_w]
    rfl
  refine take_ (i := 1) (N := some 7) (v := ?_) (a' := ?_) #[true, true, false, false, false, false, false, false, false, false, false, false, false, false, false, false, false, false, false] rfl rfl (by kernel_rfl) (fun _ _ _ h => h) (Or.inl ⟨by rfl, ?_⟩) hHeld ?_ ?_
  rotate_left
  · rintro w' ⟨s0, s1, s2, s3, s4, s5, s6, s7⟩
    go_simp
    with_reducible rfl
  rotate_left
  · simp only [Act.put, List.setIfInBounds_toArray, List.set_cons_zero, List.set_cons_succ, i64_w, i32_w]
    rfl
  refine one_ (i := 2) (N := some 8) #[true, true, true, false, false, false, false, false, false, false, false, false, false, false, false, false, false, false, false] rfl rfl (by kernel_rfl) (by decide) (fun K hK => ?_)
  refine goes_ Try.func31 (by kernel_rfl) rfl #[.agg #[.int .i64 a.f0, .int .i64 a.f1, .int .i64 a.f2, .int .i64 a.f3], .int .i64 n] (by rfl) rfl rfl (by simp only [List.map_toArray, List.map_cons, List.map_nil]; rfl) ?_
  with_reducible refine (diffcons_within.calls a.f0 a.f1 a.f2 a.f3 n true _ HT.out).mono ?_
  rintro e w3 ⟨rfl, hb3⟩
  have HB3 := below_step HB2 hb3
  refine ⟨_, rfl, ?_⟩
  refine hK.out _ _ ⟨(cell_below hb3 hHeld.1), (cell_below hb3 hHeld.2.1), (cell_below hb3 hHeld.2.2.1), (cell_below hb3 hHeld.2.2.2.1), (cell_below hb3 hHeld.2.2.2.2.1), (cell_below hb3 hHeld.2.2.2.2.2.1), (cell_below hb3 hHeld.2.2.2.2.2.2.1), (cell_below hb3 hHeld.2.2.2.2.2.2.2)⟩ (fun hHeld => ?_)
  clear hK K
  refine norm_ (a' := ?_) ?_ ?_
  rotate_left
  · show Act.put _ (some 8) _ = _
    simp only [Act.put, List.setIfInBounds_toArray, List.set_cons_zero, List.set_cons_succ, i64_w, i32_w]
    rfl
  refine pure_ (i := 3) (N := some 9) (v := ?_) (a' := ?_) #[true, true, true, true, false, false, false, false, false, false, false, false, false, false, false, false, false, false, false] rfl rfl (by kernel_rfl) (fun _ _ _ h => h) (Or.inl ⟨by rfl, ?_⟩) ?_ ?_
  rotate_left
  · intro w'
    go_simp
    with_reducible rfl
  rotate_left
  · simp only [Act.put, List.setIfInBounds_toArray, List.set_cons_zero, List.set_cons_succ, i64_w, i32_w]
    rfl
  refine pure_ (i := 5) (N := some 11) (v := ?_) (a' := ?_) #[true, true, true, true, false, true, false, false, false, false, false, false, false, false, false, false, false, false, false] rfl rfl (by kernel_rfl) (fun _ _ _ h => h) (Or.inl ⟨by rfl, ?_⟩) ?_ ?_
  rotate_left
  · intro w'
    go_simp
    with_reducible rfl
  rotate_left
  · simp only [Act.put, List.setIfInBounds_toArray, List.set_cons_zero, List.set_cons_succ, i64_w, i32_w]
    rfl
  refine pure_ (i := 9) (N := some 15) (v := ?_) (a' := ?_) #[true, true, true, true, false, true, false, false, false, true, false, false, false, false, false, false, false, false, false] rfl rfl (by kernel_rfl) (fun _ _ _ h => h) (Or.inl ⟨by rfl, ?_⟩) ?_ ?_
  rotate_left
  · intro w'
    go_simp
    with_reducible rfl
  rotate_left
  · simp only [Act.put, List.setIfInBounds_toArray, List.set_cons_zero, List.set_cons_succ, i64_w, i32_w]
    rfl
  refine take_ (i := 4) (N := some 10) (v := ?_) (a' := ?_) #[true, true, true, true, true, true, false, false, false, true, false, false, false, false, false, false, false, false, false] rfl rfl (by kernel_rfl) (fun _ _ _ h => h) (Or.inl ⟨by rfl, ?_⟩) hHeld ?_ ?_
  rotate_left
  · rintro w' ⟨s0, s1, s2, s3, s4, s5, s6, s7⟩
    go_simp
    with_reducible rfl
  rotate_left
  · simp only [Act.put, List.setIfInBounds_toArray, List.set_cons_zero, List.set_cons_succ, i64_w, i32_w]
    rfl
  refine take_ (i := 6) (N := some 12) (v := ?_) (a' := ?_) #[true, true, true, true, true, true, true, false, false, true, false, false, false, false, false, false, false, false, false] rfl rfl (by kernel_rfl) (fun _ _ _ h => h) (Or.inl ⟨by rfl, ?_⟩) hHeld ?_ ?_
  rotate_left
  · rintro w' ⟨s0, s1, s2, s3, s4, s5, s6, s7⟩
    go_simp
    with_reducible rfl
  rotate_left
  · simp only [Act.put, List.setIfInBounds_toArray, List.set_cons_zero, List.set_cons_succ, i64_w, i32_w]
    rfl
  refine take_ (i := 8) (N := some 14) (v := ?_) (a' := ?_) #[true, true, true, true, true, true, true, false, true, true, false, false, false, false, false, false, false, false, false] rfl rfl (by kernel_rfl) (fun _ _ _ h => h) (Or.inl ⟨by rfl, ?_⟩) hHeld ?_ ?_
  rotate_left
  · rintro w' ⟨s0, s1, s2, s3, s4, s5, s6, s7⟩
    go_simp
    with_reducible rfl
  rotate_left
  · simp only [Act.put, List.setIfInBounds_toArray, List.set_cons_zero, List.set_cons_succ, i64_w, i32_w]
    rfl
  refine take_ (i := 10) (N := some 16) (v := ?_) (a' := ?_) #[true, true, true, true, true, true, true, false, true, true, true, false, false, false, false, false, false, false, false] rfl rfl (by kernel_rfl) (fun _ _ _ h => h) (Or.inl ⟨by rfl, ?_⟩) hHeld ?_ ?_
  rotate_left
  · rintro w' ⟨s0, s1, s2, s3, s4, s5, s6, s7⟩
    go_simp
    with_reducible rfl
  rotate_left
  · simp only [Act.put, List.setIfInBounds_toArray, List.set_cons_zero, List.set_cons_succ, i64_w, i32_w]
    rfl
  refine take_ (i := 13) (N := some 19) (v := ?_) (a' := ?_) #[true, true, true, true, true, true, true, false, true, true, true, false, false, true, false, false, false, false, false] rfl rfl (by kernel_rfl) (fun _ _ _ h => h) (Or.inl ⟨by rfl, ?_⟩) hHeld ?_ ?_
  rotate_left
  · rintro w' ⟨s0, s1, s2, s3, s4, s5, s6, s7⟩
    go_simp
    with_reducible rfl
  rotate_left
  · simp only [Act.put, List.setIfInBounds_toArray, List.set_cons_zero, List.set_cons_succ, i64_w, i32_w]
    rfl
  refine take_ (i := 14) (N := some 20) (v := ?_) (a' := ?_) #[true, true, true, true, true, true, true, false, true, true, true, false, false, true, true, false, false, false, false] rfl rfl (by kernel_rfl) (fun _ _ _ h => h) (Or.inl ⟨by rfl, ?_⟩) hHeld ?_ ?_
  rotate_left
  · rintro w' ⟨s0, s1, s2, s3, s4, s5, s6, s7⟩
    go_simp
    with_reducible rfl
  rotate_left
  · simp only [Act.put, List.setIfInBounds_toArray, List.set_cons_zero, List.set_cons_succ, i64_w, i32_w]
    rfl
  refine one_ (i := 7) (N := some 13) #[true, true, true, true, true, true, true, true, true, true, true, false, false, true, true, false, false, false, false] rfl rfl (by kernel_rfl) (by decide) (fun K hK => ?_)
  refine goesV_ Try.func34 (by kernel_rfl) rfl #[.int .i64 a.f1, .pointer (some ⟨b7, 0, none⟩)] (lb := #[.pointer (some ⟨b7, 0, none⟩)]) (by rfl) rfl rfl (by rfl) (by simp only [List.map_toArray, List.map_cons, List.map_nil]; rfl) ?_
  with_reducible refine (diffcons_Violated.at_calls a.f1 x A3 c3 l3 b7 _ hHeld.2.2.2.2.2.2.2 (Kd.C_below HR3.out HB3) HX.out).mono ?_
  rintro e w3 ⟨rfl, hb4⟩
  have HB4 := below_step HB3 hb4
  refine ⟨_, rfl, ?_⟩
  refine hK.out _ _ ⟨(cell_below hb4 hHeld.1), (cell_below hb4 hHeld.2.1), (cell_below hb4 hHeld.2.2.1), (cell_below hb4 hHeld.2.2.2.1), (cell_below hb4 hHeld.2.2.2.2.1), (cell_below hb4 hHeld.2.2.2.2.2.1), (cell_below hb4 hHeld.2.2.2.2.2.2.1), (cell_below hb4 hHeld.2.2.2.2.2.2.2)⟩ (fun hHeld => ?_)
  clear hK K
  refine norm_ (a' := ?_) ?_ ?_
  rotate_left
  · show Act.put _ (some 13) _ = _
    simp only [Act.put, List.setIfInBounds_toArray, List.set_cons_zero, List.set_cons_succ, i64_w, i32_w]
    rfl
  refine one_ (i := 11) (N := some 17) #[true, true, true, true, true, true, true, true, true, true, true, true, false, true, true, false, false, false, false] rfl rfl (by kernel_rfl) (by decide) (fun K hK => ?_)
  refine goesV_ Try.func34 (by kernel_rfl) rfl #[.int .i64 a.f0, .pointer (some ⟨b7, 0, none⟩)] (lb := #[.pointer (some ⟨b7, 0, none⟩)]) (by rfl) rfl rfl (by rfl) (by simp only [List.map_toArray, List.map_cons, List.map_nil]; rfl) ?_
  with_reducible refine (diffcons_Violated.at_calls a.f0 y A3 c3 l3 b7 _ hHeld.2.2.2.2.2.2.2 (Kd.C_below HR3.out HB4) HY.out).mono ?_
  rintro e w3 ⟨rfl, hb5⟩
  have HB5 := below_step HB4 hb5
  refine ⟨_, rfl, ?_⟩
  refine hK.out _ _ ⟨(cell_below hb5 hHeld.1), (cell_below hb5 hHeld.2.1), (cell_below hb5 hHeld.2.2.1), (cell_below hb5 hHeld.2.2.2.1), (cell_below hb5 hHeld.2.2.2.2.1), (cell_below hb5 hHeld.2.2.2.2.2.1), (cell_below hb5 hHeld.2.2.2.2.2.2.1), (cell_below hb5 hHeld.2.2.2.2.2.2.2)⟩ (fun hHeld => ?_)
  clear hK K
  refine norm_ (a' := ?_) ?_ ?_
  rotate_left
  · show Act.put _ (some 17) _ = _
    simp only [Act.put, List.setIfInBounds_toArray, List.set_cons_zero, List.set_cons_succ, i64_w, i32_w]
    rfl
  refine pure_ (i := 12) (N := some 18) (v := ?_) (a' := ?_) #[true, true, true, true, true, true, true, true, true, true, true, true, true, true, true, false, false, false, false] rfl rfl (by kernel_rfl) (fun _ _ _ h => h) (Or.inl ⟨by rfl, ?_⟩) ?_ ?_
  rotate_left
  · intro w'
    go_simp
    with_reducible rfl
  rotate_left
  · simp only [Act.put, List.setIfInBounds_toArray, List.set_cons_zero, List.set_cons_succ, i64_w, i32_w]
    rfl
  refine one_ (i := 15) (N := some 21) #[true, true, true, true, true, true, true, true, true, true, true, true, true, true, true, true, false, false, false] rfl rfl (by kernel_rfl) (by decide) (fun K hK => ?_)
  refine goes_ Try.func23 (by kernel_rfl) rfl #[.agg #[.int .i64 a.f0, .int .i64 a.f1, .int .i64 a.f2, .int .i64 a.f3], .int .i64 a2] (by rfl) rfl rfl (by simp only [List.map_toArray, List.map_cons, List.map_nil]; rfl) ?_
  with_reducible refine (diffcons_Weight.calls a.f0 a.f1 a.f2 a.f3 a2 z _ HZ.out).mono ?_
  rintro e w6 ⟨rfl, hb6⟩
  have HB6 := below_step HB5 hb6
  refine ⟨_, rfl, ?_⟩
  refine hK.out _ _ ⟨(cell_below hb6 hHeld.1), (cell_below hb6 hHeld.2.1), (cell_below hb6 hHeld.2.2.1), (cell_below hb6 hHeld.2.2.2.1), (cell_below hb6 hHeld.2.2.2.2.1), (cell_below hb6 hHeld.2.2.2.2.2.1), (cell_below hb6 hHeld.2.2.2.2.2.2.1), (cell_below hb6 hHeld.2.2.2.2.2.2.2)⟩ (fun hHeld => ?_)
  clear hK K
  refine norm_ (a' := ?_) ?_ ?_
  rotate_left
  · show Act.put _ (some 21) _ = _
    simp only [Act.put, List.setIfInBounds_toArray, List.set_cons_zero, List.set_cons_succ, i64_w, i32_w]
    rfl
  refine pure_ (i := 16) (N := some 22) (v := ?_) (a' := ?_) #[true, true, true, true, true, true, true, true, true, true, true, true, true, true, true, true, true, false, false] rfl rfl (by kernel_rfl) (fun _ _ _ h => h) (Or.inl ⟨by rfl, ?_⟩) ?_ ?_
  rotate_left
  · intro w'
    go_simp
    with_reducible rfl
  rotate_left
  · simp only [Act.put, List.setIfInBounds_toArray, List.set_cons_zero, List.set_cons_succ, i64_w, i32_w]
    rfl
  refine pure_ (i := 17) (N := some 23) (v := ?_) (a' := ?_) #[true, true, true, true, true, true, true, true, true, true, true, true, true, true, true, true, true, true, false] rfl rfl (by kernel_rfl) (fun _ _ _ h => h) (Or.inl ⟨by rfl, ?_⟩) ?_ ?_
  rotate_left
  · intro w'
    go_simp
    with_reducible rfl
  rotate_left
  · simp only [Act.put, List.setIfInBounds_toArray, List.set_cons_zero, List.set_cons_succ, i64_w, i32_w]
    rfl
  refine pure_ (i := 18) (N := some 5) (v := ?_) (a' := ?_) #[true, true, true, true, true, true, true, true, true, true, true, true, true, true, true, true, true, true, true] rfl rfl (by kernel_rfl) (fun _ _ _ h => h) (Or.inl ⟨by rfl, ?_⟩) ?_ ?_
  rotate_left
  · intro w'
    go_simp
    with_reducible rfl
  rotate_left
  · simp only [Act.put, List.setIfInBounds_toArray, List.set_cons_zero, List.set_cons_succ, i64_w, i32_w]
    rfl
  refine done_ (by kernel_rfl) ?_
  clear hHeld
  go_wp2
  go_ret
  exact ⟨rfl, by repeat (first | (with_reducible first | exact HB6 | apply below_alloc | apply pw_below_drewN | apply below_drew1) | exact HB6)⟩
set_option maxHeartbeats 4000000 in set_option maxRecDepth 100000 in theorem diffcons_Violated.index_calls (n a2 : Int) (A1 : Option Addr) (c1 : Nat) (l1 : List (S28)) (A3 : Option Addr) (c3 : Nat) (l3 : List Int) (b4 b6 b7 b9 : Nat) (r : Int) (w : World)
 (x4 : w.cell? ⟨b4, 0, none⟩ = some (.int .i64 n)) (x9 : w.cell? ⟨b9, 0, none⟩ = some (.func (.func 34) #[] #[.pointer (some ⟨b7, 0, none⟩)])) (x6 : w.cell? ⟨b6, 0, none⟩ = some (.int .i64 a2)) (x7 : w.cell? ⟨b7, 0, none⟩ = some (.slice A3 l3.length c3))
 (hr1 : Kd.C k28 w A1 l1.length l1) (hr3 : Kd.C (Kd.int .i64) w A3 l3.length l3) (h : diffcons_Violated.go n a2 l3 l1 0 l1.length = some r) :
 Calls Try.prog 36 #[.slice A1 l1.length c1, .func (.func 37) #[] #[.pointer (some ⟨b4, 0, none⟩), .pointer (some ⟨b9, 0, none⟩), .pointer (some ⟨b6, 0, none⟩)]] w fun e w' => e = .returned (.int .i64 r) ∧ Below w.heap.size w w' := by
 have HR1 := Aside0.mk hr1
 have HR3 := Aside0.mk hr3
 have H := Aside0.mk h
 have X4 := Aside0.mk x4
 have X9 := Aside0.mk x9
 have X6 := Aside0.mk x6
 have X7 := Aside0.mk x7
 have hlen1 : l1.length ≤ 9223372036854775807 := hr1.2.1
 have hu := Try.underlying28
 clear hr1 hr3 h x4 x9 x6 x7
 go_enter Try.func36, Try.ntmps36
 go_wp2
 go_loopw [8] (fun v8 wr => ∃ (k : Nat), v8 = .int .i64 k ∧ k ≤ l1.length ∧ Aside0 (diffcons_Violated.go n a2 l3 l1 k (l1.length - k) = some r) ∧ Aside0 (Below w.heap.size w wr)) (fun v8 _ => l1.length - (intOf v8).toNat)
 case atStart => exact ⟨0, rfl, Nat.zero_le _, H, ⟨Below.refl _ _⟩⟩
 case round =>
  clear H
  obtain ⟨k, rfl, hk, HG, HB⟩ := hrel
  by_cases hlt : k < l1.length
  · have hg := HG.out
    obtain ⟨d, hd⟩ : ∃ d, l1.length - k = d + 1 := ⟨l1.length - k - 1, by omega⟩
    rw [hd] at hg
    unfold diffcons_Violated.go at hg
    clear HG
    obtain ⟨bb, hbb, hg⟩ := Option.bind_eq_some_iff.1 hg
    obtain ⟨ad1, hA1, q0, q1, q2, q3⟩ := at_T28 (Kd.C_below HR1.out HB.out) (k : Int) (by omega) (by omega)
    simp only [Int.toNat_natCast] at q0 q1 q2 q3
    subst hA1
    generalize rd_T28 l1 (k : Int) = ai at hbb q0 q1 q2 q3
    have HP := Aside0.mk hbb
    have HG := Aside0.mk hg
    clear hbb hg
    cases bb with
    | true =>
     have hg := HG.out
     rw [if_pos rfl] at hg
     obtain rfl := Option.some.inj hg
     clear hg HG
     go_wp2_with ((with_reducible refine gate_dst (N := 16) rfl ?_); refine goesVL_ (some 16) rfl rfl Try.func37 (by kernel_rfl) rfl #[.agg #[.int .i64 ai.f0, .int .i64 ai.f1, .int .i64 ai.f2, .int .i64 ai.f3], .pointer (some ⟨b4, 0, none⟩), .pointer (some ⟨b9, 0, none⟩), .pointer (some ⟨b6, 0, none⟩)] (lb := #[.pointer (some ⟨b4, 0, none⟩), .pointer (some ⟨b9, 0, none⟩), .pointer (some ⟨b6, 0, none⟩)]) rfl (by rfl) (by simp only [List.map_toArray, List.map_cons, List.map_nil]; rfl) ?_; (with_reducible refine (diffcons_Violated.pred_calls ai n a2 A3 c3 l3 b4 b6 b7 b9 true _ ?s1 ?s2 ?s3 ?s4 (Kd.C_below HR3.out HB.out) HP.out).mono ?_); (case s1 => exact cell_below HB.out X4.out); (case s2 => exact cell_below HB.out X9.out); (case s3 => exact cell_below HB.out X6.out); (case s4 => exact cell_below HB.out X7.out); rintro e w3 ⟨rfl, hb3⟩; refine ⟨_, rfl, ?_⟩; have HB3 := below_step HB.out hb3)
     go_ret
     exact ⟨rfl, HB3⟩
    | false =>
     have hg := HG.out
     rw [if_neg (by decide)] at hg
     have HG2 := Aside0.mk hg
     clear hg HG
     go_wp2_with ((with_reducible refine gate_dst (N := 16) rfl ?_); refine goesVL_ (some 16) rfl rfl Try.func37 (by kernel_rfl) rfl #[.agg #[.int .i64 ai.f0, .int .i64 ai.f1, .int .i64 ai.f2, .int .i64 ai.f3], .pointer (some ⟨b4, 0, none⟩), .pointer (some ⟨b9, 0, none⟩), .pointer (some ⟨b6, 0, none⟩)] (lb := #[.pointer (some ⟨b4, 0, none⟩), .pointer (some ⟨b9, 0, none⟩), .pointer (some ⟨b6, 0, none⟩)]) rfl (by rfl) (by simp only [List.map_toArray, List.map_cons, List.map_nil]; rfl) ?_; (with_reducible refine (diffcons_Violated.pred_calls ai n a2 A3 c3 l3 b4 b6 b7 b9 false _ ?s1 ?s2 ?s3 ?s4 (Kd.C_below HR3.out HB.out) HP.out).mono ?_); (case s1 => exact cell_below HB.out X4.out); (case s2 => exact cell_below HB.out X9.out); (case s3 => exact cell_below HB.out X6.out); (case s4 => exact cell_below HB.out X7.out); rintro e w3 ⟨rfl, hb3⟩; refine ⟨_, rfl, ?_⟩; have HB3 := below_step HB.out hb3)
     go_roundw
     case rel => exact ⟨k + 1, by go_num, by omega, ⟨by rw [show l1.length - (k + 1) = d by omega]; exact HG2.out⟩, ⟨HB3⟩⟩
     case measure => simp [intOf]; omega
  · have hg := HG.out
    rw [show l1.length - k = 0 by omega] at hg
    unfold diffcons_Violated.go at hg
    obtain rfl := Option.some.inj hg
    clear hg HG
    go_wp2
    go_ret
    exact ⟨rfl, HB.out⟩
set_option maxHeartbeats 8000000 in set_option maxRecDepth 100000 in theorem diffcons_Violated.calls (a0 : Int) (A1 : Option Addr) (c1 : Nat) (l1 : List (S28)) (a2 : Int) (A3 : Option Addr) (c3 : Nat) (l3 : List Int) (r : Int) (w : World) (hr1 : Kd.C k28 w A1 l1.length l1) (hc1 : l1.length ≤ c1) (hr3 : Kd.C (Kd.int .i64) w A3 l3.length l3) (hc3 : l3.length ≤ c3) (h : diffcons_Violated.f a0 l1 a2 l3 = some r) :
 Calls Try.prog 21 #[.int .i64 a0, .slice A1 l1.length c1, .int .i64 a2, .slice A3 l3.length c3] w fun e w' => e = .returned (.int .i64 r) ∧ Below w.heap.size w w' := by
 unfold diffcons_Violated.f at h
 obtain ⟨n, hn, h⟩ := Option.bind_eq_some_iff.1 h
 have HN := Aside0.mk hn
 have H := Aside0.mk h
 have HR1 := Aside0.mk hr1
 have HR3 := Aside0.mk hr3
 clear hn h hr1 hr3
 go_enter Try.func21, Try.ntmps21
 have K4 : (((w.alloc (.cells #[.int .i64 a0] 3)).alloc (.cells #[.int .i64 a2] 3)).alloc (.cells #[.slice A3 l3.length c3] 29)).heap[w.heap.size]? = some (.cells #[.int .i64 a0] 3 (0, 0)) := blk_alloc (blk_alloc (heap_alloc_new w _) _) _
 have K6 : (((w.alloc (.cells #[.int .i64 a0] 3)).alloc (.cells #[.int .i64 a2] 3)).alloc (.cells #[.slice A3 l3.length c3] 29)).heap[w.heap.size + 1]? = some (.cells #[.int .i64 a2] 3 (0, 0)) := blk_alloc (by simpa using heap_alloc_new (w.alloc (.cells #[.int .i64 a0] 3)) (.cells #[.int .i64 a2] 3)) _
 have K7 : (((w.alloc (.cells #[.int .i64 a0] 3)).alloc (.cells #[.int .i64 a2] 3)).alloc (.cells #[.slice A3 l3.length c3] 29)).heap[w.heap.size + 1 + 1]? = some (.cells #[.slice A3 l3.length c3] 29 (0, 0)) := by simpa using heap_alloc_new ((w.alloc (.cells #[.int .i64 a0] 3)).alloc (.cells #[.int .i64 a2] 3)) (.cells #[.slice A3 l3.length c3] 29)
 have KB := below_alloc (below_alloc (below_alloc (Below.refl w.heap.size w) (.cells #[.int .i64 a0] 3)) (.cells #[.int .i64 a2] 3)) (.cells #[.slice A3 l3.length c3] 29)
 go_wp2_with (first | (go_at_call 29; refine (diffcons_nodes.calls a0 n _ HN.out).mono ?_; rintro e w2 ⟨rfl, hb2⟩; have L4 := Aside0.mk (blk_below K4 hb2); have L6 := Aside0.mk (blk_below K6 hb2); have L7 := Aside0.mk (blk_below K7 hb2); have LB := Aside0.mk (below_step KB hb2); clear hb2; have v4 := blk_cell L4.out 0; have v4f := blk_frozen L4.out 0) | (go_at_call 36; (with_reducible refine (diffcons_Violated.index_calls n a2 A1 c1 l1 A3 c3 l3 w.heap.size (w.heap.size + 1) (w.heap.size + 1 + 1) w2.heap.size r _ ?s1 ?s2 ?s3 ?s4 ?s5 ?s6 H.out).mono ?_); (case s1 => exact blk_cell (blk_alloc (blk_set L4.out 0 (.int .i64 n)) _) 0); (case s2 => exact blk_cell (diffcons_Violated.new_at w2 _ _ _) 0); (case s3 => exact blk_cell (blk_alloc (blk_far L6.out (by show w.heap.size + 1 ≠ w.heap.size; omega) (.int .i64 n)) _) 0); (case s4 => exact blk_cell (blk_alloc (blk_far L7.out (by show w.heap.size + 1 + 1 ≠ w.heap.size; omega) (.int .i64 n)) _) 0); (case s5 => exact Kd.C_below HR1.out (below_alloc (below_set LB.out (Nat.le_refl _)) _)); (case s6 => exact Kd.C_below HR3.out (below_alloc (below_set LB.out (Nat.le_refl _)) _)); rintro e w5 ⟨rfl, hb5⟩; have LE := below_step (below_alloc (below_set LB.out (Nat.le_refl _)) _) hb5))
 go_ret
 exact ⟨rfl, LE⟩
end Go.Proofs.Ytflefelgdcblgaa.Q
