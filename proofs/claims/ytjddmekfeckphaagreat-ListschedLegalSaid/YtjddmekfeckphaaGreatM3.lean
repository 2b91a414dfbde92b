/- Proofs about the functions, part 4 of 4. -/
import Derived.Test.YtjddmekfeckphaaGreatM2
import Derived.Test.YtjddmekfeckphaaGreatM1
import Derived.KernelRfl
set_option linter.unusedVariables false
set_option linter.unusedSimpArgs false
namespace Go.Proofs.YtjddmekfeckphaaGreatV
open Go Go.Vm
section
variable {f : Flow}
theorem nxl_len (i : Nat) : (nxl f i).length <= (Flow.Arcs f).length := List.length_filter_le _ _
theorem take_snoc {α : Type} [Inhabited α] {l : List α} {j : Nat} (h : j < l.length) : l.take (j + 1) = l.take j ++ [rd l (j : Int)] := by
 rw [List.take_add_one, List.getElem?_eq_getElem h, rd_eq h]
 rfl
theorem place_ev (V : VALID f) (SF : SIZES f) {NX : List (List Arc)} {ST OP EA PA UN : List Int} {FR : List (List Int)} {t z1 z2 : Int} {i : Nat} (hi : i < ST.length) (hn : i < NX.length) (hx : rd NX (i : Int) = nxl f i)
 (lo : (OP.length : Int) = Flow.N f + 2) (le : (EA.length : Int) = Flow.N f + 2) (h0 : 0 <= t) (h1 : t <= 4096) (hop : ∀ v : Nat, v < OP.length -> 0 <= rd OP (v : Int) /\ rd OP (v : Int) <= 1000000000) :
 W (fun k => listsched_lister_place_i3.f k (i : Int) t f z1 z2 PA UN FR NX ST OP EA) (fun r => r.2.1 = ST.set i t /\ PLC f t i OP EA r.2.2.1 r.2.2.2.1) := by
 have ha := SF.arcs
 have hl := nxl_len (f := f) i
 have p0 := V.p0
 simp (disch := omega) only [listsched_lister_place_i3.f, ↓if_pos, hx, Int.toNat_natCast]
 have hm : ∀ j : Nat, j < (nxl f i).length -> 0 <= Arc.To (rd (nxl f i) (j : Int)) /\ Arc.To (rd (nxl f i) (j : Int)) < Flow.N f + 2 /\ 0 <= Arc.Lat (rd (nxl f i) (j : Int)) /\ Arc.Lat (rd (nxl f i) (j : Int)) <= 4096 := fun j hj => by
  obtain ⟨q, hq, e, _⟩ := mem_nxl.1 (rd_mem (xs := nxl f i) (i := (j : Int)) (by omega) (by omega))
  obtain ⟨v1, v2, v3, v4, v5, v6, _⟩ := V.arcs q hq
  rw [<- e]
  exact ⟨v3, by omega, v5, v6⟩
 have loop : ∀ (d j : Nat), j + d = (nxl f i).length -> ∀ (OP' EA' : List Int), OP'.length = OP.length -> EA'.length = EA.length ->
  (∀ v : Nat, v < OP.length -> rd OP' (v : Int) = rd OP (v : Int) - (((nxl f i).take j).countP (fun a => decide (Arc.To a = (v : Int))) : Int)) ->
  (∀ v : Nat, v < EA.length -> rd EA (v : Int) <= rd EA' (v : Int)) -> (∀ a ∈ (nxl f i).take j, t + Arc.Lat a <= rd EA' (Arc.To a)) ->
  (∀ v : Nat, v < EA.length -> rd EA' (v : Int) = rd EA (v : Int) \/ ∃ a ∈ (nxl f i).take j, Arc.To a = (v : Int) /\ rd EA' (v : Int) = t + Arc.Lat a) ->
  W (fun k => listsched_lister_place_i3.c2 k t (nxl f i) ((nxl f i).length : Int) (j : Int) (ST.set i t) OP' EA' f z1 z2 PA UN FR NX) (fun r => r.2.1 = ST.set i t /\ PLC f t i OP EA r.2.2.1 r.2.2.2.1) := by
  intro d
  induction d with
  | zero =>
    intro j hj OP' EA' q1 q2 q3 q4 q5 q6
    have e : (nxl f i).take j = nxl f i := List.take_of_length_le (by omega)
    rw [e] at q3 q5 q6
    refine .succ ?_
    simp (disch := omega) only [listsched_lister_place_i3.c2, ↓cdF]
    exact .ret ⟨rfl, q1, q2, q3, q4, q5, q6⟩
  | succ d ih =>
    intro j hj OP' EA' q1 q2 q3 q4 q5 q6
    have hjl : j < (nxl f i).length := by omega
    obtain ⟨m1, m2, m3, m4⟩ := hm j hjl
    have hts := take_snoc hjl
    refine .succ ?_
    simp (disch := omega) only [listsched_lister_place_i3.c2, ↓cdT, ↓if_pos, w64_id (n := (j : Int) + 1), w64_id (n := t + Arc.Lat (rd (nxl f i) (j : Int)))]
    generalize hae : rd (nxl f i) (j : Int) = a at *
    obtain ⟨v, hv⟩ : ∃ v : Nat, Arc.To a = (v : Int) := ⟨(Arc.To a).toNat, by omega⟩
    have hvl : v < OP.length := by omega
    have hve : v < EA.length := by omega
    have hcl : ((nxl f i).take j).countP (fun a => decide (Arc.To a = (v : Int))) <= (nxl f i).length := Nat.le_trans (List.countP_le_length ..) (by rw [List.length_take]; omega)
    have hb := hop v hvl
    have hq := q3 v hvl
    rw [hv, Int.toNat_natCast, w64_id (by omega) (by omega)]
    have := ih (j + 1) (by omega) (OP'.set v (rd OP' (v : Int) - 1)) (EA'.set v (mx (rd EA' (v : Int)) (t + Arc.Lat a))) (by rw [List.length_set]; exact q1) (by rw [List.length_set]; exact q2) (fun x hx => ?_) (fun x hx => ?_) (fun b hb => ?_) (fun x hx => ?_)
    . simpa only [natC] using this
    . rw [hts, List.countP_append, List.countP_singleton, rd_set (by omega)]
      by_cases e : v = x
      . subst e
        rw [if_pos rfl, q3 v hx, if_pos (by simpa using hv)]
        omega
      . rw [if_neg e, q3 x hx, if_neg (by rw [decide_eq_true_iff]; omega)]
        omega
    . rw [rd_set (by omega)]
      split
      . rename_i e; subst e
        exact Int.le_trans (q4 v hx) (le_mx_l _ _)
      . exact q4 x hx
    . rw [hts] at hb
      rcases List.mem_append.1 hb with hb | hb
      . have h2 := q5 b hb
        by_cases e : Arc.To b = (v : Int)
        . rw [e] at h2 ⊢
          rw [rd_set_eq (by omega)]
          exact Int.le_trans h2 (le_mx_l _ _)
        . obtain ⟨s, hs, e2⟩ := List.getElem_of_mem hb
          obtain ⟨x, hx⟩ : ∃ x : Nat, Arc.To b = (x : Int) := ⟨(Arc.To b).toNat, by
           have : b ∈ nxl f i := List.mem_of_mem_take hb
           obtain ⟨q, hq, e, _⟩ := mem_nxl.1 this
           have := (V.arcs q hq).2.2.1
           rw [<- e]
           omega⟩
          rw [hx] at h2 e ⊢
          rw [rd_set_ne (by omega)]
          exact h2
      . have : b = a := List.mem_singleton.1 hb
        subst this
        rw [hv, rd_set_eq (by omega)]
        exact le_mx_r _ _
    . rw [rd_set (by omega)]
      have keep : rd EA' (x : Int) = rd EA (x : Int) \/ (∃ b ∈ (nxl f i).take j, Arc.To b = (x : Int) /\ rd EA' (x : Int) = t + Arc.Lat b) -> rd EA' (x : Int) = rd EA (x : Int) \/ ∃ b ∈ (nxl f i).take (j + 1), Arc.To b = (x : Int) /\ rd EA' (x : Int) = t + Arc.Lat b := by
       rintro (h | ⟨b, h1, h2, h3⟩)
       . exact .inl h
       . exact .inr ⟨b, by rw [hts]; exact List.mem_append_left _ h1, h2, h3⟩
      split
      . rename_i e; subst e
        rcases mx_eq (rd EA' (v : Int)) (t + Arc.Lat a) with e | e
        . rw [e]; exact keep (q6 v hx)
        . rw [e]
          exact .inr ⟨a, by rw [hts]; simp, hv, rfl⟩
      . exact keep (q6 x hx)
 have := loop (nxl f i).length 0 (by omega) OP EA rfl rfl (fun v hv => by simp) (fun v hv => Int.le_refl _) (fun a ha => by simp at ha) (fun v hv => .inl rfl)
 exact this
theorem unit_ev {FR : List (List Int)} {NX : List (List Arc)} {ST PA UN OP EA : List Int} {t z1 z2 r : Int} (hr : 0 <= r /\ r < (FR.length : Int)) (hl : (rd FR r).length <= 1000000) :
 W (fun k => listsched_lister_unit.f k r t f z1 z2 ST PA UN OP EA FR NX) (fun y => (y.1 = -1 /\ ∀ u : Nat, u < (rd FR r).length -> t < rd (rd FR r) (u : Int)) \/ ∃ u : Nat, u < (rd FR r).length /\ y.1 = (u : Int) /\ rd (rd FR r) (u : Int) <= t) := by
 simp (disch := omega) only [listsched_lister_unit.f, ↓if_pos, slices_IndexFunc_int_int_i2.f]
 have loop : ∀ (d i : Nat), i + d = (rd FR r).length -> (∀ u : Nat, u < i -> t < rd (rd FR r) (u : Int)) -> W (fun k => slices_IndexFunc_int_int_i2.c2 k (rd FR r) ((rd FR r).length : Int) (i : Int) t) (fun y => (y.1 = -1 /\ ∀ u : Nat, u < (rd FR r).length -> t < rd (rd FR r) (u : Int)) \/ ∃ u : Nat, u < (rd FR r).length /\ y.1 = (u : Int) /\ rd (rd FR r) (u : Int) <= t) := by
  intro d
  induction d with
  | zero =>
    intro i hi h
    refine .succ ?_
    simp (disch := omega) only [slices_IndexFunc_int_int_i2.c2, ↓cdF]
    exact .ret (.inl ⟨rfl, fun u hu => h u (by omega)⟩)
  | succ d ih =>
    intro i hi h
    refine .succ ?_
    simp (disch := omega) only [slices_IndexFunc_int_int_i2.c2, ↓cdT, ↓if_pos, listsched_lister_unit_1.f, Option.bind_some, w64_id]
    refine .dec (fun e => .ret (.inr ⟨i, by omega, rfl, e⟩)) fun e => ?_
    have := ih (i + 1) (by omega) fun u hu => by
     rcases Nat.lt_or_eq_of_le (Nat.le_of_lt_succ hu) with h1 | h1
     . exact h u h1
     . rw [h1]; omega
    simpa only [natC] using this
 exact .bind (loop (rd FR r).length 0 (by omega) fun u hu => by omega) fun y hy => .ret hy
variable {p : Int -> Int} {t : Int} {WT : List Bool} {ST UN OP EA : List Int} {FR : List (List Int)}
def SOON (f : Flow) (t t' : Int) (WT : List Bool) (OP EA : List Int) (FR : List (List Int)) (m : Nat) : Prop := t < t' /\ t' <= 4097 /\ ∀ i : Nat, i < m -> (i : Int) < Flow.Insts f -> rd WT (i : Int) = true -> rd OP (i : Int) = 0 -> (rsI f i < 0 -> t' <= mx (t + 1) (rd EA (i : Int))) /\
 (0 <= rsI f i -> ∃ m : Int, (∀ u : Nat, (u : Int) < cnt f (rsI f i) -> m <= rd (rd FR (rsI f i)) (u : Int)) /\ t' <= mx (mx (t + 1) (rd EA (i : Int))) m)
theorem soon_ev (V : VALID f) (H : RI f p t WT ST UN OP EA FR) (h1 : t <= 4096) {NX : List (List Arc)} {PA : List Int} {z1 z2 : Int} :
 W (fun k => listsched_lister_soon.f k WT t f z1 z2 ST PA UN OP EA FR NX) (fun r => SOON f t r.1 WT OP EA FR WT.length) := by
 have hn := V.needs
 have i1 := V.i1
 have t0 := H.t0
 have l1 := H.lw
 have l4 := H.lo
 have l5 := H.le
 have p0 := V.p0
 have hN : Flow.N f = Flow.Insts f + Flow.Params f := rfl
 simp only [listsched_lister_soon.f]
 have loop : ∀ (d i : Nat), i + d = WT.length -> ∀ acc : Int, SOON f t acc WT OP EA FR i -> W (fun k => listsched_lister_soon.c3 k WT t acc (WT.length : Int) (i : Int) f z1 z2 ST PA UN OP EA FR NX) (fun r => SOON f t r.1 WT OP EA FR WT.length) := by
  intro d
  induction d with
  | zero =>
    intro i hi acc h
    refine .succ ?_
    simp (disch := omega) only [listsched_lister_soon.c3, ↓cdF]
    have e : i = WT.length := by omega
    rw [e] at h
    exact .ret h
  | succ d ih =>
    intro i hi acc h
    have hop := H.opn i (by omega)
    have hea := H.ea i (by omega)
    have hres : -1 <= rsI f i /\ rsI f i < ((Flow.Res f).length : Int) := need_at V (i := i) (by omega)
    have hlf := H.lf
    obtain ⟨g1, g2, g3⟩ := h
    have skip : (rd WT (i : Int) = true -> rd OP (i : Int) = 0 -> False) -> SOON f t acc WT OP EA FR (i + 1) := fun q => ⟨g1, g2, fun j hj a b c => by
     rcases Nat.lt_or_eq_of_le (Nat.le_of_lt_succ hj) with h1 | h1
     . exact g3 j h1 a b c
     . subst h1; exact (q b c).elim⟩
    have less : ∀ acc' : Int, t < acc' -> acc' <= acc -> ((rsI f i < 0 -> acc' <= mx (t + 1) (rd EA (i : Int))) /\ (0 <= rsI f i -> ∃ m : Int, (∀ u : Nat, (u : Int) < cnt f (rsI f i) -> m <= rd (rd FR (rsI f i)) (u : Int)) /\ acc' <= mx (mx (t + 1) (rd EA (i : Int))) m)) -> SOON f t acc' WT OP EA FR (i + 1) := fun acc' q1 q2 q3 => ⟨q1, by omega, fun j hj a b c => by
     rcases Nat.lt_or_eq_of_le (Nat.le_of_lt_succ hj) with h1 | h1
     . obtain ⟨k1, k2⟩ := g3 j h1 a b c
       refine ⟨fun z => by have := k1 z; omega, fun z => ?_⟩
       obtain ⟨m, m1, m2⟩ := k2 z
       exact ⟨m, m1, by omega⟩
     . subst h1; exact q3⟩
    refine .succ ?_
    simp (disch := omega) only [listsched_lister_soon.c3, ↓cdT, ↓if_pos, w64_id]
    cases hw : rd WT (i : Int)
    . simp only [Bool.not_false, cond_true]
      have := ih (i + 1) (by omega) acc (skip fun q => by rw [hw] at q; cases q)
      simpa only [natC] using this
    simp only [Bool.not_true, cond_false]
    refine .dec (fun h2 => ?_) fun h2 => ?_
    . have := ih (i + 1) (by omega) acc (skip fun _ q => by omega)
      simpa only [natC] using this
    . have hle := le_mx_l (t + 1) (rd EA (i : Int))
      refine .dec (fun h3 => ?_) fun h3 => ?_
      . have h3 : 0 <= rsI f i := h3
        have hr0 : 0 <= rsI f i /\ rsI f i < (FR.length : Int) := by omega
        obtain ⟨q, hq⟩ : ∃ q : Nat, rsI f i = (q : Int) := ⟨(rsI f i).toNat, by omega⟩
        have hfr := H.lfr q (by omega)
        have hc := V.res q (by omega)
        have hc1 : 1 <= cnt f q := hc.2.2.1
        have hc2 : cnt f q <= 1024 := hc.2.2.2
        simp only [if_pos (show 0 <= Need.Res (rd (Flow.Needs f) (i : Int)) /\ Need.Res (rd (Flow.Needs f) (i : Int)) < (FR.length : Int) from hr0)]
        refine .bind (min_ev (rd FR (rsI f i)) (by rw [hq]; omega) (by rw [hq]; omega)) fun y hy => ?_
        have hmn := mn_le_l acc (mx (mx (t + 1) (rd EA (i : Int))) y)
        have hmn2 := mn_le_r acc (mx (mx (t + 1) (rd EA (i : Int))) y)
        have hgt : t < mn acc (mx (mx (t + 1) (rd EA (i : Int))) y) := by
         have : t + 1 <= mn acc (mx (mx (t + 1) (rd EA (i : Int))) y) := le_mn.2 ⟨by omega, Int.le_trans hle (le_mx_l _ _)⟩
         omega
        have := ih (i + 1) (by omega) (mn acc (mx (mx (t + 1) (rd EA (i : Int))) y)) (less _ hgt hmn ⟨fun q => absurd h3 (by show ¬ 0 <= rsI f i; omega), fun _ => ⟨y, fun u hu => hy.1 u (by rw [hq] at hu ⊢; omega), hmn2⟩⟩)
        simpa only [natC] using this
      . have hmn := mn_le_l acc (mx (t + 1) (rd EA (i : Int)))
        have hmn2 := mn_le_r acc (mx (t + 1) (rd EA (i : Int)))
        have hgt : t < mn acc (mx (t + 1) (rd EA (i : Int))) := by
         have : t + 1 <= mn acc (mx (t + 1) (rd EA (i : Int))) := le_mn.2 ⟨by omega, hle⟩
         omega
        have := ih (i + 1) (by omega) (mn acc (mx (t + 1) (rd EA (i : Int)))) (less _ hgt hmn ⟨fun _ => hmn2, fun q => absurd q h3⟩)
        simpa only [natC] using this
 have := loop WT.length 0 (by omega) 4097 ⟨by omega, Int.le_refl _, fun i hi => by omega⟩
 exact this
theorem RDY.keep (V : VALID f) (H : RI f p t WT ST UN OP EA FR) {i j : Nat} (hi : RDY f t WT OP EA i) (hj : RDY f t WT OP EA j) (hne : j ≠ i) {OP' EA' : List Int} (hP : PLC f t i OP EA OP' EA') : RDY f t (WT.set i false) OP' EA' j := by
 obtain ⟨j1, j2, j3, j4⟩ := hj
 obtain ⟨i1, i2, _⟩ := hi
 have hN : Flow.N f = Flow.Insts f + Flow.Params f := rfl
 have p0 := V.p0
 have l4 := H.lo
 have l5 := H.le
 have hz : opc f WT j = 0 := by have := H.opn j (by omega); omega
 have no : ∀ a ∈ nxl f i, Arc.To a ≠ (j : Int) := fun a ha e => by
  obtain ⟨q, hq, e3, e4⟩ := mem_nxl.1 ha
  subst e3
  exact opc_zero hz hq (by omega) (by rw [e4]; exact i2) e
 have hc : (nxl f i).countP (fun a => decide (Arc.To a = (j : Int))) = 0 := by
  rw [List.countP_eq_zero]
  exact fun a ha q => no a ha (of_decide_eq_true q)
 refine ⟨j1, by rw [rd_set_ne (Ne.symm hne)]; exact j2, ?_, ?_⟩
 . have := hP.op j (by omega)
   rw [hc] at this
   omega
 . rcases hP.at' j (by omega) with h | ⟨a, ha, q1, _⟩
   . omega
   . exact absurd q1 (no a ha)
end
end Go.Proofs.YtjddmekfeckphaaGreatV
namespace Go.Proofs.YtjddmekfeckphaaGreatV
open Go Go.Vm
def cw (WT : List Bool) : Nat := WT.countP fun b => b
theorem cw_set {WT : List Bool} {i : Nat} (h : i < WT.length) (hw : rd WT (i : Int) = true) : cw (WT.set i false) + 1 = cw WT := by
 unfold cw
 rw [List.countP_set h]
 rw [rd_eq h] at hw
 have : 0 < WT.countP fun b => b := List.countP_pos_iff.2 ⟨_, List.getElem_mem h, hw⟩
 simp [hw]
 omega
theorem cw_zero {WT : List Bool} (h : cw WT = 0) {i : Nat} (hi : i < WT.length) : rd WT (i : Int) = false := by
 have := List.countP_eq_zero.1 h (rd WT (i : Int)) (rd_mem (by omega) (by omega))
 simpa using this
theorem cw_pos {WT : List Bool} (h : cw WT ≠ 0) : ∃ i : Nat, i < WT.length /\ rd WT (i : Int) = true := by
 have : 0 < cw WT := by omega
 obtain ⟨b, hb, hb2⟩ := List.countP_pos_iff.1 this
 obtain ⟨i, hi, e⟩ := mem_rd hb
 exact ⟨i, hi, by rw [e]; exact hb2⟩
theorem cw_le (WT : List Bool) : cw WT <= WT.length := List.countP_le_length ..
def RUN (f : Flow) (p : Int -> Int) (r : Bool × List Int × List Int × List Int × List Int × List Int × List (List Int) × Unit) : Prop :=
 ∃ t WT, RI f p t WT r.2.2.1 r.2.2.2.1 r.2.2.2.2.1 r.2.2.2.2.2.1 r.2.2.2.2.2.2.1 /\ ((r.1 = true /\ ∀ i : Nat, (i : Int) < Flow.Insts f -> rd WT (i : Int) = false) \/ (r.1 = false /\ 4096 < t /\ ∃ i : Nat, (i : Int) < Flow.Insts f /\ rd WT (i : Int) = true))
section
variable {f : Flow} {p : Int -> Int}
theorem run_loop (V : VALID f) (SF : SIZES f) (hp : SOL f p) {NX : List (List Arc)} {TL PA : List Int} {z1 z2 : Int} (hnl : (NX.length : Int) = Flow.N f + 2) (hx : ∀ i : Nat, (i : Int) < Flow.Insts f -> rd NX (i : Int) = nxl f i) (htl : (TL.length : Int) = Flow.N f + 2) :
 ∀ (m : Nat) (t : Int) (WT : List Bool) (ST UN OP EA : List Int) (FR : List (List Int)), RI f p t WT ST UN OP EA FR -> t <= 4097 -> (4098 - t).toNat <= m ->
   W (fun k => listsched_lister_run_i6.c9 k (cw WT : Int) t TL ST UN OP EA FR f z1 z2 PA NX WT) (RUN f p) := by
 have hneeds := V.needs
 have i1 := V.i1
 have i0 := V.i0
 have p0 := V.p0
 have hN : Flow.N f = Flow.Insts f + Flow.Params f := rfl
 have ha := SF.arcs
 intro m
 induction m with
 | zero => intro t WT ST UN OP EA FR H h1 h2; omega
 | succ m ihm =>
 intro t WT0 ST0 UN0 OP0 EA0 FR0 H0 ht htm
 have t0 := H0.t0
 have lw0 := H0.lw
 refine .succ ?_
 simp only [listsched_lister_run_i6.c9]
 refine .dec (fun hleft => ?_) fun hleft => ?_
 rotate_left
 . exact .ret ⟨t, WT0, H0, .inl ⟨rfl, fun i hi => cw_zero (by omega) (by omega)⟩⟩
 refine .dec (fun hlim => ?_) fun hlim => ?_
 . obtain ⟨i, hi, hw⟩ := cw_pos (WT := WT0) (by omega)
   exact .ret ⟨t, WT0, H0, .inr ⟨rfl, hlim, i, by omega, hw⟩⟩
 -- the passes of a cycle
 have passes : ∀ (l : Nat) (WT : List Bool) (ST UN OP EA : List Int) (FR : List (List Int)), RI f p t WT ST UN OP EA FR -> cw WT = l ->
  W (fun k => listsched_lister_run_i6.c14 k (cw WT : Int) t true TL ST UN OP EA FR f z1 z2 PA NX WT) (RUN f p) := by
  intro l
  induction l using Nat.strongRecOn with
  | _ l ihl =>
  intro WT1 ST1 UN1 OP1 EA1 FR1 H1 hl
  -- the queue is emptied
  have drain : ∀ (n : Nat) (q : List Int) (b : Bool) (WT : List Bool) (ST UN OP EA : List Int) (FR : List (List Int)), q.length = n -> q.length <= 5000 -> RI f p t WT ST UN OP EA FR -> q.Nodup -> (∀ x ∈ q, ∃ i : Nat, x = (i : Int) /\ RDY f t WT OP EA i) ->
   (b = false -> cw WT = l /\ ∀ i : Nat, RDY f t WT OP EA i -> (i : Int) ∈ q \/ (0 <= rsI f i /\ ∀ u : Nat, (u : Int) < cnt f (rsI f i) -> t < rd (rd FR (rsI f i)) (u : Int))) -> (b = true -> cw WT < l) ->
   W (fun k => listsched_lister_run_i6.c23 k (cw WT : Int) t b TL ST UN OP EA FR f z1 z2 PA NX WT q) (RUN f p) := by
   intro n
   induction n with
   | zero =>
     intro q b WT ST UN OP EA FR hq hq5 H hnd hqr hb1 hb2
     have e : q = [] := List.eq_nil_of_length_eq_zero hq
     subst e
     refine .succ ?_
     simp only [listsched_lister_run_i6.c23, listsched_queue_Len.f, Option.bind_some]
     simp (disch := (simp only [List.length_nil]; omega)) only [↓cdF]
     cases b
     . obtain ⟨c1, c2⟩ := hb1 rfl
       refine .succ ?_
       simp only [listsched_lister_run_i6.c14, cond_false]
       have hlw := H.lw
       refine .bind (soon_ev V H (by omega)) fun y hy => ?_
       obtain ⟨y1, y2, y3⟩ := hy
       have H' := H.next V y1 (fun i hi => by
        rcases c2 i hi with h | h
        . cases h
        . exact h) (fun i hi hw ho => y3 i (by omega) hi hw ho)
       exact ihm y.1 WT ST UN OP EA FR H' y2 (by omega)
     . exact ihl (cw WT) (hb2 rfl) WT ST UN OP EA FR H rfl
   | succ n ih =>
     intro q b WT ST UN OP EA FR hq hq5 H hnd hqr hb1 hb2
     have lw := H.lw
     have ls := H.ls
     have lu := H.lu
     have lo := H.lo
     have le := H.le
     have lf := H.lf
     have hinq : INQ q TL := fun x hx => by
      obtain ⟨i, e, hr⟩ := hqr x hx
      have := hr.1
      rw [e]
      omega
     refine .succ ?_
     simp only [listsched_lister_run_i6.c23, listsched_queue_Len.f, Option.bind_some]
     simp (disch := omega) only [↓cdT]
     refine .bind (pop_evq hinq (by omega) (by omega)) fun y hy => ?_
     obtain ⟨y1, _, yT, q', _⟩ := y
     obtain ⟨hyT, hperm⟩ := hy
     have hyT : yT = TL := hyT
     have hperm : (y1 :: q').Perm q := hperm
     subst hyT
     have hmem : y1 ∈ q := hperm.mem_iff.1 (by simp)
     obtain ⟨i, e, hr⟩ := hqr y1 hmem
     subst e
     have hi := hr.1
     have hnd2 : ((i : Int) :: q').Nodup := hperm.nodup_iff.2 hnd
     rw [List.nodup_cons] at hnd2
     have hq'l : q'.length = n := by have := hperm.length_eq; rw [List.length_cons] at this; omega
     have hq'r : ∀ x ∈ q', ∃ j : Nat, x = (j : Int) /\ RDY f t WT OP EA j := fun x hx => hqr x (hperm.mem_iff.1 (by simp [hx]))
     have hres : -1 <= rsI f i /\ rsI f i < ((Flow.Res f).length : Int) := need_at V (i := i) (by omega)
     have hcw := cw_le WT
     -- the instruction starts
     have start : ∀ (UN' : List Int) (FR' : List (List Int)), ((rsI f i < 0 /\ UN' = UN /\ FR' = FR) \/ (0 <= rsI f i /\ ∃ u : Nat, (u : Int) < cnt f (rsI f i) /\ rd (rd FR (rsI f i)) (u : Int) <= t /\ UN' = UN.set i (u : Int) /\ FR' = FR.set (rsI f i).toNat ((rd FR (rsI f i)).set u (t + bsI f i)))) ->
      W (fun k => listsched_lister_run_i6.c31 k (cw WT : Int) t (i : Int) yT ST UN' OP EA FR' f z1 z2 PA NX WT q') (RUN f p) := by
      intro UN' FR' hU
      refine .succ ?_
      simp only [listsched_lister_run_i6.c31]
      refine .bind (place_ev V SF (i := i) (by omega) (by omega) (hx i hi) lo le t0 (by omega) (fun v hv => by
       have h1 := H.opn v (by omega)
       have h2 : opc f WT v <= (Flow.Arcs f).length := List.countP_le_length ..
       omega)) fun z hz => ?_
      obtain ⟨_, zS, zO, zE, _⟩ := z
      obtain ⟨hzS, hP⟩ := hz
      have hzS : zS = ST.set i t := hzS
      subst hzS
      have hP : PLC f t i OP EA zO zE := hP
      have H' := H.place V hp hr hP hU
      have hc := cw_set (WT := WT) (i := i) (by omega) hr.2.1
      have ec : w64 ((cw WT : Int) - 1) = (cw (WT.set i false) : Int) := by rw [w64_id (by omega) (by omega)]; omega
      simp (disch := omega) only [↓if_pos, Int.toNat_natCast]
      rw [ec]
      refine ih q' true (WT.set i false) (ST.set i t) UN' zO zE FR' hq'l (by omega) H' hnd2.2 (fun x hx => ?_) (fun e => by cases e) (fun _ => ?_)
      . obtain ⟨j, e, hj⟩ := hq'r x hx
        exact ⟨j, e, RDY.keep V H hr hj (fun e2 => hnd2.1 (by rw [<- e2, <- e]; exact hx)) hP⟩
      . cases b
        . have := (hb1 rfl).1
          omega
        . have := hb2 rfl
          omega
     have hri : 0 <= (i : Int) /\ (i : Int) < ((Flow.Needs f).length : Int) := by omega
     simp only [if_pos hri]
     refine .dec (fun h0 => ?_) fun h0 => ?_
     . have h0 : 0 <= rsI f i := h0
       obtain ⟨r, hrr⟩ : ∃ r : Nat, rsI f i = (r : Int) := ⟨(rsI f i).toNat, by omega⟩
       have hfr := H.lfr r (by omega)
       have hc := V.res r (by omega)
       have hc2 : cnt f r <= 1024 := hc.2.2.2
       have hfr2 : ((rd FR (rsI f i)).length : Int) = cnt f (rsI f i) := by rw [hrr]; exact hfr
       refine .bind (unit_ev (f := f) (FR := FR) (t := t) (r := rsI f i) (by omega) (by rw [hrr]; omega)) fun u hu => ?_
       rcases hu with ⟨hu1, hu2⟩ | ⟨v, hv1, hv2, hv3⟩
       . simp (disch := (rw [hu1]; omega)) only [↓cdT]
         refine ih q' b WT ST UN OP EA FR hq'l (by omega) H hnd2.2 hq'r (fun e => ?_) hb2
         obtain ⟨c1, c2⟩ := hb1 e
         refine ⟨c1, fun j hj => ?_⟩
         rcases c2 j hj with h | h
         . rcases List.mem_cons.1 (hperm.mem_iff.2 h) with h | h
           . have e : j = i := by omega
             subst e
             exact .inr ⟨h0, fun w hw => hu2 w (by omega)⟩
           . exact .inl h
         . exact .inr h
       . have hbs : 0 <= bsI f i /\ bsI f i <= 256 := by rcases V.need i (by omega) with ⟨_, a⟩ | ⟨_, _, a, b⟩ <;> (show 0 <= Need.Busy _ /\ Need.Busy _ <= 256) <;> omega
         have g1 : 0 <= (i : Int) /\ (i : Int) < (UN.length : Int) := by omega
         have g2 : 0 <= Need.Res (rd (Flow.Needs f) (i : Int)) /\ Need.Res (rd (Flow.Needs f) (i : Int)) < (FR.length : Int) := by
          show 0 <= rsI f i /\ rsI f i < _; omega
         have g3 : 0 <= u.1 /\ u.1 < ((rd FR (Need.Res (rd (Flow.Needs f) (i : Int)))).length : Int) := by
          show 0 <= u.1 /\ u.1 < ((rd FR (rsI f i)).length : Int); omega
         have g4 : ¬ u.1 < 0 := by omega
         have eb : w64 (t + Need.Busy (rd (Flow.Needs f) (i : Int))) = t + bsI f i := w64_id (by show _ <= t + bsI f i; omega) (by show t + bsI f i < _; omega)
         simp (disch := exact g4) only [↓cdF, if_pos g1, if_pos g2, if_pos g3, eb, Int.toNat_natCast]
         refine start (UN.set i u.1) _ (.inr ⟨h0, v, by omega, hv3, by rw [hv2], ?_⟩)
         rw [hv2, Int.toNat_natCast]
     . exact start UN FR (.inl ⟨by show rsI f i < 0; have h0 : ¬ 0 <= rsI f i := h0; omega, rfl, rfl⟩)
  -- the queue is filled
  have lw1 := H1.lw
  have lo1 := H1.lo
  have le1 := H1.le
  refine .succ ?_
  simp only [listsched_lister_run_i6.c14, cond_true]
  have fill : ∀ (d i : Nat), i + d = WT1.length -> ∀ q : List Int, q.length <= i -> q.Nodup -> (∀ x ∈ q, ∃ j : Nat, x = (j : Int) /\ j < i /\ RDY f t WT1 OP1 EA1 j) -> (∀ j : Nat, j < i -> RDY f t WT1 OP1 EA1 j -> (j : Int) ∈ q) ->
   W (fun k => listsched_lister_run_i6.c18 k (cw WT1 : Int) t false (WT1.length : Int) (i : Int) TL ST1 UN1 OP1 EA1 FR1 f z1 z2 PA NX WT1 q) (RUN f p) := by
   intro d
   induction d with
   | zero =>
     intro i hi q hql hnd hq1 hq2
     refine .succ ?_
     simp (disch := omega) only [listsched_lister_run_i6.c18, ↓cdF]
     refine drain q.length q false WT1 ST1 UN1 OP1 EA1 FR1 rfl (by omega) H1 hnd (fun x hx => ?_) (fun _ => ⟨hl, fun j hj => .inl (hq2 j (by have := hj.1; omega) hj)⟩) (fun e => by cases e)
     obtain ⟨j, e, _, hj⟩ := hq1 x hx
     exact ⟨j, e, hj⟩
   | succ d ih =>
     intro i hi q hql hnd hq1 hq2
     have skip : ¬ RDY f t WT1 OP1 EA1 i -> W (fun k => listsched_lister_run_i6.c18 k (cw WT1 : Int) t false (WT1.length : Int) ((i : Int) + 1) TL ST1 UN1 OP1 EA1 FR1 f z1 z2 PA NX WT1 q) (RUN f p) := fun hno => by
      have := ih (i + 1) (by omega) q (by omega) hnd (fun x hx => by
       obtain ⟨j, e, h1, h2⟩ := hq1 x hx
       exact ⟨j, e, by omega, h2⟩) (fun j hj hr => by
       rcases Nat.lt_or_eq_of_le (Nat.le_of_lt_succ hj) with h1 | h1
       . exact hq2 j h1 hr
       . subst h1; exact absurd hr hno)
      simpa only [natC] using this
     refine .succ ?_
     simp (disch := omega) only [listsched_lister_run_i6.c18, ↓cdT, ↓if_pos, w64_id]
     cases hw : rd WT1 (i : Int)
     . simp only [cond_false]
       exact skip fun q => by have := q.2.1; rw [hw] at this; cases this
     simp only [cond_true]
     refine .dec (fun h1 => ?_) fun h1 => skip fun q => h1 q.2.2.1
     refine .dec (fun h2 => ?_) fun h2 => skip fun q => h2 q.2.2.2
     have hr : RDY f t WT1 OP1 EA1 i := ⟨by omega, hw, h1, h2⟩
     have hinq : INQ q TL := fun x hx => by
      obtain ⟨j, e, _, hj⟩ := hq1 x hx
      have := hj.1
      rw [e]
      omega
     refine .bind (push_evq hinq (x := (i : Int)) (by omega) (by omega)) fun y hy => ?_
     obtain ⟨_, _, yT, q', _⟩ := y
     obtain ⟨hyT, hperm⟩ := hy
     have hyT : yT = TL := hyT
     have hperm : q'.Perm (q ++ [(i : Int)]) := hperm
     subst hyT
     have := ih (i + 1) (by omega) q' (by have := hperm.length_eq; simp at this; omega) (hperm.nodup_iff.2 (by
      rw [List.nodup_append]
      refine ⟨hnd, by simp, fun a ha b hb e => ?_⟩
      have hb : b = (i : Int) := List.mem_singleton.1 hb
      obtain ⟨j, e2, h3, _⟩ := hq1 a ha
      omega)) (fun x hx => by
      rcases List.mem_append.1 (hperm.mem_iff.1 hx) with h | h
      . obtain ⟨j, e, h3, h4⟩ := hq1 x h
        exact ⟨j, e, by omega, h4⟩
      . exact ⟨i, List.mem_singleton.1 h, by omega, hr⟩) (fun j hj hjr => by
      rw [hperm.mem_iff]
      rcases Nat.lt_or_eq_of_le (Nat.le_of_lt_succ hj) with h3 | h3
      . exact List.mem_append_left _ (hq2 j h3 hjr)
      . rw [h3]; simp)
     simpa only [natC] using this
  exact fill WT1.length 0 (by omega) [] (Nat.le_refl _) List.nodup_nil (fun x hx => by cases hx) (fun j hj => by omega)
 exact passes (cw WT0) WT0 ST0 UN0 OP0 EA0 FR0 H0 rfl
theorem run_prog (V : VALID f) (SF : SIZES f) (hp : SOL f p) {NX : List (List Arc)} {TL PA ST UN OP EA : List Int} {FR : List (List Int)} {z1 z2 : Int} (hnl : (NX.length : Int) = Flow.N f + 2) (hx : ∀ i : Nat, (i : Int) < Flow.Insts f -> rd NX (i : Int) = nxl f i) (htl : (TL.length : Int) = Flow.N f + 2)
 (H : RI f p 0 (List.replicate (Flow.Insts f).toNat true) ST UN OP EA FR) : W (fun k => listsched_lister_run_i6.f k f z1 z2 PA NX TL ST UN OP EA FR) (RUN f p) := by
 have i0 := V.i0
 have i1 := V.i1
 simp (disch := omega) only [listsched_lister_run_i6.f, ↓if_pos]
 rw [List.length_replicate]
 have loop : ∀ (d i : Nat), i + d = (Flow.Insts f).toNat -> ∀ WT : List Bool, WT.length = (Flow.Insts f).toNat -> (∀ j : Nat, j < i -> rd WT (j : Int) = true) -> W (fun k => listsched_lister_run_i6.c3 k (((Flow.Insts f).toNat : Nat) : Int) (i : Int) TL ST UN OP EA FR f z1 z2 PA NX WT) (RUN f p) := by
  intro d
  induction d with
  | zero =>
    intro i hi WT hl h
    refine .succ ?_
    simp (disch := omega) only [listsched_lister_run_i6.c3, ↓cdF]
    have e : WT = List.replicate (Flow.Insts f).toNat true := by
     refine list_ext_rd (by rw [hl, List.length_replicate]) fun j hj => ?_
     rw [h j (by omega), rd_replicate (by omega)]
    have ec : (cw (List.replicate (Flow.Insts f).toNat true) : Int) = Flow.Insts f := by
     unfold cw
     rw [List.countP_replicate]
     simp
     omega
    have := run_loop V SF hp hnl hx htl 4098 0 _ ST UN OP EA FR H (by omega) (by omega) (PA := PA) (z1 := z1) (z2 := z2)
    rw [ec] at this
    rw [e]
    exact this
  | succ d ih =>
    intro i hi WT hl h
    refine .succ ?_
    simp (disch := omega) only [listsched_lister_run_i6.c3, ↓cdT, ↓if_pos, w64_id, Int.toNat_natCast]
    have := ih (i + 1) (by omega) (WT.set i true) (by rw [List.length_set]; exact hl) fun j hj => by
     rw [rd_set (by omega)]
     split
     . rfl
     . exact h j (by omega)
    simpa only [natC] using this
 exact loop (Flow.Insts f).toNat 0 (by omega) _ (by rw [List.length_replicate]) (fun j hj => by omega)
end
end Go.Proofs.YtjddmekfeckphaaGreatV
namespace Go.Proofs.YtjddmekfeckphaaGreatV
open Go Go.Vm
abbrev lk (a : Arc) : Link := (Arc.From a, Arc.To a, ())
def GR (f : Flow) : Graph := (Flow.N f + 2, (Flow.Arcs f).map lk, ())
def BADA (f : Flow) (j : Nat) : Prop := (aF f j < Flow.Insts f /\ Flow.Insts f <= aT f j /\ aT f j <= Flow.N f) \/ (aF f j = aT f j /\ aF f j < Flow.Insts f)
def TWO (f : Flow) : Prop := ∃ i u : Nat, (i : Int) < Flow.Insts f /\ u ≠ i /\ Same (GR f) i u
def TNG (f : Flow) : Prop := (∃ j : Nat, j < (Flow.Arcs f).length /\ BADA f j) \/ TWO f
section
variable {f : Flow}
theorem gN_GR (V : VALID f) : gN (GR f) = (Flow.N f + 2).toNat := by
 have i0 := V.i0; have i1 := V.i1; have p0 := V.p0; have p1 := V.p1
 have hN : Flow.N f = Flow.Insts f + Flow.Params f := rfl
 have h1 : gN (GR f) = (mn (mx (Flow.N f + 2) 0) 20000).toNat := rfl
 rw [h1]
 unfold mn mx
 repeat' split
 all_goals omega
theorem adj_GR (V : VALID f) {a b : Nat} : adj (GR f) a b = true ↔ ∃ j : Nat, j < (Flow.Arcs f).length /\ aF f j = (a : Int) /\ aT f j = (b : Int) := by
 have p0 := V.p0
 have i0 := V.i0
 have hN : Flow.N f = Flow.Insts f + Flow.Params f := rfl
 rw [adj_iff, gN_GR V]
 constructor
 . rintro ⟨_, _, l, hl, e1, e2⟩
   have hl : l ∈ (Flow.Arcs f).map lk := hl
   obtain ⟨x, hx, rfl⟩ := List.mem_map.1 hl
   obtain ⟨j, hj, e⟩ := mem_rd hx
   subst e
   exact ⟨j, hj, e1, e2⟩
 . rintro ⟨j, hj, e1, e2⟩
   obtain ⟨v1, v2, v3, v4, _⟩ := V.arcs j hj
   have v2 : aF f j <= Flow.N f := v2
   have v4 : aT f j <= Flow.N f + 1 := v4
   exact ⟨by omega, by omega, lk (rd (Flow.Arcs f) (j : Int)), List.mem_map.2 ⟨_, rd_mem (by omega) (by omega), rfl⟩, e1, e2⟩
theorem mpGet_put (m : List (Int × Int)) (k x c : Int) : mpGet (mpPut m k x) c = if c = k then some x else mpGet m c := by
 induction m with
 | nil =>
   show cond (decide (k = c)) (some x) none = _
   by_cases e : c = k
   . subst e; simp [mpGet]
   . simp [Ne.symm e, e, mpGet]
 | cons q m ih =>
   obtain ⟨a, y⟩ := q
   show mpGet (cond (decide (a = k)) ((a, x) :: m) ((a, y) :: mpPut m k x)) c = if c = k then some x else cond (decide (a = c)) (some y) (mpGet m c)
   by_cases e : a = k
   . subst e
     simp only [decide_true, cond_true]
     show cond (decide (a = c)) (some x) (mpGet m c) = _
     by_cases e2 : c = a
     . subst e2; simp
     . simp [Ne.symm e2, e2]
   . simp only [e, decide_false, cond_false]
     show cond (decide (a = c)) (some y) (mpGet (mpPut m k x) c) = _
     rw [ih]
     by_cases e2 : a = c
     . subst e2; simp [e]
     . simp [e2]
def alike (l : List Int) (c : Int) : Nat -> Nat
 | 0 => 0
 | m + 1 => alike l c m + if rd l (m : Int) = c then 1 else 0
theorem alike_le (l : List Int) (c : Int) : ∀ m, alike l c m <= m
 | 0 => Nat.le_refl _
 | m + 1 => by
   have := alike_le l c m
   show _ + ite _ _ _ <= _
   split <;> omega
theorem alike_pos {l : List Int} {c : Int} : ∀ {m i : Nat}, i < m -> rd l (i : Int) = c -> 1 <= alike l c m
 | m + 1, i, h, e => by
   show _ <= _ + ite _ _ _
   by_cases e2 : i = m
   . subst e2; rw [if_pos e]; omega
   . have := alike_pos (m := m) (i := i) (by omega) e
     omega
theorem alike_two {l : List Int} {c : Int} : ∀ {m i : Nat}, i < m -> rd l (i : Int) = c -> (1 < alike l c m ↔ ∃ u : Nat, u < m /\ u ≠ i /\ rd l (u : Int) = c)
 | m + 1, i, h, e => by
   show 1 < _ + ite _ _ _ ↔ _
   by_cases e2 : i = m
   . subst e2
     rw [if_pos e]
     constructor
     . intro h1
       have : alike l c i ≠ 0 := by omega
       have ex : ∀ n : Nat, alike l c n ≠ 0 -> ∃ u : Nat, u < n /\ rd l (u : Int) = c := by
        intro n
        induction n with
        | zero => intro h; exact absurd rfl h
        | succ n ih =>
          intro h
          by_cases e3 : rd l (n : Int) = c
          . exact ⟨n, by omega, e3⟩
          . have h' : alike l c n + (if rd l (n : Int) = c then 1 else 0) ≠ 0 := h
            rw [if_neg e3] at h'
            obtain ⟨u, h1, h2⟩ := ih (by omega)
            exact ⟨u, by omega, h2⟩
       obtain ⟨u, h1, h2⟩ := ex i this
       exact ⟨u, by omega, by omega, h2⟩
     . rintro ⟨u, h1, h2, h3⟩
       have := alike_pos (m := i) (i := u) (by omega) h3
       omega
   . by_cases e3 : rd l (m : Int) = c
     . rw [if_pos e3]
       have := alike_pos (m := m) (i := i) (by omega) e
       exact ⟨fun _ => ⟨m, by omega, Ne.symm e2, e3⟩, fun _ => by omega⟩
     . rw [if_neg e3, Nat.add_zero, alike_two (m := m) (i := i) (by omega) e]
       constructor
       . rintro ⟨u, h1, h2, h3⟩; exact ⟨u, by omega, h2, h3⟩
       . rintro ⟨u, h1, h2, h3⟩
         refine ⟨u, ?_, h2, h3⟩
         by_cases e4 : u = m
         . subst e4; exact absurd h3 e3
         . omega
theorem Same_iff_cmp {g : Graph} {a b : Nat} : Same g a b ↔ cmp g a = cmp g b := by
 constructor
 . exact cmp_eq
 . intro e
   have h1 := cmp_same g a
   have h2 := cmp_same g b
   rw [<- e] at h2
   exact h1.trans h2.symm
theorem Same_lt (V : VALID f) {i u : Nat} (h : Same (GR f) i u) (hne : u ≠ i) : u < (Flow.N f + 2).toNat := by
 obtain ⟨h1, _⟩ := h
 rcases h1 with e | h1
 . exact absurd e.symm hne
 . obtain ⟨b, hb, _⟩ := h1.last
   have := adj_r hb
   rwa [gN_GR V] at this
theorem tangled_prog (V : VALID f) (SF : SIZES f) (hs : Flow.N f + 2 <= 1000) (hal : (Flow.Arcs f).length <= 1000000) : EvP (fun k => listsched_tangled.f k f) (TNG f) := by
 have i0 := V.i0
 have i1 := V.i1
 have p0 := V.p0
 have p1 := V.p1
 have ha := SF.arcs
 have hN : Flow.N f = Flow.Insts f + Flow.Params f := rfl
 simp only [listsched_tangled.f, dataflow_Nodes.f, Option.bind_some]
 rw [w64_id (n := Flow.Insts f + Flow.Params f) (by omega) (by omega), w64_id (by omega) (by omega)]
 -- behind the arcs
 have comps : (∀ j : Nat, j < (Flow.Arcs f).length -> ¬ BADA f j) -> EvP (fun k => (graph_Components.f k (GR f)).bind fun y65 => listsched_tangled.c12 k (y65.length : Int) 0 f y65 ([] : List (Int × Int))) (TNG f) := by
  intro hno
  have hgn := gN_GR V
  have hlen : (COMPS (GR f)).length = (Flow.N f + 2).toNat := by rw [<- hgn]; exact tb_len _ _
  have hat : ∀ v : Nat, v < (Flow.N f + 2).toNat -> rd (COMPS (GR f)) (v : Int) = (cmp (GR f) v : Int) := fun v hv => tb_rd (by rw [hgn]; exact hv)
  refine .bind (Components_prog (GR f) (by rw [hgn]; omega) (by show ((Flow.Arcs f).map lk).length <= _; rw [List.length_map]; exact hal)) ?_
  have hQ : TNG f ↔ ∃ i : Nat, (i : Int) < Flow.Insts f /\ 1 < alike (COMPS (GR f)) (rd (COMPS (GR f)) (i : Int)) (COMPS (GR f)).length := by
   constructor
   . rintro (⟨j, hj, hb⟩ | ⟨i, u, hi, hne, hS⟩)
     . exact absurd hb (hno j hj)
     . refine ⟨i, hi, (alike_two (i := i) (by omega) rfl).2 ⟨u, by rw [hlen]; exact Same_lt V hS hne, hne, ?_⟩⟩
       rw [hat i (by omega), hat u (Same_lt V hS hne), Same_iff_cmp.1 hS]
   . rintro ⟨i, hi, h⟩
     obtain ⟨u, hu, hne, e⟩ := (alike_two (i := i) (by omega) rfl).1 h
     rw [hat i (by omega), hat u (by omega)] at e
     exact .inr ⟨i, u, hi, hne, Same_iff_cmp.2 (by omega)⟩
  generalize COMPS (GR f) = C at *
  have loop : ∀ (d i : Nat), i + d = C.length -> ∀ M : List (Int × Int), (∀ c : Int, Option.getD (mpGet M c) 0 = (alike C c i : Int)) -> EvP (fun k => listsched_tangled.c12 k (C.length : Int) (i : Int) f C M) (TNG f) := by
   intro d
   induction d with
   | zero =>
     intro i hi M hM
     have e : i = C.length := by omega
     subst e
     have hi2 : 0 <= Flow.Insts f /\ Flow.Insts f <= (C.length : Int) := by omega
     refine EvP.step (g := fun k => (slices_ContainsFunc_int_int.f k (List.take ((Flow.Insts f).toNat) (List.drop 0 C)) M).bind fun y83 => some y83.1) ?_ fun k => ?_
     . simp only [List.drop_zero, slices_ContainsFunc_int_int.f, slices_IndexFunc_int_int.f]
       have hT : (List.take (Flow.Insts f).toNat C).length = (Flow.Insts f).toNat := by rw [List.length_take]; omega
       have hTr : ∀ x : Nat, x < (Flow.Insts f).toNat -> rd (List.take (Flow.Insts f).toNat C) (x : Int) = rd C (x : Int) := fun x hx => by
        rw [rd_eq (by omega), rd_eq (by omega), List.getElem_take]
       generalize List.take (Flow.Insts f).toNat C = T at *
       have find : ∀ (d i : Nat), i + d = (Flow.Insts f).toNat -> (∀ x : Nat, x < i -> ¬ 1 < alike C (rd C (x : Int)) C.length) -> W (fun k => slices_IndexFunc_int_int.c2 k T (T.length : Int) (i : Int) M) (fun r => 0 <= r.1 ↔ TNG f) := by
        intro d
        induction d with
        | zero =>
          intro i hi hall
          refine .succ ?_
          simp (disch := omega) only [slices_IndexFunc_int_int.c2, ↓cdF]
          refine .ret ⟨fun h => ?_, fun q => ?_⟩
          . have h : (0 : Int) <= -1 := h
            omega
          . obtain ⟨x, hx, h⟩ := hQ.1 q
            exact absurd h (hall x (by omega))
        | succ d ih =>
          intro i hi hall
          refine .succ ?_
          simp (disch := omega) only [slices_IndexFunc_int_int.c2, ↓cdT, ↓if_pos, listsched_tangled_1.f, Option.bind_some, hTr, hM, w64_id]
          refine .dec (fun h => .ret ⟨fun _ => hQ.2 ⟨i, by omega, by omega⟩, fun _ => by show (0 : Int) <= (i : Int); omega⟩) fun h => ?_
          have := ih (i + 1) (by omega) fun x hx => by
           rcases Nat.lt_or_eq_of_le (Nat.le_of_lt_succ hx) with h1 | h1
           . exact hall x h1
           . rw [h1]; omega
          simpa only [natC] using this
       obtain ⟨r, hr, hq⟩ := find (Flow.Insts f).toNat 0 (by omega) fun x hx => by omega
       refine .bind (Ev.bind hr (.ret _)) (.dec hq)
     . simp (disch := omega) only [listsched_tangled.c12, ↓cdF, if_pos hi2]
   | succ d ih =>
     intro i hi M hM
     have hle := alike_le C (rd C (i : Int)) i
     have hm := hM (rd C (i : Int))
     have hCl : C.length <= 1000 := by omega
     have := ih (i + 1) (by omega) (mpPut M (rd C (i : Int)) (w64 (Option.getD (mpGet M (rd C (i : Int))) (0 : Int) + 1))) fun c => by
      rw [mpGet_put]
      show _ = ((alike C c i + if rd C (i : Int) = c then 1 else 0 : Nat) : Int)
      by_cases e : c = rd C (i : Int)
      . rw [if_pos e, if_pos e.symm, hm, Option.getD_some, w64_id (by omega) (by omega), e]
        omega
      . rw [if_neg e, if_neg (Ne.symm e), hM c]
        omega
     refine EvP.step this fun k => ?_
     simp (disch := omega) only [listsched_tangled.c12, ↓cdT, ↓if_pos, w64_id (n := (i : Int) + 1), natC]
  exact loop C.length 0 (by omega) [] fun c => rfl
 have loop : ∀ (d i : Nat), i + d = (Flow.Arcs f).length -> (∀ j : Nat, j < i -> ¬ BADA f j) -> EvP (fun k => listsched_tangled.c3 k (Flow.Arcs f) ((Flow.Arcs f).length : Int) (i : Int) f (Flow.N f + 2) (((Flow.Arcs f).take i).map lk)) (TNG f) := by
  intro d
  induction d with
  | zero =>
    intro i hi hno
    refine EvP.step (comps fun j hj => hno j (by omega)) fun k => ?_
    simp (disch := omega) only [listsched_tangled.c3, ↓cdF]
    rw [List.take_of_length_le (by omega)]
    rfl
  | succ d ih =>
    intro i hi hno
    have hts := take_snoc (l := Flow.Arcs f) (j := i) (by omega)
    obtain ⟨v1, v2, v3, v4, _⟩ := V.arcs i (by omega)
    have next : ¬ BADA f i -> EvP (fun k => bif Nat.ble (List.length (((Flow.Arcs f).take i).map lk) + List.length [lk (rd (Flow.Arcs f) (i : Int))]) 1073741824 then listsched_tangled.c3 k (Flow.Arcs f) ((Flow.Arcs f).length : Int) ((i : Int) + 1) f (Flow.N f + 2) (((Flow.Arcs f).take i).map lk ++ [lk (rd (Flow.Arcs f) (i : Int))]) else none) (TNG f) := by
     intro hb
     have := ih (i + 1) (by omega) fun j hj => by
      rcases Nat.lt_or_eq_of_le (Nat.le_of_lt_succ hj) with h1 | h1
      . exact hno j h1
      . rw [h1]; exact hb
     rw [hts, List.map_append, List.map_singleton] at this
     have hl : (((Flow.Arcs f).take i).map lk).length <= 1000000 := by rw [List.length_map, List.length_take]; omega
     simp (disch := (simp only [List.length_singleton]; omega)) only [↓bleT]
     simpa only [natC] using this
    have yes : BADA f i -> EvP (fun _ => some true) (TNG f) := fun h => .tt (.inl ⟨i, by omega, h⟩)
    refine EvP.step (g := fun k => bif decide (aF f i < Flow.Insts f /\ Flow.Insts f <= aT f i /\ aT f i <= Flow.N f \/ aF f i = aT f i /\ aF f i < Flow.Insts f) then some true else bif Nat.ble (List.length (((Flow.Arcs f).take i).map lk) + List.length [lk (rd (Flow.Arcs f) (i : Int))]) 1073741824 then listsched_tangled.c3 k (Flow.Arcs f) ((Flow.Arcs f).length : Int) ((i : Int) + 1) f (Flow.N f + 2) (((Flow.Arcs f).take i).map lk ++ [lk (rd (Flow.Arcs f) (i : Int))]) else none) ?_ fun k => ?_
    . refine .cond (fun h => ?_) fun h => ?_
      . have h := of_decide_eq_true h
        exact yes h
      . have h := of_decide_eq_false h
        exact next h
    . simp (disch := omega) only [listsched_tangled.c3, ↓cdT, ↓if_pos, w64_id (n := (i : Int) + 1), dataflow_Source.f, w64_id (n := Flow.Insts f + Flow.Params f), Option.bind_some]
      have e1 : lk (rd (Flow.Arcs f) (i : Int)) = (Arc.From (rd (Flow.Arcs f) (i : Int)), Arc.To (rd (Flow.Arcs f) (i : Int)), ()) := rfl
      simp only [e1]
      generalize (bif Nat.ble (List.length (((Flow.Arcs f).take i).map lk) + List.length [((Arc.From (rd (Flow.Arcs f) (i : Int)), Arc.To (rd (Flow.Arcs f) (i : Int)), ()) : Link)]) 1073741824 then listsched_tangled.c3 k (Flow.Arcs f) ((Flow.Arcs f).length : Int) ((i : Int) + 1) f (Flow.N f + 2) (((Flow.Arcs f).take i).map lk ++ [((Arc.From (rd (Flow.Arcs f) (i : Int)), Arc.To (rd (Flow.Arcs f) (i : Int)), ()) : Link)]) else none) = R
      show _ = bif decide (Arc.From (rd (Flow.Arcs f) (i : Int)) < Flow.Insts f /\ Flow.Insts f <= Arc.To (rd (Flow.Arcs f) (i : Int)) /\ Arc.To (rd (Flow.Arcs f) (i : Int)) <= Flow.N f \/ Arc.From (rd (Flow.Arcs f) (i : Int)) = Arc.To (rd (Flow.Arcs f) (i : Int)) /\ Arc.From (rd (Flow.Arcs f) (i : Int)) < Flow.Insts f) then some true else R
      rw [hN]
      generalize Arc.From (rd (Flow.Arcs f) (i : Int)) = x
      generalize Arc.To (rd (Flow.Arcs f) (i : Int)) = y
      by_cases c1 : x < Flow.Insts f <;> by_cases c2 : Flow.Insts f <= y <;> by_cases c3 : y <= Flow.Insts f + Flow.Params f <;> by_cases c4 : x = y <;> simp [c1, c2, c3, c4] <;> by_cases c5 : y < Flow.Insts f <;> first | (exfalso; omega) | simp [c5]
 exact loop (Flow.Arcs f).length 0 (by omega) fun j hj => by omega
end
end Go.Proofs.YtjddmekfeckphaaGreatV
namespace Go.Proofs.YtjddmekfeckphaaGreatV
open Go Go.Vm
structure EARLY (f : Flow) (E : List Int) : Prop where
 len : (E.length : Int) = Flow.N f + 2
 pos : ∀ v : Int, 0 <= v -> v < Flow.N f + 2 -> 0 <= rd E v
 arc : ∀ j : Nat, j < (Flow.Arcs f).length -> rd E (aF f j) + aL f j <= rd E (aT f j)
 least : ∀ q : Int -> Int, (∀ v : Int, 0 <= v -> v < Flow.N f + 2 -> 0 <= q v) -> (∀ j : Nat, j < (Flow.Arcs f).length -> q (aF f j) + aL f j <= q (aT f j)) -> ∀ v : Int, 0 <= v -> v < Flow.N f + 2 -> rd E v <= q v
def GOODF (f : Flow) (E : List Int) : Prop := ¬ TNG f /\ ∀ q : Nat, (q : Int) < Flow.Params f -> rd E (Flow.Insts f + q) <= 0
section
variable {f : Flow}
theorem clampI {x lo hi : Int} (h0 : lo <= x) (h1 : x <= hi) : mn (mx x lo) hi = x := by
 unfold mn mx
 repeat' split
 all_goals omega
theorem wt0 (V : VALID f) {i : Nat} (hi : i < (Flow.Arcs f).length) : Diff.wt (rd (Flow.Arcs f) (i : Int)) 0 = aL f i := by
 obtain ⟨_, _, _, _, l0, l1, d0, d1, _⟩ := V.arcs i hi
 have e1 := clampI (x := Arc.Lat (rd (Flow.Arcs f) (i : Int))) (lo := -1048576) (hi := 1048576) (by omega) (by omega)
 have e3 := clampI (x := 0) (lo := 0) (hi := 256) (by omega) (by omega)
 unfold Diff.wt
 rw [e1, e3, Int.zero_mul]
 show _ = Arc.Lat _
 omega
theorem inn0 (V : VALID f) {i : Nat} (hi : i < (Flow.Arcs f).length) : Diff.Inn (Flow.N f + 2) (rd (Flow.Arcs f) (i : Int)) := by
 obtain ⟨a, b, c, d, _⟩ := V.arcs i hi
 exact ⟨a, by omega, c, by omega⟩
theorem feas_iff (V : VALID f) {q : Int -> Int} : Diff.Feas (Flow.N f + 2) (Flow.Arcs f) 0 q ↔ ∀ j : Nat, j < (Flow.Arcs f).length -> q (aF f j) + aL f j <= q (aT f j) := by
 constructor
 . intro h j hj
   have := h (j : Int) (by omega) (by omega) (inn0 V hj)
   rwa [wt0 V hj] at this
 . intro h i i0 i1 _
   obtain ⟨j, rfl⟩ : ∃ j : Nat, i = (j : Int) := ⟨i.toNat, by omega⟩
   rw [wt0 V (by omega)]
   exact h j (by omega)
theorem early_of (V : VALID f) {a : List Int × Option (List Int) × Unit} (h : Diff.Answer (Flow.N f + 2) (Flow.Arcs f) 0 (fun _ => 0) a) (hn : a.2.1 = none) : EARLY f a.1 := by
 rcases h with ⟨_, h2, h3, h4, h5⟩ | ⟨_, c, h2, _⟩
 . exact ⟨h2, fun v v0 v1 => (h3 v v0 v1).1, (feas_iff V).1 h4, fun q q1 q2 => h5 q ((feas_iff V).2 q2) q1⟩
 . rw [hn] at h2; cases h2
theorem no_early (V : VALID f) {a : List Int × Option (List Int) × Unit} (h : Diff.Answer (Flow.N f + 2) (Flow.Arcs f) 0 (fun _ => 0) a) (hn : a.2.1 ≠ none) : ∀ E, ¬ EARLY f E := by
 intro E hE
 rcases h with ⟨h1, _⟩ | ⟨_, c, _, h3⟩
 . exact hn h1
 . exact h3.not_feas ((feas_iff V).2 hE.arc)
theorem EARLY.uniq (V : VALID f) {E E' : List Int} (h : EARLY f E) (h' : EARLY f E') : E = E' := by
 have l1 := h.len
 have l2 := h'.len
 refine list_ext_rd (by omega) fun i hi => ?_
 have := h.least (rd E') h'.pos h'.arc (i : Int) (by omega) (by omega)
 have := h'.least (rd E) h.pos h.arc (i : Int) (by omega) (by omega)
 omega
theorem EARLY.sol {E : List Int} (h : EARLY f E) : SOL f (rd E) := ⟨h.pos, h.arc⟩
theorem acyclic (V : VALID f) (hT : ¬ TNG f) {w : Nat -> Prop} (hne : ∃ i : Nat, (i : Int) < Flow.Insts f /\ w i) : ∃ i : Nat, (i : Int) < Flow.Insts f /\ w i /\ ∀ j : Nat, j < (Flow.Arcs f).length -> ∀ u : Nat, aF f j = (u : Int) -> (u : Int) < Flow.Insts f -> w u -> aT f j ≠ (i : Int) := by
 refine Classical.byContradiction fun hno => ?_
 have H : ∀ i : Nat, ∃ u : Nat, (i : Int) < Flow.Insts f -> w i -> (u : Int) < Flow.Insts f /\ w u /\ ∃ j : Nat, j < (Flow.Arcs f).length /\ aF f j = (u : Int) /\ aT f j = (i : Int) := by
  intro i
  by_cases h : (i : Int) < Flow.Insts f /\ w i
  . refine Classical.byContradiction fun hn => hno ⟨i, h.1, h.2, fun j hj u e1 e2 e3 e4 => hn ⟨u, fun _ _ => ⟨e2, e3, j, hj, e1, e4⟩⟩⟩
  . exact ⟨0, fun h1 h2 => absurd ⟨h1, h2⟩ h⟩
 obtain ⟨i0, hi0, hw0⟩ := hne
 obtain ⟨sq, hs0, hs1⟩ : ∃ sq : Nat -> Nat, sq 0 = i0 /\ ∀ k, sq (k + 1) = Classical.choose (H (sq k)) := ⟨fun k => Nat.rec i0 (fun _ x => Classical.choose (H x)) k, rfl, fun _ => rfl⟩
 have hsq : ∀ k : Nat, ((sq k : Nat) : Int) < Flow.Insts f /\ w (sq k) := by
  intro k
  induction k with
  | zero => rw [hs0]; exact ⟨hi0, hw0⟩
  | succ k ih =>
    rw [hs1]
    exact ⟨(Classical.choose_spec (H (sq k)) ih.1 ih.2).1, (Classical.choose_spec (H (sq k)) ih.1 ih.2).2.1⟩
 have harc : ∀ k, ∃ j : Nat, j < (Flow.Arcs f).length /\ aF f j = (sq (k + 1) : Int) /\ aT f j = (sq k : Int) := fun k => by
  rw [hs1]
  exact (Classical.choose_spec (H (sq k)) (hsq k).1 (hsq k).2).2.2
 have hadj : ∀ k, ADJ (GR f) (sq (k + 1)) (sq k) := fun k => (adj_GR V).2 (harc k)
 obtain ⟨a, b, hab, hbn, e⟩ := Diff.pigeon (Flow.Insts f).toNat (fun k => Int.ofNat (sq k)) fun k _ => by have := (hsq k).1; show 0 <= ((sq k : Nat) : Int) /\ ((sq k : Nat) : Int) < _; omega
 have e : sq a = sq b := by
  exact Int.ofNat.inj e
 have path : ∀ m : Nat, RT (ADJ (GR f)) (sq (a + 1 + m)) (sq (a + 1)) := by
  intro m
  induction m with
  | zero => exact .refl _
  | succ m ih => exact (RT.one (hadj (a + 1 + m))).trans ih
 have h1 := path (b - (a + 1))
 rw [show a + 1 + (b - (a + 1)) = b by omega, <- e] at h1
 obtain ⟨j, hj, f1, f2⟩ := harc a
 by_cases es : sq (a + 1) = sq a
 . exact hT (.inl ⟨j, hj, .inr ⟨by rw [f1, f2, es], by rw [f1]; exact (hsq (a + 1)).1⟩⟩)
 . exact hT (.inr ⟨sq a, sq (a + 1), (hsq a).1, es, h1, .one (hadj a)⟩)
def cpo (f : Flow) (l : List Arc) (v : Int) : Nat := l.countP fun a => decide (Arc.From a < Flow.Insts f) && decide (Arc.To a = v)
def emax (f : Flow) (v : Int) : Nat -> Int
 | 0 => 0
 | m + 1 => if ¬ aF f m < Flow.Insts f /\ aT f m = v then mx (emax f v m) (aL f m) else emax f v m
theorem emax_succ (v : Int) (m : Nat) : emax f v (m + 1) = if ¬ aF f m < Flow.Insts f /\ aT f m = v then mx (emax f v m) (aL f m) else emax f v m := rfl
theorem emax_pos (v : Int) : ∀ m, 0 <= emax f v m
 | 0 => Int.le_refl _
 | m + 1 => by
   have := emax_pos v m
   rw [emax_succ]
   split
   . exact Int.le_trans this (le_mx_l _ _)
   . exact this
theorem emax_ge {v : Int} {j : Nat} (h1 : ¬ aF f j < Flow.Insts f) (h2 : aT f j = v) : ∀ m, j < m -> aL f j <= emax f v m
 | m + 1, h => by
   rw [emax_succ]
   by_cases e : j = m
   . subst e
     rw [if_pos ⟨h1, h2⟩]
     exact le_mx_r _ _
   . have := emax_ge h1 h2 m (by omega)
     split
     . exact Int.le_trans this (le_mx_l _ _)
     . exact this
theorem emax_at (v : Int) : ∀ m, emax f v m = 0 \/ ∃ j : Nat, j < m /\ ¬ aF f j < Flow.Insts f /\ aT f j = v /\ emax f v m = aL f j
 | 0 => .inl rfl
 | m + 1 => by
   have ih : emax f v m = 0 \/ ∃ j : Nat, j < m + 1 /\ ¬ aF f j < Flow.Insts f /\ aT f j = v /\ emax f v m = aL f j := by
    rcases emax_at v m with h | ⟨j, h1, h2⟩
    . exact .inl h
    . exact .inr ⟨j, by omega, h2⟩
   rw [emax_succ]
   split
   . rename_i h
     rcases mx_eq (emax f v m) (aL f m) with e | e
     . rw [e]; exact ih
     . rw [e]; exact .inr ⟨m, by omega, h.1, h.2, rfl⟩
   . exact ih
theorem CB_init {ST : List Int} (V : VALID f) (x : Int) : ∀ m, m <= (Flow.Insts f).toNat -> CB f (List.replicate (Flow.Insts f).toNat true) ST x m = 0
 | 0, _ => rfl
 | m + 1, h => by
   show CB f _ ST x m + ite _ _ _ = 0
   rw [CB_init V x m (by omega), if_neg]
   . rfl
   . rintro ⟨h1, _⟩
     rw [rd_replicate (by omega)] at h1
     cases h1
theorem RI.init (V : VALID f) {p : Int -> Int} (hp : SOL f p) {FR : List (List Int)} (hf : FR.length = (Flow.Res f).length) (hfr : ∀ r : Nat, r < (Flow.Res f).length -> rd FR (r : Int) = List.replicate (cnt f r).toNat 0) :
 RI f p 0 (List.replicate (Flow.Insts f).toNat true) (List.replicate (Flow.Insts f).toNat 0) (List.replicate (Flow.Insts f).toNat (-1)) (tb (Flow.N f + 2).toNat fun v => (cpo f (Flow.Arcs f) (v : Int) : Int)) (tb (Flow.N f + 2).toNat fun v => emax f (v : Int) (Flow.Arcs f).length) FR := by
 have i0 := V.i0
 have p0 := V.p0
 have hN : Flow.N f = Flow.Insts f + Flow.Params f := rfl
 have hw : ∀ i : Nat, (i : Int) < Flow.Insts f -> rd (List.replicate (Flow.Insts f).toNat true) (i : Int) = true := fun i hi => rd_replicate (by omega)
 have hwI : ∀ {x : Int}, 0 <= x -> x < Flow.Insts f -> rd (List.replicate (Flow.Insts f).toNat true) x = true := fun {x} h0 h1 => by
  obtain ⟨m, rfl⟩ : ∃ m : Nat, x = (m : Int) := ⟨x.toNat, by omega⟩
  exact hw m h1
 have ea : ∀ v : Nat, (v : Int) < Flow.N f + 2 -> rd (tb (Flow.N f + 2).toNat fun v => emax f (v : Int) (Flow.Arcs f).length) (v : Int) = emax f (v : Int) (Flow.Arcs f).length := fun v hv => tb_rd (by omega)
 have no : ∀ {P : Prop} {i : Nat}, (i : Int) < Flow.Insts f -> rd (List.replicate (Flow.Insts f).toNat true) (i : Int) = false -> P := fun {P i} hi h => by rw [hw i hi] at h; cases h
 have arc0 : ∀ j : Nat, j < (Flow.Arcs f).length -> 0 <= aF f j /\ aF f j <= Flow.N f /\ 0 <= aT f j /\ aT f j <= Flow.N f + 1 /\ 0 <= aL f j /\ aL f j <= 4096 := fun j hj => by
  obtain ⟨v1, v2, v3, v4, v5, v6, _⟩ := V.arcs j hj
  exact ⟨v1, v2, v3, v4, v5, v6⟩
 refine ⟨by rw [List.length_replicate]; omega, by rw [List.length_replicate]; omega, by rw [List.length_replicate]; omega, by rw [tb_len]; omega, by rw [tb_len]; omega, hf, fun r hr => ?_, Int.le_refl _, fun v hv => ?_, fun v hv => ?_, fun j hj => ⟨fun h1 h2 => ?_, fun h1 => ?_⟩, fun i hi h => no hi h, fun j hj h1 h2 => ?_, fun i hi _ => rd_replicate (by omega), fun i hi h => no hi h, fun i k hi _ _ h => no hi h, fun r hr u hu => .inl ?_, fun v hv => ?_, fun i h => ?_, fun i hi h => no hi h⟩
 . rw [hfr r hr, List.length_replicate]
   have hc : 1 <= cnt f r := (V.res r hr).2.2.1
   omega
 . rw [tb_rd (by omega)]
   unfold cpo opc
   congr 1
   refine List.countP_congr fun a ha => ?_
   obtain ⟨j, hj, e⟩ := mem_rd ha
   subst e
   obtain ⟨a1, _⟩ := arc0 j hj
   unfold opP
   by_cases h : Arc.From (rd (Flow.Arcs f) (j : Int)) < Flow.Insts f
   . rw [hwI a1 h]; simp
   . simp [h]
 . rw [ea v hv]
   refine ⟨emax_pos _ _, ?_⟩
   rcases emax_at (f := f) (v : Int) (Flow.Arcs f).length with e | ⟨j, hj, _, _, e⟩
   . omega
   . have := (arc0 j hj).2.2.2.2.2
     omega
 . rw [hwI (arc0 j hj).1 h1] at h2; cases h2
 . obtain ⟨a1, a2, a3, a4, a5, a6⟩ := arc0 j hj
   obtain ⟨m, hm⟩ : ∃ m : Nat, aT f j = (m : Int) := ⟨(aT f j).toNat, by omega⟩
   rw [hm, ea m (by omega)]
   exact emax_ge (by omega) hm _ hj
 . rw [hwI (arc0 j hj).2.2.1 h1] at h2; cases h2
 . rw [hfr r hr]
   exact rd_replicate (by omega)
 . rw [ea v hv, CB_init V _ _ (Nat.le_refl _)]
   rcases emax_at (f := f) (v : Int) (Flow.Arcs f).length with e | ⟨j, hj, _, h2, e⟩
   . have := hp.pos (v : Int) (by omega) hv
     omega
   . have h3 := hp.arc j hj
     obtain ⟨a1, a2, _⟩ := arc0 j hj
     have := hp.pos (aF f j) a1 (by omega)
     rw [h2] at h3
     omega
 . rw [CB_init V _ _ (Nat.le_refl _)]
   have := hp.pos (i : Int) (by omega) (by have := h.1; omega)
   omega
theorem RI.done (V : VALID f) (hl : Flow.Loop f = false) {E : List Int} (hE : EARLY f E) (hg : GOODF f E) {t : Int} {WT : List Bool} {ST UN OP EA : List Int} {FR : List (List Int)} (H : RI f (rd E) t WT ST UN OP EA FR) (hall : ∀ i : Nat, (i : Int) < Flow.Insts f -> rd WT (i : Int) = false)
 (hd : mx 1 (rd EA (Flow.N f + 1)) <= 4096) : FITS f (0, mx 1 (rd EA (Flow.N f + 1)), ST, List.replicate (Flow.Params f).toNat 0, UN, ()) /\ LG f (0, mx 1 (rd EA (Flow.N f + 1)), ST, List.replicate (Flow.Params f).toNat 0, UN, ()) := by
 have i0 := V.i0
 have p0 := V.p0
 have hN : Flow.N f = Flow.Insts f + Flow.Params f := rfl
 have ls := H.ls
 have lu := H.lu
 have arc0 : ∀ j : Nat, j < (Flow.Arcs f).length -> 0 <= aF f j /\ aF f j <= Flow.N f /\ 0 <= aT f j /\ aT f j <= Flow.N f + 1 /\ 0 <= aL f j /\ aL f j <= 4096 := fun j hj => by
  obtain ⟨v1, v2, v3, v4, v5, v6, _⟩ := V.arcs j hj
  exact ⟨v1, v2, v3, v4, v5, v6⟩
 have hallI : ∀ {x : Int}, 0 <= x -> x < Flow.Insts f -> rd WT x = false := fun {x} h0 h1 => by
  obtain ⟨m, rfl⟩ : ∃ m : Nat, x = (m : Int) := ⟨x.toNat, by omega⟩
  exact hall m h1
 have hdl := le_mx_l 1 (rd EA (Flow.N f + 1))
 have hdr := le_mx_r 1 (rd EA (Flow.N f + 1))
 have hlate : ∀ i : Nat, (i : Int) < Flow.Insts f -> 0 <= rd ST (i : Int) /\ rd ST (i : Int) <= 4096 := fun i hi => by
  have h1 := H.st i hi (hall i hi)
  obtain ⟨q1, q2, _, q3⟩ := V.tail i (by omega)
  have hlen := V.len
  obtain ⟨jj, hjj⟩ : ∃ jj : Nat, Flow.N f + 1 + (i : Int) = (jj : Int) := ⟨(Flow.N f + 1 + (i : Int)).toNat, by omega⟩
  rw [hjj] at q1 q2
  have q1 : aF f jj = (i : Int) := q1
  have q2 : aT f jj = Flow.N f + 1 := q2
  have h2 := (H.eaf jj (by omega)).1 (by omega) (by rw [q1]; exact hall i hi)
  rw [q1, q2] at h2
  have := (arc0 jj (by omega)).2.2.2.2.1
  omega
 refine ⟨⟨ls, lu, by show ((List.replicate _ _).length : Int) = _; rw [List.length_replicate]; omega, ⟨Int.le_refl _, by show (0 : Int) <= 256; omega⟩, ⟨fun h => by have h : (0 : Int) < 0 := h; omega, fun h => by rw [hl] at h; cases h⟩, ⟨hdl, hd⟩, fun i hi => hlate i (by have hi : i < ST.length := hi; omega), fun i hi => ?_, fun i hi => ⟨fun h => ?_, fun h => ?_⟩⟩, ?_⟩
 . have hi : i < (List.replicate (Flow.Params f).toNat (0 : Int)).length := hi
   rw [List.length_replicate] at hi
   show 0 <= rd (List.replicate _ (0 : Int)) (i : Int) /\ _
   rw [rd_replicate hi]
   omega
 . exact H.un1 i (by have hi : i < UN.length := hi; omega) h
 . have hi' : (i : Int) < Flow.Insts f := by have hi : i < UN.length := hi; omega
   obtain ⟨h1, h2, _⟩ := H.un2 i hi' (hall i hi') h
   exact ⟨h1, h2⟩
 . have tmI : ∀ {x : Int}, x < Flow.Insts f -> tm f (0, mx 1 (rd EA (Flow.N f + 1)), ST, List.replicate (Flow.Params f).toNat 0, UN, ()) x = rd ST x := fun {x} h => by unfold tm; rw [if_pos h]
   have tmP : ∀ {x : Int}, Flow.Insts f <= x -> x <= Flow.N f -> tm f (0, mx 1 (rd EA (Flow.N f + 1)), ST, List.replicate (Flow.Params f).toNat 0, UN, ()) x = 0 := fun {x} h h' => by
    unfold tm
    rw [if_neg (by omega)]
    split
    . obtain ⟨m, hm⟩ : ∃ m : Nat, x - Flow.Insts f = (m : Int) := ⟨(x - Flow.Insts f).toNat, by omega⟩
      show rd (List.replicate _ (0 : Int)) (x - Flow.Insts f) = 0
      rw [hm]
      exact rd_replicate (by omega)
    . rw [if_pos (by omega)]
   have tmE : tm f (0, mx 1 (rd EA (Flow.N f + 1)), ST, List.replicate (Flow.Params f).toNat 0, UN, ()) (Flow.N f + 1) = mx 1 (rd EA (Flow.N f + 1)) := by
    unfold tm
    rw [if_neg (by omega), if_neg (by omega), if_neg (by omega)]
   refine ⟨fun q hq => ?_, fun j hj => ?_, fun i hi => ?_⟩
   . have hq : q < (List.replicate (Flow.Params f).toNat (0 : Int)).length := hq
     rw [List.length_replicate] at hq
     exact rd_replicate hq
   . obtain ⟨a1, a2, a3, a4, a5, a6⟩ := arc0 j hj
     have hb : ¬ BADA f j := fun h => hg.1 (.inl ⟨j, hj, h⟩)
     show aL f j <= tm f _ (aT f j) - tm f _ (aF f j)
     by_cases e1 : aF f j < Flow.Insts f
     . rw [tmI e1]
       have hw := hallI a1 e1
       have h1 := (H.eaf j hj).1 e1 hw
       by_cases e2 : aT f j < Flow.Insts f
       . rw [tmI e2]
         have := ((H.leg j hj e2 (hallI a3 e2)).1 e1).2
         omega
       . have e3 : aT f j = Flow.N f + 1 := by
          unfold BADA at hb
          omega
         rw [e3, tmE]
         rw [e3] at h1
         omega
     . rw [tmP (by omega) a2]
       have h1 := (H.eaf j hj).2 (by omega)
       by_cases e2 : aT f j < Flow.Insts f
       . rw [tmI e2]
         have := (H.leg j hj e2 (hallI a3 e2)).2 (by omega)
         omega
       . by_cases e3 : aT f j = Flow.N f + 1
         . rw [e3, tmE]
           rw [e3] at h1
           omega
         . rw [tmP (by omega) (by omega)]
           -- parameters and the source
           have h2 := hE.arc j hj
           have h3 := hE.pos (aF f j) a1 (by omega)
           have par : ∀ x : Int, Flow.Insts f <= x -> x < Flow.N f -> rd E x <= 0 := fun x x0 x1 => by
            have := hg.2 (x - Flow.Insts f).toNat (by omega)
            rwa [show Flow.Insts f + ((x - Flow.Insts f).toNat : Int) = x by omega] at this
           by_cases e4 : aT f j < Flow.N f
           . have := par _ (by omega) e4
             omega
           . have e5 : aT f j = Flow.N f := by omega
             by_cases e6 : Flow.Params f = 0
             . have e7 : aF f j = Flow.N f := by omega
               rw [e5, e7] at h2
               omega
             . have hh := V.head (Flow.Insts f).toNat (by omega)
               unfold VHead at hh
               have hlen := V.len
               have h4 := hE.arc (Flow.Insts f).toNat (by omega)
               have g1 : aF f (Flow.Insts f).toNat = Flow.N f := by show Arc.From (rd _ _) = _; rw [hh]
               have g2 : aT f (Flow.Insts f).toNat = Flow.Insts f := by
                show Arc.To (rd _ _) = _
                rw [hh, if_neg (by omega)]
                show (((Flow.Insts f).toNat : Nat) : Int) = _
                omega
               have g3 : aL f (Flow.Insts f).toNat = 0 := by show Arc.Lat (rd _ _) = _; rw [hh]
               rw [g1, g2, g3] at h4
               have := par (Flow.Insts f) (by omega) (by omega)
               rw [e5] at h2
               omega
   . rintro ⟨h0, k, hk, h1, h2, h3, h4, h5⟩
     have hn := V.needs
     have hi : i < ST.length := hi
     have h3 : rd UN (k : Int) = rd UN (i : Int) := h3
     have h4 : rd ST (k : Int) < rd ST (i : Int) + bsI f i := h4
     have h5 : rd ST (i : Int) < rd ST (k : Int) + bsI f k := h5
     rcases H.fre i k (by omega) (by omega) (Ne.symm h1) (hall i (by omega)) (hall k (by omega)) h0 h2.symm h3.symm with h | h <;> omega
end
end Go.Proofs.YtjddmekfeckphaaGreatV
namespace Go.Proofs.YtjddmekfeckphaaGreatV
open Go Go.Vm
theorem rep0 (k : Nat) (d : Int) : slices_Repeat_int_int.f (k + 12) [d] 0 = some (List.replicate 0 d) := by kernel_rfl
theorem rep1 (k : Nat) (d : Int) : slices_Repeat_int_int.f (k + 12) [d] 1 = some (List.replicate 1 d) := by kernel_rfl
theorem rep2 (k : Nat) (d : Int) : slices_Repeat_int_int.f (k + 12) [d] 2 = some (List.replicate 2 d) := by kernel_rfl
theorem rep3 (k : Nat) (d : Int) : slices_Repeat_int_int.f (k + 12) [d] 3 = some (List.replicate 3 d) := by kernel_rfl
theorem rep4 (k : Nat) (d : Int) : slices_Repeat_int_int.f (k + 12) [d] 4 = some (List.replicate 4 d) := by kernel_rfl
theorem rep5 (k : Nat) (d : Int) : slices_Repeat_int_int.f (k + 12) [d] 5 = some (List.replicate 5 d) := by kernel_rfl
theorem rep6 (k : Nat) (d : Int) : slices_Repeat_int_int.f (k + 12) [d] 6 = some (List.replicate 6 d) := by kernel_rfl
theorem rep7 (k : Nat) (d : Int) : slices_Repeat_int_int.f (k + 12) [d] 7 = some (List.replicate 7 d) := by kernel_rfl
theorem rep8 (k : Nat) (d : Int) : slices_Repeat_int_int.f (k + 12) [d] 8 = some (List.replicate 8 d) := by kernel_rfl
theorem rep9 (k : Nat) (d : Int) : slices_Repeat_int_int.f (k + 12) [d] 9 = some (List.replicate 9 d) := by kernel_rfl
theorem rep10 (k : Nat) (d : Int) : slices_Repeat_int_int.f (k + 12) [d] 10 = some (List.replicate 10 d) := by kernel_rfl
theorem rep11 (k : Nat) (d : Int) : slices_Repeat_int_int.f (k + 12) [d] 11 = some (List.replicate 11 d) := by kernel_rfl
theorem rep12 (k : Nat) (d : Int) : slices_Repeat_int_int.f (k + 12) [d] 12 = some (List.replicate 12 d) := by kernel_rfl
theorem rep13 (k : Nat) (d : Int) : slices_Repeat_int_int.f (k + 12) [d] 13 = some (List.replicate 13 d) := by kernel_rfl
theorem rep14 (k : Nat) (d : Int) : slices_Repeat_int_int.f (k + 12) [d] 14 = some (List.replicate 14 d) := by kernel_rfl
theorem repeat_k (n : Nat) (h1 : n <= 14) (k : Nat) (d : Int) : slices_Repeat_int_int.f (k + 12) [d] (n : Int) = some (List.replicate n d) := by
 have h : n = 0 \/ n = 1 \/ n = 2 \/ n = 3 \/ n = 4 \/ n = 5 \/ n = 6 \/ n = 7 \/ n = 8 \/ n = 9 \/ n = 10 \/ n = 11 \/ n = 12 \/ n = 13 \/ n = 14 := by omega
 rcases h with rfl | rfl | rfl | rfl | rfl | rfl | rfl | rfl | rfl | rfl | rfl | rfl | rfl | rfl | rfl
 . exact rep0 k d
 . exact rep1 k d
 . exact rep2 k d
 . exact rep3 k d
 . exact rep4 k d
 . exact rep5 k d
 . exact rep6 k d
 . exact rep7 k d
 . exact rep8 k d
 . exact rep9 k d
 . exact rep10 k d
 . exact rep11 k d
 . exact rep12 k d
 . exact rep13 k d
 . exact rep14 k d
theorem repeat_ev {n : Int} (h0 : 0 <= n) (h1 : n <= 14) (d : Int) : Ev (fun k => slices_Repeat_int_int.f k [d] n) (List.replicate n.toNat d) := by
 refine ⟨12, fun k hk => ?_⟩
 obtain ⟨j, rfl⟩ : ∃ j, k = j + 12 := ⟨k - 12, by omega⟩
 have := repeat_k n.toNat (by omega) j d
 rwa [Int.toNat_of_nonneg (by omega)] at this
def none32 (e : Int) : Sched × Int × Unit := ((0, 0, [], [], [], ()), e, ())
def SCHED (f : Flow) (r : Sched × Int × Unit) : Prop :=
 ((∀ E, EARLY f E -> ¬ GOODF f E) /\ r = none32 14) \/
 ∃ E, EARLY f E /\ GOODF f E /\ ((r = none32 5 /\ 4096 < mx 1 (rd E (Flow.N f + 1)) + KSUM f (Flow.Insts f).toNat) \/
   (r.2.1 = 0 /\ FITS f r.1 /\ LG f r.1 /\ Sched.Depth r.1 <= mx 1 (rd E (Flow.N f + 1)) + KSUM f (Flow.Insts f).toNat /\ ∀ i : Nat, (i : Int) < Flow.Insts f -> rd (Sched.Start r.1) (i : Int) <= rd E (i : Int) + KSUM f (Flow.Insts f).toNat))
section
variable {f : Flow}
theorem KSUM_pos : ∀ m, 0 <= KSUM f m \/ ¬ VALID f
 | 0 => .inl (Int.le_refl _)
 | m + 1 => by
   rcases KSUM_pos m with h | h
   . by_cases V : VALID f
     . left
       show 0 <= _ + ite _ _ _
       split
       . rename_i hc
         have hb : 0 <= bsI f m := by
          by_cases hm : m < (Flow.Needs f).length
          . rcases V.need m hm with ⟨_, a⟩ | ⟨_, _, a, b⟩ <;> (show 0 <= Need.Busy _) <;> omega
          . have : rd (Flow.Needs f) (m : Int) = default := by simp [rd, List.getElem?_eq_none (Nat.le_of_not_lt hm)]
            show 0 <= Need.Busy (rd (Flow.Needs f) (m : Int))
            rw [this]
            exact Int.le_refl _
         omega
       . omega
     . exact .inr V
   . exact .inr h
theorem late_ev (xs : List Int) (hl : xs.length <= 1000000) : W (fun k => slices_ContainsFunc_int_int_i1.f k xs) (fun r => r.1 = true ↔ ∃ p : Nat, p < xs.length /\ 0 < rd xs (p : Int)) := by
 simp only [slices_ContainsFunc_int_int_i1.f, slices_IndexFunc_int_int_i1.f]
 have loop : ∀ (d i : Nat), i + d = xs.length -> (∀ p : Nat, p < i -> ¬ 0 < rd xs (p : Int)) -> W (fun k => slices_IndexFunc_int_int_i1.c2 k xs (xs.length : Int) (i : Int)) (fun r => 0 <= r.1 ↔ ∃ p : Nat, p < xs.length /\ 0 < rd xs (p : Int)) := by
  intro d
  induction d with
  | zero =>
    intro i hi h
    refine .succ ?_
    simp (disch := omega) only [slices_IndexFunc_int_int_i1.c2, ↓cdF]
    refine .ret ⟨fun h => ?_, fun ⟨p, h1, h2⟩ => absurd h2 (h p (by omega))⟩
    have h' : (0 : Int) <= -1 := h
    omega
  | succ d ih =>
    intro i hi h
    refine .succ ?_
    simp (disch := omega) only [slices_IndexFunc_int_int_i1.c2, ↓cdT, ↓if_pos, listsched_Schedule_1.f, Option.bind_some, w64_id]
    refine .dec (fun e => .ret ⟨fun _ => ⟨i, by omega, e⟩, fun _ => by show (0 : Int) <= (i : Int); omega⟩) fun e => ?_
    have := ih (i + 1) (by omega) fun p hp => by
     rcases Nat.lt_or_eq_of_le (Nat.le_of_lt_succ hp) with h1 | h1
     . exact h p h1
     . rw [h1]; exact e
    simpa only [natC] using this
 refine .bind (loop xs.length 0 (by omega) fun p hp => by omega) fun r hr => .ret ?_
 rw [decide_eq_true_iff]
 exact hr
theorem sched_c27 (V : VALID f) (SF : SIZES f) (hl : Flow.Loop f = false) {E : List Int} (hE : EARLY f E) (hg : GOODF f E) {TL : List Int} {NX : List (List Arc)} (htl : (TL.length : Int) = Flow.N f + 2) (hnl : (NX.length : Int) = Flow.N f + 2) (hx : ∀ i : Nat, (i : Int) < Flow.Insts f -> rd NX (i : Int) = nxl f i) :
 W (fun k => listsched_Schedule.c26 k f 0 0 f 0 0 TL (List.replicate (Flow.Insts f).toNat 0) (List.replicate (Flow.Params f).toNat 0) (List.replicate (Flow.Insts f).toNat (-1)) (tb (Flow.N f + 2).toNat fun v => (cpo f (Flow.Arcs f) (v : Int) : Int)) (tb (Flow.N f + 2).toNat fun v => emax f (v : Int) (Flow.Arcs f).length) NX) (SCHED f) := by
 have i0 := V.i0
 have i1 := V.i1
 have p0 := V.p0
 have p1 := V.p1
 have hN : Flow.N f = Flow.Insts f + Flow.Params f := rfl
 have hr := SF.res
 refine .succ ?_
 simp only [listsched_Schedule.c26]
 have loop : ∀ (d i : Nat), i + d = (Flow.Res f).length -> W (fun k => listsched_Schedule.c27 k (Flow.Res f) ((Flow.Res f).length : Int) (i : Int) f 0 0 f 0 0 TL (List.replicate (Flow.Insts f).toNat 0) (List.replicate (Flow.Params f).toNat 0) (List.replicate (Flow.Insts f).toNat (-1)) (tb (Flow.N f + 2).toNat fun v => (cpo f (Flow.Arcs f) (v : Int) : Int)) (tb (Flow.N f + 2).toNat fun v => emax f (v : Int) (Flow.Arcs f).length) NX (tb i fun r => List.replicate (cnt f r).toNat 0)) (SCHED f) := by
  intro d
  induction d with
  | zero =>
    intro i hi
    have e : i = (Flow.Res f).length := by omega
    subst e
    refine .succ ?_
    simp (disch := omega) only [listsched_Schedule.c27, ↓cdF]
    have H0 := RI.init V hE.sol (FR := tb (Flow.Res f).length fun r => List.replicate (cnt f r).toNat 0) (tb_len _ _) fun r hr => tb_rd hr
    refine .bind (run_prog V SF hE.sol hnl hx htl H0) fun y hy => ?_
    obtain ⟨y1, _, ST, UN, OP, EA, FR, _⟩ := y
    obtain ⟨t, WT, H1, hy⟩ := hy
    have H : RI f (rd E) t WT ST UN OP EA FR := H1
    clear H1
    have hle := H.le
    simp only [dataflow_End.f, Option.bind_some]
    rw [w64_id (n := Flow.Insts f + Flow.Params f) (by omega) (by omega), w64_id (by omega) (by omega)]
    simp (disch := (show 0 <= Flow.Insts f + Flow.Params f + 1 /\ Flow.Insts f + Flow.Params f + 1 < (EA.length : Int); omega)) only [↓if_pos]
    rw [<- hN]
    have hdep := H.depth V
    rcases hy with ⟨h1, hall⟩ | ⟨h1, ht, i, hi, hw⟩
    . have h1 : y1 = true := h1
      subst h1
      simp only [Bool.not_true, cond_false]
      have hk : 0 <= KSUM f (Flow.Insts f).toNat := (KSUM_pos _).resolve_right fun h => h V
      have hle2 : mx 1 (rd EA (Flow.N f + 1)) <= mx 1 (rd E (Flow.N f + 1)) + KSUM f (Flow.Insts f).toNat := by
       rw [mx_le]
       have q1 := le_mx_l 1 (rd E (Flow.N f + 1))
       have q2 := le_mx_r 1 (rd E (Flow.N f + 1))
       omega
      refine .dec (fun h => .ret (.inr ⟨E, hE, hg, .inl ⟨rfl, ?_⟩⟩)) fun h => .ret (.inr ⟨E, hE, hg, .inr ?_⟩)
      . have h : 4096 < mx 1 (rd EA (Flow.N f + 1)) := h
        omega
      . have h : ¬ 4096 < mx 1 (rd EA (Flow.N f + 1)) := h
        obtain ⟨g1, g2⟩ := H.done V hl hE hg hall (by omega)
        refine ⟨rfl, g1, g2, hle2, fun i hi => ?_⟩
        have h3 := H.c3 i hi (hall i hi)
        have hb : ∀ i : Nat, 0 <= bsI f i \/ ¬ CONT f i := fun i => by
         by_cases h : i < (Flow.Needs f).length
         . left
           rcases V.need i h with ⟨_, a⟩ | ⟨_, _, a, b⟩ <;> (show 0 <= Need.Busy _) <;> omega
         . left
           have : rd (Flow.Needs f) (i : Int) = default := by simp [rd, List.getElem?_eq_none (Nat.le_of_not_lt h)]
           show 0 <= Need.Busy (rd (Flow.Needs f) (i : Int))
           rw [this]
           exact Int.le_refl _
        have h4 := CB_sum (f := f) (WT := WT) (ST := ST) (x := rd ST (i : Int)) hb (Flow.Insts f).toNat
        show rd ST (i : Int) <= _
        omega
    . have h1 : y1 = false := h1
      subst h1
      simp only [Bool.not_false, cond_true]
      refine .ret (.inr ⟨E, hE, hg, .inl ⟨rfl, ?_⟩⟩)
      obtain ⟨m, m1, m2, m3⟩ := acyclic V hg.1 (w := fun i => rd WT (i : Int) = true) ⟨i, hi, hw⟩
      have ho : rd OP (m : Int) = 0 := by
       rw [H.opn m (by omega)]
       by_cases hz : opc f WT m = 0
       . omega
       . obtain ⟨j, j1, j2, j3, j4⟩ := opc_one hz
         obtain ⟨u, hu⟩ : ∃ u : Nat, aF f j = (u : Int) := ⟨(aF f j).toNat, by have : 0 <= aF f j := (V.arcs j j1).1; omega⟩
         exact absurd j4 (m3 j j1 u hu (by omega) (by rw [<- hu]; exact j3))
      have hlim := H.limit V ht m1 m2 ho
      obtain ⟨q1, q2, _, q3⟩ := V.tail m (by omega)
      have hlen := V.len
      obtain ⟨jj, hjj⟩ : ∃ jj : Nat, Flow.N f + 1 + (m : Int) = (jj : Int) := ⟨(Flow.N f + 1 + (m : Int)).toNat, by omega⟩
      rw [hjj] at q1 q2 q3
      have q1 : aF f jj = (m : Int) := q1
      have q2 : aT f jj = Flow.N f + 1 := q2
      have q4 := hE.arc jj (by omega)
      rw [q1, q2] at q4
      have q5 : 1 <= aL f jj := (q3 m1).1
      have := le_mx_r 1 (rd E (Flow.N f + 1))
      omega
  | succ d ih =>
    intro i hi
    have hc := V.res i (by omega)
    have c1 : 1 <= Resource.Count (rd (Flow.Res f) (i : Int)) := hc.2.2.1
    have c2 : Resource.Count (rd (Flow.Res f) (i : Int)) <= 1024 := hc.2.2.2
    refine .succ ?_
    simp (disch := first | omega | (simp only [tb_len, List.length_singleton]; omega)) only [listsched_Schedule.c27, ↓cdT, ↓if_pos, ↓bleT, w64_id]
    have := ih (i + 1) (by omega)
    rw [<- tb_app] at this
    simpa only [natC] using this
 exact loop (Flow.Res f).length 0 (by omega)
theorem Schedule_prog (V : VALID f) (SF : SIZES f) (hi : Flow.Insts f <= 14) (hn : Flow.N f + 2 <= 1000) (hal : (Flow.Arcs f).length <= 1000) (hl : Flow.Loop f = false) : W (fun k => listsched_Schedule.f k f) (SCHED f) := by
 have i0 := V.i0
 have i1 := V.i1
 have p0 := V.p0
 have p1 := V.p1
 have hN : Flow.N f = Flow.Insts f + Flow.Params f := rfl
 have hnod : Diff.nod (Flow.N f + 2) = Flow.N f + 2 := clampI (by omega) (by omega)
 have hmul : ∀ m : Nat, m <= 1000 -> (Diff.nod (Flow.N f + 2) + 2) * (m : Int) <= 10000000000 := fun m hm => by
  rw [hnod]
  have h1 : (Flow.N f + 2 + 2) * (m : Int) <= 1002 * (m : Int) := Int.mul_le_mul_of_nonneg_right (by omega) (by omega)
  omega
 simp only [listsched_Schedule.f]
 refine .bindEv ((valid_prog SF).true V) ?_
 simp only [Bool.not_true, cond_false, hl, dataflow_Nodes.f, Option.bind_some]
 rw [w64_id (n := Flow.Insts f + Flow.Params f) (by omega) (by omega), w64_id (by omega) (by omega), <- hN]
 have he := Diff.earliest_f (n0 := Flow.N f + 2) (arcs := Flow.Arcs f) (ii := 0) (hmul _ hal)
 rw [hnod] at he
 refine .bind he fun a ha => ?_
 cases hc : a.2.1 with
 | some c =>
   simp only [Option.isSome_some, cond_true]
   exact .ret (.inl ⟨fun E hE => absurd hE (no_early V ha (by rw [hc]; simp) E), rfl⟩)
 | none =>
 simp only [Option.isSome_none, cond_false]
 have hE := early_of V ha hc
 refine W.bind (tangled_prog V SF hn (by omega)).w fun y hy => ?_
 cases y
 rotate_left
 . simp only [cond_true]
   exact .ret (.inl ⟨fun E hE' hg => hg.1 (hy.1 rfl), rfl⟩)
 simp only [cond_false]
 have hT : ¬ TNG f := fun q => by have := hy.2 q; cases this
 have hlen := hE.len
 generalize a.1 = E at hE hlen
 simp (disch := omega) only [↓if_pos]
 have hdl : (List.take ((Flow.N f).toNat - (Flow.Insts f).toNat) (List.drop (Flow.Insts f).toNat E)).length = (Flow.Params f).toNat := by rw [List.length_take, List.length_drop]; omega
 have hdr : ∀ q : Nat, (q : Int) < Flow.Params f -> rd (List.take ((Flow.N f).toNat - (Flow.Insts f).toNat) (List.drop (Flow.Insts f).toNat E)) (q : Int) = rd E (Flow.Insts f + q) := fun q hq => by
  rw [rd_eq (by omega), List.getElem_take, List.getElem_drop]
  rw [show Flow.Insts f + (q : Int) = (((Flow.Insts f).toNat + q : Nat) : Int) by omega, rd_eq (by omega)]
 refine .bind (late_ev _ (by omega)) fun z hz => ?_
 obtain ⟨z1, _⟩ := z
 cases z1
 rotate_left
 . simp only [cond_true]
   refine .ret (.inl ⟨fun E' hE' hg => ?_, rfl⟩)
   obtain ⟨q, q1, q2⟩ := hz.1 rfl
   rw [hdr q (by omega)] at q2
   rw [hE'.uniq V hE] at hg
   have := hg.2 q (by omega)
   omega
 simp only [cond_false]
 have hg : GOODF f E := ⟨hT, fun q hq => by
  have : ¬ 0 < rd E (Flow.Insts f + q) := fun h => by
   have := hz.2 ⟨q, by omega, by rw [hdr q hq]; exact h⟩
   cases this
  omega⟩
 refine .bindEv (repeat_ev i0 hi (-1)) ?_
 rw [tb_rep (n := (Flow.N f + 2).toNat) (v := ([] : List Arc))]
 have e1 : List.replicate (Flow.N f + 2).toNat (0 : Int) = tb (Flow.N f + 2).toNat fun v => (cpo f ((Flow.Arcs f).take 0) (v : Int) : Int) := by rw [tb_rep]; rfl
 have e2 : List.replicate (Flow.N f + 2).toNat (0 : Int) = tb (Flow.N f + 2).toNat fun v => emax f (v : Int) 0 := by rw [tb_rep]; rfl
 have e3 : (tb (Flow.N f + 2).toNat fun _ => ([] : List Arc)) = tb (Flow.N f + 2).toNat fun v => if (v : Int) < Flow.Insts f then ((Flow.Arcs f).take 0).filter (fun a => decide (Arc.From a = (v : Int))) else [] := tb_congr fun c hc => by simp
 have loop : ∀ (d i : Nat), i + d = (Flow.Arcs f).length -> ∀ BK : List Arc, BK.length = i ->
  W (fun k => listsched_Schedule.c14 k (Flow.N f + 2) (Flow.Arcs f) ((Flow.Arcs f).length : Int) (i : Int) f 0 0 f 0 0 (List.replicate (Flow.N f + 2).toNat 0) BK (List.replicate (Flow.Insts f).toNat 0) (List.replicate (Flow.Params f).toNat 0) (List.replicate (Flow.Insts f).toNat (-1)) (tb (Flow.N f + 2).toNat fun v => (cpo f ((Flow.Arcs f).take i) (v : Int) : Int)) (tb (Flow.N f + 2).toNat fun v => emax f (v : Int) i) (tb (Flow.N f + 2).toNat fun v => if (v : Int) < Flow.Insts f then ((Flow.Arcs f).take i).filter (fun a => decide (Arc.From a = (v : Int))) else [])) (SCHED f) := by
  intro d
  induction d with
  | zero =>
    intro i hi2 BK hBK
    have e : i = (Flow.Arcs f).length := by omega
    subst e
    refine .succ ?_
    simp (disch := omega) only [listsched_Schedule.c14, ↓cdF]
    have hb := Diff.earliest_f (n0 := Flow.N f + 2) (arcs := BK) (ii := 0) (hmul _ (by omega))
    rw [hnod] at hb
    refine .bind hb fun b hb => ?_
    have hx : ∀ i : Nat, (i : Int) < Flow.Insts f -> rd (tb (Flow.N f + 2).toNat fun v => if (v : Int) < Flow.Insts f then ((Flow.Arcs f).take (Flow.Arcs f).length).filter (fun a => decide (Arc.From a = (v : Int))) else []) (i : Int) = nxl f i := fun i hi => by
     rw [tb_rd (by omega), if_pos hi, List.take_length]
     rfl
    rw [List.take_length] at *
    have fin := fun (TL : List Int) (h : (TL.length : Int) = Flow.N f + 2) => sched_c27 V SF hl hE hg (TL := TL) (NX := tb (Flow.N f + 2).toNat fun v => if (v : Int) < Flow.Insts f then (Flow.Arcs f).filter (fun a => decide (Arc.From a = (v : Int))) else []) h (by rw [tb_len]; omega) hx
    rcases hb with ⟨h1, h2, _⟩ | ⟨_, c, h2, _⟩
    . rw [h1]
      simp only [Option.isSome_none, cond_false]
      exact fin _ h2
    . rw [h2]
      simp only [Option.isSome_some, cond_true]
      exact fin _ (by rw [List.length_replicate]; omega)
  | succ d ih =>
    intro i hi2 BK hBK
    obtain ⟨v1, v2, v3, v4, v5, v6, _⟩ := V.arcs i (by omega)
    have hts := take_snoc (l := Flow.Arcs f) (j := i) (by omega)
    have next := fun (x : Arc) => ih (i + 1) (by omega) (BK ++ [x]) (by simp [hBK])
    have hcp : ∀ v : Int, cpo f ((Flow.Arcs f).take (i + 1)) v = cpo f ((Flow.Arcs f).take i) v + if Arc.From (rd (Flow.Arcs f) (i : Int)) < Flow.Insts f /\ Arc.To (rd (Flow.Arcs f) (i : Int)) = v then 1 else 0 := fun v => by
     unfold cpo
     rw [hts, List.countP_append, List.countP_singleton]
     congr 1
     by_cases q1 : Arc.From (rd (Flow.Arcs f) (i : Int)) < Flow.Insts f <;> by_cases q2 : Arc.To (rd (Flow.Arcs f) (i : Int)) = v <;> simp [q1, q2]
    have hcl : ∀ v : Int, cpo f ((Flow.Arcs f).take i) v <= i := fun v => Nat.le_trans (List.countP_le_length ..) (by rw [List.length_take]; omega)
    have hfl : ∀ v : Nat, (((Flow.Arcs f).take i).filter (fun a => decide (Arc.From a = (v : Int)))).length <= i := fun v => Nat.le_trans (List.length_filter_le _ _) (by rw [List.length_take]; omega)
    obtain ⟨ft, hft⟩ : ∃ ft : Nat, Arc.To (rd (Flow.Arcs f) (i : Int)) = (ft : Int) := ⟨(Arc.To (rd (Flow.Arcs f) (i : Int))).toNat, by omega⟩
    obtain ⟨fr, hfr⟩ : ∃ fr : Nat, Arc.From (rd (Flow.Arcs f) (i : Int)) = (fr : Int) := ⟨(Arc.From (rd (Flow.Arcs f) (i : Int))).toNat, by omega⟩
    refine .succ ?_
    simp (disch := omega) only [listsched_Schedule.c14, ↓cdT, ↓if_pos]
    refine .dec (fun h1 => ?_) fun h1 => ?_
    . have e5 : (tb (Flow.N f + 2).toNat fun v => (cpo f ((Flow.Arcs f).take (i + 1)) (v : Int) : Int)) = (tb (Flow.N f + 2).toNat fun v => (cpo f ((Flow.Arcs f).take i) (v : Int) : Int)).set ft ((cpo f ((Flow.Arcs f).take i) (ft : Int) : Int) + 1) := by
       rw [tb_set]
       refine tb_congr fun c hc => ?_
       rw [hcp]
       by_cases e : c = ft
       . subst e; rw [if_pos rfl, if_pos ⟨h1, hft⟩]; omega
       . rw [if_neg e, if_neg (fun q => e (by omega))]; omega
      have e6 : (tb (Flow.N f + 2).toNat fun v => emax f (v : Int) (i + 1)) = tb (Flow.N f + 2).toNat fun v => emax f (v : Int) i := tb_congr fun c hc => by
       rw [emax_succ, if_neg fun q => q.1 h1]
      have e7 : (tb (Flow.N f + 2).toNat fun v => if (v : Int) < Flow.Insts f then ((Flow.Arcs f).take (i + 1)).filter (fun a => decide (Arc.From a = (v : Int))) else []) = (tb (Flow.N f + 2).toNat fun v => if (v : Int) < Flow.Insts f then ((Flow.Arcs f).take i).filter (fun a => decide (Arc.From a = (v : Int))) else []).set fr (((Flow.Arcs f).take i).filter (fun a => decide (Arc.From a = (fr : Int))) ++ [rd (Flow.Arcs f) (i : Int)]) := by
       rw [tb_set]
       refine tb_congr fun c hc => ?_
       rw [hts, List.filter_append]
       by_cases e : c = fr
       . subst e; rw [if_pos rfl, if_pos (by omega), List.filter_cons_of_pos (by rw [decide_eq_true_iff]; exact hfr)]; rfl
       . rw [if_neg e, List.filter_cons_of_neg (by rw [decide_eq_true_iff]; omega)]; simp
      have v4' : (ft : Int) <= Flow.N f + 1 := by omega
      rw [hft, hfr] at *
      simp (disch := first | omega | (rw [tb_len]; omega)) only [↓if_pos, tb_rd, Int.toNat_natCast, if_true, h1]
      simp (disch := (have := hfl fr; simp only [List.length_singleton]; omega)) only [↓bleT]
      refine .succ ?_
      have hc2 := hcl (ft : Int)
      simp (disch := first | omega | (simp only [List.length_singleton]; omega)) only [listsched_Schedule.c21, ↓bleT, w64_id (n := (i : Int) + 1), w64_id (n := (cpo f ((Flow.Arcs f).take i) (ft : Int) : Int) + 1)]
      rw [<- e5, <- e6, <- e7]
      have := next (Arc.To (rd (Flow.Arcs f) (i : Int)), Arc.From (rd (Flow.Arcs f) (i : Int)), Arc.Lat (rd (Flow.Arcs f) (i : Int)), 0, ())
      simpa only [natC] using this
    . have e5 : (tb (Flow.N f + 2).toNat fun v => (cpo f ((Flow.Arcs f).take (i + 1)) (v : Int) : Int)) = tb (Flow.N f + 2).toNat fun v => (cpo f ((Flow.Arcs f).take i) (v : Int) : Int) := tb_congr fun c hc => by
       rw [hcp, if_neg fun q => h1 q.1]; omega
      have e6 : (tb (Flow.N f + 2).toNat fun v => emax f (v : Int) (i + 1)) = (tb (Flow.N f + 2).toNat fun v => emax f (v : Int) i).set ft (mx (emax f (ft : Int) i) (Arc.Lat (rd (Flow.Arcs f) (i : Int)))) := by
       rw [tb_set]
       refine tb_congr fun c hc => ?_
       rw [emax_succ]
       by_cases e : c = ft
       . subst e; rw [if_pos rfl, if_pos ⟨h1, hft⟩]
       . rw [if_neg e, if_neg (fun q => e (by have := q.2; have h : Arc.To (rd (Flow.Arcs f) (i : Int)) = (c : Int) := this; omega))]
      have e7 : (tb (Flow.N f + 2).toNat fun v => if (v : Int) < Flow.Insts f then ((Flow.Arcs f).take (i + 1)).filter (fun a => decide (Arc.From a = (v : Int))) else []) = tb (Flow.N f + 2).toNat fun v => if (v : Int) < Flow.Insts f then ((Flow.Arcs f).take i).filter (fun a => decide (Arc.From a = (v : Int))) else [] := tb_congr fun c hc => by
       by_cases q : (c : Int) < Flow.Insts f
       . rw [if_pos q, if_pos q, hts, List.filter_append, List.filter_cons_of_neg (by rw [decide_eq_true_iff]; omega)]; simp
       . rw [if_neg q, if_neg q]
      simp only [dataflow_Source.f, Option.bind_some]
      rw [w64_id (n := Flow.Insts f + Flow.Params f) (by omega) (by omega)]
      simp (disch := omega) only [↓cdT]
      have v4' : (ft : Int) <= Flow.N f + 1 := by omega
      rw [hft] at *
      simp (disch := first | omega | (rw [tb_len]; omega)) only [↓if_pos, tb_rd, Int.toNat_natCast]
      refine .succ ?_
      simp (disch := first | omega | (simp only [List.length_singleton]; omega)) only [listsched_Schedule.c21, ↓bleT, w64_id (n := (i : Int) + 1)]
      rw [<- e6]
      conv at next => intro x; rw [e5, e7]
      have := next (Arc.To (rd (Flow.Arcs f) (i : Int)), Arc.From (rd (Flow.Arcs f) (i : Int)), Arc.Lat (rd (Flow.Arcs f) (i : Int)), 0, ())
      simpa only [natC] using this
 have := loop (Flow.Arcs f).length 0 (by omega) [] rfl
 rw [<- e1, <- e2, <- e3] at this
 exact this
theorem Schedule_off1 (V : ¬ VALID f) (SF : SIZES f) : Ev (fun k => listsched_Schedule.f k f) (none32 3) := by
 simp only [listsched_Schedule.f]
 refine .bind ((valid_prog SF).false V) ?_
 exact .ret _
theorem Schedule_off2 (V : VALID f) (SF : SIZES f) (hl : Flow.Loop f = true) : Ev (fun k => listsched_Schedule.f k f) (none32 1) := by
 simp only [listsched_Schedule.f]
 refine .bind ((valid_prog SF).true V) ?_
 simp only [Bool.not_true, cond_false, hl, cond_true]
 exact .ret _
end
end Go.Proofs.YtjddmekfeckphaaGreatV
namespace Go.Proofs.YtjddmekfeckphaaGreatV
open Go Go.Vm
section
variable {f : Flow} {s : Sched}
theorem ssizes (V : VALID f) (h : (Flow.Needs f).length <= 1000) (F : FITS f s) : SSIZES s := by
 have h1 := F.start
 have h2 := F.unit
 have h3 := F.params
 have i1 := V.i1
 have p1 := V.p1
 exact ⟨by omega, by omega, by omega⟩
end
end Go.Proofs.YtjddmekfeckphaaGreatV
namespace Go.Proofs.YtjddmekfeckphaaGreatV
open Go Go.Vm
section
variable {f : Flow}
theorem rend_eq (V : VALID f) : jacquardref28_End.f f = some (Flow.N f + 1) := by
 have i0 := V.i0; have i1 := V.i1; have p0 := V.p0; have p1 := V.p1
 have hN : Flow.N f = Flow.Insts f + Flow.Params f := rfl
 simp only [jacquardref28_End.f]
 rw [w64_id (n := Flow.Insts f + Flow.Params f) (by omega) (by omega), w64_id (by omega) (by omega)]
theorem rsource_eq (V : VALID f) : jacquardref28_Source.f f = some (Flow.N f) := by
 have i0 := V.i0; have i1 := V.i1; have p0 := V.p0; have p1 := V.p1
 have hN : Flow.N f = Flow.Insts f + Flow.Params f := rfl
 simp only [jacquardref28_Source.f]
 rw [w64_id (n := Flow.Insts f + Flow.Params f) (by omega) (by omega)]
theorem walk_of (V : VALID f) {m : Int -> Int -> Int} (hF : Diff.FW (Flow.N f + 2) (Flow.Arcs f) 0 (Flow.N f + 2) 288230376151711744 m) {p : Int -> Int} (hp : Diff.Feas (Flow.N f + 2) (Flow.Arcs f) 0 p) {a b : Nat} (ha : (a : Int) < Flow.N f + 2) (hb : (b : Int) < Flow.N f + 2) (h : m a b > -1152921504606846976) : RT (ADJ (GR f)) a b := by
 refine Classical.byContradiction fun hno => ?_
 have hp' := (feas_iff V).1 hp
 have dec : ∀ v : Int, Decidable (∃ u : Nat, (u : Int) = v /\ RT (ADJ (GR f)) a u) := fun v => Classical.propDecidable _
 have hs := hF.snd (fun v => p v + if ∃ u : Nat, (u : Int) = v /\ RT (ADJ (GR f)) a u then 1152921504606846976 + (p b - p a) + (if p b - p a < 0 then -(2 * (p b - p a)) else 0) else 0) ?_ a b (by omega) ha (by omega) hb h
 . have n1 : ¬ ∃ u : Nat, (u : Int) = (b : Int) /\ RT (ADJ (GR f)) a u := fun ⟨u, e, q⟩ => hno (by rwa [show u = b by omega] at q)
   have n2 : ∃ u : Nat, (u : Int) = (a : Int) /\ RT (ADJ (GR f)) a u := ⟨a, rfl, .refl _⟩
   simp only [if_neg n1, if_pos n2] at hs
   split at hs <;> omega
 . refine (feas_iff V).2 fun j hj => ?_
   obtain ⟨v1, v2, v3, v4, _⟩ := V.arcs j hj
   have v1 : 0 <= aF f j := v1
   have v3 : 0 <= aT f j := v3
   have := hp' j hj
   by_cases c1 : ∃ u : Nat, (u : Int) = aF f j /\ RT (ADJ (GR f)) a u
   . have c2 : ∃ u : Nat, (u : Int) = aT f j /\ RT (ADJ (GR f)) a u := by
      obtain ⟨u, e, q⟩ := c1
      refine ⟨(aT f j).toNat, by omega, q.trans (.one ((adj_GR V).2 ⟨j, hj, by omega, by omega⟩))⟩
     simp only [if_pos c1, if_pos c2]
     omega
   . simp only [if_neg c1]
     split
     . split <;> omega
     . omega
theorem of_walk (V : VALID f) {m : Int -> Int -> Int} (hF : Diff.FW (Flow.N f + 2) (Flow.Arcs f) 0 (Flow.N f + 2) 288230376151711744 m) {a b : Nat} (ha : (a : Int) < Flow.N f + 2) (h : RT (ADJ (GR f)) a b) : m a b > -1152921504606846976 /\ (b : Int) < Flow.N f + 2 := by
 have one : ∀ {a b : Nat}, ADJ (GR f) a b -> m a b > -1152921504606846976 /\ (b : Int) < Flow.N f + 2 := fun {a b} h => by
  obtain ⟨j, hj, e1, e2⟩ := (adj_GR V).1 h
  have h1 := hF.ar (j : Int) (by omega) (by omega) (inn0 V hj)
  rw [wt0 V hj] at h1
  obtain ⟨_, _, _, v4, v5, _⟩ := V.arcs j hj
  have v4 : aT f j <= Flow.N f + 1 := v4
  have v5 : 0 <= aL f j := v5
  have h1 : aL f j <= m (aF f j) (aT f j) := h1
  rw [e1, e2] at h1
  omega
 rcases h with rfl | h
 . have := hF.dg a (by omega) ha
   exact ⟨by omega, ha⟩
 . induction h with
   | one h => exact one h
   | step h1 h2 ih =>
     rename_i a x b
     have o := one h1
     have i := ih o.2
     have hc := hF.cl a b x (by omega) ha (by omega) i.2 (by omega) (by omega) o.1 i.1
     have b1 := hF.bd a x (by omega) ha (by omega) o.2
     have b2 := hF.bd x b (by omega) o.2 (by omega) i.2
     exact ⟨by omega, i.2⟩
def KNOT (f : Flow) (m : Int -> Int -> Int) (j : Nat) : Prop := (aF f j < Flow.Insts f \/ aT f j < Flow.Insts f) /\ m (aT f j) (aF f j) > -1152921504606846976
theorem knot_tng (V : VALID f) {m : Int -> Int -> Int} (hF : Diff.FW (Flow.N f + 2) (Flow.Arcs f) 0 (Flow.N f + 2) 288230376151711744 m) {p : Int -> Int} (hp : Diff.Feas (Flow.N f + 2) (Flow.Arcs f) 0 p) {j : Nat} (hj : j < (Flow.Arcs f).length) (h : KNOT f m j) : TNG f := by
 obtain ⟨v1, v2, v3, v4, _⟩ := V.arcs j hj
 have v1 : 0 <= aF f j := v1
 have v3 : 0 <= aT f j := v3
 have v2 : aF f j <= Flow.N f := v2
 have v4 : aT f j <= Flow.N f + 1 := v4
 obtain ⟨a, ha⟩ : ∃ a : Nat, aF f j = (a : Int) := ⟨(aF f j).toNat, by omega⟩
 obtain ⟨b, hb⟩ : ∃ b : Nat, aT f j = (b : Int) := ⟨(aT f j).toNat, by omega⟩
 obtain ⟨h1, h2⟩ := h
 rw [ha, hb] at h2
 have w := walk_of V hF hp (a := b) (b := a) (by omega) (by omega) h2
 have w2 : RT (ADJ (GR f)) a b := .one ((adj_GR V).2 ⟨j, hj, ha, hb⟩)
 by_cases e : a = b
 . exact .inl ⟨j, hj, .inr ⟨by rw [ha, hb, e], by rw [ha, hb] at h1; omega⟩⟩
 . rcases h1 with h1 | h1
   . exact .inr ⟨a, b, by omega, fun q => e q.symm, w2, w⟩
   . exact .inr ⟨b, a, by omega, e, w, w2⟩
theorem tng_knot (V : VALID f) {m : Int -> Int -> Int} (hF : Diff.FW (Flow.N f + 2) (Flow.Arcs f) 0 (Flow.N f + 2) 288230376151711744 m) (h : TNG f) (h0 : ∀ j : Nat, j < (Flow.Arcs f).length -> ¬ (aF f j < Flow.Insts f /\ Flow.Insts f <= aT f j /\ aT f j <= Flow.N f)) : ∃ j : Nat, j < (Flow.Arcs f).length /\ KNOT f m j := by
 have hp0 := V.p0
 have hN : Flow.N f = Flow.Insts f + Flow.Params f := rfl
 rcases h with ⟨j, hj, h | ⟨h, h2⟩⟩ | ⟨i, u, hi, hne, h1, h2⟩
 . exact absurd h (h0 j hj)
 . refine ⟨j, hj, .inl h2, ?_⟩
   rw [<- h]
   have := hF.dg (aF f j) (V.arcs j hj).1 (by omega)
   omega
 . rcases h1 with e | h1
   . exact absurd e.symm hne
   . cases h1 with
     | one h1 =>
       obtain ⟨j, hj, e1, e2⟩ := (adj_GR V).1 h1
       obtain ⟨_, _, _, v4, _⟩ := V.arcs j hj
       have v4 : aT f j <= Flow.N f + 1 := v4
       refine ⟨j, hj, .inl (by omega), ?_⟩
       rw [e1, e2]
       exact (of_walk V hF (by omega) h2).1
     | step h1 h3 =>
       rename_i b
       obtain ⟨j, hj, e1, e2⟩ := (adj_GR V).1 h1
       obtain ⟨_, _, _, v4, _⟩ := V.arcs j hj
       have v4 : aT f j <= Flow.N f + 1 := v4
       refine ⟨j, hj, .inl (by omega), ?_⟩
       rw [e1, e2]
       exact (of_walk V hF (by omega) (RT.trans (.inr h3) h2)).1
theorem bnd_nil (v : Int) (h : 0 <= v) : Diff.bnd [] v = 0 := by
 unfold Diff.bnd
 rw [if_pos (by simpa using h)]
theorem early_ofR (V : VALID f) (hn : 0 <= Flow.N f) {a : List Int × Bool × Unit} (h : Diff.AnswerR (Flow.N f + 2) (Flow.Arcs f) 0 (Diff.bnd []) a) : (a.2.1 = true /\ EARLY f a.1 /\ mx 1 (rd a.1 (Flow.N f + 1)) <= 600000000000000000) \/ (a.2.1 = false /\ ∀ E, ¬ EARLY f E) := by
 rcases h with ⟨h1, h2, h3, h4, h5⟩ | ⟨h1, _, h3⟩
 . refine .inl ⟨h1, ⟨h2, fun v v0 v1 => ?_, (feas_iff V).1 h4, fun q q1 q2 => h5 q ((feas_iff V).2 q2) fun v v0 v1 => ?_⟩, by rw [mx_le]; have := (h3 (Flow.N f + 1) (by omega) (by omega)).2; omega⟩
   . have := (h3 v v0 v1).1
     rwa [bnd_nil v v0] at this
   . rw [bnd_nil v v0]; exact q1 v v0 v1
 . exact .inr ⟨h1, fun E hE => h3 _ ((feas_iff V).2 hE.arc)⟩
def REARLY (f : Flow) (r : List Int × Bool × Unit) : Prop := (r.2.1 = true /\ EARLY f r.1 /\ GOODF f r.1 /\ mx 1 (rd r.1 (Flow.N f + 1)) <= 600000000000000000) \/ (r.2.1 = false /\ ∀ E, EARLY f E -> ¬ GOODF f E)
theorem settled_ref (V : VALID f) (hn : Flow.N f + 2 <= 22) (hal : (Flow.Arcs f).length <= 1000000) (h0 : ∀ j : Nat, j < (Flow.Arcs f).length -> ¬ (aF f j < Flow.Insts f /\ Flow.Insts f <= aT f j /\ aT f j <= Flow.N f)) :
 W (fun k => jacquardref32_Settled.f k f (Flow.Arcs f)) (fun r => (r.2.1 = true /\ EARLY f r.1 /\ ¬ TNG f /\ mx 1 (rd r.1 (Flow.N f + 1)) <= 600000000000000000) \/ (r.2.1 = false /\ ∀ E, EARLY f E -> TNG f)) := by
 have i0 := V.i0; have i1 := V.i1; have p0 := V.p0; have p1 := V.p1
 have hN : Flow.N f = Flow.Insts f + Flow.Params f := rfl
 have hnod : Diff.nod (Flow.N f + 2) = Flow.N f + 2 := clampI (by omega) (by omega)
 simp only [jacquardref32_Settled.f, rend_eq V, Option.bind_some]
 rw [w64_id (n := Flow.N f + 1 + 1) (by omega) (by omega), show Flow.N f + 1 + 1 = Flow.N f + 2 by omega]
 have hw := Diff.walks_f (n0 := Flow.N f + 2) (arcs := Flow.Arcs f) (ii := 0) (by rw [hnod]; omega) hal
 rw [hnod] at hw
 refine hw.bind fun y hy => ?_
 rcases hy with ⟨h1, ⟨hS1, hS2⟩, hF⟩ | ⟨h1, _, h2⟩
 rotate_left
 . simp only [h1, Bool.not_false, cond_true]
   exact .ret (.inr ⟨rfl, fun E hE => absurd ((feas_iff V).2 hE.arc) (h2 _)⟩)
 simp only [h1, Bool.not_true, cond_false]
 have loop : ∀ (d i : Nat), i + d = (Flow.Arcs f).length -> (∀ j : Nat, j < i -> ¬ KNOT f (Diff.At y.1) j) -> W (fun k => jacquardref32_Settled.c6 k (Flow.Arcs f) (Flow.N f + 2) ((Flow.Arcs f).length : Int) (i : Int) f y.1) (fun r => (r.2.1 = true /\ EARLY f r.1 /\ ¬ TNG f /\ mx 1 (rd r.1 (Flow.N f + 1)) <= 600000000000000000) \/ (r.2.1 = false /\ ∀ E, EARLY f E -> TNG f)) := by
  intro d
  induction d with
  | zero =>
    intro i hi hno
    refine .succ ?_
    simp (disch := omega) only [jacquardref32_Settled.c6, ↓cdF]
    have ha := Diff.after_ref_f (n0 := Flow.N f + 2) (arcs := Flow.Arcs f) (ii := 0) (lower := []) (by rw [hnod]; omega) hal
    rw [hnod] at ha
    refine ha.bind fun a ha => .ret ?_
    rcases early_ofR V (by omega) ha with ⟨e1, e2, e3⟩ | ⟨e1, e2⟩
    . refine .inl ⟨e1, e2, fun hT => ?_, e3⟩
      obtain ⟨j, hj, hk⟩ := tng_knot V hF hT h0
      exact hno j (by omega) hk
    . exact .inr ⟨e1, fun E hE => absurd hE (e2 E)⟩
  | succ d ih =>
    intro i hi hno
    obtain ⟨v1, v2, v3, v4, _⟩ := V.arcs i (by omega)
    have hrow := hS2 (Arc.To (rd (Flow.Arcs f) (i : Int))) v3 (by omega)
    have go : ¬ KNOT f (Diff.At y.1) i -> W (fun k => jacquardref32_Settled.c6 k (Flow.Arcs f) (Flow.N f + 2) ((Flow.Arcs f).length : Int) ((i : Int) + 1) f y.1) (fun r => (r.2.1 = true /\ EARLY f r.1 /\ ¬ TNG f /\ mx 1 (rd r.1 (Flow.N f + 1)) <= 600000000000000000) \/ (r.2.1 = false /\ ∀ E, EARLY f E -> TNG f)) := fun hk => by
     have := ih (i + 1) (by omega) fun j hj => by
      rcases Nat.lt_or_eq_of_le (Nat.le_of_lt_succ hj) with h | h
      . exact hno j h
      . rw [h]; exact hk
     simpa only [natC] using this
    have bad : KNOT f (Diff.At y.1) i -> W (fun _ => some (([] : List Int), false, ())) (fun r => (r.2.1 = true /\ EARLY f r.1 /\ ¬ TNG f /\ mx 1 (rd r.1 (Flow.N f + 1)) <= 600000000000000000) \/ (r.2.1 = false /\ ∀ E, EARLY f E -> TNG f)) := fun hk => .ret (.inr ⟨rfl, fun E hE => knot_tng V hF ((feas_iff V).2 hE.arc) (by omega) hk⟩)
    refine .succ ?_
    simp (disch := omega) only [jacquardref32_Settled.c6, ↓cdT, ↓if_pos, w64_id (n := (i : Int) + 1)]
    refine .dec (fun q => .dec (fun q2 => bad ⟨.inl q, q2⟩) fun q2 => go fun hk => q2 hk.2) fun q => ?_
    exact .dec (fun q1 => .dec (fun q2 => bad ⟨.inr q1, q2⟩) fun q2 => go fun hk => q2 hk.2) fun q1 => go fun hk => hk.1.elim q q1
 exact loop (Flow.Arcs f).length 0 (by omega) fun j hj => by omega
theorem earliest_ref (V : VALID f) (hn : Flow.N f + 2 <= 22) (hal : (Flow.Arcs f).length <= 1000000) : W (fun k => jacquardref32_Earliest.f k f) (REARLY f) := by
 have i0 := V.i0; have i1 := V.i1; have p0 := V.p0; have p1 := V.p1
 have hN : Flow.N f = Flow.Insts f + Flow.Params f := rfl
 simp only [jacquardref32_Earliest.f]
 have loop : ∀ (d i : Nat), i + d = (Flow.Arcs f).length -> (∀ j : Nat, j < i -> ¬ (aF f j < Flow.Insts f /\ Flow.Insts f <= aT f j /\ aT f j <= Flow.N f)) -> W (fun k => jacquardref32_Earliest.c2 k ((Flow.Arcs f).length : Int) (i : Int) f) (REARLY f) := by
  intro d
  induction d with
  | zero =>
    intro i hi hno
    refine .succ ?_
    simp (disch := omega) only [jacquardref32_Earliest.c2, ↓cdF]
    refine (settled_ref V hn hal fun j hj => hno j (by omega)).bind fun a ha => ?_
    rcases ha with ⟨h1, hE, hT, hu⟩ | ⟨h1, h2⟩
    rotate_left
    . simp only [h1, Bool.not_false, cond_true]
      exact .ret (.inr ⟨rfl, fun E hE hg => hg.1 (h2 E hE)⟩)
    simp only [h1, Bool.not_true, cond_false]
    have hlen := hE.len
    generalize a.1 = E at hE hlen hu
    have loop2 : ∀ (d i : Nat), (i : Int) + d = Flow.Params f -> (∀ q : Nat, q < i -> rd E (Flow.Insts f + q) <= 0) -> W (fun k => jacquardref32_Earliest.c12 k (Flow.Params f) (i : Int) f E) (REARLY f) := by
     intro d
     induction d with
     | zero =>
       intro i hi hq
       refine .succ ?_
       simp (disch := omega) only [jacquardref32_Earliest.c12, ↓cdF]
       exact .ret (.inl ⟨rfl, hE, ⟨hT, fun q hq2 => hq q (by omega)⟩, hu⟩)
     | succ d ih =>
       intro i hi hq
       refine .succ ?_
       simp (disch := omega) only [jacquardref32_Earliest.c12, ↓cdT, ↓if_pos, w64_id]
       refine .dec (fun q => .ret (.inr ⟨rfl, fun E' hE' hg => ?_⟩)) fun q => ?_
       . rw [hE'.uniq V hE] at hg
         have := hg.2 i (by omega)
         omega
       . have := ih (i + 1) (by omega) fun j hj => by
          rcases Nat.lt_or_eq_of_le (Nat.le_of_lt_succ hj) with h | h
          . exact hq j h
          . rw [h]; omega
         simpa only [natC] using this
    exact loop2 (Flow.Params f).toNat 0 (by omega) fun q hq => by omega
  | succ d ih =>
    intro i hi hno
    have go : ¬ (aF f i < Flow.Insts f /\ Flow.Insts f <= aT f i /\ aT f i <= Flow.N f) -> W (fun k => jacquardref32_Earliest.c2 k ((Flow.Arcs f).length : Int) ((i : Int) + 1) f) (REARLY f) := fun hk => by
     have := ih (i + 1) (by omega) fun j hj => by
      rcases Nat.lt_or_eq_of_le (Nat.le_of_lt_succ hj) with h | h
      . exact hno j h
      . rw [h]; exact hk
     simpa only [natC] using this
    refine .succ ?_
    simp (disch := omega) only [jacquardref32_Earliest.c2, ↓cdT, ↓if_pos, w64_id (n := (i : Int) + 1), rsource_eq V, Option.bind_some]
    refine .dec (fun q1 => .dec (fun q2 => .dec (fun q3 => ?_) fun q3 => go fun h => q3 h.2.2) fun q2 => go fun h => q2 h.2.1) fun q1 => go fun h => q1 h.1
    exact .ret (.inr ⟨rfl, fun E hE hg => hg.1 (.inl ⟨i, by omega, .inl ⟨q1, q2, q3⟩⟩)⟩)
 exact loop (Flow.Arcs f).length 0 (by omega) fun j hj => by omega
end
end Go.Proofs.YtjddmekfeckphaaGreatV
namespace Go.Proofs.YtjddmekfeckphaaGreatV
open Go Go.Vm
section
variable {f : Flow}
def SB (f : Flow) (l : List Int) : Int := (l.map fun x => Need.Busy (rd (Flow.Needs f) x)).sum
theorem SB_app (l : List Int) (x : Int) : SB f (l ++ [x]) = SB f l + Need.Busy (rd (Flow.Needs f) x) := by
 unfold SB
 rw [List.map_append, List.sum_append]
 simp
theorem SB_KSUM : ∀ m, SB f (CONTS f m) = KSUM f m
 | 0 => rfl
 | m + 1 => by
   have := SB_KSUM m
   unfold CONTS at *
   rw [pick_succ]
   show _ = KSUM f m + ite _ _ _
   by_cases h : CONT f m
   . rw [if_pos (by exact decide_eq_true h), if_pos h, SB_app, this]
   . rw [if_neg (by rw [decide_eq_true_iff]; exact h), if_neg h, this, Int.add_zero]
theorem conts_mem {m : Nat} {x : Int} (h : x ∈ CONTS f m) : 0 <= x /\ x < m := by
 unfold CONTS pick at h
 simp only [List.mem_map, List.mem_filter, List.mem_range] at h
 obtain ⟨j, ⟨h1, _⟩, rfl⟩ := h
 omega
theorem SB_b (V : VALID f) {l : List Int} (hl : ∀ x, x ∈ l -> 0 <= x /\ x < ((Flow.Needs f).length : Int)) : 0 <= SB f l /\ SB f l <= 256 * l.length := by
 induction l with
 | nil => exact ⟨Int.le_refl _, Int.le_refl _⟩
 | cons x l ih =>
   have h := ih fun y hy => hl y (List.mem_cons_of_mem _ hy)
   have hx := hl x (List.mem_cons_self ..)
   obtain ⟨i, rfl⟩ : ∃ i : Nat, x = (i : Int) := ⟨x.toNat, by omega⟩
   have hb : 0 <= Need.Busy (rd (Flow.Needs f) (i : Int)) /\ Need.Busy (rd (Flow.Needs f) (i : Int)) <= 256 := by rcases V.need i (by omega) with ⟨_, h⟩ | ⟨_, _, h1, h2⟩ <;> omega
   have e : SB f ((i : Int) :: l) = Need.Busy (rd (Flow.Needs f) (i : Int)) + SB f l := rfl
   rw [e, List.length_cons]
   omega
theorem most_ref (V : VALID f) {E : List Int} (hlen : (E.length : Int) = Flow.N f + 2) (hu : mx 1 (rd E (Flow.N f + 1)) <= 600000000000000000) : Ev (fun k => jacquardref32_Most.f k f E) (mx 1 (rd E (Flow.N f + 1)) + KSUM f (Flow.Insts f).toNat) := by
 have i0 := V.i0; have i1 := V.i1; have p0 := V.p0
 have hN : Flow.N f = Flow.Insts f + Flow.Params f := rfl
 have hn := V.needs
 simp only [jacquardref32_Most.f, rend_eq V, Option.bind_some]
 simp (disch := omega) only [↓if_pos]
 refine .bind (contested_ref V (by omega)) ?_
 rw [show (Flow.Insts f).toNat = (Flow.Needs f).length by omega, <- SB_KSUM]
 have hm : ∀ x, x ∈ CONTS f (Flow.Needs f).length -> 0 <= x /\ x < ((Flow.Needs f).length : Int) := fun x hx => conts_mem hx
 have hcl : (CONTS f (Flow.Needs f).length).length <= (Flow.Needs f).length := pick_len _ _ _
 have h1 := le_mx_l 1 (rd E (Flow.N f + 1))
 generalize CONTS f (Flow.Needs f).length = L at hm hcl
 generalize mx 1 (rd E (Flow.N f + 1)) = z at hu h1
 have key : Ev (fun k => jacquardref32_Most.c4 k (z + SB f (L.take 0)) (L.length : Int) ((0 : Nat) : Int) f L) (z + SB f L) := by
  refine Ev.up (c := fun k i => jacquardref32_Most.c4 k (z + SB f (L.take i)) (L.length : Int) (i : Int) f L) (n := L.length) ?_ (fun i hi ih => ?_) 0 (Nat.zero_le _)
  . refine .succ ?_
    simp (disch := omega) only [jacquardref32_Most.c4, ↓cdF, List.take_length]
    exact .ret _
  . have hx := hm _ (rd_mem (xs := L) (i := (i : Int)) (by omega) (by omega))
    obtain ⟨j, hj⟩ : ∃ j : Nat, rd L (i : Int) = (j : Int) := ⟨(rd L (i : Int)).toNat, by omega⟩
    have hb : 0 <= Need.Busy (rd (Flow.Needs f) (j : Int)) /\ Need.Busy (rd (Flow.Needs f) (j : Int)) <= 256 := by rcases V.need j (by omega) with ⟨_, h⟩ | ⟨_, _, h1, h2⟩ <;> omega
    have hsb := SB_b V (l := L.take i) fun x hx => hm x (List.mem_of_mem_take hx)
    have htl : (L.take i).length <= L.length := by rw [List.length_take]; omega
    rw [take_snoc hi, SB_app] at ih
    simp only [natC] at ih
    rw [hj] at ih
    refine .succ ?_
    simp (disch := omega) only [jacquardref32_Most.c4, ↓cdT, ↓if_pos, hj, w64_id]
    rwa [<- Int.add_assoc] at ih
 rw [List.take_zero, show SB f [] = 0 from rfl, Int.add_zero] at key
 exact key
theorem PureListschedLegal (f : Flow) (g0 : Ty.good Flow.T f) : ∃ k, jacquardlaw32_ListschedLegal.f k f = some true := by
 refine Ev.ex (f := fun k => jacquardlaw32_ListschedLegal.f k f) ?_
 simp only [jacquardlaw32_ListschedLegal.f]
 have hend : Ev (fun k => (jacquardlaw32_awake.f k).bind fun y17 => some y17) true := Ev.bind awake_ev (.ret true)
 refine .bind awake_ev ?_
 simp only [Bool.not_true, cond_false]
 obtain ⟨_, _, _, ⟨ga, _⟩, _, ⟨gn, _⟩, _⟩ := g0
 refine .test (few_ev ga gn) (fun h => ?_) fun h => ?_
 rotate_left
 . exact hend
 simp only [Bool.not_true, cond_false]
 have SF := sizes_of h
 have bad : ∀ (e : Int) (w : Int), e = w -> ¬ w = 0 -> Ev (fun k => jacquardlaw32_ListschedLegal.c14 k e w f 0 0 [] [] []) true := fun e w he hw => by
  refine .succ ?_
  simp (disch := first | exact hw | exact he) only [jacquardlaw32_ListschedLegal.c14, ↓cnT, ↓cdT]
  exact .ret _
 by_cases V : VALID f
 rotate_left
 . refine .bind (Schedule_off1 V SF) ?_
   refine .bind ((valid_ref SF).false V) ?_
   exact bad 3 3 rfl (by decide)
 cases hl : Flow.Loop f
 rotate_left
 . refine .bind (Schedule_off2 V SF hl) ?_
   refine .bind ((valid_ref SF).true V) ?_
   exact bad 1 1 rfl (by decide)
 have hin := h.1.insts
 have hip := h.1.params
 have hal := h.1.arcs
 have hN : Flow.N f = Flow.Insts f + Flow.Params f := rfl
 obtain ⟨r, hr, hh⟩ := Schedule_prog V SF hin (by omega) (by omega) hl
 refine .bind hr ?_
 refine .bind ((valid_ref SF).true V) ?_
 simp only [Bool.not_true, cond_false]
 obtain ⟨y, hy, he⟩ := earliest_ref V (by omega) (by omega)
 refine .bind hy ?_
 rcases he with ⟨h1, hE, hg, hu⟩ | ⟨h1, h2⟩
 . simp only [h1, Bool.not_true, cond_false]
   rcases hh with ⟨q, _⟩ | ⟨E', hE', hg', hh⟩
   . exact absurd hg (q _ hE)
   . have e := hE'.uniq V hE
     subst e
     rcases hh with ⟨e, q⟩ | ⟨h0, F, L, _⟩
     . subst e
       have h5 : (none32 5).2.1 = 5 := rfl
       simp only [↓cdT h5]
       refine .bind (most_ref V hE.len hu) ?_
       simp only [↓cdT q]
       exact .ret _
     . have h5 : ¬ r.2.1 = 5 := by rw [h0]; decide
       simp only [↓cdF h5]
       rw [h0]
       refine .succ ?_
       simp only [jacquardlaw32_ListschedLegal.c14, decide_true, Bool.not_true, cond_false, cond_true]
       refine .bind ((legal_ref (s := r.1) SF (ssizes V (by have := h.2; omega) F) V).true ⟨F, (LG_iff V F hl).2 L⟩) ?_
       exact .ret _
 . simp only [h1, Bool.not_false, cond_true]
   rcases hh with ⟨_, e⟩ | ⟨E', hE', hg', hh⟩
   . subst e
     exact bad 14 14 rfl (by decide)
   . exact absurd hg' (h2 _ hE')
end
end Go.Proofs.YtjddmekfeckphaaGreatV
