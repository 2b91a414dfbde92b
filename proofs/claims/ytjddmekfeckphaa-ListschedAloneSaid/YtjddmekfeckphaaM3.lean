/- Proofs about the functions, part 4 of 4. -/
import Derived.Test.YtjddmekfeckphaaM2
import Derived.KernelRfl
import Derived.Test.YtjddmekfeckphaaM1
import Derived.Test.YtjddmekfeckphaaM0
import Derived.Test.YtjddmekfeckphaaF
set_option linter.unusedVariables false
set_option linter.unusedSimpArgs false
namespace Go.Proofs.YtjddmekfeckphaaV
open Go Go.Vm
theorem rep0 (k : Nat) (d : Int) : slices_Repeat_int_int.f (k + 12) [d] 0 = some (List.replicate 0 d) := by kernel_rfl
theorem rep1 (k : Nat) (d : Int) : slices_Repeat_int_int.f (k + 12) [d] 1 = some (List.replicate 1 d) := by kernel_rfl
theorem rep2 (k : Nat) (d : Int) : slices_Repeat_int_int.f (k + 12) [d] 2 = some (List.replicate 2 d) := by kernel_rfl
theorem rep3 (k : Nat) (d : Int) : slices_Repeat_int_int.f (k + 12) [d] 3 = some (List.replicate 3 d) := by kernel_rfl
theorem rep4 (k : Nat) (d : Int) : slices_Repeat_int_int.f (k + 12) [d] 4 = some (List.replicate 4 d) := by kernel_rfl
theorem rep5 (k : Nat) (d : Int) : slices_Repeat_int_int.f (k + 12) [d] 5 = some (List.replicate 5 d) := by kernel_rfl
theorem rep6 (k : Nat) (d : Int) : slices_Repeat_int_int.f (k + 12) [d] 6 = some (List.replicate 6 d) := by kernel_rfl
theorem rep7 (k : Nat) (d : Int) : slices_Repeat_int_int.f (k + 12) [d] 7 = some (List.replicate 7 d) := by kernel_rfl
theorem rep8 (k : Nat) (d : Int) : slices_Repeat_int_int.f (k + 12) [d] 8 = some (List.replicate 8 d) := by kernel_rfl
theorem rep9 (k : Nat) (d : Int) : slices_Repeat_int_int.f (k + 12) [d] 9 = some (List.replicate 9 d) := by kernel_rfl
theorem rep10 (k : Nat) (d : Int) : slices_Repeat_int_int.f (k + 12) [d] 10 = some (List.replicate 10 d) := by kernel_rfl
theorem rep11 (k : Nat) (d : Int) : slices_Repeat_int_int.f (k + 12) [d] 11 = some (List.replicate 11 d) := by kernel_rfl
theorem rep12 (k : Nat) (d : Int) : slices_Repeat_int_int.f (k + 12) [d] 12 = some (List.replicate 12 d) := by kernel_rfl
theorem rep13 (k : Nat) (d : Int) : slices_Repeat_int_int.f (k + 12) [d] 13 = some (List.replicate 13 d) := by kernel_rfl
theorem rep14 (k : Nat) (d : Int) : slices_Repeat_int_int.f (k + 12) [d] 14 = some (List.replicate 14 d) := by kernel_rfl
theorem repeat_k (n : Nat) (h1 : n <= 14) (k : Nat) (d : Int) : slices_Repeat_int_int.f (k + 12) [d] (n : Int) = some (List.replicate n d) := by
 have h : n = 0 \/ n = 1 \/ n = 2 \/ n = 3 \/ n = 4 \/ n = 5 \/ n = 6 \/ n = 7 \/ n = 8 \/ n = 9 \/ n = 10 \/ n = 11 \/ n = 12 \/ n = 13 \/ n = 14 := by omega
 rcases h with rfl | rfl | rfl | rfl | rfl | rfl | rfl | rfl | rfl | rfl | rfl | rfl | rfl | rfl | rfl
 . exact rep0 k d
 . exact rep1 k d
 . exact rep2 k d
 . exact rep3 k d
 . exact rep4 k d
 . exact rep5 k d
 . exact rep6 k d
 . exact rep7 k d
 . exact rep8 k d
 . exact rep9 k d
 . exact rep10 k d
 . exact rep11 k d
 . exact rep12 k d
 . exact rep13 k d
 . exact rep14 k d
theorem repeat_ev {n : Int} (h0 : 0 <= n) (h1 : n <= 14) (d : Int) : Ev (fun k => slices_Repeat_int_int.f k [d] n) (List.replicate n.toNat d) := by
 refine ⟨12, fun k hk => ?_⟩
 obtain ⟨j, rfl⟩ : ∃ j, k = j + 12 := ⟨k - 12, by omega⟩
 have := repeat_k n.toNat (by omega) j d
 rwa [Int.toNat_of_nonneg (by omega)] at this
def none32 (e : Int) : Sched × Int × Unit := ((0, 0, [], [], [], ()), e, ())
def SCHED (f : Flow) (r : Sched × Int × Unit) : Prop :=
 ((∀ E, EARLY f E -> ¬ GOODF f E) /\ r = none32 14) \/
 ∃ E, EARLY f E /\ GOODF f E /\ ((r = none32 5 /\ 4096 < mx 1 (rd E (Flow.N f + 1)) + KSUM f (Flow.Insts f).toNat) \/
   (r.2.1 = 0 /\ FITS f r.1 /\ LG f r.1 /\ Sched.Depth r.1 <= mx 1 (rd E (Flow.N f + 1)) + KSUM f (Flow.Insts f).toNat /\ ∀ i : Nat, (i : Int) < Flow.Insts f -> rd (Sched.Start r.1) (i : Int) <= rd E (i : Int) + KSUM f (Flow.Insts f).toNat))
section
variable {f : Flow}
theorem KSUM_pos : ∀ m, 0 <= KSUM f m \/ ¬ VALID f
 | 0 => .inl (Int.le_refl _)
 | m + 1 => by
   rcases KSUM_pos m with h | h
   . by_cases V : VALID f
     . left
       show 0 <= _ + ite _ _ _
       split
       . rename_i hc
         have hb : 0 <= bsI f m := by
          by_cases hm : m < (Flow.Needs f).length
          . rcases V.need m hm with ⟨_, a⟩ | ⟨_, _, a, b⟩ <;> (show 0 <= Need.Busy _) <;> omega
          . have : rd (Flow.Needs f) (m : Int) = default := by simp [rd, List.getElem?_eq_none (Nat.le_of_not_lt hm)]
            show 0 <= Need.Busy (rd (Flow.Needs f) (m : Int))
            rw [this]
            exact Int.le_refl _
         omega
       . omega
     . exact .inr V
   . exact .inr h
theorem late_ev (xs : List Int) (hl : xs.length <= 1000000) : W (fun k => slices_ContainsFunc_int_int_i1.f k xs) (fun r => r.1 = true ↔ ∃ p : Nat, p < xs.length /\ 0 < rd xs (p : Int)) := by
 simp only [slices_ContainsFunc_int_int_i1.f, slices_IndexFunc_int_int_i1.f]
 have loop : ∀ (d i : Nat), i + d = xs.length -> (∀ p : Nat, p < i -> ¬ 0 < rd xs (p : Int)) -> W (fun k => slices_IndexFunc_int_int_i1.c2 k xs (xs.length : Int) (i : Int)) (fun r => 0 <= r.1 ↔ ∃ p : Nat, p < xs.length /\ 0 < rd xs (p : Int)) := by
  intro d
  induction d with
  | zero =>
    intro i hi h
    refine .succ ?_
    simp (disch := omega) only [slices_IndexFunc_int_int_i1.c2, ↓cdF]
    refine .ret ⟨fun h => ?_, fun ⟨p, h1, h2⟩ => absurd h2 (h p (by omega))⟩
    have h' : (0 : Int) <= -1 := h
    omega
  | succ d ih =>
    intro i hi h
    refine .succ ?_
    simp (disch := omega) only [slices_IndexFunc_int_int_i1.c2, ↓cdT, ↓if_pos, listsched_Schedule_1.f, Option.bind_some, w64_id]
    refine .dec (fun e => .ret ⟨fun _ => ⟨i, by omega, e⟩, fun _ => by show (0 : Int) <= (i : Int); omega⟩) fun e => ?_
    have := ih (i + 1) (by omega) fun p hp => by
     rcases Nat.lt_or_eq_of_le (Nat.le_of_lt_succ hp) with h1 | h1
     . exact h p h1
     . rw [h1]; exact e
    simpa only [natC] using this
 refine .bind (loop xs.length 0 (by omega) fun p hp => by omega) fun r hr => .ret ?_
 rw [decide_eq_true_iff]
 exact hr
theorem sched_c27 (V : VALID f) (SF : SIZES f) (hl : Flow.Loop f = false) {E : List Int} (hE : EARLY f E) (hg : GOODF f E) {TL : List Int} {NX : List (List Arc)} (htl : (TL.length : Int) = Flow.N f + 2) (hnl : (NX.length : Int) = Flow.N f + 2) (hx : ∀ i : Nat, (i : Int) < Flow.Insts f -> rd NX (i : Int) = nxl f i) :
 W (fun k => listsched_Schedule.c26 k f 0 0 f 0 0 TL (List.replicate (Flow.Insts f).toNat 0) (List.replicate (Flow.Params f).toNat 0) (List.replicate (Flow.Insts f).toNat (-1)) (tb (Flow.N f + 2).toNat fun v => (cpo f (Flow.Arcs f) (v : Int) : Int)) (tb (Flow.N f + 2).toNat fun v => emax f (v : Int) (Flow.Arcs f).length) NX) (SCHED f) := by
 have i0 := V.i0
 have i1 := V.i1
 have p0 := V.p0
 have p1 := V.p1
 have hN : Flow.N f = Flow.Insts f + Flow.Params f := rfl
 have hr := SF.res
 refine .succ ?_
 simp only [listsched_Schedule.c26]
 have loop : ∀ (d i : Nat), i + d = (Flow.Res f).length -> W (fun k => listsched_Schedule.c27 k (Flow.Res f) ((Flow.Res f).length : Int) (i : Int) f 0 0 f 0 0 TL (List.replicate (Flow.Insts f).toNat 0) (List.replicate (Flow.Params f).toNat 0) (List.replicate (Flow.Insts f).toNat (-1)) (tb (Flow.N f + 2).toNat fun v => (cpo f (Flow.Arcs f) (v : Int) : Int)) (tb (Flow.N f + 2).toNat fun v => emax f (v : Int) (Flow.Arcs f).length) NX (tb i fun r => List.replicate (cnt f r).toNat 0)) (SCHED f) := by
  intro d
  induction d with
  | zero =>
    intro i hi
    have e : i = (Flow.Res f).length := by omega
    subst e
    refine .succ ?_
    simp (disch := omega) only [listsched_Schedule.c27, ↓cdF]
    have H0 := RI.init V hE.sol (FR := tb (Flow.Res f).length fun r => List.replicate (cnt f r).toNat 0) (tb_len _ _) fun r hr => tb_rd hr
    refine .bind (run_prog V SF hE.sol hnl hx htl H0) fun y hy => ?_
    obtain ⟨y1, _, ST, UN, OP, EA, FR, _⟩ := y
    obtain ⟨t, WT, H1, hy⟩ := hy
    have H : RI f (rd E) t WT ST UN OP EA FR := H1
    clear H1
    have hle := H.le
    simp only [dataflow_End.f, Option.bind_some]
    rw [w64_id (n := Flow.Insts f + Flow.Params f) (by omega) (by omega), w64_id (by omega) (by omega)]
    simp (disch := (show 0 <= Flow.Insts f + Flow.Params f + 1 /\ Flow.Insts f + Flow.Params f + 1 < (EA.length : Int); omega)) only [↓if_pos]
    rw [<- hN]
    have hdep := H.depth V
    rcases hy with ⟨h1, hall⟩ | ⟨h1, ht, i, hi, hw⟩
    . have h1 : y1 = true := h1
      subst h1
      simp only [Bool.not_true, cond_false]
      have hk : 0 <= KSUM f (Flow.Insts f).toNat := (KSUM_pos _).resolve_right fun h => h V
      have hle2 : mx 1 (rd EA (Flow.N f + 1)) <= mx 1 (rd E (Flow.N f + 1)) + KSUM f (Flow.Insts f).toNat := by
       rw [mx_le]
       have q1 := le_mx_l 1 (rd E (Flow.N f + 1))
       have q2 := le_mx_r 1 (rd E (Flow.N f + 1))
       omega
      refine .dec (fun h => .ret (.inr ⟨E, hE, hg, .inl ⟨rfl, ?_⟩⟩)) fun h => .ret (.inr ⟨E, hE, hg, .inr ?_⟩)
      . have h : 4096 < mx 1 (rd EA (Flow.N f + 1)) := h
        omega
      . have h : ¬ 4096 < mx 1 (rd EA (Flow.N f + 1)) := h
        obtain ⟨g1, g2⟩ := H.done V hl hE hg hall (by omega)
        refine ⟨rfl, g1, g2, hle2, fun i hi => ?_⟩
        have h3 := H.c3 i hi (hall i hi)
        have hb : ∀ i : Nat, 0 <= bsI f i \/ ¬ CONT f i := fun i => by
         by_cases h : i < (Flow.Needs f).length
         . left
           rcases V.need i h with ⟨_, a⟩ | ⟨_, _, a, b⟩ <;> (show 0 <= Need.Busy _) <;> omega
         . left
           have : rd (Flow.Needs f) (i : Int) = default := by simp [rd, List.getElem?_eq_none (Nat.le_of_not_lt h)]
           show 0 <= Need.Busy (rd (Flow.Needs f) (i : Int))
           rw [this]
           exact Int.le_refl _
        have h4 := CB_sum (f := f) (WT := WT) (ST := ST) (x := rd ST (i : Int)) hb (Flow.Insts f).toNat
        show rd ST (i : Int) <= _
        omega
    . have h1 : y1 = false := h1
      subst h1
      simp only [Bool.not_false, cond_true]
      refine .ret (.inr ⟨E, hE, hg, .inl ⟨rfl, ?_⟩⟩)
      obtain ⟨m, m1, m2, m3⟩ := acyclic V hg.1 (w := fun i => rd WT (i : Int) = true) ⟨i, hi, hw⟩
      have ho : rd OP (m : Int) = 0 := by
       rw [H.opn m (by omega)]
       by_cases hz : opc f WT m = 0
       . omega
       . obtain ⟨j, j1, j2, j3, j4⟩ := opc_one hz
         obtain ⟨u, hu⟩ : ∃ u : Nat, aF f j = (u : Int) := ⟨(aF f j).toNat, by have : 0 <= aF f j := (V.arcs j j1).1; omega⟩
         exact absurd j4 (m3 j j1 u hu (by omega) (by rw [<- hu]; exact j3))
      have hlim := H.limit V ht m1 m2 ho
      obtain ⟨q1, q2, _, q3⟩ := V.tail m (by omega)
      have hlen := V.len
      obtain ⟨jj, hjj⟩ : ∃ jj : Nat, Flow.N f + 1 + (m : Int) = (jj : Int) := ⟨(Flow.N f + 1 + (m : Int)).toNat, by omega⟩
      rw [hjj] at q1 q2 q3
      have q1 : aF f jj = (m : Int) := q1
      have q2 : aT f jj = Flow.N f + 1 := q2
      have q4 := hE.arc jj (by omega)
      rw [q1, q2] at q4
      have q5 : 1 <= aL f jj := (q3 m1).1
      have := le_mx_r 1 (rd E (Flow.N f + 1))
      omega
  | succ d ih =>
    intro i hi
    have hc := V.res i (by omega)
    have c1 : 1 <= Resource.Count (rd (Flow.Res f) (i : Int)) := hc.2.2.1
    have c2 : Resource.Count (rd (Flow.Res f) (i : Int)) <= 1024 := hc.2.2.2
    refine .succ ?_
    simp (disch := first | omega | (simp only [tb_len, List.length_singleton]; omega)) only [listsched_Schedule.c27, ↓cdT, ↓if_pos, ↓bleT, w64_id]
    have := ih (i + 1) (by omega)
    rw [<- tb_app] at this
    simpa only [natC] using this
 exact loop (Flow.Res f).length 0 (by omega)
theorem Schedule_prog (V : VALID f) (SF : SIZES f) (hi : Flow.Insts f <= 14) (hn : Flow.N f + 2 <= 1000) (hal : (Flow.Arcs f).length <= 1000) (hl : Flow.Loop f = false) : W (fun k => listsched_Schedule.f k f) (SCHED f) := by
 have i0 := V.i0
 have i1 := V.i1
 have p0 := V.p0
 have p1 := V.p1
 have hN : Flow.N f = Flow.Insts f + Flow.Params f := rfl
 have hnod : Diff.nod (Flow.N f + 2) = Flow.N f + 2 := clampI (by omega) (by omega)
 have hmul : ∀ m : Nat, m <= 1000 -> (Diff.nod (Flow.N f + 2) + 2) * (m : Int) <= 10000000000 := fun m hm => by
  rw [hnod]
  have h1 : (Flow.N f + 2 + 2) * (m : Int) <= 1002 * (m : Int) := Int.mul_le_mul_of_nonneg_right (by omega) (by omega)
  omega
 simp only [listsched_Schedule.f]
 refine .bindEv ((valid_prog SF).true V) ?_
 simp only [Bool.not_true, cond_false, hl, dataflow_Nodes.f, Option.bind_some]
 rw [w64_id (n := Flow.Insts f + Flow.Params f) (by omega) (by omega), w64_id (by omega) (by omega), <- hN]
 have he := Diff.earliest_f (n0 := Flow.N f + 2) (arcs := Flow.Arcs f) (ii := 0) (hmul _ hal)
 rw [hnod] at he
 refine .bind he fun a ha => ?_
 cases hc : a.2.1 with
 | some c =>
   simp only [Option.isSome_some, cond_true]
   exact .ret (.inl ⟨fun E hE => absurd hE (no_early V ha (by rw [hc]; simp) E), rfl⟩)
 | none =>
 simp only [Option.isSome_none, cond_false]
 have hE := early_of V ha hc
 refine W.bind (tangled_prog V SF hn (by omega)).w fun y hy => ?_
 cases y
 rotate_left
 . simp only [cond_true]
   exact .ret (.inl ⟨fun E hE' hg => hg.1 (hy.1 rfl), rfl⟩)
 simp only [cond_false]
 have hT : ¬ TNG f := fun q => by have := hy.2 q; cases this
 have hlen := hE.len
 generalize a.1 = E at hE hlen
 simp (disch := omega) only [↓if_pos]
 have hdl : (List.take ((Flow.N f).toNat - (Flow.Insts f).toNat) (List.drop (Flow.Insts f).toNat E)).length = (Flow.Params f).toNat := by rw [List.length_take, List.length_drop]; omega
 have hdr : ∀ q : Nat, (q : Int) < Flow.Params f -> rd (List.take ((Flow.N f).toNat - (Flow.Insts f).toNat) (List.drop (Flow.Insts f).toNat E)) (q : Int) = rd E (Flow.Insts f + q) := fun q hq => by
  rw [rd_eq (by omega), List.getElem_take, List.getElem_drop]
  rw [show Flow.Insts f + (q : Int) = (((Flow.Insts f).toNat + q : Nat) : Int) by omega, rd_eq (by omega)]
 refine .bind (late_ev _ (by omega)) fun z hz => ?_
 obtain ⟨z1, _⟩ := z
 cases z1
 rotate_left
 . simp only [cond_true]
   refine .ret (.inl ⟨fun E' hE' hg => ?_, rfl⟩)
   obtain ⟨q, q1, q2⟩ := hz.1 rfl
   rw [hdr q (by omega)] at q2
   rw [hE'.uniq V hE] at hg
   have := hg.2 q (by omega)
   omega
 simp only [cond_false]
 have hg : GOODF f E := ⟨hT, fun q hq => by
  have : ¬ 0 < rd E (Flow.Insts f + q) := fun h => by
   have := hz.2 ⟨q, by omega, by rw [hdr q hq]; exact h⟩
   cases this
  omega⟩
 refine .bindEv (repeat_ev i0 hi (-1)) ?_
 rw [tb_rep (n := (Flow.N f + 2).toNat) (v := ([] : List Arc))]
 have e1 : List.replicate (Flow.N f + 2).toNat (0 : Int) = tb (Flow.N f + 2).toNat fun v => (cpo f ((Flow.Arcs f).take 0) (v : Int) : Int) := by rw [tb_rep]; rfl
 have e2 : List.replicate (Flow.N f + 2).toNat (0 : Int) = tb (Flow.N f + 2).toNat fun v => emax f (v : Int) 0 := by rw [tb_rep]; rfl
 have e3 : (tb (Flow.N f + 2).toNat fun _ => ([] : List Arc)) = tb (Flow.N f + 2).toNat fun v => if (v : Int) < Flow.Insts f then ((Flow.Arcs f).take 0).filter (fun a => decide (Arc.From a = (v : Int))) else [] := tb_congr fun c hc => by simp
 have loop : ∀ (d i : Nat), i + d = (Flow.Arcs f).length -> ∀ BK : List Arc, BK.length = i ->
  W (fun k => listsched_Schedule.c14 k (Flow.N f + 2) (Flow.Arcs f) ((Flow.Arcs f).length : Int) (i : Int) f 0 0 f 0 0 (List.replicate (Flow.N f + 2).toNat 0) BK (List.replicate (Flow.Insts f).toNat 0) (List.replicate (Flow.Params f).toNat 0) (List.replicate (Flow.Insts f).toNat (-1)) (tb (Flow.N f + 2).toNat fun v => (cpo f ((Flow.Arcs f).take i) (v : Int) : Int)) (tb (Flow.N f + 2).toNat fun v => emax f (v : Int) i) (tb (Flow.N f + 2).toNat fun v => if (v : Int) < Flow.Insts f then ((Flow.Arcs f).take i).filter (fun a => decide (Arc.From a = (v : Int))) else [])) (SCHED f) := by
  intro d
  induction d with
  | zero =>
    intro i hi2 BK hBK
    have e : i = (Flow.Arcs f).length := by omega
    subst e
    refine .succ ?_
    simp (disch := omega) only [listsched_Schedule.c14, ↓cdF]
    have hb := Diff.earliest_f (n0 := Flow.N f + 2) (arcs := BK) (ii := 0) (hmul _ (by omega))
    rw [hnod] at hb
    refine .bind hb fun b hb => ?_
    have hx : ∀ i : Nat, (i : Int) < Flow.Insts f -> rd (tb (Flow.N f + 2).toNat fun v => if (v : Int) < Flow.Insts f then ((Flow.Arcs f).take (Flow.Arcs f).length).filter (fun a => decide (Arc.From a = (v : Int))) else []) (i : Int) = nxl f i := fun i hi => by
     rw [tb_rd (by omega), if_pos hi, List.take_length]
     rfl
    rw [List.take_length] at *
    have fin := fun (TL : List Int) (h : (TL.length : Int) = Flow.N f + 2) => sched_c27 V SF hl hE hg (TL := TL) (NX := tb (Flow.N f + 2).toNat fun v => if (v : Int) < Flow.Insts f then (Flow.Arcs f).filter (fun a => decide (Arc.From a = (v : Int))) else []) h (by rw [tb_len]; omega) hx
    rcases hb with ⟨h1, h2, _⟩ | ⟨_, c, h2, _⟩
    . rw [h1]
      simp only [Option.isSome_none, cond_false]
      exact fin _ h2
    . rw [h2]
      simp only [Option.isSome_some, cond_true]
      exact fin _ (by rw [List.length_replicate]; omega)
  | succ d ih =>
    intro i hi2 BK hBK
    obtain ⟨v1, v2, v3, v4, v5, v6, _⟩ := V.arcs i (by omega)
    have hts := take_snoc (l := Flow.Arcs f) (j := i) (by omega)
    have next := fun (x : Arc) => ih (i + 1) (by omega) (BK ++ [x]) (by simp [hBK])
    have hcp : ∀ v : Int, cpo f ((Flow.Arcs f).take (i + 1)) v = cpo f ((Flow.Arcs f).take i) v + if Arc.From (rd (Flow.Arcs f) (i : Int)) < Flow.Insts f /\ Arc.To (rd (Flow.Arcs f) (i : Int)) = v then 1 else 0 := fun v => by
     unfold cpo
     rw [hts, List.countP_append, List.countP_singleton]
     congr 1
     by_cases q1 : Arc.From (rd (Flow.Arcs f) (i : Int)) < Flow.Insts f <;> by_cases q2 : Arc.To (rd (Flow.Arcs f) (i : Int)) = v <;> simp [q1, q2]
    have hcl : ∀ v : Int, cpo f ((Flow.Arcs f).take i) v <= i := fun v => Nat.le_trans (List.countP_le_length ..) (by rw [List.length_take]; omega)
    have hfl : ∀ v : Nat, (((Flow.Arcs f).take i).filter (fun a => decide (Arc.From a = (v : Int)))).length <= i := fun v => Nat.le_trans (List.length_filter_le _ _) (by rw [List.length_take]; omega)
    obtain ⟨ft, hft⟩ : ∃ ft : Nat, Arc.To (rd (Flow.Arcs f) (i : Int)) = (ft : Int) := ⟨(Arc.To (rd (Flow.Arcs f) (i : Int))).toNat, by omega⟩
    obtain ⟨fr, hfr⟩ : ∃ fr : Nat, Arc.From (rd (Flow.Arcs f) (i : Int)) = (fr : Int) := ⟨(Arc.From (rd (Flow.Arcs f) (i : Int))).toNat, by omega⟩
    refine .succ ?_
    simp (disch := omega) only [listsched_Schedule.c14, ↓cdT, ↓if_pos]
    refine .dec (fun h1 => ?_) fun h1 => ?_
    . have e5 : (tb (Flow.N f + 2).toNat fun v => (cpo f ((Flow.Arcs f).take (i + 1)) (v : Int) : Int)) = (tb (Flow.N f + 2).toNat fun v => (cpo f ((Flow.Arcs f).take i) (v : Int) : Int)).set ft ((cpo f ((Flow.Arcs f).take i) (ft : Int) : Int) + 1) := by
       rw [tb_set]
       refine tb_congr fun c hc => ?_
       rw [hcp]
       by_cases e : c = ft
       . subst e; rw [if_pos rfl, if_pos ⟨h1, hft⟩]; omega
       . rw [if_neg e, if_neg (fun q => e (by omega))]; omega
      have e6 : (tb (Flow.N f + 2).toNat fun v => emax f (v : Int) (i + 1)) = tb (Flow.N f + 2).toNat fun v => emax f (v : Int) i := tb_congr fun c hc => by
       rw [emax_succ, if_neg fun q => q.1 h1]
      have e7 : (tb (Flow.N f + 2).toNat fun v => if (v : Int) < Flow.Insts f then ((Flow.Arcs f).take (i + 1)).filter (fun a => decide (Arc.From a = (v : Int))) else []) = (tb (Flow.N f + 2).toNat fun v => if (v : Int) < Flow.Insts f then ((Flow.Arcs f).take i).filter (fun a => decide (Arc.From a = (v : Int))) else []).set fr (((Flow.Arcs f).take i).filter (fun a => decide (Arc.From a = (fr : Int))) ++ [rd (Flow.Arcs f) (i : Int)]) := by
       rw [tb_set]
       refine tb_congr fun c hc => ?_
       rw [hts, List.filter_append]
       by_cases e : c = fr
       . subst e; rw [if_pos rfl, if_pos (by omega), List.filter_cons_of_pos (by rw [decide_eq_true_iff]; exact hfr)]; rfl
       . rw [if_neg e, List.filter_cons_of_neg (by rw [decide_eq_true_iff]; omega)]; simp
      have v4' : (ft : Int) <= Flow.N f + 1 := by omega
      rw [hft, hfr] at *
      simp (disch := first | omega | (rw [tb_len]; omega)) only [↓if_pos, tb_rd, Int.toNat_natCast, if_true, h1]
      simp (disch := (have := hfl fr; simp only [List.length_singleton]; omega)) only [↓bleT]
      refine .succ ?_
      have hc2 := hcl (ft : Int)
      simp (disch := first | omega | (simp only [List.length_singleton]; omega)) only [listsched_Schedule.c21, ↓bleT, w64_id (n := (i : Int) + 1), w64_id (n := (cpo f ((Flow.Arcs f).take i) (ft : Int) : Int) + 1)]
      rw [<- e5, <- e6, <- e7]
      have := next (Arc.To (rd (Flow.Arcs f) (i : Int)), Arc.From (rd (Flow.Arcs f) (i : Int)), Arc.Lat (rd (Flow.Arcs f) (i : Int)), 0, ())
      simpa only [natC] using this
    . have e5 : (tb (Flow.N f + 2).toNat fun v => (cpo f ((Flow.Arcs f).take (i + 1)) (v : Int) : Int)) = tb (Flow.N f + 2).toNat fun v => (cpo f ((Flow.Arcs f).take i) (v : Int) : Int) := tb_congr fun c hc => by
       rw [hcp, if_neg fun q => h1 q.1]; omega
      have e6 : (tb (Flow.N f + 2).toNat fun v => emax f (v : Int) (i + 1)) = (tb (Flow.N f + 2).toNat fun v => emax f (v : Int) i).set ft (mx (emax f (ft : Int) i) (Arc.Lat (rd (Flow.Arcs f) (i : Int)))) := by
       rw [tb_set]
       refine tb_congr fun c hc => ?_
       rw [emax_succ]
       by_cases e : c = ft
       . subst e; rw [if_pos rfl, if_pos ⟨h1, hft⟩]
       . rw [if_neg e, if_neg (fun q => e (by have := q.2; have h : Arc.To (rd (Flow.Arcs f) (i : Int)) = (c : Int) := this; omega))]
      have e7 : (tb (Flow.N f + 2).toNat fun v => if (v : Int) < Flow.Insts f then ((Flow.Arcs f).take (i + 1)).filter (fun a => decide (Arc.From a = (v : Int))) else []) = tb (Flow.N f + 2).toNat fun v => if (v : Int) < Flow.Insts f then ((Flow.Arcs f).take i).filter (fun a => decide (Arc.From a = (v : Int))) else [] := tb_congr fun c hc => by
       by_cases q : (c : Int) < Flow.Insts f
       . rw [if_pos q, if_pos q, hts, List.filter_append, List.filter_cons_of_neg (by rw [decide_eq_true_iff]; omega)]; simp
       . rw [if_neg q, if_neg q]
      simp only [dataflow_Source.f, Option.bind_some]
      rw [w64_id (n := Flow.Insts f + Flow.Params f) (by omega) (by omega)]
      simp (disch := omega) only [↓cdT]
      have v4' : (ft : Int) <= Flow.N f + 1 := by omega
      rw [hft] at *
      simp (disch := first | omega | (rw [tb_len]; omega)) only [↓if_pos, tb_rd, Int.toNat_natCast]
      refine .succ ?_
      simp (disch := first | omega | (simp only [List.length_singleton]; omega)) only [listsched_Schedule.c21, ↓bleT, w64_id (n := (i : Int) + 1)]
      rw [<- e6]
      conv at next => intro x; rw [e5, e7]
      have := next (Arc.To (rd (Flow.Arcs f) (i : Int)), Arc.From (rd (Flow.Arcs f) (i : Int)), Arc.Lat (rd (Flow.Arcs f) (i : Int)), 0, ())
      simpa only [natC] using this
 have := loop (Flow.Arcs f).length 0 (by omega) [] rfl
 rw [<- e1, <- e2, <- e3] at this
 exact this
end
end Go.Proofs.YtjddmekfeckphaaV
namespace Go.Proofs.YtjddmekfeckphaaV
open Go Go.Vm
section
variable {f : Flow} {s : Sched}
theorem ssizes (V : VALID f) (h : (Flow.Needs f).length <= 1000) (F : FITS f s) : SSIZES s := by
 have h1 := F.start
 have h2 := F.unit
 have h3 := F.params
 have i1 := V.i1
 have p1 := V.p1
 exact ⟨by omega, by omega, by omega⟩
end
end Go.Proofs.YtjddmekfeckphaaV
namespace Go.Proofs.YtjddmekfeckphaaV
open Go Go.Vm
def bz (b : List Int) (i : Nat) : Int := w64 (1 + (w64 (Int.tmod (rd b (i : Int)) 6)))
def arcA (b : List Int) (j : Nat) : Arc := if j < b.length then ((b.length : Int), (j : Int), 0, 0, ()) else if j = b.length then ((b.length : Int), (b.length : Int) + 1, 0, 0, ()) else (((j - b.length - 1 : Nat) : Int), (b.length : Int) + 1, bz b (j - b.length - 1), 0, ())
def needA (b : List Int) (i : Nat) : Need := (0, bz b i, ())
def flA (b : List Int) (c : Int) : Flow := ((b.length : Int), 0, false, tb (2 * b.length + 1) (arcA b), [(3, 0, 0, c, ())], tb b.length (needA b), ())
def sumB (b : List Int) : Nat -> Int
 | 0 => 0
 | m + 1 => sumB b m + bz b m
def mxB (b : List Int) : Nat -> Int
 | 0 => 0
 | m + 1 => mx (mxB b m) (bz b m)
section
variable {b : List Int} {c : Int}
theorem bz_b (hb : ∀ i : Nat, i < b.length -> 0 <= rd b (i : Int) /\ rd b (i : Int) <= 255) {i : Nat} (hi : i < b.length) : 1 <= bz b i /\ bz b i <= 6 := by
 obtain ⟨h0, h1⟩ := hb i hi
 unfold bz
 rw [Int.tmod_eq_emod_of_nonneg h0]
 have e1 := Int.emod_nonneg (rd b (i : Int)) (b := 6) (by decide)
 have e2 := Int.emod_lt_of_pos (rd b (i : Int)) (b := 6) (by decide)
 rw [w64_id (n := rd b (i : Int) % 6) (by omega) (by omega), w64_id (by omega) (by omega)]
 omega
theorem mxB_ge {i : Nat} : ∀ {m : Nat}, i < m -> bz b i <= mxB b m
 | m + 1, h => by
   show _ <= mx _ _
   by_cases e : i = m
   . subst e; exact le_mx_r _ _
   . exact Int.le_trans (mxB_ge (m := m) (by omega)) (le_mx_l _ _)
theorem mxB_at : ∀ m : Nat, mxB b m = 0 \/ ∃ i : Nat, i < m /\ mxB b m = bz b i
 | 0 => .inl rfl
 | m + 1 => by
   show mx _ _ = 0 \/ ∃ i : Nat, i < m + 1 /\ mx _ _ = _
   rcases mx_eq (mxB b m) (bz b m) with e | e
   . rw [e]
     rcases mxB_at m with h | ⟨i, h1, h2⟩
     . exact .inl h
     . exact .inr ⟨i, by omega, h2⟩
   . rw [e]; exact .inr ⟨m, by omega, rfl⟩
theorem flA_arc {j : Nat} (h : j < 2 * b.length + 1) : rd (Flow.Arcs (flA b c)) (j : Int) = arcA b j := tb_rd h
theorem flA_need {i : Nat} (h : i < b.length) : rd (Flow.Needs (flA b c)) (i : Int) = (0, bz b i, ()) := tb_rd h
theorem flA_al : (Flow.Arcs (flA b c)).length = 2 * b.length + 1 := tb_len _ _
theorem flA_nl : (Flow.Needs (flA b c)).length = b.length := tb_len _ _
theorem flA_N : Flow.N (flA b c) = (b.length : Int) := by
 show (b.length : Int) + 0 = _
 omega
theorem arcA_h {j : Nat} (h : j < b.length) : arcA b j = ((b.length : Int), (j : Int), 0, 0, ()) := if_pos h
theorem arcA_m : arcA b b.length = ((b.length : Int), (b.length : Int) + 1, 0, 0, ()) := by
 unfold arcA
 rw [if_neg (by omega), if_pos rfl]
theorem arcA_t {i : Nat} : arcA b (b.length + 1 + i) = ((i : Int), (b.length : Int) + 1, bz b i, 0, ()) := by
 unfold arcA
 rw [if_neg (by omega), if_neg (by omega), show b.length + 1 + i - b.length - 1 = i by omega]
theorem arcA_cases {j : Nat} (h : j < 2 * b.length + 1) : (j < b.length /\ arcA b j = ((b.length : Int), (j : Int), 0, 0, ())) \/ (j = b.length /\ arcA b j = ((b.length : Int), (b.length : Int) + 1, 0, 0, ())) \/ ∃ i : Nat, i < b.length /\ j = b.length + 1 + i /\ arcA b j = ((i : Int), (b.length : Int) + 1, bz b i, 0, ()) := by
 by_cases h1 : j < b.length
 . exact .inl ⟨h1, arcA_h h1⟩
 . by_cases h2 : j = b.length
   . subst h2; exact .inr (.inl ⟨rfl, arcA_m⟩)
   . refine .inr (.inr ⟨j - b.length - 1, by omega, by omega, ?_⟩)
     have := arcA_t (b := b) (i := j - b.length - 1)
     rwa [show b.length + 1 + (j - b.length - 1) = j by omega] at this
theorem flA_valid (hk : b.length <= 8) (hb : ∀ i : Nat, i < b.length -> 0 <= rd b (i : Int) /\ rd b (i : Int) <= 255) (c1 : 1 <= c) (c2 : c <= 3) : VALID (flA b c) where
 i0 := by show (0 : Int) <= (b.length : Int); omega
 i1 := by show (b.length : Int) <= 4096; omega
 p0 := by show (0 : Int) <= 0; omega
 p1 := by show (0 : Int) <= 4094; omega
 needs := by rw [flA_nl]; rfl
 arcs j hj := by
  rw [flA_al] at hj
  rw [flA_arc hj]
  unfold VArc
  rw [flA_N]
  rcases arcA_cases hj with ⟨h, e⟩ | ⟨h, e⟩ | ⟨i, h, _, e⟩
  . rw [e]
    show 0 <= (b.length : Int) /\ (b.length : Int) <= (b.length : Int) /\ 0 <= (j : Int) /\ (j : Int) <= (b.length : Int) + 1 /\ (0 : Int) <= 0 /\ (0 : Int) <= 4096 /\ (0 : Int) <= 0 /\ (0 : Int) <= 256 /\ (_ -> (0 : Int) = 0)
    refine ⟨?_, ?_, ?_, ?_, ?_, ?_, ?_, ?_, fun _ => rfl⟩ <;> omega
  . rw [e]
    show 0 <= (b.length : Int) /\ (b.length : Int) <= (b.length : Int) /\ 0 <= (b.length : Int) + 1 /\ (b.length : Int) + 1 <= (b.length : Int) + 1 /\ (0 : Int) <= 0 /\ (0 : Int) <= 4096 /\ (0 : Int) <= 0 /\ (0 : Int) <= 256 /\ (_ -> (0 : Int) = 0)
    refine ⟨?_, ?_, ?_, ?_, ?_, ?_, ?_, ?_, fun _ => rfl⟩ <;> omega
  . have hz := bz_b hb h
    rw [e]
    show 0 <= (i : Int) /\ (i : Int) <= (b.length : Int) /\ 0 <= (b.length : Int) + 1 /\ (b.length : Int) + 1 <= (b.length : Int) + 1 /\ (0 : Int) <= bz b i /\ bz b i <= 4096 /\ (0 : Int) <= 0 /\ (0 : Int) <= 256 /\ (_ -> (0 : Int) = 0)
    refine ⟨?_, ?_, ?_, ?_, ?_, ?_, ?_, ?_, fun _ => rfl⟩ <;> omega
 len := by rw [flA_al, flA_N]; omega
 head v hv := by
  rw [flA_N] at hv
  unfold VHead
  rw [flA_N, flA_arc (by omega)]
  by_cases e : v = b.length
  . subst e; rw [arcA_m, if_pos rfl]
  . rw [arcA_h (by omega), if_neg (by omega)]
 res i hi := by
  have hi : i < 1 := hi
  obtain rfl : i = 0 := by omega
  show (1 : Int) <= 3 /\ (3 : Int) <= 4 /\ 1 <= c /\ c <= 1024
  omega
 tail v hv := by
  rw [flA_N] at hv
  unfold VTail
  rw [flA_N, show (b.length : Int) + 1 + (v : Int) = ((b.length + 1 + v : Nat) : Int) by omega, flA_arc (by omega), arcA_t, flA_need (by omega)]
  have hz := bz_b hb (i := v) (by omega)
  exact ⟨rfl, rfl, rfl, fun _ => ⟨hz.1, Int.le_refl _⟩⟩
 need i hi := by
  rw [flA_nl] at hi
  rw [flA_need hi]
  have hz := bz_b hb hi
  refine .inr ⟨Int.le_refl _, by show (0 : Int) < 1; omega, hz.1, by show bz b i <= 256; omega⟩
def EA (b : List Int) : List Int := tb (b.length + 2) fun v => if v = b.length + 1 then mxB b b.length else 0
theorem flA_early (hb : ∀ i : Nat, i < b.length -> 0 <= rd b (i : Int) /\ rd b (i : Int) <= 255) : EARLY (flA b c) (EA b) := by
 have hm0 : 0 <= mxB b b.length := by
  rcases mxB_at (b := b) b.length with h | ⟨i, h1, h2⟩
  . omega
  . have := bz_b hb h1; omega
 have hrd : ∀ v : Nat, v < b.length + 2 -> rd (EA b) (v : Int) = if v = b.length + 1 then mxB b b.length else 0 := fun v hv => tb_rd hv
 refine ⟨?_, fun v v0 v1 => ?_, fun j hj => ?_, fun q q0 q1 v v0 v1 => ?_⟩
 . rw [flA_N]; unfold EA; rw [tb_len]; omega
 . rw [flA_N] at v1
   obtain ⟨m, rfl⟩ : ∃ m : Nat, v = (m : Int) := ⟨v.toNat, by omega⟩
   rw [hrd m (by omega)]
   split <;> omega
 . rw [flA_al] at hj
   show rd (EA b) (Arc.From (rd (Flow.Arcs (flA b c)) (j : Int))) + Arc.Lat (rd (Flow.Arcs (flA b c)) (j : Int)) <= rd (EA b) (Arc.To (rd (Flow.Arcs (flA b c)) (j : Int)))
   rw [flA_arc hj]
   have h0 := hrd b.length (by omega)
   rw [if_neg (by omega)] at h0
   have h1 := hrd (b.length + 1) (by omega)
   rw [if_pos rfl] at h1
   have h1 : rd (EA b) ((b.length : Int) + 1) = mxB b b.length := h1
   rcases arcA_cases hj with ⟨h, e⟩ | ⟨h, e⟩ | ⟨i, h, _, e⟩
   . rw [e]
     show rd (EA b) (b.length : Int) + 0 <= rd (EA b) (j : Int)
     rw [h0, hrd j (by omega), if_neg (by omega)]
     omega
   . rw [e]
     show rd (EA b) (b.length : Int) + 0 <= rd (EA b) ((b.length : Int) + 1)
     rw [h0, h1]; omega
   . rw [e]
     show rd (EA b) (i : Int) + bz b i <= rd (EA b) ((b.length : Int) + 1)
     rw [h1, hrd i (by omega), if_neg (by omega)]
     have := mxB_ge (b := b) h
     omega
 . rw [flA_N] at v1
   obtain ⟨m, rfl⟩ : ∃ m : Nat, v = (m : Int) := ⟨v.toNat, by omega⟩
   rw [hrd m (by omega)]
   split
   . rename_i e
     subst e
     rcases mxB_at (b := b) b.length with h | ⟨i, h1, h2⟩
     . rw [h]; exact q0 _ (by omega) (by rw [flA_N]; omega)
     . have := q1 (b.length + 1 + i) (by rw [flA_al]; omega)
       have h3 : q (Arc.From (rd (Flow.Arcs (flA b c)) ((b.length + 1 + i : Nat) : Int))) + Arc.Lat (rd (Flow.Arcs (flA b c)) ((b.length + 1 + i : Nat) : Int)) <= q (Arc.To (rd (Flow.Arcs (flA b c)) ((b.length + 1 + i : Nat) : Int))) := this
       rw [flA_arc (by omega), arcA_t] at h3
       have h3 : q (i : Int) + bz b i <= q ((b.length : Int) + 1) := h3
       have := q0 (i : Int) (by omega) (by rw [flA_N]; omega)
       rw [h2]
       show _ <= q ((b.length : Int) + 1)
       omega
   . exact q0 _ (by omega) (by rw [flA_N]; omega)
theorem flA_good (V : VALID (flA b c)) (E : List Int) : GOODF (flA b c) E := by
 refine ⟨fun h => ?_, fun q hq => ?_⟩
 . have step : ∀ {x y : Nat}, ADJ (GR (flA b c)) x y -> ((x : Int) = (b.length : Int) /\ y ≠ b.length) \/ (x < b.length /\ y = b.length + 1) := by
    intro x y h
    obtain ⟨j, hj, e1, e2⟩ := (adj_GR V).1 h
    rw [flA_al] at hj
    have e1 : Arc.From (rd (Flow.Arcs (flA b c)) (j : Int)) = (x : Int) := e1
    have e2 : Arc.To (rd (Flow.Arcs (flA b c)) (j : Int)) = (y : Int) := e2
    rw [flA_arc hj] at e1 e2
    rcases arcA_cases hj with ⟨h, e⟩ | ⟨h, e⟩ | ⟨i, h, _, e⟩
    . rw [e] at e1 e2
      have e1 : (b.length : Int) = (x : Int) := e1
      have e2 : (j : Int) = (y : Int) := e2
      exact .inl ⟨by omega, by omega⟩
    . rw [e] at e1 e2
      have e1 : (b.length : Int) = (x : Int) := e1
      have e2 : (b.length : Int) + 1 = (y : Int) := e2
      exact .inl ⟨by omega, by omega⟩
    . rw [e] at e1 e2
      have e1 : (i : Int) = (x : Int) := e1
      have e2 : (b.length : Int) + 1 = (y : Int) := e2
      exact .inr ⟨by omega, by omega⟩
   have fin : ∀ {x y : Nat}, TC (ADJ (GR (flA b c))) x y -> x ≠ b.length + 1 := by
    intro x y h
    cases h with
    | one h => rcases step h with h | h <;> omega
    | step h _ => rcases step h with h | h <;> omega
   rcases h with ⟨j, hj, h⟩ | ⟨i, u, hi, hne, h1, h2⟩
   . rw [flA_al] at hj
     unfold BADA at h
     rw [flA_N] at h
     have h : (Arc.From (rd (Flow.Arcs (flA b c)) (j : Int)) < (b.length : Int) /\ (b.length : Int) <= Arc.To (rd (Flow.Arcs (flA b c)) (j : Int)) /\ Arc.To (rd (Flow.Arcs (flA b c)) (j : Int)) <= (b.length : Int)) \/ (Arc.From (rd (Flow.Arcs (flA b c)) (j : Int)) = Arc.To (rd (Flow.Arcs (flA b c)) (j : Int)) /\ Arc.From (rd (Flow.Arcs (flA b c)) (j : Int)) < (b.length : Int)) := h
     rw [flA_arc hj] at h
     rcases arcA_cases hj with ⟨q, e⟩ | ⟨q, e⟩ | ⟨i, q, _, e⟩
     . rw [e] at h
       have h : ((b.length : Int) < (b.length : Int) /\ (b.length : Int) <= (j : Int) /\ (j : Int) <= (b.length : Int)) \/ ((b.length : Int) = (j : Int) /\ (b.length : Int) < (b.length : Int)) := h
       omega
     . rw [e] at h
       have h : ((b.length : Int) < (b.length : Int) /\ (b.length : Int) <= (b.length : Int) + 1 /\ (b.length : Int) + 1 <= (b.length : Int)) \/ ((b.length : Int) = (b.length : Int) + 1 /\ (b.length : Int) < (b.length : Int)) := h
       omega
     . rw [e] at h
       have h : ((i : Int) < (b.length : Int) /\ (b.length : Int) <= (b.length : Int) + 1 /\ (b.length : Int) + 1 <= (b.length : Int)) \/ ((i : Int) = (b.length : Int) + 1 /\ (i : Int) < (b.length : Int)) := h
       omega
   . have hi : (i : Int) < (b.length : Int) := hi
     rcases h1 with e | h1
     . exact hne e.symm
     . rcases h2 with e | h2
       . exact hne e
       . have hu : u = b.length + 1 := by
          cases h1 with
          | one h => rcases step h with h | h <;> omega
          | step h h' =>
            rcases step h with h | h
            . omega
            . exact absurd h.2 (fin h')
         exact fin h2 hu
 . have hq : (q : Int) < 0 := hq
   omega
theorem flA_ksum (hb : ∀ i : Nat, i < b.length -> 0 <= rd b (i : Int) /\ rd b (i : Int) <= 255) : ∀ m : Nat, m <= b.length -> KSUM (flA b c) m <= 6 * m
 | 0, _ => Int.le_refl _
 | m + 1, hm => by
   have ih := flA_ksum hb m (by omega)
   have hz := bz_b hb (i := m) (by omega)
   have e : bsI (flA b c) m = bz b m := by
    show Need.Busy (rd (Flow.Needs (flA b c)) (m : Int)) = _
    rw [flA_need (by omega)]
   show KSUM (flA b c) m + ite _ _ _ <= _
   split <;> omega
end
end Go.Proofs.YtjddmekfeckphaaV
namespace Go.Proofs.YtjddmekfeckphaaV
open Go Go.Vm
def enU (U S B : Nat -> Int) (u : Int) : Nat -> Int
 | 0 => 0
 | m + 1 => if U m = u then mx (enU U S B u m) (S m + B m) else enU U S B u m
def toU (U B : Nat -> Int) (u : Int) : Nat -> Int
 | 0 => 0
 | m + 1 => if U m = u then toU U B u m + B m else toU U B u m
def covU (U S B : Nat -> Int) (u c : Int) : Nat -> Int
 | 0 => 0
 | m + 1 => if U m = u then covU U S B u c m + mn (mx (c - S m) 0) (B m) else covU U S B u c m
def cntU (U S B : Nat -> Int) (u c : Int) : Nat -> Int
 | 0 => 0
 | m + 1 => if U m = u /\ S m <= c /\ c < S m + B m then cntU U S B u c m + 1 else cntU U S B u c m
section
variable {U S B : Nat -> Int} {u : Int}
theorem enU_ge {i : Nat} (hu : U i = u) : ∀ {m : Nat}, i < m -> S i + B i <= enU U S B u m
 | m + 1, h => by
   show _ <= ite _ _ _
   by_cases e : i = m
   . subst e; rw [if_pos hu]; exact le_mx_r _ _
   . have := enU_ge hu (m := m) (by omega)
     split
     . exact Int.le_trans this (le_mx_l _ _)
     . exact this
theorem enU_at : ∀ m : Nat, enU U S B u m = 0 \/ ∃ i : Nat, i < m /\ U i = u /\ enU U S B u m = S i + B i
 | 0 => .inl rfl
 | m + 1 => by
   show ite _ _ _ = 0 \/ ∃ i : Nat, i < m + 1 /\ U i = u /\ ite _ _ _ = _
   by_cases h : U m = u
   . rw [if_pos h]
     rcases mx_eq (enU U S B u m) (S m + B m) with e | e
     . rw [e]
       rcases enU_at m with h | ⟨i, h1, h2, h3⟩
       . exact .inl h
       . exact .inr ⟨i, by omega, h2, h3⟩
     . rw [e]; exact .inr ⟨m, by omega, h, rfl⟩
   . rw [if_neg h]
     rcases enU_at m with h | ⟨i, h1, h2, h3⟩
     . exact .inl h
     . exact .inr ⟨i, by omega, h2, h3⟩
theorem enU_pos : ∀ m : Nat, 0 <= enU U S B u m
 | 0 => Int.le_refl _
 | m + 1 => by
   have := enU_pos m
   show 0 <= ite _ _ _
   split
   . exact Int.le_trans this (le_mx_l _ _)
   . exact this
theorem toU_le (hB : ∀ i, 0 <= B i) : ∀ m : Nat, 0 <= toU U B u m
 | 0 => Int.le_refl _
 | m + 1 => by
   have := toU_le hB m
   have := hB m
   show 0 <= ite _ _ _
   split <;> omega
theorem min_ex (P : Nat -> Prop) (g : Nat -> Int) : ∀ m : Nat, (∃ i, i < m /\ P i) -> ∃ i, i < m /\ P i /\ ∀ j, j < m -> P j -> g i <= g j
 | 0, ⟨_, h, _⟩ => by omega
 | m + 1, ⟨i, h1, h2⟩ => by
   by_cases h : ∃ i, i < m /\ P i
   . obtain ⟨q, q1, q2, q3⟩ := min_ex P g m h
     by_cases hm : P m /\ g m < g q
     . refine ⟨m, by omega, hm.1, fun j hj hp => ?_⟩
       by_cases e : j = m
       . subst e; omega
       . have := q3 j (by omega) hp; omega
     . refine ⟨q, by omega, q2, fun j hj hp => ?_⟩
       by_cases e : j = m
       . subst e
         have : ¬ g j < g q := fun x => hm ⟨hp, x⟩
         omega
       . exact q3 j (by omega) hp
   . have e : i = m := by
      by_cases e : i = m
      . exact e
      . exact absurd ⟨i, by omega, h2⟩ h
     subst e
     refine ⟨i, by omega, h2, fun j hj hp => ?_⟩
     by_cases e : j = i
     . subst e; omega
     . exact absurd ⟨j, by omega, hp⟩ h
theorem cov_step (hB : ∀ i, 0 <= B i) (c : Int) : ∀ m : Nat, covU U S B u (c + 1) m = covU U S B u c m + cntU U S B u c m
 | 0 => rfl
 | m + 1 => by
   have ih := cov_step hB c m
   have hb := hB m
   show ite _ _ _ = ite _ _ _ + ite _ _ _
   by_cases h : U m = u
   . rw [if_pos h, if_pos h, ih]
     by_cases h2 : S m <= c /\ c < S m + B m
     . rw [if_pos ⟨h, h2⟩]
       have e : mn (mx (c + 1 - S m) 0) (B m) = mn (mx (c - S m) 0) (B m) + 1 := by
        unfold mn mx
        repeat' split
        all_goals omega
       omega
     . rw [if_neg fun q => h2 q.2]
       have e : mn (mx (c + 1 - S m) 0) (B m) = mn (mx (c - S m) 0) (B m) := by
        unfold mn mx
        repeat' split
        all_goals omega
       omega
   . rw [if_neg h, if_neg h, if_neg fun q => h q.1, ih]
theorem cnt_pos {c : Int} : ∀ m : Nat, 0 <= cntU U S B u c m
 | 0 => Int.le_refl _
 | m + 1 => by
   have := cnt_pos (c := c) m
   show 0 <= ite _ _ _
   split <;> omega
theorem cnt_some {c : Int} {i : Nat} (h : U i = u /\ S i <= c /\ c < S i + B i) : ∀ {m : Nat}, i < m -> 1 <= cntU U S B u c m
 | m + 1, hi => by
   show 1 <= ite _ _ _
   by_cases e : i = m
   . subst e
     rw [if_pos h]
     have := cnt_pos (U := U) (S := S) (B := B) (u := u) (c := c) i
     omega
   . have := cnt_some h (m := m) (by omega)
     split <;> omega
theorem cnt_one {n : Nat} (hd : ∀ i j : Nat, i < n -> j < n -> i ≠ j -> U i = u -> U j = u -> S i + B i <= S j \/ S j + B j <= S i) (c : Int) : ∀ m : Nat, m <= n -> cntU U S B u c m <= 1 /\ (1 <= cntU U S B u c m -> ∃ i, i < m /\ U i = u /\ S i <= c /\ c < S i + B i)
 | 0, _ => ⟨by show (0 : Int) <= 1; omega, fun h => by have h : (1 : Int) <= 0 := h; omega⟩
 | m + 1, hm => by
   obtain ⟨h1, h2⟩ := cnt_one hd c m (by omega)
   show ite _ _ _ <= (1 : Int) /\ ((1 : Int) <= ite _ _ _ -> _)
   by_cases h : U m = u /\ S m <= c /\ c < S m + B m
   . rw [if_pos h]
     refine ⟨?_, fun _ => ⟨m, by omega, h⟩⟩
     by_cases h3 : 1 <= cntU U S B u c m
     . obtain ⟨i, i1, i2, i3, i4⟩ := h2 h3
       have := hd i m (by omega) (by omega) (by omega) i2 h.1
       omega
     . omega
   . rw [if_neg h]
     refine ⟨h1, fun q => ?_⟩
     obtain ⟨i, i1, i2⟩ := h2 q
     exact ⟨i, by omega, i2⟩
theorem cov_zero (hS : ∀ i, 0 <= S i) (hB : ∀ i, 0 <= B i) : ∀ m : Nat, covU U S B u 0 m = 0
 | 0 => rfl
 | m + 1 => by
   have ih := cov_zero hS hB m
   have hs := hS m
   have hb := hB m
   show ite _ _ _ = (0 : Int)
   split
   . rw [ih]
     unfold mn mx
     repeat' split
     all_goals omega
   . exact ih
theorem cov_full (hB : ∀ i, 0 <= B i) {e : Int} : ∀ m : Nat, (∀ i, i < m -> U i = u -> S i + B i <= e) -> covU U S B u e m = toU U B u m
 | 0, _ => rfl
 | m + 1, h => by
   have ih := cov_full hB m fun i hi => h i (by omega)
   have hb := hB m
   show ite _ _ _ = ite _ _ _
   by_cases hu : U m = u
   . rw [if_pos hu, if_pos hu, ih]
     have := h m (by omega) hu
     unfold mn mx
     repeat' split
     all_goals omega
   . rw [if_neg hu, if_neg hu, ih]
theorem no_gaps {n : Nat} (hS : ∀ i, 0 <= S i) (hB : ∀ i, 0 <= B i) (hB1 : ∀ i, i < n -> 1 <= B i) (hd : ∀ i j : Nat, i < n -> j < n -> i ≠ j -> U i = u -> U j = u -> S i + B i <= S j \/ S j + B j <= S i)
 (ht : ∀ i : Nat, i < n -> U i = u -> ∀ t : Int, 0 <= t -> t < S i -> ∃ j, j < n /\ j ≠ i /\ U j = u /\ S j < t + B i /\ t < S j + B j) : enU U S B u n = toU U B u n := by
 have full : covU U S B u (enU U S B u n) n = toU U B u n := cov_full hB n fun i hi hu => enU_ge hu hi
 have key : ∀ c : Nat, (c : Int) <= enU U S B u n -> covU U S B u c n = c := by
  intro c
  induction c with
  | zero => intro _; exact cov_zero hS hB n
  | succ c ih =>
    intro hc
    have e := cov_step (U := U) (S := S) (u := u) hB (c : Int) n
    rw [ih (by omega)] at e
    have h1 := (cnt_one hd (c : Int) n (Nat.le_refl _)).1
    have h2 : 1 <= cntU U S B u (c : Int) n := by
     refine Classical.byContradiction fun hno => ?_
     have hun : ∀ j, j < n -> U j = u -> c < S j \/ S j + B j <= c := fun j hj hu => by
      refine Classical.byContradiction fun q => hno (cnt_some (i := j) ⟨hu, by omega, by omega⟩ hj)
     rcases enU_at (U := U) (S := S) (B := B) (u := u) n with h0 | ⟨i0, a1, a2, a3⟩
     . omega
     . have := hun i0 a1 a2
       obtain ⟨i, b1, ⟨b2, b3⟩, b4⟩ := min_ex (fun i => U i = u /\ (c : Int) < S i) S n ⟨i0, a1, a2, by omega⟩
       obtain ⟨j, j1, j2, j3, j4, j5⟩ := ht i b1 b2 c (by omega) b3
       have := hun j j1 j3
       have hsj := b4 j j1 ⟨j3, by omega⟩
       have := hd i j b1 j1 (fun q => j2 q.symm) b2 j3
       have := hB1 j j1
       omega
    rw [show ((c + 1 : Nat) : Int) = (c : Int) + 1 by omega]
    omega
 have h0 := enU_pos (U := U) (S := S) (B := B) (u := u) n
 have := key (enU U S B u n).toNat (by omega)
 rw [Int.toNat_of_nonneg h0] at this
 rw [<- this]
 exact full
end
end Go.Proofs.YtjddmekfeckphaaV
namespace Go.Proofs.YtjddmekfeckphaaV
open Go Go.Vm
section
variable {b : List Int} {c : Int} {s : Sched}
theorem bz_pos (hb : ∀ i : Nat, i < b.length -> 0 <= rd b (i : Int) /\ rd b (i : Int) <= 255) (i : Nat) : 0 <= bz b i := by
 by_cases h : i < b.length
 . have := bz_b hb h; omega
 . have : rd b (i : Int) = 0 := by simp [rd, List.getElem?_eq_none (Nat.le_of_not_lt h)]
   unfold bz
   rw [this]
   decide
theorem tm_srcA : tm (flA b c) s (b.length : Int) = 0 := by
 unfold tm
 rw [flA_N]
 have h : ¬ (b.length : Int) < Flow.Insts (flA b c) := by show ¬ (b.length : Int) < (b.length : Int); omega
 rw [if_neg h, if_neg (by omega), if_pos rfl]
theorem tm_endA : tm (flA b c) s ((b.length : Int) + 1) = Sched.Depth s := by
 unfold tm
 rw [flA_N]
 have h : ¬ (b.length : Int) + 1 < Flow.Insts (flA b c) := by show ¬ (b.length : Int) + 1 < (b.length : Int); omega
 rw [if_neg h, if_neg (by omega), if_neg (by omega)]
theorem tm_insA {i : Nat} (hi : i < b.length) : tm (flA b c) s (i : Int) = rd (Sched.Start s) (i : Int) := by
 unfold tm
 have h : (i : Int) < Flow.Insts (flA b c) := by show (i : Int) < (b.length : Int); omega
 rw [if_pos h]
theorem end_le (L : LG (flA b c) s) {i : Nat} (hi : i < b.length) : rd (Sched.Start s) (i : Int) + bz b i <= Sched.Depth s := by
 have h := L.arcs (b.length + 1 + i) (by rw [flA_al]; omega)
 rw [flA_arc (by omega), arcA_t] at h
 have h : bz b i <= tm (flA b c) s ((b.length : Int) + 1) - tm (flA b c) s (i : Int) := h
 rw [tm_endA, tm_insA hi] at h
 omega
theorem lst_insA {i : Nat} (hi : i < b.length) : lst (flA b c) s (i : Int) = 0 := by
 rcases lst_at (f := flA b c) (s := s) (i : Int) with h | ⟨a, ha, e1, e2, e3⟩
 . exact h
 . rw [flA_al] at ha
   rw [flA_arc ha] at e1 e2 e3
   rcases arcA_cases ha with ⟨h, e⟩ | ⟨h, e⟩ | ⟨j, h, _, e⟩
   . rw [e] at e3
     have e3 : lst (flA b c) s (i : Int) = tm (flA b c) s (b.length : Int) + 0 := e3
     rw [tm_srcA] at e3
     omega
   . rw [e] at e1
     have e1 : (b.length : Int) + 1 = (i : Int) := e1
     omega
   . rw [e] at e1
     have e1 : (b.length : Int) + 1 = (i : Int) := e1
     omega
theorem toU_sum {U : Nat -> Int} (hb : ∀ i : Nat, i < b.length -> 0 <= rd b (i : Int) /\ rd b (i : Int) <= 255) (u : Int) : ∀ m : Nat, toU U (bz b) u m <= sumB b m
 | 0 => Int.le_refl _
 | m + 1 => by
   have ih := toU_sum (U := U) hb u m
   have hz := bz_pos hb m
   show ite _ _ _ <= sumB b m + bz b m
   split <;> omega
theorem sumB_b (hb : ∀ i : Nat, i < b.length -> 0 <= rd b (i : Int) /\ rd b (i : Int) <= 255) : ∀ m : Nat, m <= b.length -> (m : Int) <= sumB b m /\ sumB b m <= 6 * m
 | 0, _ => ⟨Int.le_refl _, Int.le_refl _⟩
 | m + 1, hm => by
   have ih := sumB_b hb m (by omega)
   have hz := bz_b hb (i := m) (by omega)
   show _ <= sumB b m + bz b m /\ sumB b m + bz b m <= _
   omega
theorem mxB_b (hb : ∀ i : Nat, i < b.length -> 0 <= rd b (i : Int) /\ rd b (i : Int) <= 255) {m : Nat} (hm : m <= b.length) : 0 <= mxB b m /\ mxB b m <= 6 := by
 rcases mxB_at (b := b) m with h | ⟨i, h1, h2⟩
 . omega
 . have := bz_b hb (i := i) (by omega); omega
abbrev uF (s : Sched) (i : Nat) : Int := rd (Sched.Unit s) (i : Int)
abbrev sF (s : Sched) (i : Nat) : Int := rd (Sched.Start s) (i : Int)
theorem gapsA (hb : ∀ i : Nat, i < b.length -> 0 <= rd b (i : Int) /\ rd b (i : Int) <= 255) (F : FITS (flA b c) s) (L : LG (flA b c) s) (T : TIGHT (flA b c) s) (u : Int) : enU (uF s) (sF s) (bz b) u b.length = toU (uF s) (bz b) u b.length := by
 have hsl : ((Sched.Start s).length : Int) = (b.length : Int) := F.start
 refine no_gaps (fun i => ?_) (bz_pos hb) (fun i hi => (bz_b hb hi).1) (fun i j hi hj hne hu hv => ?_) fun i hi hu t h0 h1 => ?_
 . by_cases h : i < (Sched.Start s).length
   . exact (F.starts i h).1
   . have : rd (Sched.Start s) (i : Int) = 0 := by simp [rd, List.getElem?_eq_none (Nat.le_of_not_lt h)]
     show 0 <= rd (Sched.Start s) (i : Int)
     omega
 . have hf := L.free i (by omega)
   by_cases q1 : sF s j < sF s i + bz b i
   . by_cases q2 : sF s i < sF s j + bz b j
     . refine absurd ⟨?_, j, by rw [flA_nl]; omega, fun q => hne q.symm, ?_, hv.trans hu.symm, ?_, ?_⟩ hf
       . rw [flA_need hi]; exact Int.le_refl _
       . rw [flA_need hi, flA_need hj]
       . rw [flA_need hi]; exact q1
       . rw [flA_need hj]; exact q2
     . right; omega
   . left; omega
 . obtain ⟨_, j, hj, k1, _, k3, k4, k5⟩ := T.starts i (by omega) t (by rw [lst_insA hi]; exact h0) h1
   rw [flA_nl] at hj
   have e1 : rd (Sched.Start (sch s (Sched.Depth s) (List.set (Sched.Start s) i t))) (j : Int) = rd (Sched.Start s) (j : Int) := rd_set_ne (Ne.symm k1)
   have e2 : rd (Sched.Start (sch s (Sched.Depth s) (List.set (Sched.Start s) i t))) (i : Int) = t := rd_set_eq (by omega)
   rw [e1, e2, flA_need hi] at k4
   rw [e1, e2, flA_need hj] at k5
   exact ⟨j, hj, k1, k3.trans hu, k4, k5⟩
theorem depthA (hk : 1 <= b.length) (hb : ∀ i : Nat, i < b.length -> 0 <= rd b (i : Int) /\ rd b (i : Int) <= 255) (F : FITS (flA b c) s) (L : LG (flA b c) s) (T : TIGHT (flA b c) s) : Sched.Depth s <= sumB b b.length := by
 have h := T.depth
 rw [flA_N] at h
 have hs := sumB_b hb b.length (Nat.le_refl _)
 have key : mx 1 (lst (flA b c) s ((b.length : Int) + 1)) <= sumB b b.length := by
  rw [mx_le]
  refine ⟨by omega, ?_⟩
  rcases lst_at (f := flA b c) (s := s) ((b.length : Int) + 1) with h | ⟨a, ha, e1, e2, e3⟩
  . omega
  . rw [flA_al] at ha
    rw [flA_arc ha] at e1 e2 e3
    rcases arcA_cases ha with ⟨h, e⟩ | ⟨h, e⟩ | ⟨i, h, _, e⟩
    . rw [e] at e1
      have e1 : (a : Int) = (b.length : Int) + 1 := e1
      omega
    . rw [e] at e3
      have e3 : lst (flA b c) s ((b.length : Int) + 1) = tm (flA b c) s (b.length : Int) + 0 := e3
      rw [tm_srcA] at e3
      omega
    . rw [e] at e3
      have e3 : lst (flA b c) s ((b.length : Int) + 1) = tm (flA b c) s (i : Int) + bz b i := e3
      rw [tm_insA h] at e3
      have g1 := enU_ge (U := uF s) (S := sF s) (B := bz b) (u := uF s i) (i := i) rfl h
      rw [gapsA hb F L T] at g1
      have g2 := toU_sum (U := uF s) hb (uF s i) b.length
      have g3 : rd (Sched.Start s) (i : Int) + bz b i <= toU (uF s) (bz b) (uF s i) b.length := g1
      omega
 omega
theorem alone_c28 (hk : b.length <= 8) (hb : ∀ i : Nat, i < b.length -> 0 <= rd b (i : Int) /\ rd b (i : Int) <= 255) (c0 : 0 <= c) (c1 : c <= 3) (F : FITS (flA b c) s) (L : LG (flA b c) s) (T : TIGHT (flA b c) s) {x7 : Int} (hx : Sched.Depth s <= x7) (a1 a2 : Int) (a3 : Bool) (II : Int) (o5 : List Arc) (o0 : List Resource) (Ps : List Int) :
 Ev (fun k => jacquardlaw32_ListschedAlone.c28 k (b.length : Int) x7 c 0 a1 a2 a3 II (Sched.Depth s) o5 o0 (tb b.length (needA b)) (Sched.Start s) Ps (Sched.Unit s)) true := by
 have hsl : ((Sched.Start s).length : Int) = (b.length : Int) := F.start
 have hul : ((Sched.Unit s).length : Int) = (b.length : Int) := F.unit
 have hd : 1 <= Sched.Depth s /\ Sched.Depth s <= 4096 := F.depth
 obtain ⟨cN, rfl⟩ : ∃ cN : Nat, c = (cN : Int) := ⟨c.toNat, by omega⟩
 refine Ev.up (c := fun k u => jacquardlaw32_ListschedAlone.c28 k (b.length : Int) x7 (cN : Int) (u : Int) a1 a2 a3 II (Sched.Depth s) o5 o0 (tb b.length (needA b)) (Sched.Start s) Ps (Sched.Unit s)) (n := cN) ?_ (fun u hu ih => ?_) 0 (Nat.zero_le _)
 . refine .succ ?_
   simp (disch := omega) only [jacquardlaw32_ListschedAlone.c28, ↓cdF]
   rw [decide_eq_true hx]
   exact .ret _
 . refine .succ ?_
   simp only [natC] at ih
   simp (disch := omega) only [jacquardlaw32_ListschedAlone.c28, ↓cdT]
   have e0 : enU (uF s) (sF s) (bz b) (u : Int) 0 = 0 := rfl
   have e1 : toU (uF s) (bz b) (u : Int) 0 = 0 := rfl
   have key : Ev (fun k => jacquardlaw32_ListschedAlone.c32 k (b.length : Int) x7 (u : Int) (enU (uF s) (sF s) (bz b) (u : Int) 0) (toU (uF s) (bz b) (u : Int) 0) (cN : Int) (u : Int) (b.length : Int) ((0 : Nat) : Int) a1 a2 a3 II (Sched.Depth s) o5 o0 (tb b.length (needA b)) (Sched.Start s) Ps (Sched.Unit s)) true := by
    refine Ev.up (c := fun k i => jacquardlaw32_ListschedAlone.c32 k (b.length : Int) x7 (u : Int) (enU (uF s) (sF s) (bz b) (u : Int) i) (toU (uF s) (bz b) (u : Int) i) (cN : Int) (u : Int) (b.length : Int) (i : Int) a1 a2 a3 II (Sched.Depth s) o5 o0 (tb b.length (needA b)) (Sched.Start s) Ps (Sched.Unit s)) (n := b.length) ?_ (fun i hi ih2 => ?_) 0 (Nat.zero_le _)
    . have hg := gapsA hb F L T (u : Int)
      have hle : ¬ Sched.Depth s < enU (uF s) (sF s) (bz b) (u : Int) b.length := by
       rcases enU_at (U := uF s) (S := sF s) (B := bz b) (u := (u : Int)) b.length with h | ⟨i, h1, h2, h3⟩
       . omega
       . have := end_le L h1
         have h3 : enU (uF s) (sF s) (bz b) (u : Int) b.length = rd (Sched.Start s) (i : Int) + bz b i := h3
         omega
      refine .succ ?_
      simp (disch := first | omega | exact hg) only [jacquardlaw32_ListschedAlone.c32, ↓cdF, ↓cnF, w64_id (n := (u : Int) + 1)]
      exact ih
    . have hz := bz_b hb hi
      have hst : 0 <= rd (Sched.Start s) (i : Int) /\ rd (Sched.Start s) (i : Int) <= 4096 := F.starts i (by omega)
      have ht := toU_sum (U := uF s) hb (u : Int) i
      have ht0 := toU_le (U := uF s) (u := (u : Int)) (bz_pos hb) i
      have hsb := sumB_b hb i (by omega)
      have hn : rd (tb b.length (needA b)) (i : Int) = (0, bz b i, ()) := tb_rd hi
      have hnl : (tb b.length (needA b)).length = b.length := tb_len _ _
      have hbz : Need.Busy ((0, bz b i, ()) : Need) = bz b i := rfl
      simp only [natC] at ih2
      refine .succ ?_
      simp (disch := omega) only [jacquardlaw32_ListschedAlone.c32, ↓cdT, ↓if_pos, hn, hbz, w64_id (n := (i : Int) + 1), w64_id (n := rd (Sched.Start s) (i : Int) + bz b i), w64_id (n := toU (uF s) (bz b) (u : Int) i + bz b i)]
      refine .dec (fun h => ?_) fun h => ?_
      . have f1 : enU (uF s) (sF s) (bz b) (u : Int) (i + 1) = mx (enU (uF s) (sF s) (bz b) (u : Int) i) (rd (Sched.Start s) (i : Int) + bz b i) := if_pos h
        have f2 : toU (uF s) (bz b) (u : Int) (i + 1) = toU (uF s) (bz b) (u : Int) i + bz b i := if_pos h
        rwa [f1, f2] at ih2
      . have f1 : enU (uF s) (sF s) (bz b) (u : Int) (i + 1) = enU (uF s) (sF s) (bz b) (u : Int) i := if_neg h
        have f2 : toU (uF s) (bz b) (u : Int) (i + 1) = toU (uF s) (bz b) (u : Int) i := if_neg h
        rwa [f1, f2] at ih2
   exact key
theorem alone_c13 (hk0 : 1 <= b.length) (hk : b.length <= 8) (hb : ∀ i : Nat, i < b.length -> 0 <= rd b (i : Int) /\ rd b (i : Int) <= 255) (c1 : 1 <= c) (c2 : c <= 3) :
 Ev (fun k => jacquardlaw32_ListschedAlone.c13 k b (b.length : Int) (sumB b b.length) (mxB b b.length) (b.length : Int) (b.length : Int) (b.length : Int) 0 false (tb (b.length + 1 + b.length) (arcA b)) [(3, 0, 0, c, ())] (tb b.length (needA b))) true := by
 refine .succ ?_
 simp (disch := omega) only [jacquardlaw32_ListschedAlone.c13, ↓cdF]
 rw [show b.length + 1 + b.length = 2 * b.length + 1 by omega]
 have V := flA_valid (c := c) hk hb c1 c2
 have SF : SIZES (flA b c) := ⟨by rw [flA_al]; omega, by show 1 <= 1000000000; omega, by rw [flA_nl]; omega⟩
 have hN := flA_N (b := b) (c := c)
 have hE := flA_early (c := c) hb
 have hg := flA_good V (EA b)
 obtain ⟨r, hr, hh⟩ := Schedule_prog V SF (by show (b.length : Int) <= 14; omega) (by rw [hN]; omega) (by rw [flA_al]; omega) rfl
 refine .bind hr ?_
 have good : r.2.1 = 0 /\ FITS (flA b c) r.1 /\ LG (flA b c) r.1 := by
  rcases hh with ⟨q, _⟩ | ⟨E, hE', _, ⟨_, q⟩ | ⟨h0, F, L, _⟩⟩
  . exact absurd hg (q _ hE)
  . have e := hE'.uniq V hE
    subst e
    have hks := flA_ksum (c := c) hb b.length (Nat.le_refl _)
    have hm := mxB_b hb (Nat.le_refl b.length)
    have e1 : (Flow.Insts (flA b c)).toNat = b.length := by show ((b.length : Int)).toNat = _; omega
    have e2 : rd (EA b) (Flow.N (flA b c) + 1) = mxB b b.length := by
     rw [hN, show (b.length : Int) + 1 = ((b.length + 1 : Nat) : Int) by omega]
     unfold EA
     rw [tb_rd (by omega), if_pos rfl]
    rw [e1, e2] at q
    have : mx 1 (mxB b b.length) <= 6 := by rw [mx_le]; omega
    omega
  . exact ⟨h0, F, L⟩
 obtain ⟨h0, F, L⟩ := good
 obtain ⟨⟨II, D, St, Ps, Un, _⟩, e, _⟩ := r
 have h0 : e = 0 := h0
 subst h0
 simp only [decide_true, Bool.not_true, cond_false]
 obtain ⟨r1, hr1, h1⟩ := Compact_prog (s := (II, D, St, Ps, Un, ())) V SF (ssizes V (by rw [flA_nl]; omega) F) F rfl L
 refine .bind hr1 ?_
 obtain ⟨r1, e1, _⟩ := r1
 obtain ⟨he1, D1, St1, hs1, C1, T1⟩ := h1
 have he1 : e1 = 0 := he1
 have hs1 : r1 = sch (II, D, St, Ps, Un, ()) D1 St1 := hs1
 subst he1 hs1
 simp only [decide_true, Bool.not_true, cond_false]
 have hdm : ¬ Sched.Depth (sch (II, D, St, Ps, Un, ()) D1 St1) < mxB b b.length := by
  rcases mxB_at (b := b) b.length with h | ⟨i, h1, h2⟩
  . have := C1.fits.depth; omega
  . have g1 := end_le C1.legal h1
    have g2 := (C1.fits.starts i (by have h : ((Sched.Start (sch (II, D, St, Ps, Un, ()) D1 St1)).length : Int) = (b.length : Int) := C1.fits.start
                                     omega)).1
    omega
 have hin : (0 : Int) <= 0 /\ (0 : Int) < (([(3, 0, 0, c, ())] : List Resource).length : Int) := ⟨Int.le_refl _, by show (0 : Int) < ((1 : Nat) : Int); decide⟩
 simp (disch := first | exact hdm | exact hin) only [↓cdF, ↓if_pos]
 exact alone_c28 hk hb (by omega) c2 C1.fits C1.legal T1 (depthA hk0 hb C1.fits C1.legal T1) _ _ _ _ _ _ _
end
theorem PureListschedAlone (b : List Int) (n : Int) (g0 : Ty.good (.sl (.int .u8)) b) (g1 : (Lit.int .u8 n).wf = true) : ∃ k, jacquardlaw32_ListschedAlone.f k b n = some true := by
 refine Ev.ex (f := fun k => jacquardlaw32_ListschedAlone.f k b n) ?_
 simp only [jacquardlaw32_ListschedAlone.f]
 have hend : Ev (fun k => (jacquardlaw32_awake.f k).bind fun y17 => some y17) true := Ev.bind awake_ev (.ret true)
 refine .bind awake_ev ?_
 simp only [Bool.not_true, cond_false]
 refine .dec (fun _ => hend) fun h1 => .dec (fun _ => hend) fun h2 => ?_
 have hk0 : 1 <= b.length := by omega
 have hk : b.length <= 8 := by omega
 have u8 : ∀ x : Int, (Lit.int .u8 x).wf = true -> 0 <= x /\ x <= 255 := fun x h => by
  simp [Lit.wf, IntKind.min, IntKind.max, IntKind.signed, IntKind.bits] at h
  omega
 have hb : ∀ i : Nat, i < b.length -> 0 <= rd b (i : Int) /\ rd b (i : Int) <= 255 := fun i hi => u8 _ (g0.2 _ (rd_mem (by omega) (by omega)))
 have hn := u8 n g1
 obtain ⟨c, hc⟩ : ∃ c, w64 (1 + (w64 ((Int.tmod n 3)))) = c := ⟨_, rfl⟩
 have hcb : 1 <= c /\ c <= 3 := by
  rw [<- hc, Int.tmod_eq_emod_of_nonneg hn.1]
  have e1 := Int.emod_nonneg n (b := 3) (by decide)
  have e2 := Int.emod_lt_of_pos n (b := 3) (by decide)
  rw [w64_id (n := n % 3) (by omega) (by omega), w64_id (by omega) (by omega)]
  omega
 rw [hc]
 have fin := alone_c13 hk0 hk hb hcb.1 hcb.2
 -- the second loop
 have loop2 : Ev (fun k => jacquardlaw32_ListschedAlone.c13 k b (b.length : Int) (sumB b 0) (mxB b 0) (b.length : Int) ((0 : Nat) : Int) (b.length : Int) 0 false (tb (b.length + 1 + 0) (arcA b)) [(3, 0, 0, c, ())] (tb 0 (needA b))) true := by
  refine Ev.up (c := fun k i => jacquardlaw32_ListschedAlone.c13 k b (b.length : Int) (sumB b i) (mxB b i) (b.length : Int) (i : Int) (b.length : Int) 0 false (tb (b.length + 1 + i) (arcA b)) [(3, 0, 0, c, ())] (tb i (needA b))) (n := b.length) fin (fun i hi ih => ?_) 0 (Nat.zero_le _)
  have hs := sumB_b hb i (by omega)
  have hz := bz_b hb hi
  have ez : w64 (1 + (w64 (Int.tmod (rd b (i : Int)) 6))) = bz b i := rfl
  have l1 : List.length (tb (b.length + 1 + i) (arcA b)) + List.length [((i : Int), (b.length : Int) + 1, bz b i, 0, ())] <= 1073741824 := by rw [tb_len, List.length_singleton]; omega
  have l2 : List.length (tb i (needA b)) + List.length [((0 : Int), bz b i, ())] <= 1073741824 := by rw [tb_len, List.length_singleton]; omega
  have a1 : tb (b.length + 1 + i) (arcA b) ++ [((i : Int), (b.length : Int) + 1, bz b i, 0, ())] = tb (b.length + 1 + (i + 1)) (arcA b) := by
   have := tb_app (b.length + 1 + i) (arcA b)
   rw [arcA_t] at this
   exact this
  have a2 : tb i (needA b) ++ [((0 : Int), bz b i, ())] = tb (i + 1) (needA b) := tb_app i (needA b)
  simp only [natC] at ih
  refine .succ ?_
  simp (disch := first | omega | exact l1 | exact l2) only [jacquardlaw32_ListschedAlone.c13, ↓cdT, ↓if_pos, ez, w64_id (n := (i : Int) + 1), w64_id (n := (b.length : Int) + 1), w64_id (n := sumB b i + bz b i), ↓bleT, a1, a2]
  exact ih
 -- the first loop
 have loop1 : Ev (fun k => jacquardlaw32_ListschedAlone.c7 k b (b.length : Int) 0 0 (b.length : Int) ((0 : Nat) : Int) (b.length : Int) 0 false [(3, 0, 0, c, ())] (tb 0 (arcA b))) true := by
  refine Ev.up (c := fun k i => jacquardlaw32_ListschedAlone.c7 k b (b.length : Int) 0 0 (b.length : Int) (i : Int) (b.length : Int) 0 false [(3, 0, 0, c, ())] (tb i (arcA b))) (n := b.length) ?_ (fun i hi ih => ?_) 0 (Nat.zero_le _)
  . have l1 : List.length (tb b.length (arcA b)) + List.length [((b.length : Int), (b.length : Int) + 1, (0 : Int), (0 : Int), ())] <= 1073741824 := by rw [tb_len, List.length_singleton]; omega
    have a1 : tb b.length (arcA b) ++ [((b.length : Int), (b.length : Int) + 1, 0, 0, ())] = tb (b.length + 1) (arcA b) := by
     have := tb_app b.length (arcA b)
     rw [arcA_m] at this
     exact this
    refine .succ ?_
    simp (disch := first | omega | exact l1) only [jacquardlaw32_ListschedAlone.c7, ↓cdF, w64_id (n := (b.length : Int) + 1), ↓bleT, a1]
    exact loop2
  . have l1 : List.length (tb i (arcA b)) + List.length [((b.length : Int), (i : Int), (0 : Int), (0 : Int), ())] <= 1073741824 := by rw [tb_len, List.length_singleton]; omega
    have a1 : tb i (arcA b) ++ [((b.length : Int), (i : Int), 0, 0, ())] = tb (i + 1) (arcA b) := by
     have := tb_app i (arcA b)
     rw [arcA_h hi] at this
     exact this
    simp only [natC] at ih
    refine .succ ?_
    simp (disch := first | omega | exact l1) only [jacquardlaw32_ListschedAlone.c7, ↓cdT, w64_id (n := (i : Int) + 1), ↓bleT, a1]
    exact ih
 exact loop1
end Go.Proofs.YtjddmekfeckphaaV
