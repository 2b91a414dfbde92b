/- Chapter 35: the law Busy, as a plain statement. -/
import Derived.Test.YtklfakmpfinlaaaL35b
set_option linter.unusedVariables false
set_option linter.unusedSimpArgs false
namespace Go.Proofs.YtklfakmpfinlaaaV
open Go Go.Vm
open Classical

theorem pick_sub {α : Type} {p q : Nat → Bool} {f : Nat → α} (h : ∀ i, p i = true → q i = true) (n : Nat) : (pick p f n).Sublist (pick q f n) := by
  induction n with
  | zero => exact .refl _
  | succ n ih =>
    rw [pick_succ, pick_succ]
    by_cases hp : p n = true
    · rw [if_pos hp, if_pos (h n hp)]
      exact ih.append (.refl _)
    · rw [if_neg hp]
      split
      · exact ih.trans (List.sublist_append_left _ _)
      · exact ih

theorem flatMap_sub {α β : Type} {f g : α → List β} : ∀ {l : List α}, (∀ a ∈ l, (f a).Sublist (g a)) → (l.flatMap f).Sublist (l.flatMap g)
  | [], _ => .refl _
  | a :: l, h => by
    rw [List.flatMap_cons, List.flatMap_cons]
    exact (h a (by simp)).append (flatMap_sub fun b hb => h b (by simp [hb]))

theorem clList_sub {f g : Flow} {s : Sched} (hI : Flow.Insts f = Flow.Insts g) (hS : ∀ i : Nat, SELF f s i → SELF g s i) (hC : ∀ i k : Nat, CL f s i k → CL g s i k) : (clList f s).Sublist (clList g s) := by
  unfold clList
  rw [← hI]
  refine flatMap_sub fun i _ => ?_
  unfold row
  rw [← hI]
  refine List.Sublist.append ?_ (pick_sub (fun m hm => ?_) _)
  · by_cases h : SELF f s i
    · rw [if_pos h, if_pos (hS i h)]
      exact .refl _
    · rw [if_neg h]
      exact List.nil_sublist _
  · simp only [decide_eq_true_eq] at hm ⊢
    exact hC _ _ hm

section
variable {f : Flow} {s : Sched}

/-- one instruction is busy for a cycle more -/
def busier (f : Flow) (k : Nat) : Flow :=
  (Flow.Insts f, Flow.Params f, Flow.Loop f,
    List.set (Flow.Arcs f) (Flow.N f + 1 + (k : Int)).toNat (Arc.From (rd (Flow.Arcs f) (Flow.N f + 1 + (k : Int))), Arc.To (rd (Flow.Arcs f) (Flow.N f + 1 + (k : Int))), mx (Arc.Lat (rd (Flow.Arcs f) (Flow.N f + 1 + (k : Int)))) (Need.Busy (rd (Flow.Needs f) (k : Int)) + 1), Arc.Dist (rd (Flow.Arcs f) (Flow.N f + 1 + (k : Int))), ()),
    Flow.Res f, List.set (Flow.Needs f) k (Need.Res (rd (Flow.Needs f) (k : Int)), Need.Busy (rd (Flow.Needs f) (k : Int)) + 1, ()), ())

theorem busier_ok (V : VALID f) (F : FITS f s) {k : Nat} (hk : (k : Int) < Flow.Insts f) (hr : 0 ≤ Need.Res (rd (Flow.Needs f) (k : Int))) (hb : Need.Busy (rd (Flow.Needs f) (k : Int)) < 256) : VALID (busier f k) ∧ FITS (busier f k) s ∧ (clList f s).Sublist (clList (busier f k) s) := by
  have hN : Flow.N (busier f k) = Flow.N f := rfl
  have hNe : Flow.N f = Flow.Insts f + Flow.Params f := rfl
  have i0 := V.i0
  have p0 := V.p0
  have hl := V.len
  have hn := V.needs
  have xi : ((Flow.N f + 1 + (k : Int)).toNat : Int) = Flow.N f + 1 + (k : Int) := by omega
  have al : (Flow.Arcs (busier f k)).length = (Flow.Arcs f).length := List.length_set
  have nl : (Flow.Needs (busier f k)).length = (Flow.Needs f).length := List.length_set
  have nrd : ∀ i : Nat, rd (Flow.Needs (busier f k)) (i : Int) = if i = k then (Need.Res (rd (Flow.Needs f) (k : Int)), Need.Busy (rd (Flow.Needs f) (k : Int)) + 1, ()) else rd (Flow.Needs f) (i : Int) := fun i => rd_set (by omega)
  have ard : ∀ i : Nat, rd (Flow.Arcs (busier f k)) (i : Int) = if i = (Flow.N f + 1 + (k : Int)).toNat then (Arc.From (rd (Flow.Arcs f) (Flow.N f + 1 + (k : Int))), Arc.To (rd (Flow.Arcs f) (Flow.N f + 1 + (k : Int))), mx (Arc.Lat (rd (Flow.Arcs f) (Flow.N f + 1 + (k : Int)))) (Need.Busy (rd (Flow.Needs f) (k : Int)) + 1), Arc.Dist (rd (Flow.Arcs f) (Flow.N f + 1 + (k : Int))), ()) else rd (Flow.Arcs f) (i : Int) := fun i => rd_set (by omega)
  have nres : ∀ i : Nat, Need.Res (rd (Flow.Needs (busier f k)) (i : Int)) = Need.Res (rd (Flow.Needs f) (i : Int)) := fun i => by
    rw [nrd]
    split
    · rename_i e; rw [e]
    · rfl
  have nbusy : ∀ i : Nat, Need.Busy (rd (Flow.Needs f) (i : Int)) ≤ Need.Busy (rd (Flow.Needs (busier f k)) (i : Int)) := fun i => by
    rw [nrd]
    split
    · rename_i e
      rw [e]
      show _ ≤ Need.Busy (rd (Flow.Needs f) (k : Int)) + 1
      omega
    · exact Int.le_refl _
  have vk := V.arcs (Flow.N f + 1 + (k : Int)).toNat (by omega)
  rw [xi] at vk
  have nk := V.need k (by omega)
  have bk : 1 ≤ Need.Busy (rd (Flow.Needs f) (k : Int)) := by rcases nk with ⟨a, _⟩ | ⟨_, _, a, _⟩ <;> omega
  refine ⟨⟨V.i0, V.i1, V.p0, V.p1, by rw [nl]; exact V.needs, fun i hi => ?_, by rw [al]; exact V.len, fun v hv => ?_, V.res, fun v hv => ?_, fun i hi => ?_⟩, ⟨F.start, F.unit, F.params, F.ii, F.loop, F.depth, F.starts, F.parms, fun i hi => ?_⟩, clList_sub rfl (fun i h => ?_) (fun i j h => ?_)⟩
  · rw [al] at hi
    rw [ard]
    split
    · obtain ⟨a1, a2, a3, a4, a5, a6, a7, a8, a9⟩ := vk
      refine ⟨a1, a2, a3, a4, ?_, ?_, a7, a8, a9⟩
      · show 0 ≤ mx _ _
        unfold mx; split <;> omega
      · show mx _ _ ≤ 4096
        unfold mx; split <;> omega
    · exact V.arcs i hi
  · have := V.head v hv
    unfold VHead at this ⊢
    rw [ard, if_neg (by rw [hN] at hv; omega)]
    exact this
  · rw [hN] at hv
    have t := V.tail v hv
    unfold VTail at t ⊢
    have e1 : rd (Flow.Arcs (busier f k)) (Flow.N (busier f k) + 1 + (v : Int)) = rd (Flow.Arcs (busier f k)) (((Flow.N f + 1 + (v : Int)).toNat : Nat) : Int) := by
      rw [hN]
      congr 1
      omega
    rw [e1, ard]
    by_cases hvk : v = k
    · subst hvk
      rw [if_pos rfl]
      obtain ⟨t1, t2, t3, t4⟩ := t
      refine ⟨t1, t2, t3, fun hlt => ?_⟩
      have := t4 hlt
      rw [nrd, if_pos rfl]
      show 1 ≤ mx _ _ ∧ Need.Busy (rd (Flow.Needs f) (v : Int)) + 1 ≤ mx _ _
      unfold mx
      split <;> omega
    · rw [if_neg (by omega), nrd, if_neg hvk, show (((Flow.N f + 1 + (v : Int)).toNat : Nat) : Int) = Flow.N f + 1 + (v : Int) by omega]
      exact t
  · rw [nl] at hi
    have := V.need i hi
    unfold VNeed at this ⊢
    rw [nres, nrd]
    split
    · rename_i e
      subst e
      rcases this with ⟨a, _⟩ | ⟨a, b, c, d⟩
      · omega
      · refine .inr ⟨a, b, ?_, ?_⟩
        · show 1 ≤ Need.Busy (rd (Flow.Needs f) (i : Int)) + 1
          omega
        · show Need.Busy (rd (Flow.Needs f) (i : Int)) + 1 ≤ 256
          omega
    · exact this
  · rw [nres]
    exact F.units i hi
  · obtain ⟨h1, h2, h3⟩ := h
    refine ⟨h1, by rw [nres]; exact h2, ?_⟩
    have := nbusy i
    omega
  · obtain ⟨h1, h2, h3, h4, h5, h6, h7⟩ := h
    have b1 := nbusy i
    have b2 := nbusy j
    refine ⟨by rw [nres]; exact h1, by rw [nres, nres]; exact h2, h3, by omega, by omega, fun h => ?_, fun h => ?_⟩
    · have := h6 h
      omega
    · rcases h7 h with h | h
      · exact .inl (by omega)
      · exact .inr (by omega)

theorem PureSchedcheckBusy (f : Flow) (s : Sched) (at' : Int) (g0 : Ty.good Flow.T f) (g1 : Ty.good Sched.T s) (g2 : (Lit.int .u8 at').wf = true) : ∃ k, jacquardlaw35_SchedcheckBusy.f k f s at' = some true := by
  refine Ev.ex (f := fun k => jacquardlaw35_SchedcheckBusy.f k f s at') ?_
  have hb : 0 ≤ at' ∧ at' ≤ 255 := by
    simp [Lit.wf, IntKind.min, IntKind.max, IntKind.signed, IntKind.bits] at g2
    omega
  have wb : w64 at' = at' := w64_id (by omega) (by omega)
  simp only [jacquardlaw35_SchedcheckBusy.f]
  refine begin35 g0 g1 fun w => ?_
  refine .test (fits_prog w.sizes w.ssizes) (fun q => ?_) (fun q => ?_)
  rotate_left
  · simp only [Bool.not_false, cond_true]
    exact .bind awake35 (.ret _)
  simp only [Bool.not_true, cond_false]
  obtain ⟨V, F⟩ := q
  refine .cond (fun _ => .bind awake35 (.ret _)) (fun hne => ?_)
  have hne := of_decide_eq_false hne
  have hN : Flow.N f = Flow.Insts f + Flow.Params f := rfl
  have i0 := V.i0
  have i1 := V.i1
  have p0 := V.p0
  have p1 := V.p1
  have hl := V.len
  have hn := V.needs
  have ha := w.arcs
  have hnd := w.needs
  rw [wb]
  have t1 := Int.tmod_nonneg (Flow.Insts f) hb.1
  have t2 := Int.tmod_lt_of_pos at' (show 0 < Flow.Insts f by omega)
  generalize hi : Int.tmod at' (Flow.Insts f) = i at *
  obtain ⟨k, rfl⟩ : ∃ k : Nat, i = (k : Int) := ⟨i.toNat, by omega⟩
  have bb : 0 ≤ (k : Int) ∧ (k : Int) < ((Flow.Needs f).length : Int) := by omega
  simp only [List.nil_append, if_pos bb, if_pos hne]
  refine .cond (fun _ => .ret _) fun hr => .cond (fun _ => .ret _) fun hbu => ?_
  have hr := of_decide_eq_false hr
  have hbu := of_decide_eq_false hbu
  have nk := V.need k (by omega)
  have bk : 1 ≤ Need.Busy (rd (Flow.Needs f) (k : Int)) := by rcases nk with ⟨a, _⟩ | ⟨_, _, a, _⟩ <;> omega
  have b1 : Nat.ble (([] : List Need).length + (Flow.Needs f).length) 1073741824 = true := by rw [Nat.ble_eq]; simp; omega
  have b2 : Nat.ble (([] : List Arc).length + (Flow.Arcs f).length) 1073741824 = true := by rw [Nat.ble_eq]; simp; omega
  rw [b1, b2]
  simp only [cond_true]
  rw [w64_id (n := Flow.Insts f + Flow.Params f) (by omega) (by omega), ← hN, w64_id (n := Flow.N f + 1) (by omega) (by omega), w64_id (n := Flow.N f + 1 + (k : Int)) (by omega) (by omega), w64_id (n := Need.Busy _ + 1) (by omega) (by omega)]
  have b3 : 0 ≤ Flow.N f + 1 + (k : Int) ∧ Flow.N f + 1 + (k : Int) < ((Flow.Arcs f).length : Int) := by omega
  have ek : ((k : Int)).toNat = k := by omega
  rw [ek]
  refine Ev.pos b3 (Ev.pos (by rw [List.length_set]; exact bb) (Ev.pos b3 ?_))
  obtain ⟨V', F', sub⟩ := busier_ok (s := s) V F (by omega) (by omega) (by omega)
  have S' : SIZES (busier f k) := ⟨by show (List.set _ _ _).length ≤ _; rw [List.length_set]; omega, w.sizes.res, by show (List.set _ _ _).length ≤ _; rw [List.length_set]; omega⟩
  have eb : rd (List.set (Flow.Needs f) k (Need.Res (rd (Flow.Needs f) (k : Int)), Need.Busy (rd (Flow.Needs f) (k : Int)) + 1, ())) (k : Int) = (Need.Res (rd (Flow.Needs f) (k : Int)), Need.Busy (rd (Flow.Needs f) (k : Int)) + 1, ()) := by
    rw [rd_set (by omega), if_pos rfl]
  rw [eb]
  refine .bind (clashes_prog w.sizes w.ssizes V F) (.bind (x := clList (busier f k) s) (clashes_prog S' w.ssizes V' F') ?_)
  have l1 := clList_len (s := s) V
  have l2 := clList_len (s := s) V'
  generalize clList f s = a at *
  generalize clList (busier f k) s = b at *
  -- each clash of the one is one of the other
  refine Ev.up (c := fun k i => jacquardlaw35_SchedcheckBusy.c14 k (a.length : Int) (i : Int) a b) (n := a.length) ?_ (fun i hi ih => ?_) 0 (Nat.zero_le _)
  · refine Ev.step (.ret true) fun k => ?_
    simp only [jacquardlaw35_SchedcheckBusy.c14]
    rw [decide_eq_false (by omega)]
    simp only [cond_false]
    rw [decide_eq_true]
    have := sub.length_le
    omega
  · obtain ⟨j, hj, ej⟩ := mem_rd (sub.subset (List.getElem_mem hi))
    have ia : 0 ≤ (i : Int) ∧ (i : Int) < (a.length : Int) := by omega
    have scan := Ev.up (c := fun k m => jacquardlaw35_SchedcheckBusy.c18 k (i : Int) (decide (∃ m', m' < m ∧ rd b (m' : Int) = rd a (i : Int))) (a.length : Int) (i : Int) (b.length : Int) (m : Int) a b) (n := b.length) (y := true) ?_ (fun m hm ih => ?_) 0 (Nat.zero_le _)
    · refine scan.step fun k => ?_
      simp only [jacquardlaw35_SchedcheckBusy.c14]
      rw [decide_eq_true ia.2]
      simp
    · refine ih.step fun k => ?_
      simp only [jacquardlaw35_SchedcheckBusy.c18]
      rw [decide_eq_false (by omega), decide_eq_true ⟨j, hj, by rw [ej, rd_eq hi]⟩]
      simp only [cond_false, Bool.not_true]
      rw [w64_id (by omega) (by omega), natC]
    · refine ih.step fun k => ?_
      have ib : 0 ≤ (m : Int) ∧ (m : Int) < (b.length : Int) := by omega
      simp only [jacquardlaw35_SchedcheckBusy.c18, natC]
      rw [decide_eq_true ib.2, w64_id (n := (m : Int) + 1) (by omega) (by omega)]
      simp only [cond_true, if_pos ia, if_pos ib]
      by_cases h : ∃ m', m' < m ∧ rd b (m' : Int) = rd a (i : Int)
      · rw [decide_eq_true h]
        simp only [cond_true]
        obtain ⟨m', h1, h2⟩ := h
        rw [decide_eq_true ⟨m', by omega, h2⟩]
      · rw [decide_eq_false h]
        simp only [cond_false]
        congr 1
        rw [Bool.eq_iff_iff, decide_eq_true_eq]
        constructor
        · intro h3
          exact ⟨m, by omega, (eqPair.1 h3).symm⟩
        · rintro ⟨m', h1, h2⟩
          by_cases hmm : m' = m
          · subst hmm
            exact eqPair.2 h2.symm
          · exact absurd ⟨m', by omega, h2⟩ h
end
end Go.Proofs.YtklfakmpfinlaaaV
