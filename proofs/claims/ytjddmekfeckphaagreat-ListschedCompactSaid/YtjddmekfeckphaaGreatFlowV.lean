/- Flows: the reference's test for validity. -/
import Derived.Test.YtjddmekfeckphaaGreatFlow
set_option linter.unusedVariables false
set_option linter.unusedSimpArgs false
namespace Go.Proofs.YtjddmekfeckphaaGreatV
open Go Go.Vm

section
variable {f : Flow}

theorem rvalid36 (S : SIZES f) {Q : Prop} (hQ : Q ↔ (∀ i, i < (Flow.Needs f).length → VNeed f (rd (Flow.Needs f) (i : Int)))) : EvP (fun k => jacquardref28_Valid.c36 k ((Flow.Needs f).length : Int) 0 f) Q := by
  have hs := S.needs
  have hs2 := S.res
  refine EvP.all' 1 (c := fun k i => jacquardref28_Valid.c36 k ((Flow.Needs f).length : Int) (i : Int) f) (n := (Flow.Needs f).length) (P := fun i => VNeed f (rd (Flow.Needs f) (i : Int))) (fun q => hQ.1 q) (fun i hi k => ?_) (fun h => ?_)
  · have h1 : (i : Int) < ((Flow.Needs f).length : Int) := by omega
    simp only [jacquardref28_Valid.c36, natC]
    simp (disch := omega) only [w64_id]
    rw [decide_eq_true h1, if_pos (by omega)]
    unfold VNeed
    generalize rd (Flow.Needs f) (i : Int) = a
    simp only [cond_true]
    generalize jacquardref28_Valid.c36 k _ _ _ = r
    obtain ⟨a1, a2, _⟩ := a
    have hL : 0 ≤ ((Flow.Res f).length : Int) := by omega
    clear hs2
    generalize ((Flow.Res f).length : Int) = L at *
    clear hQ h1 hi hs S
    grind (splits := 40)
  · refine EvP.step (.tt (hQ.2 h)) fun k => ?_
    simp only [jacquardref28_Valid.c36]
    rw [decide_eq_false (by omega)]
    rfl

theorem rvalid29 (S : SIZES f) {Q : Prop} (i0 : 0 ≤ Flow.Insts f) (i1 : Flow.Insts f ≤ 4096) (p0 : 0 ≤ Flow.Params f) (p1 : Flow.Params f ≤ 4094) (hl : 2 * Flow.N f + 1 ≤ ((Flow.Arcs f).length : Int)) (hnd : ((Flow.Needs f).length : Int) = Flow.Insts f)
    (hQ : Q ↔ (∀ v : Nat, v < (Flow.N f).toNat → VTail f v) ∧ ∀ i, i < (Flow.Needs f).length → VNeed f (rd (Flow.Needs f) (i : Int))) : EvP (fun k => jacquardref28_Valid.c29 k (Flow.N f + 2) (Flow.N f) 0 f) Q := by
  have hNe : Flow.N f = Flow.Insts f + Flow.Params f := rfl
  have hN : ((Flow.N f).toNat : Int) = Flow.N f := by omega
  have hs := S.arcs
  refine EvP.all' 1 (c := fun k i => jacquardref28_Valid.c29 k (Flow.N f + 2) (Flow.N f) (i : Int) f) (n := (Flow.N f).toNat) (P := VTail f) (fun q => (hQ.1 q).1) (fun i hi k => ?_) (fun h => ?_)
  · have h1 : (i : Int) < Flow.N f := by omega
    have e1 : Flow.N f + 2 - 1 = Flow.N f + 1 := by omega
    simp only [jacquardref28_Valid.c29, jacquardref28_End.f, Option.bind_some, natC]
    simp (disch := omega) only [w64_id]
    rw [decide_eq_true h1, e1, if_pos (by omega)]
    unfold VTail
    simp only [cond_true, lt_mx]
    clear hQ
    generalize rd (Flow.Arcs f) (Flow.N f + 1 + (i : Int)) = a
    generalize jacquardref28_Valid.c29 k _ _ _ _ = r
    have hb : ((i : Int) < Flow.Insts f) → (0 ≤ (i : Int) ∧ (i : Int) < ((Flow.Needs f).length : Int)) := fun h => by omega
    generalize rd (Flow.Needs f) (i : Int) = z at *
    obtain ⟨a1, a2, a3, a4, _⟩ := a
    obtain ⟨z1, z2, _⟩ := z
    unfold Flow.N
    generalize ((Flow.Needs f).length : Int) = L at *
    clear h1 hi hs hN hNe hnd hl p1 p0 i1 i0 S e1
    generalize Flow.Insts f = I at *
    generalize Flow.Params f = p at *
    grind (splits := 40)
  · refine EvP.step (rvalid36 S (Q := Q) (hQ.trans ⟨fun q => q.2, fun q => ⟨h, q⟩⟩)) fun k => ?_
    simp only [jacquardref28_Valid.c29]
    rw [hN, decide_eq_false (by omega)]
    rfl

theorem rvalid23 (S : SIZES f) {Q : Prop} (i0 : 0 ≤ Flow.Insts f) (i1 : Flow.Insts f ≤ 4096) (p0 : 0 ≤ Flow.Params f) (p1 : Flow.Params f ≤ 4094) (hl : 2 * Flow.N f + 1 ≤ ((Flow.Arcs f).length : Int)) (hnd : ((Flow.Needs f).length : Int) = Flow.Insts f)
    (hQ : Q ↔ (∀ i, i < (Flow.Res f).length → VRes (rd (Flow.Res f) (i : Int))) ∧ (∀ v : Nat, v < (Flow.N f).toNat → VTail f v) ∧ ∀ i, i < (Flow.Needs f).length → VNeed f (rd (Flow.Needs f) (i : Int))) :
    EvP (fun k => jacquardref28_Valid.c23 k (Flow.N f + 2) ((Flow.Res f).length : Int) 0 f) Q := by
  have hs := S.res
  have hNe : Flow.N f = Flow.Insts f + Flow.Params f := rfl
  refine EvP.all' 1 (c := fun k i => jacquardref28_Valid.c23 k (Flow.N f + 2) ((Flow.Res f).length : Int) (i : Int) f) (n := (Flow.Res f).length) (P := fun i => VRes (rd (Flow.Res f) (i : Int))) (fun q => (hQ.1 q).1) (fun i hi k => ?_) (fun h => ?_)
  · have h1 : (i : Int) < ((Flow.Res f).length : Int) := by omega
    have h2 : 0 ≤ (i : Int) ∧ (i : Int) < ((Flow.Res f).length : Int) := by omega
    simp only [jacquardref28_Valid.c23, natC]
    simp (disch := omega) only [w64_id]
    rw [decide_eq_true h1]
    simp only [if_pos h2]
    unfold VRes
    generalize rd (Flow.Res f) (i : Int) = a
    simp only [cond_true]
    generalize jacquardref28_Valid.c23 k _ _ _ _ = r
    obtain ⟨a1, a2, a3, a4, _⟩ := a
    clear hQ h1 h2 hi hs hnd p1 p0 i1 i0 S
    grind (splits := 40)
  · refine EvP.step (rvalid29 S i0 i1 p0 p1 hl hnd (Q := Q) (hQ.trans ⟨fun q => q.2, fun q => ⟨h, q⟩⟩)) fun k => ?_
    simp only [jacquardref28_Valid.c23]
    simp (disch := omega) only [w64_id]
    rw [decide_eq_false (show ¬ ((Flow.Res f).length : Int) < ((Flow.Res f).length : Int) by omega), show Flow.N f + 2 - 2 = Flow.N f by omega]
    rfl

theorem rvalid14 (S : SIZES f) {Q : Prop} (i0 : 0 ≤ Flow.Insts f) (i1 : Flow.Insts f ≤ 4096) (p0 : 0 ≤ Flow.Params f) (p1 : Flow.Params f ≤ 4094) (hl : 2 * Flow.N f + 1 ≤ ((Flow.Arcs f).length : Int)) (hnd : ((Flow.Needs f).length : Int) = Flow.Insts f)
    (hQ : Q ↔ (∀ v : Nat, v < (Flow.N f).toNat + 1 → VHead f v) ∧ (∀ i, i < (Flow.Res f).length → VRes (rd (Flow.Res f) (i : Int))) ∧ (∀ v : Nat, v < (Flow.N f).toNat → VTail f v) ∧ ∀ i, i < (Flow.Needs f).length → VNeed f (rd (Flow.Needs f) (i : Int))) :
    EvP (fun k => jacquardref28_Valid.c14 k (Flow.N f + 2) (Flow.N f + 1) 0 f) Q := by
  have hNe : Flow.N f = Flow.Insts f + Flow.Params f := rfl
  have hN : ((Flow.N f).toNat : Int) = Flow.N f := by omega
  have hs := S.arcs
  refine EvP.all' 2 (c := fun k i => jacquardref28_Valid.c14 k (Flow.N f + 2) (Flow.N f + 1) (i : Int) f) (n := (Flow.N f).toNat + 1) (P := VHead f) (fun q => (hQ.1 q).1) (fun i hi k => ?_) (fun h => ?_)
  · have h1 : (i : Int) < Flow.N f + 1 := by omega
    show _ ∧ jacquardref28_Valid.c14 (k + 1 + 1) _ _ _ _ = _ ∨ _ ∧ jacquardref28_Valid.c14 (k + 1 + 1) _ _ _ _ = _
    simp only [jacquardref28_Valid.c14, jacquardref28_Valid.c19, jacquardref28_Source.f, Option.bind_some, natC]
    simp (disch := omega) only [w64_id]
    have hb : 0 ≤ (i : Int) ∧ (i : Int) < ((Flow.Arcs f).length : Int) := by omega
    rw [decide_eq_true h1]
    simp only [if_pos hb, cond_true]
    unfold VHead
    by_cases he : (i : Int) = Flow.N f
    · rw [decide_eq_true (show Flow.Insts f + Flow.Params f ≤ (i : Int) by omega), if_pos he]
      simp only [cond_true]
      by_cases hq : rd (Flow.Arcs f) (i : Int) = (Flow.N f, Flow.N f + 1, 0, 0, ())
      · exact .inl ⟨hq, by rw [eqArc.2 (by rw [hq, he])]; rfl⟩
      · exact .inr ⟨hq, by rw [Bool.eq_false_iff.2 (fun e => hq ((eqArc.1 e).trans (by rw [← hNe, he])))]; rfl⟩
    · rw [decide_eq_false (show ¬ Flow.Insts f + Flow.Params f ≤ (i : Int) by omega), if_neg he]
      simp only [cond_false]
      by_cases hq : rd (Flow.Arcs f) (i : Int) = (Flow.N f, (i : Int), 0, 0, ())
      · exact .inl ⟨hq, by rw [eqArc.2 hq]; rfl⟩
      · exact .inr ⟨hq, by rw [Bool.eq_false_iff.2 (fun e => hq (eqArc.1 e))]; rfl⟩
  · refine EvP.step (rvalid23 S i0 i1 p0 p1 hl hnd (Q := Q) (hQ.trans ⟨fun q => q.2, fun q => ⟨h, q⟩⟩)) fun k => ?_
    simp only [jacquardref28_Valid.c14]
    rw [decide_eq_false (by omega)]
    rfl

theorem rvalid5 (S : SIZES f) {Q : Prop} (i0 : 0 ≤ Flow.Insts f) (i1 : Flow.Insts f ≤ 4096) (p0 : 0 ≤ Flow.Params f) (p1 : Flow.Params f ≤ 4094) (hnd : ((Flow.Needs f).length : Int) = Flow.Insts f)
    (hQ : Q ↔ (∀ i, i < (Flow.Arcs f).length → VArc f (rd (Flow.Arcs f) (i : Int))) ∧ 2 * Flow.N f + 1 ≤ ((Flow.Arcs f).length : Int) ∧ (∀ v : Nat, v < (Flow.N f).toNat + 1 → VHead f v) ∧ (∀ i, i < (Flow.Res f).length → VRes (rd (Flow.Res f) (i : Int))) ∧ (∀ v : Nat, v < (Flow.N f).toNat → VTail f v) ∧ ∀ i, i < (Flow.Needs f).length → VNeed f (rd (Flow.Needs f) (i : Int))) :
    EvP (fun k => jacquardref28_Valid.c5 k (Flow.N f + 2) ((Flow.Arcs f).length : Int) 0 f) Q := by
  have hs := S.arcs
  have hNe : Flow.N f = Flow.Insts f + Flow.Params f := rfl
  refine EvP.all' 1 (c := fun k i => jacquardref28_Valid.c5 k (Flow.N f + 2) ((Flow.Arcs f).length : Int) (i : Int) f) (n := (Flow.Arcs f).length) (P := fun i => VArc f (rd (Flow.Arcs f) (i : Int))) (fun q => (hQ.1 q).1) (fun i hi k => ?_) (fun h => ?_)
  · have h1 : (i : Int) < ((Flow.Arcs f).length : Int) := by omega
    simp only [jacquardref28_Valid.c5, natC]
    simp (disch := omega) only [w64_id]
    rw [decide_eq_true h1, if_pos (by omega)]
    unfold VArc Flow.N
    generalize rd (Flow.Arcs f) (i : Int) = a
    generalize Flow.Loop f = lo
    simp only [cond_true]
    generalize jacquardref28_Valid.c5 k _ _ _ _ = r
    obtain ⟨a1, a2, a3, a4, _⟩ := a
    generalize Flow.Insts f + Flow.Params f = N at *
    clear hQ h1 hi hs hnd p1 p0 i1 i0 S hNe
    cases lo <;> grind (splits := 40)
  · have hcond : ∀ k, jacquardref28_Valid.c5 (k + 1) (Flow.N f + 2) ((Flow.Arcs f).length : Int) ((Flow.Arcs f).length : Int) f = bif decide (((Flow.Arcs f).length : Int) < 2 * Flow.N f + 1) then some false else jacquardref28_Valid.c14 k (Flow.N f + 2) (Flow.N f + 1) 0 f := fun k => by
      simp only [jacquardref28_Valid.c5]
      simp (disch := omega) only [w64_id]
      rw [decide_eq_false (show ¬ ((Flow.Arcs f).length : Int) < ((Flow.Arcs f).length : Int) by omega), show 2 * (Flow.N f + 2) - 3 = 2 * Flow.N f + 1 by omega, show Flow.N f + 2 - 1 = Flow.N f + 1 by omega]
      rfl
    refine EvP.step (.cond (fun hlt => .ff fun q => ?_) (fun hlt => ?_)) hcond
    · have := of_decide_eq_true hlt
      have := (hQ.1 q).2.1
      omega
    · have hlt := of_decide_eq_false hlt
      exact rvalid14 S i0 i1 p0 p1 (by omega) hnd (hQ.trans ⟨fun q => q.2.2, fun q => ⟨h, by omega, q⟩⟩)

theorem valid_ref (S : SIZES f) : EvP (fun k => jacquardref28_Valid.f k f) (VALID f) := by
  simp only [jacquardref28_Valid.f]
  refine .cond (fun h => .ff fun v => ?_) fun h1 => .cond (fun h => .ff fun v => ?_) fun h2 => .cond (fun h => .ff fun v => ?_) fun h3 => .cond (fun h => .ff fun v => ?_) fun h4 => .cond (fun h => .ff fun v => ?_) fun h5 => ?_
  · have := of_decide_eq_true h; have := v.i0; omega
  · have := of_decide_eq_true h; have := v.i1; omega
  · have := of_decide_eq_true h; have := v.p0; omega
  · have := of_decide_eq_true h; have := v.p1; omega
  · have := v.needs; simp [this] at h
  · have h1 := of_decide_eq_false h1
    have h2 := of_decide_eq_false h2
    have h3 := of_decide_eq_false h3
    have h4 := of_decide_eq_false h4
    have h5 : ((Flow.Needs f).length : Int) = Flow.Insts f := by simpa using h5
    simp (disch := omega) only [w64_id]
    exact rvalid5 S (by omega) (by omega) (by omega) (by omega) h5 (Q := VALID f) ⟨fun v => ⟨v.arcs, v.len, v.head, v.res, v.tail, v.need⟩, fun ⟨a1, a2, a3, a4, a5, a6⟩ => ⟨by omega, by omega, by omega, by omega, h5, a1, a2, a3, a4, a5, a6⟩⟩

/-! ### schedules that fit -/
structure FITS (f : Flow) (s : Sched) : Prop where
  start : ((Sched.Start s).length : Int) = Flow.Insts f
  unit : ((Sched.Unit s).length : Int) = Flow.Insts f
  params : ((Sched.Params s).length : Int) = Flow.Params f
  ii : 0 ≤ Sched.II s ∧ Sched.II s ≤ 256
  loop : 0 < Sched.II s ↔ Flow.Loop f = true
  depth : 1 ≤ Sched.Depth s ∧ Sched.Depth s ≤ 4096
  starts : ∀ i, i < (Sched.Start s).length → 0 ≤ rd (Sched.Start s) (i : Int) ∧ rd (Sched.Start s) (i : Int) ≤ 4096
  parms : ∀ i, i < (Sched.Params s).length → 0 ≤ rd (Sched.Params s) (i : Int) ∧ rd (Sched.Params s) (i : Int) ≤ 4096
  units : ∀ i, i < (Sched.Unit s).length → (Need.Res (rd (Flow.Needs f) (i : Int)) < 0 → rd (Sched.Unit s) (i : Int) = -1) ∧
    (0 ≤ Need.Res (rd (Flow.Needs f) (i : Int)) → 0 ≤ rd (Sched.Unit s) (i : Int) ∧ rd (Sched.Unit s) (i : Int) < Resource.Count (rd (Flow.Res f) (Need.Res (rd (Flow.Needs f) (i : Int)))))

structure SSIZES (s : Sched) : Prop where
  start : (Sched.Start s).length ≤ 1000000000
  unit : (Sched.Unit s).length ≤ 1000000000
  params : (Sched.Params s).length ≤ 1000000000

variable {s : Sched}

theorem rfits11 (S : SSIZES s) {Q : Prop} (hQ : Q ↔ ∀ i, i < (Sched.Params s).length → 0 ≤ rd (Sched.Params s) (i : Int) ∧ rd (Sched.Params s) (i : Int) ≤ 4096) : EvP (fun k => jacquardref28_Fits.c11 k ((Sched.Params s).length : Int) 0 s) Q := by
  have hs := S.params
  refine EvP.all' 1 (c := fun k i => jacquardref28_Fits.c11 k ((Sched.Params s).length : Int) (i : Int) s) (n := (Sched.Params s).length) (P := fun i => 0 ≤ rd (Sched.Params s) (i : Int) ∧ rd (Sched.Params s) (i : Int) ≤ 4096) (fun q => hQ.1 q) (fun i hi k => ?_) (fun h => ?_)
  · have h1 : (i : Int) < ((Sched.Params s).length : Int) := by omega
    have h2 : 0 ≤ (i : Int) ∧ (i : Int) < ((Sched.Params s).length : Int) := by omega
    simp only [jacquardref28_Fits.c11, natC]
    simp (disch := omega) only [w64_id]
    rw [decide_eq_true h1]
    simp only [if_pos h2, cond_true]
    generalize rd (Sched.Params s) (i : Int) = a
    generalize jacquardref28_Fits.c11 k _ _ _ = r
    clear hQ h1 h2 hi hs S
    grind
  · refine EvP.step (.tt (hQ.2 h)) fun k => ?_
    simp only [jacquardref28_Fits.c11]
    rw [decide_eq_false (by omega)]
    rfl

theorem fits_ref (V : VALID f) (S : SSIZES s) : EvP (fun k => jacquardref28_Fits.f k f s) (FITS f s) := by
  simp only [jacquardref28_Fits.f]
  have hs1 := S.start
  refine .cond (fun h => .ff fun v => ?_) fun h1 => .cond (fun h => .ff fun v => ?_) fun h2 => .cond (fun h => .ff fun v => ?_) fun h3 => .cond (fun h => .ff fun v => ?_) fun h4 => .cond (fun h => .ff fun v => ?_) fun h5 =>
    .cond (fun h => .ff fun v => ?_) fun h6 => .cond (fun h => .ff fun v => ?_) fun h7 => .cond (fun h => .ff fun v => ?_) fun h8 => ?_
  · have := v.start; simp [this] at h
  · have := v.unit; simp [this] at h
  · have := v.params; simp [this] at h
  · have := of_decide_eq_true h; have := v.ii; omega
  · have := of_decide_eq_true h; have := v.ii; omega
  · have := v.loop
    cases hl : Flow.Loop f <;> rw [hl] at h this <;> simp at h this <;> omega
  · have := of_decide_eq_true h; have := v.depth; omega
  · have := of_decide_eq_true h; have := v.depth; omega
  · have h1 : ((Sched.Start s).length : Int) = Flow.Insts f := by simpa using h1
    have h2 : ((Sched.Unit s).length : Int) = Flow.Insts f := by simpa using h2
    have h3 : ((Sched.Params s).length : Int) = Flow.Params f := by simpa using h3
    have h4 := of_decide_eq_false h4
    have h5 := of_decide_eq_false h5
    have h6 : 0 < Sched.II s ↔ Flow.Loop f = true := by
      cases hl : Flow.Loop f <;> rw [hl] at h6 <;> simp at h6 ⊢ <;> omega
    have h7 := of_decide_eq_false h7
    have h8 := of_decide_eq_false h8
    have hnd := V.needs
    refine EvP.all' 1 (c := fun k i => jacquardref28_Fits.c4 k ((Sched.Start s).length : Int) (i : Int) f s) (n := (Sched.Start s).length)
      (P := fun i => (0 ≤ rd (Sched.Start s) (i : Int) ∧ rd (Sched.Start s) (i : Int) ≤ 4096) ∧ (Need.Res (rd (Flow.Needs f) (i : Int)) < 0 → rd (Sched.Unit s) (i : Int) = -1) ∧
        (0 ≤ Need.Res (rd (Flow.Needs f) (i : Int)) → 0 ≤ rd (Sched.Unit s) (i : Int) ∧ rd (Sched.Unit s) (i : Int) < Resource.Count (rd (Flow.Res f) (Need.Res (rd (Flow.Needs f) (i : Int))))))
      (fun q i hi => ⟨q.starts i hi, q.units i (by omega)⟩) (fun i hi k => ?_) (fun h => ?_)
    · have g1 : (i : Int) < ((Sched.Start s).length : Int) := by omega
      have g2 : 0 ≤ (i : Int) ∧ (i : Int) < ((Sched.Start s).length : Int) := by omega
      have g3 : 0 ≤ (i : Int) ∧ (i : Int) < ((Sched.Unit s).length : Int) := by omega
      have g4 : 0 ≤ (i : Int) ∧ (i : Int) < ((Flow.Needs f).length : Int) := by omega
      have vn := V.need i (by omega)
      unfold VNeed at vn
      simp only [jacquardref28_Fits.c4, natC]
      simp (disch := omega) only [w64_id]
      rw [decide_eq_true g1]
      simp only [if_pos g2, if_pos g3, if_pos g4, cond_true]
      generalize rd (Sched.Start s) (i : Int) = st
      generalize rd (Sched.Unit s) (i : Int) = un
      generalize rd (Flow.Needs f) (i : Int) = nd at *
      obtain ⟨nr, nb, _⟩ := nd
      have e1 : Need.Res (nr, nb, ()) = nr := rfl
      rw [e1]
      generalize hc : Resource.Count (rd (Flow.Res f) nr) = ct
      generalize jacquardref28_Fits.c4 k _ _ _ _ = r
      have vn' : nr = -1 ∨ (0 ≤ nr ∧ nr < ((Flow.Res f).length : Int)) := by
        rcases vn with ⟨a, _⟩ | ⟨a, b, _⟩
        · exact .inl a
        · exact .inr ⟨a, b⟩
      clear vn g1 g2 g3 g4 hi hnd h1 h2 h3 h4 h5 h6 h7 h8 hs1 S V hc
      generalize ((Flow.Res f).length : Int) = L at *
      grind (splits := 40)
    · refine EvP.step (rfits11 S (Q := FITS f s) ⟨fun q => q.parms, fun q => ⟨h1, h2, h3, by omega, h6, by omega, fun i hi => (h i hi).1, q, fun i hi => (h i (by omega)).2⟩⟩) fun k => ?_
      simp only [jacquardref28_Fits.c4]
      rw [decide_eq_false (by omega)]
      rfl
end
end Go.Proofs.YtjddmekfeckphaaGreatV
