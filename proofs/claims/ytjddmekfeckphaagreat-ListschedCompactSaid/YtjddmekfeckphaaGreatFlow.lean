/- Flows: what it is to be valid; that program and reference agree on it. -/
import Derived.Test.YtjddmekfeckphaaGreatPl
import Derived.Test.YtjddmekfeckphaaGreatF
set_option linter.unusedVariables false
set_option linter.unusedSimpArgs false
namespace Go.Proofs.YtjddmekfeckphaaGreatV
open Go Go.Vm

/-- nodes without source and end -/
abbrev Flow.N (f : Flow) : Int := Flow.Insts f + Flow.Params f

def VArc (f : Flow) (a : Arc) : Prop := 0 ≤ Arc.From a ∧ Arc.From a ≤ Flow.N f ∧ 0 ≤ Arc.To a ∧ Arc.To a ≤ Flow.N f + 1 ∧ 0 ≤ Arc.Lat a ∧ Arc.Lat a ≤ 4096 ∧ 0 ≤ Arc.Dist a ∧ Arc.Dist a ≤ 256 ∧ (Flow.Loop f = false → Arc.Dist a = 0)
def VHead (f : Flow) (v : Nat) : Prop := rd (Flow.Arcs f) (v : Int) = (Flow.N f, if (v : Int) = Flow.N f then Flow.N f + 1 else (v : Int), 0, 0, ())
def VRes (r : Resource) : Prop := 1 ≤ Resource.Kind r ∧ Resource.Kind r ≤ 4 ∧ 1 ≤ Resource.Count r ∧ Resource.Count r ≤ 1024
def VTail (f : Flow) (v : Nat) : Prop := Arc.From (rd (Flow.Arcs f) (Flow.N f + 1 + v)) = v ∧ Arc.To (rd (Flow.Arcs f) (Flow.N f + 1 + v)) = Flow.N f + 1 ∧ Arc.Dist (rd (Flow.Arcs f) (Flow.N f + 1 + v)) = 0 ∧
  ((v : Int) < Flow.Insts f → 1 ≤ Arc.Lat (rd (Flow.Arcs f) (Flow.N f + 1 + v)) ∧ Need.Busy (rd (Flow.Needs f) (v : Int)) ≤ Arc.Lat (rd (Flow.Arcs f) (Flow.N f + 1 + v)))
def VNeed (f : Flow) (x : Need) : Prop := (Need.Res x = -1 ∧ Need.Busy x = 0) ∨ (0 ≤ Need.Res x ∧ Need.Res x < ((Flow.Res f).length : Int) ∧ 1 ≤ Need.Busy x ∧ Need.Busy x ≤ 256)

structure VALID (f : Flow) : Prop where
  i0 : 0 ≤ Flow.Insts f
  i1 : Flow.Insts f ≤ 4096
  p0 : 0 ≤ Flow.Params f
  p1 : Flow.Params f ≤ 4094
  needs : ((Flow.Needs f).length : Int) = Flow.Insts f
  arcs : ∀ i, i < (Flow.Arcs f).length → VArc f (rd (Flow.Arcs f) (i : Int))
  len : 2 * Flow.N f + 1 ≤ ((Flow.Arcs f).length : Int)
  head : ∀ v : Nat, v < (Flow.N f).toNat + 1 → VHead f v
  res : ∀ i, i < (Flow.Res f).length → VRes (rd (Flow.Res f) (i : Int))
  tail : ∀ v : Nat, v < (Flow.N f).toNat → VTail f v
  need : ∀ i, i < (Flow.Needs f).length → VNeed f (rd (Flow.Needs f) (i : Int))

theorem eqArc {a b : Arc} : eqB Arc.T a b = true ↔ a = b := by
  obtain ⟨a1, a2, a3, a4, _⟩ := a
  obtain ⟨b1, b2, b3, b4, _⟩ := b
  simp [eqB]

/-- how long the lists are -/
structure SIZES (f : Flow) : Prop where
  arcs : (Flow.Arcs f).length ≤ 1000000000
  res : (Flow.Res f).length ≤ 1000000000
  needs : (Flow.Needs f).length ≤ 1000000000

section
variable {f : Flow}

theorem c6_step (k : Nat) (x : Int) (f : Flow) : dataflow_Valid.c6 (k + 1) x f = dataflow_Valid.c7 k x (Flow.Arcs f) ((Flow.Arcs f).length : Int) 0 f := by simp only [dataflow_Valid.c6]

theorem framed14 (S : SIZES f) {Q : Prop} (i0 : 0 ≤ Flow.Insts f) (i1 : Flow.Insts f ≤ 4096) (p0 : 0 ≤ Flow.Params f) (p1 : Flow.Params f ≤ 4094) (hl : 2 * Flow.N f + 1 ≤ ((Flow.Arcs f).length : Int)) (hnd : ((Flow.Needs f).length : Int) = Flow.Insts f)
    (hQ : Q ↔ ∀ v : Nat, v < (Flow.N f).toNat → VTail f v) : EvP (fun k => dataflow_framed.c14 k (Flow.N f) (Flow.N f) 0 f) Q := by
  have hNe : Flow.N f = Flow.Insts f + Flow.Params f := rfl
  have hN : ((Flow.N f).toNat : Int) = Flow.N f := by omega
  have hs := S.arcs
  refine EvP.all' 1 (c := fun k i => dataflow_framed.c14 k (Flow.N f) (Flow.N f) (i : Int) f) (n := (Flow.N f).toNat) (P := VTail f) (fun q => hQ.1 q) (fun i hi k => ?_) (fun h => ?_)
  · have h1 : (i : Int) < Flow.N f := by omega
    simp only [dataflow_framed.c14, dataflow_End.f, Option.bind_some, natC]
    simp (disch := omega) only [w64_id]
    rw [decide_eq_true h1, if_pos (by omega)]
    unfold VTail
    simp only [cond_true, lt_mx]
    clear hQ
    generalize rd (Flow.Arcs f) (Flow.N f + 1 + (i : Int)) = a
    generalize dataflow_framed.c14 k _ _ _ _ = r
    have hb : ((i : Int) < Flow.Insts f) → (0 ≤ (i : Int) ∧ (i : Int) < ((Flow.Needs f).length : Int)) := fun h => by omega
    generalize rd (Flow.Needs f) (i : Int) = z at *
    obtain ⟨a1, a2, a3, a4, _⟩ := a
    obtain ⟨z1, z2, _⟩ := z
    unfold Flow.N
    generalize ((Flow.Needs f).length : Int) = L at *
    clear h1 hi hs hN hNe hnd hl p1 p0 i1 i0 S
    generalize Flow.Insts f = I at *
    generalize Flow.Params f = p at *
    grind (splits := 40)
  · refine EvP.step (.tt (hQ.2 h)) fun k => ?_
    simp only [dataflow_framed.c14]
    rw [hN]
    simp

theorem framed5 (S : SIZES f) {Q : Prop} (i0 : 0 ≤ Flow.Insts f) (i1 : Flow.Insts f ≤ 4096) (p0 : 0 ≤ Flow.Params f) (p1 : Flow.Params f ≤ 4094) (hl : 2 * Flow.N f + 1 ≤ ((Flow.Arcs f).length : Int)) (hnd : ((Flow.Needs f).length : Int) = Flow.Insts f)
    (hQ : Q ↔ (∀ v : Nat, v < (Flow.N f).toNat + 1 → VHead f v) ∧ ∀ v : Nat, v < (Flow.N f).toNat → VTail f v) : EvP (fun k => dataflow_framed.c5 k (Flow.N f) (Flow.N f + 1) 0 f) Q := by
  have hNe : Flow.N f = Flow.Insts f + Flow.Params f := rfl
  have hN : ((Flow.N f).toNat : Int) = Flow.N f := by omega
  have hs := S.arcs
  refine EvP.all' 2 (c := fun k i => dataflow_framed.c5 k (Flow.N f) (Flow.N f + 1) (i : Int) f) (n := (Flow.N f).toNat + 1) (P := VHead f) (fun q => (hQ.1 q).1) (fun i hi k => ?_) (fun h => ?_)
  · have h1 : (i : Int) < Flow.N f + 1 := by omega
    show _ ∧ dataflow_framed.c5 (k + 1 + 1) _ _ _ _ = _ ∨ _ ∧ dataflow_framed.c5 (k + 1 + 1) _ _ _ _ = _
    simp only [dataflow_framed.c5, dataflow_framed.c10, dataflow_End.f, Option.bind_some, natC]
    simp (disch := omega) only [w64_id]
    have hb : 0 ≤ (i : Int) ∧ (i : Int) < ((Flow.Arcs f).length : Int) := by omega
    rw [decide_eq_true h1]
    simp only [if_pos hb, cond_true]
    unfold VHead
    by_cases he : (i : Int) = Flow.N f
    · rw [decide_eq_true he, if_pos he]
      simp only [cond_true]
      by_cases hq : rd (Flow.Arcs f) (i : Int) = (Flow.N f, Flow.N f + 1, 0, 0, ())
      · exact .inl ⟨hq, by rw [eqArc.2 hq]; rfl⟩
      · exact .inr ⟨hq, by rw [Bool.eq_false_iff.2 (fun e => hq (eqArc.1 e))]; rfl⟩
    · rw [decide_eq_false he, if_neg he]
      simp only [cond_false]
      by_cases hq : rd (Flow.Arcs f) (i : Int) = (Flow.N f, (i : Int), 0, 0, ())
      · exact .inl ⟨hq, by rw [eqArc.2 hq]; rfl⟩
      · exact .inr ⟨hq, by rw [Bool.eq_false_iff.2 (fun e => hq (eqArc.1 e))]; rfl⟩
  · refine EvP.step (framed14 S i0 i1 p0 p1 hl hnd (Q := Q) (hQ.trans ⟨fun q => q.2, fun q => ⟨h, q⟩⟩)) fun k => ?_
    simp only [dataflow_framed.c5]
    rw [decide_eq_false (by omega)]
    rfl

theorem framed_ev (S : SIZES f) (i0 : 0 ≤ Flow.Insts f) (i1 : Flow.Insts f ≤ 4096) (p0 : 0 ≤ Flow.Params f) (p1 : Flow.Params f ≤ 4094) (hnd : ((Flow.Needs f).length : Int) = Flow.Insts f) :
    EvP (fun k => dataflow_framed.f k f) (2 * Flow.N f + 1 ≤ ((Flow.Arcs f).length : Int) ∧ (∀ v : Nat, v < (Flow.N f).toNat + 1 → VHead f v) ∧ ∀ v : Nat, v < (Flow.N f).toNat → VTail f v) := by
  have hNe : Flow.N f = Flow.Insts f + Flow.Params f := rfl
  have hs := S.arcs
  simp only [dataflow_framed.f, dataflow_Source.f, Option.bind_some]
  simp (disch := omega) only [w64_id]
  refine .cond (fun h => .ff fun q => ?_) (fun h => ?_)
  · have := of_decide_eq_true h
    omega
  · have h := of_decide_eq_false h
    exact framed5 S i0 i1 p0 p1 (by omega) hnd ⟨fun q => q.2, fun q => ⟨by omega, q⟩⟩

theorem valid19 (S : SIZES f) {Q : Prop} (i0 : 0 ≤ Flow.Insts f) (i1 : Flow.Insts f ≤ 4096) (p0 : 0 ≤ Flow.Params f) (p1 : Flow.Params f ≤ 4094) (hnd : ((Flow.Needs f).length : Int) = Flow.Insts f)
    (hQ : Q ↔ (∀ i, i < (Flow.Needs f).length → VNeed f (rd (Flow.Needs f) (i : Int))) ∧ 2 * Flow.N f + 1 ≤ ((Flow.Arcs f).length : Int) ∧ (∀ v : Nat, v < (Flow.N f).toNat + 1 → VHead f v) ∧ ∀ v : Nat, v < (Flow.N f).toNat → VTail f v) :
    EvP (fun k => dataflow_Valid.c19 k (Flow.Needs f) ((Flow.Needs f).length : Int) 0 f) Q := by
  have hs := S.needs
  have hs2 := S.res
  refine EvP.all' 1 (c := fun k i => dataflow_Valid.c19 k (Flow.Needs f) ((Flow.Needs f).length : Int) (i : Int) f) (n := (Flow.Needs f).length) (P := fun i => VNeed f (rd (Flow.Needs f) (i : Int))) (fun q => (hQ.1 q).1) (fun i hi k => ?_) (fun h => ?_)
  · have h1 : (i : Int) < ((Flow.Needs f).length : Int) := by omega
    simp only [dataflow_Valid.c19, dataflow_between.f, natC]
    simp (disch := omega) only [w64_id]
    rw [decide_eq_true h1, if_pos (by omega)]
    unfold VNeed
    generalize rd (Flow.Needs f) (i : Int) = a
    simp only [cond_true]
    grind
  · refine EvP.step (g := fun k => (dataflow_framed.f k f).bind fun y => some y) (.iff (.test (framed_ev S i0 i1 p0 p1 hnd) (fun h2 => .tt h2) (fun h2 => .ff h2)) ?_) fun k => ?_
    · rw [hQ]; exact ⟨fun q => ⟨h, q⟩, fun q => q.2⟩
    · simp only [dataflow_Valid.c19]
      rw [decide_eq_false (by omega)]
      rfl

theorem valid13 (S : SIZES f) {Q : Prop} (i0 : 0 ≤ Flow.Insts f) (i1 : Flow.Insts f ≤ 4096) (p0 : 0 ≤ Flow.Params f) (p1 : Flow.Params f ≤ 4094) (hnd : ((Flow.Needs f).length : Int) = Flow.Insts f)
    (hQ : Q ↔ (∀ i, i < (Flow.Res f).length → VRes (rd (Flow.Res f) (i : Int))) ∧ (∀ i, i < (Flow.Needs f).length → VNeed f (rd (Flow.Needs f) (i : Int))) ∧ 2 * Flow.N f + 1 ≤ ((Flow.Arcs f).length : Int) ∧ (∀ v : Nat, v < (Flow.N f).toNat + 1 → VHead f v) ∧ ∀ v : Nat, v < (Flow.N f).toNat → VTail f v) :
    EvP (fun k => dataflow_Valid.c13 k (Flow.Res f) ((Flow.Res f).length : Int) 0 f) Q := by
  have hs := S.res
  refine EvP.all' 1 (c := fun k i => dataflow_Valid.c13 k (Flow.Res f) ((Flow.Res f).length : Int) (i : Int) f) (n := (Flow.Res f).length) (P := fun i => VRes (rd (Flow.Res f) (i : Int))) (fun q => (hQ.1 q).1) (fun i hi k => ?_) (fun h => ?_)
  · have h1 : (i : Int) < ((Flow.Res f).length : Int) := by omega
    simp only [dataflow_Valid.c13, dataflow_between.f, natC]
    simp (disch := omega) only [w64_id]
    rw [decide_eq_true h1, if_pos (by omega)]
    unfold VRes
    generalize rd (Flow.Res f) (i : Int) = a
    simp only [cond_true]
    generalize dataflow_Valid.c13 k _ _ _ _ = r
    obtain ⟨a1, a2, a3, a4, _⟩ := a
    clear hQ h1 hi hs hnd p1 p0 i1 i0 S
    grind (splits := 40)
  · refine EvP.step (valid19 S i0 i1 p0 p1 hnd (Q := Q) (hQ.trans ⟨fun q => q.2, fun q => ⟨h, q⟩⟩)) fun k => ?_
    simp only [dataflow_Valid.c13]
    rw [decide_eq_false (by omega)]
    rfl

theorem valid7 (S : SIZES f) {Q : Prop} (i0 : 0 ≤ Flow.Insts f) (i1 : Flow.Insts f ≤ 4096) (p0 : 0 ≤ Flow.Params f) (p1 : Flow.Params f ≤ 4094) (hnd : ((Flow.Needs f).length : Int) = Flow.Insts f) {x : Int} (hx : x = bif Flow.Loop f then 256 else 0)
    (hQ : Q ↔ (∀ i, i < (Flow.Arcs f).length → VArc f (rd (Flow.Arcs f) (i : Int))) ∧ (∀ i, i < (Flow.Res f).length → VRes (rd (Flow.Res f) (i : Int))) ∧ (∀ i, i < (Flow.Needs f).length → VNeed f (rd (Flow.Needs f) (i : Int))) ∧ 2 * Flow.N f + 1 ≤ ((Flow.Arcs f).length : Int) ∧ (∀ v : Nat, v < (Flow.N f).toNat + 1 → VHead f v) ∧ ∀ v : Nat, v < (Flow.N f).toNat → VTail f v) :
    EvP (fun k => dataflow_Valid.c7 k x (Flow.Arcs f) ((Flow.Arcs f).length : Int) 0 f) Q := by
  have hs := S.arcs
  refine EvP.all' 1 (c := fun k i => dataflow_Valid.c7 k x (Flow.Arcs f) ((Flow.Arcs f).length : Int) (i : Int) f) (n := (Flow.Arcs f).length) (P := fun i => VArc f (rd (Flow.Arcs f) (i : Int))) (fun q => (hQ.1 q).1) (fun i hi k => ?_) (fun h => ?_)
  · have h1 : (i : Int) < ((Flow.Arcs f).length : Int) := by omega
    simp only [dataflow_Valid.c7, dataflow_between.f, dataflow_Source.f, dataflow_End.f, Option.bind_some, natC]
    simp (disch := omega) only [w64_id]
    rw [decide_eq_true h1, if_pos (by omega)]
    unfold VArc Flow.N
    generalize rd (Flow.Arcs f) (i : Int) = a
    generalize Flow.Loop f = lo at hx ⊢
    simp only [cond_true]
    generalize dataflow_Valid.c7 k _ _ _ _ _ = r
    obtain ⟨a1, a2, a3, a4, _⟩ := a
    generalize Flow.Insts f + Flow.Params f = N at *
    clear hQ h1 hi hs hnd p1 p0 i1 i0 S
    cases lo <;> simp only [cond_true, cond_false] at hx <;> subst hx <;> grind (splits := 40)
  · refine EvP.step (valid13 S i0 i1 p0 p1 hnd (Q := Q) (hQ.trans ⟨fun q => q.2, fun q => ⟨h, q⟩⟩)) fun k => ?_
    simp only [dataflow_Valid.c7]
    rw [decide_eq_false (by omega)]
    rfl

theorem valid_prog (S : SIZES f) : EvP (fun k => dataflow_Valid.f k f) (VALID f) := by
  simp only [dataflow_Valid.f, dataflow_between.f]
  by_cases h1 : 0 ≤ Flow.Insts f ∧ Flow.Insts f ≤ 4096
  · by_cases h2 : 0 ≤ Flow.Params f ∧ Flow.Params f ≤ 4094
    · by_cases h3 : ((Flow.Needs f).length : Int) = Flow.Insts f
      · have go : ∀ x, x = (bif Flow.Loop f then 256 else 0) → EvP (fun k => dataflow_Valid.c6 k x f) (VALID f) := fun x hx => by
          refine EvP.step (valid7 S h1.1 h1.2 h2.1 h2.2 h3 hx (Q := VALID f) ⟨fun v => ⟨v.arcs, v.res, v.need, v.len, v.head, v.tail⟩, fun ⟨a1, a2, a3, a4, a5, a6⟩ => ⟨h1.1, h1.2, h2.1, h2.2, h3, a1, a4, a5, a2, a6, a3⟩⟩) fun k => ?_
          simp only [dataflow_Valid.c6]
        simp only [decide_eq_true h1.1, decide_eq_true h1.2, decide_eq_true h2.1, decide_eq_true h2.2, decide_eq_true h3, cond_true, cond_false, Option.bind_some, Bool.not_true]
        cases hl : Flow.Loop f
        · exact go 0 (by rw [hl]; rfl)
        · exact go 256 (by rw [hl]; rfl)
      · refine EvP.congr (.ff (fun v => h3 v.needs)) fun k => ?_
        simp [h1, h2, h3]
    · refine EvP.congr (.ff (fun v => h2 ⟨v.p0, v.p1⟩)) fun k => ?_
      grind
  · refine EvP.congr (.ff (fun v => h1 ⟨v.i0, v.i1⟩)) fun k => ?_
    grind
end
end Go.Proofs.YtjddmekfeckphaaGreatV
