/- Chapter 32: Compact: what the program computes. -/
import Derived.Test.YtjddmekfeckphaaGreatL32c
set_option linter.unusedVariables false
set_option linter.unusedSimpArgs false
namespace Go.Proofs.YtjddmekfeckphaaGreatV
open Go Go.Vm

section
variable {f : Flow} {s : Sched}

/-- the least start of a node by the first m arcs -/
def lstN (f : Flow) (s : Sched) (v : Int) : Nat → Int
  | 0 => 0
  | m + 1 => if Arc.To (rd (Flow.Arcs f) (m : Int)) = v ∧ Arc.From (rd (Flow.Arcs f) (m : Int)) ≠ v then mx (lstN f s v m) (tm f s (Arc.From (rd (Flow.Arcs f) (m : Int))) + Arc.Lat (rd (Flow.Arcs f) (m : Int))) else lstN f s v m
def lst (f : Flow) (s : Sched) (v : Int) : Int := lstN f s v (Flow.Arcs f).length
theorem lstN_pos (v : Int) : ∀ m, 0 ≤ lstN f s v m
  | 0 => Int.le_refl _
  | m + 1 => by
    have := lstN_pos v m
    show 0 ≤ ite _ _ _
    split
    · exact Int.le_trans this (le_mx_l _ _)
    · exact this
theorem lst_pos (v : Int) : 0 ≤ lst f s v := lstN_pos v _
theorem lst_ge {v : Int} {i : Nat} (hi : i < (Flow.Arcs f).length) (ht : Arc.To (rd (Flow.Arcs f) (i : Int)) = v) (hf : Arc.From (rd (Flow.Arcs f) (i : Int)) ≠ v) : tm f s (Arc.From (rd (Flow.Arcs f) (i : Int))) + Arc.Lat (rd (Flow.Arcs f) (i : Int)) ≤ lst f s v := by
  have key : ∀ m, i < m → tm f s (Arc.From (rd (Flow.Arcs f) (i : Int))) + Arc.Lat (rd (Flow.Arcs f) (i : Int)) ≤ lstN f s v m := by
    intro m
    induction m with
    | zero => intro h; omega
    | succ m ih =>
      intro h
      show _ ≤ ite _ _ _
      by_cases e : i = m
      · subst e
        rw [if_pos ⟨ht, hf⟩]
        exact le_mx_r _ _
      · have := ih (by omega)
        split
        · exact Int.le_trans this (le_mx_l _ _)
        · exact this
  exact key _ hi
theorem lst_at (v : Int) : lst f s v = 0 ∨ ∃ i : Nat, i < (Flow.Arcs f).length ∧ Arc.To (rd (Flow.Arcs f) (i : Int)) = v ∧ Arc.From (rd (Flow.Arcs f) (i : Int)) ≠ v ∧ lst f s v = tm f s (Arc.From (rd (Flow.Arcs f) (i : Int))) + Arc.Lat (rd (Flow.Arcs f) (i : Int)) := by
  have key : ∀ m, m ≤ (Flow.Arcs f).length → lstN f s v m = 0 ∨ ∃ i : Nat, i < (Flow.Arcs f).length ∧ Arc.To (rd (Flow.Arcs f) (i : Int)) = v ∧ Arc.From (rd (Flow.Arcs f) (i : Int)) ≠ v ∧ lstN f s v m = tm f s (Arc.From (rd (Flow.Arcs f) (i : Int))) + Arc.Lat (rd (Flow.Arcs f) (i : Int)) := by
    intro m
    induction m with
    | zero => exact fun _ => .inl rfl
    | succ m ih =>
      intro hm
      by_cases h : Arc.To (rd (Flow.Arcs f) (m : Int)) = v ∧ Arc.From (rd (Flow.Arcs f) (m : Int)) ≠ v
      · have e : lstN f s v (m + 1) = mx (lstN f s v m) (tm f s (Arc.From (rd (Flow.Arcs f) (m : Int))) + Arc.Lat (rd (Flow.Arcs f) (m : Int))) := if_pos h
        rw [e]
        rcases mx_eq (lstN f s v m) (tm f s (Arc.From (rd (Flow.Arcs f) (m : Int))) + Arc.Lat (rd (Flow.Arcs f) (m : Int))) with e2 | e2
        · rw [e2]; exact ih (by omega)
        · rw [e2]; exact .inr ⟨m, by omega, h.1, h.2, rfl⟩
      · have e : lstN f s v (m + 1) = lstN f s v m := if_neg h
        rw [e]
        exact ih (by omega)
  exact key _ (Nat.le_refl _)
theorem lstN_le (V : VALID f) (F : FITS f s) (v : Int) : ∀ m, m ≤ (Flow.Arcs f).length → lstN f s v m ≤ 8192
  | 0, _ => by show (0 : Int) ≤ 8192; omega
  | m + 1, hm => by
    have ih := lstN_le V F v m (by omega)
    obtain ⟨v1, v2, v3, v4, v5, v6, _⟩ := V.arcs m (by omega)
    have t1 := tm_bound F V v1
    show ite _ _ _ ≤ _
    split
    · rw [mx_le]; omega
    · exact ih

theorem least_prog (V : VALID f) (SF : SIZES f) (F : FITS f s) (v : Int) : Ev (fun k => listsched_least.f k f s v) (lst f s v) := by
  have ha := SF.arcs
  simp only [listsched_least.f]
  refine Ev.up (c := fun k i => listsched_least.c3 k v (lstN f s v i) (Flow.Arcs f) ((Flow.Arcs f).length : Int) (i : Int) f s) (n := (Flow.Arcs f).length) ?_ (fun i hi ih => ?_) 0 (Nat.zero_le _)
  · refine .succ ?_
    simp (disch := omega) only [listsched_least.c3, ↓cdF]
    exact .ret _
  · obtain ⟨v1, v2, v3, v4, v5, v6, _⟩ := V.arcs i hi
    have t1 := tm_bound F V v1
    have e1 := at_f V F v1 (by omega)
    simp only [natC] at ih
    refine .succ ?_
    simp (disch := omega) only [listsched_least.c3, ↓cdT, ↓if_pos, w64_id, e1, Option.bind_some]
    by_cases h1 : Arc.To (rd (Flow.Arcs f) (i : Int)) = v
    · by_cases h2 : Arc.From (rd (Flow.Arcs f) (i : Int)) = v
      · have e : lstN f s v (i + 1) = lstN f s v i := if_neg fun q => q.2 h2
        rw [e] at ih
        simp (disch := first | exact h1 | exact h2) only [↓cdT, ↓cnF]
        exact ih
      · have e : lstN f s v (i + 1) = mx (lstN f s v i) (tm f s (Arc.From (rd (Flow.Arcs f) (i : Int))) + Arc.Lat (rd (Flow.Arcs f) (i : Int))) := if_pos ⟨h1, h2⟩
        rw [e] at ih
        simp (disch := first | exact h1 | exact h2) only [↓cdT, ↓cnT]
        exact ih
    · have e : lstN f s v (i + 1) = lstN f s v i := if_neg fun q => h1 q.1
      rw [e] at ih
      simp (disch := exact h1) only [↓cdF]
      exact ih

/-- a schedule with other starts and another depth -/
abbrev sch (s : Sched) (D : Int) (St : List Int) : Sched := (Sched.II s, D, St, Sched.Params s, Sched.Unit s, ())
/-- no start, and not the depth, can be less by itself -/
structure TIGHT (f : Flow) (c : Sched) : Prop where
  starts : ∀ i : Nat, i < (Sched.Start c).length → ∀ t : Int, lst f c (i : Int) ≤ t → t < rd (Sched.Start c) (i : Int) → CLA f (sch c (Sched.Depth c) (List.set (Sched.Start c) i t)) i
  depth : ¬ mx 1 (lst f c (Flow.N f + 1)) < Sched.Depth c

theorem tm_ne {D : Int} {St : List Int} {i : Nat} {c v : Int} (h : v ≠ (i : Int)) (h0 : 0 ≤ v) : tm f (sch s D (List.set St i c)) v = tm f (sch s D St) v := by
  unfold tm
  obtain ⟨m, rfl⟩ : ∃ m : Nat, v = (m : Int) := ⟨v.toNat, by omega⟩
  show (if _ then rd (List.set St i c) (m : Int) else _) = if _ then rd St (m : Int) else _
  rw [rd_set_ne (by omega)]
theorem tm_eq {D : Int} {St : List Int} {i : Nat} {c : Int} (h : i < St.length) (hi : (i : Int) < Flow.Insts f) : tm f (sch s D (List.set St i c)) (i : Int) = c := by
  unfold tm
  rw [if_pos hi]
  exact rd_set_eq h

/-- a start that is less: what stays -/
theorem step_fits (V : VALID f) {D : Int} {St : List Int} (F : FITS f (sch s D St)) {i : Nat} (hi : i < St.length) {c : Int} (h0 : 0 ≤ c) (h1 : c < rd St (i : Int)) : FITS f (sch s D (List.set St i c)) := by
  refine ⟨?_, F.unit, F.params, F.ii, F.loop, F.depth, fun j hj => ?_, F.parms, F.units⟩
  · have := F.start
    show ((List.set St i c).length : Int) = _
    rw [List.length_set]
    exact this
  · have hj : j < St.length := by
      have : j < (List.set St i c).length := hj
      rwa [List.length_set] at this
    show 0 ≤ rd (List.set St i c) (j : Int) ∧ rd (List.set St i c) (j : Int) ≤ 4096
    have hb := F.starts i hi
    have hb : 0 ≤ rd St (i : Int) ∧ rd St (i : Int) ≤ 4096 := hb
    rw [rd_set hi]
    split
    · omega
    · exact F.starts j hj
theorem step_legal (V : VALID f) {D : Int} {St : List Int} (F : FITS f (sch s D St)) (L : LG f (sch s D St)) {i : Nat} (hi : i < St.length) {c : Int} (h0 : lst f (sch s D St) (i : Int) ≤ c) (h1 : c < rd St (i : Int)) (hc : ¬ CLA f (sch s D (List.set St i c)) i) : LG f (sch s D (List.set St i c)) := by
  have hst : (St.length : Int) = Flow.Insts f := F.start
  have hn := V.needs
  refine ⟨L.params, fun a ha => ?_, fun j hj => ?_⟩
  · obtain ⟨v1, v2, v3, v4, v5, v6, _⟩ := V.arcs a ha
    have hL := L.arcs a ha
    by_cases e1 : Arc.To (rd (Flow.Arcs f) (a : Int)) = (i : Int)
    · by_cases e2 : Arc.From (rd (Flow.Arcs f) (a : Int)) = (i : Int)
      · rw [e1, e2] at hL ⊢
        omega
      · rw [tm_ne e2 v1, e1, tm_eq hi (by omega)]
        have := lst_ge (s := sch s D St) ha e1 e2
        omega
    · by_cases e2 : Arc.From (rd (Flow.Arcs f) (a : Int)) = (i : Int)
      · rw [tm_ne e1 v3, e2, tm_eq hi (by omega)]
        rw [e2] at hL
        have : tm f (sch s D St) (i : Int) = rd St (i : Int) := by unfold tm; rw [if_pos (by omega)]
        omega
      · rw [tm_ne e1 v3, tm_ne e2 v1]
        exact hL
  · have hj : j < St.length := by
      have : j < (List.set St i c).length := hj
      rwa [List.length_set] at this
    by_cases e : j = i
    · rw [e]; exact hc
    · rintro ⟨q1, k, hk, q2⟩
      by_cases ek : k = i
      · rw [ek] at q2
        refine hc ⟨by have := q2.2.1; omega, j, by omega, q2.symm⟩
      · refine L.free j hj ⟨q1, k, hk, q2.1, q2.2.1, q2.2.2.1, ?_, ?_⟩
        · have := q2.2.2.2.1
          have r1 : rd (Sched.Start (sch s D (List.set St i c))) (k : Int) = rd St (k : Int) := rd_set_ne (Ne.symm ek)
          have r2 : rd (Sched.Start (sch s D (List.set St i c))) (j : Int) = rd St (j : Int) := rd_set_ne (Ne.symm e)
          rw [r1, r2] at this
          exact this
        · have := q2.2.2.2.2
          have r1 : rd (Sched.Start (sch s D (List.set St i c))) (k : Int) = rd St (k : Int) := rd_set_ne (Ne.symm ek)
          have r2 : rd (Sched.Start (sch s D (List.set St i c))) (j : Int) = rd St (j : Int) := rd_set_ne (Ne.symm e)
          rw [r1, r2] at this
          exact this
/-- a depth that is less -/
theorem tm_depth_ne {D D' : Int} {St : List Int} {v : Int} (h : v ≤ Flow.N f) : tm f (sch s D' St) v = tm f (sch s D St) v := by
  unfold tm
  by_cases h1 : v < Flow.Insts f
  · rw [if_pos h1, if_pos h1]
  · rw [if_neg h1, if_neg h1]
    by_cases h2 : v < Flow.N f
    · rw [if_pos h2, if_pos h2]
    · rw [if_neg h2, if_neg h2, if_pos (by omega), if_pos (by omega)]
theorem tm_depth_eq (V : VALID f) {D : Int} {St : List Int} : tm f (sch s D St) (Flow.N f + 1) = D := by
  have := V.p0
  unfold tm
  have : Flow.N f = Flow.Insts f + Flow.Params f := rfl
  rw [if_neg (by omega), if_neg (by omega), if_neg (by omega)]
theorem depth_fits {D D' : Int} {St : List Int} (F : FITS f (sch s D St)) (h0 : 1 ≤ D') (h1 : D' < D) : FITS f (sch s D' St) :=
  ⟨F.start, F.unit, F.params, F.ii, F.loop, ⟨h0, by have : D ≤ 4096 := F.depth.2; show D' ≤ 4096; omega⟩, F.starts, F.parms, F.units⟩
theorem depth_legal (V : VALID f) {D D' : Int} {St : List Int} (F : FITS f (sch s D St)) (L : LG f (sch s D St)) (h0 : lst f (sch s D St) (Flow.N f + 1) ≤ D') : LG f (sch s D' St) := by
  refine ⟨L.params, fun a ha => ?_, L.free⟩
  obtain ⟨v1, v2, v3, v4, v5, v6, _⟩ := V.arcs a ha
  have hL := L.arcs a ha
  rw [tm_depth_ne (D := D) v2]
  by_cases e : Arc.To (rd (Flow.Arcs f) (a : Int)) = Flow.N f + 1
  · have := lst_ge (s := sch s D St) ha e (by omega)
    rw [e, tm_depth_eq V]
    omega
  · rw [tm_depth_ne (D := D) (by omega)]
    exact hL

/-- how much there is to be lost -/
def sumI : List Int → Nat
  | [] => 0
  | x :: l => x.toNat + sumI l
theorem sumI_set : ∀ {l : List Int} {i : Nat} {c : Int}, i < l.length → 0 ≤ c → c < rd l (i : Int) → sumI (List.set l i c) < sumI l
  | x :: l, 0, c, _, h0, h1 => by
    have : c < x := h1
    show c.toNat + _ < x.toNat + _
    omega
  | x :: l, i + 1, c, hi, h0, h1 => by
    have e : rd (x :: l) ((i + 1 : Nat) : Int) = rd l (i : Int) := by simp [rd]
    rw [e] at h1
    have := sumI_set (l := l) (i := i) (c := c) (by simpa using hi) h0 h1
    show x.toNat + _ < x.toNat + _
    omega
  | [], _, _, hi, _, _ => by simp at hi

/-- what holds of a state of Compact -/
structure CO (f : Flow) (s : Sched) (D : Int) (St : List Int) : Prop where
  fits : FITS f (sch s D St)
  legal : LG f (sch s D St)
  len : St.length = (Sched.Start s).length
  le : ∀ i : Nat, i < St.length → rd St (i : Int) ≤ rd (Sched.Start s) (i : Int)
  dle : D ≤ Sched.Depth s
  same : TIGHT f s → St = Sched.Start s ∧ D = Sched.Depth s

def COMPACT (f : Flow) (s : Sched) (r : Sched × Int × Unit) : Prop := r.2.1 = 0 ∧ ∃ D St, r.1 = sch s D St ∧ CO f s D St ∧ TIGHT f (sch s D St)

theorem set_back {l : List Int} {i : Nat} {c : Int} (hi : i < l.length) : List.set (List.set l i c) i (rd l (i : Int)) = l := by
  rw [List.set_set]
  refine list_ext_rd (by rw [List.length_set]) fun j hj => ?_
  rw [rd_set hi]
  split
  · rename_i e; subst e; rfl
  · rfl

theorem pass_prog (V : VALID f) (SF : SIZES f) {s : Sched} : ∀ (M : Nat) (D : Int) (St : List Int), CO f s D St → sumI St + D.toNat ≤ M →
    W (fun k => listsched_Compact.c9 k true f (Sched.II s) D 0 0 St (Sched.Params s) (Sched.Unit s)) (COMPACT f s) := by
  intro M
  induction M using Nat.strongRecOn with
  | _ M IH =>
  intro D0 St0 C0 hM
  refine .succ ?_
  simp only [listsched_Compact.c9, cond_true]
  have hn := V.needs
  have hi1 := V.i1
  have hN : Flow.N f = Flow.Insts f + Flow.Params f := rfl
  have p0 := V.p0
  -- the end of a pass
  have last : ∀ (b : Bool) (D : Int) (St : List Int), CO f s D St → (b = false → St = St0 ∧ D = D0 ∧ ∀ i : Nat, i < St0.length → ∀ t : Int, lst f (sch s D0 St0) (i : Int) ≤ t → t < rd St0 (i : Int) → CLA f (sch s D0 (List.set St0 i t)) i) →
      (b = true → sumI St + D.toNat < sumI St0 + D0.toNat) →
      W (fun k => listsched_Compact.c12 k b (St0.length : Int) (St0.length : Int) f (Sched.II s) D 0 0 St (Sched.Params s) (Sched.Unit s)) (COMPACT f s) := by
    intro b D St C hb1 hb2
    have F := C.fits
    refine .succ ?_
    have he := V.p1
    simp (disch := omega) only [listsched_Compact.c12, ↓cdF, dataflow_End.f, Option.bind_some, w64_id (n := Flow.Insts f + Flow.Params f), w64_id (n := Flow.Insts f + Flow.Params f + 1)]
    refine .bindEv (least_prog V SF F (Flow.N f + 1)) ?_
    have hlp := lst_pos (f := f) (s := sch s D St) (Flow.N f + 1)
    refine .dec (fun h => ?_) fun h => ?_
    · -- the depth is less
      have h1 : 1 ≤ mx 1 (lst f (sch s D St) (Flow.N f + 1)) := le_mx_l _ _
      have h2 := le_mx_r 1 (lst f (sch s D St) (Flow.N f + 1))
      have C' : CO f s (mx 1 (lst f (sch s D St) (Flow.N f + 1))) St := by
        refine ⟨depth_fits F h1 h, depth_legal V F C.legal h2, C.len, C.le, by have := C.dle; omega, fun T => ?_⟩
        obtain ⟨e1, e2⟩ := C.same T
        have := T.depth
        have e3 : sch s D St = s := by rw [e1, e2]
        rw [e3, e2] at h
        exact absurd h this
      have hlt : sumI St + (mx 1 (lst f (sch s D St) (Flow.N f + 1))).toNat < sumI St0 + D0.toNat := by
        have : (mx 1 (lst f (sch s D St) (Flow.N f + 1))).toNat < D.toNat := by omega
        cases b
        · obtain ⟨e1, e2, _⟩ := hb1 rfl
          rw [e1, ← e2]
          rw [e1] at this
          omega
        · have := hb2 rfl
          omega
      exact IH (sumI St0 + D0.toNat - 1) (by omega) _ _ C' (by omega)
    · cases b
      · obtain ⟨e1, e2, hT⟩ := hb1 rfl
        refine .succ ?_
        simp only [listsched_Compact.c9, cond_false]
        refine .ret ⟨rfl, D, St, rfl, C, ?_⟩
        subst e1 e2
        exact ⟨hT, h⟩
      · have := hb2 rfl
        exact IH (sumI St + D.toNat) (by omega) _ _ C (Nat.le_refl _)
  -- the instructions one by one
  have loop : ∀ (d i : Nat), i + d = St0.length → ∀ (b : Bool) (D : Int) (St : List Int), CO f s D St → (b = false → St = St0 ∧ D = D0 ∧ ∀ j : Nat, j < i → ∀ t : Int, lst f (sch s D0 St0) (j : Int) ≤ t → t < rd St0 (j : Int) → CLA f (sch s D0 (List.set St0 j t)) j) →
      (b = true → sumI St + D.toNat < sumI St0 + D0.toNat) → (sumI St + D.toNat ≤ sumI St0 + D0.toNat) →
      W (fun k => listsched_Compact.c12 k b (St0.length : Int) (i : Int) f (Sched.II s) D 0 0 St (Sched.Params s) (Sched.Unit s)) (COMPACT f s) := by
    intro d
    induction d with
    | zero =>
      intro i hi b D St C hb1 hb2 hb3
      have e : i = St0.length := by omega
      subst e
      exact last b D St C hb1 hb2
    | succ d ih =>
      intro i hi b D St C hb1 hb2 hb3
      have F := C.fits
      have hlen : St.length = St0.length := C.len.trans C0.len.symm
      have hst : (St.length : Int) = Flow.Insts f := F.start
      refine .succ ?_
      simp (disch := omega) only [listsched_Compact.c12, ↓cdT, ↓if_pos]
      refine .bindEv (least_prog V SF F (i : Int)) ?_
      have hlp := lst_pos (f := f) (s := sch s D St) (i : Int)
      have hsi : 0 ≤ rd St (i : Int) ∧ rd St (i : Int) ≤ 4096 := F.starts i (by show i < St.length; omega)
      -- the search for an earlier start
      have search : ∀ (e : Nat) (c : Int), lst f (sch s D St) (i : Int) ≤ c → (rd St (i : Int) - c).toNat ≤ e → (∀ t : Int, lst f (sch s D St) (i : Int) ≤ t → t < c → CLA f (sch s D (List.set St i t)) i) →
          W (fun k => listsched_Compact.c16 k b (i : Int) (rd St (i : Int)) c (St0.length : Int) (i : Int) f (Sched.II s) D 0 0 St (Sched.Params s) (Sched.Unit s)) (COMPACT f s) := by
        intro e
        have stop : ∀ c : Int, ¬ c < rd St (i : Int) → (∀ t : Int, lst f (sch s D St) (i : Int) ≤ t → t < c → CLA f (sch s D (List.set St i t)) i) →
            W (fun k => listsched_Compact.c16 k b (i : Int) (rd St (i : Int)) c (St0.length : Int) (i : Int) f (Sched.II s) D 0 0 St (Sched.Params s) (Sched.Unit s)) (COMPACT f s) := by
          intro c hc hcl
          refine .succ ?_
          simp (disch := omega) only [listsched_Compact.c16, ↓cdF, w64_id]
          have := ih (i + 1) (by omega) b D St C (fun e => by
            obtain ⟨e1, e2, e3⟩ := hb1 e
            refine ⟨e1, e2, fun j hj t h1 h2 => ?_⟩
            rcases Nat.lt_or_eq_of_le (Nat.le_of_lt_succ hj) with hlt | heq
            · exact e3 j hlt t h1 h2
            · subst heq
              subst e1 e2
              exact hcl t h1 (by omega)) hb2 hb3
          simpa only [natC] using this
        induction e with
        | zero => intro c hc0 hce hcl; exact stop c (by omega) hcl
        | succ e ihe =>
          intro c hc0 hce hcl
          by_cases hc : c < rd St (i : Int)
          · have F' := step_fits V F (i := i) (by omega) (by omega) hc
            refine .succ ?_
            simp (disch := first | omega | (rw [List.length_set]; omega)) only [listsched_Compact.c16, ↓cdT, ↓if_pos, Int.toNat_natCast, set_back, w64_id]
            refine W.bind (clashes_prog V F' (i := i) (by omega)).w fun y hy => ?_
            cases y
            · -- an earlier start
              simp only [Bool.not_false, cond_true]
              have hnc : ¬ CLA f (sch s D (List.set St i c)) i := fun q => by have := hy.2 q; cases this
              have hs := sumI_set (l := St) (i := i) (c := c) (by omega) (by omega) hc
              have C' : CO f s D (List.set St i c) := by
                refine ⟨F', step_legal V F C.legal (by omega) hc0 hc hnc, by rw [List.length_set]; exact C.len, fun j hj => ?_, C.dle, fun T => ?_⟩
                · rw [List.length_set] at hj
                  rw [rd_set (by omega)]
                  split
                  · rename_i e; subst e
                    have := C.le i hj
                    omega
                  · exact C.le j hj
                · obtain ⟨e1, e2⟩ := C.same T
                  have e3 : sch s D St = s := by rw [e1, e2]
                  refine absurd ?_ hnc
                  have := T.starts i (by rw [← e1]; omega) c (by rw [← e3]; exact hc0) (by rw [← e1]; exact hc)
                  rw [← e1, ← e2] at this
                  exact this
              have := ih (i + 1) (by omega) true D (List.set St i c) C' (fun e => by cases e) (fun _ => by omega) (by omega)
              simpa only [natC] using this
            · simp only [Bool.not_true, cond_false]
              have hcc := hy.1 rfl
              refine ihe (c + 1) (by omega) (by omega) fun t h1 h2 => ?_
              by_cases e : t = c
              · rw [e]; exact hcc
              · exact hcl t h1 (by omega)
          · exact stop c hc hcl
      exact search (rd St (i : Int) - lst f (sch s D St) (i : Int)).toNat _ (Int.le_refl _) (Nat.le_refl _) (fun t h1 h2 => by omega)
  have := loop St0.length 0 (by omega) false D0 St0 C0 (fun _ => ⟨rfl, rfl, fun j hj => by omega⟩) (fun e => by cases e) (Nat.le_refl _)
  exact this

/-- COMPACT -/
theorem Compact_prog (V : VALID f) (SF : SIZES f) (S : SSIZES s) (F : FITS f s) (hl : Flow.Loop f = false) (L : LG f s) : W (fun k => listsched_Compact.f k f s) (COMPACT f s) := by
  have h1 := S.start
  have h2 := S.unit
  have h3 := S.params
  simp only [listsched_Compact.f]
  refine .bindEv ((valid_prog SF).true V) ?_
  simp only [Bool.not_true, cond_false]
  refine .bindEv ((fits_prog V S).true F) ?_
  simp only [Bool.not_true, cond_false, hl]
  refine .bindEv ((legal_prog V SF F).true L) ?_
  simp (disch := omega) only [Bool.not_true, cond_false, clone_f, Option.bind_some]
  have C : CO f s (Sched.Depth s) (Sched.Start s) := ⟨F, L, rfl, fun i _ => Int.le_refl _, Int.le_refl _, fun _ => ⟨rfl, rfl⟩⟩
  exact pass_prog V SF _ _ _ C (Nat.le_refl _)
theorem Compact_off1 (V : ¬ VALID f) (SF : SIZES f) : Ev (fun k => listsched_Compact.f k f s) ((0, 0, [], [], [], ()), 3, ()) := by
  simp only [listsched_Compact.f]
  refine .bind ((valid_prog SF).false V) ?_
  exact .ret _
theorem Compact_off2 (V : VALID f) (SF : SIZES f) (S : SSIZES s) (F : ¬ FITS f s) : Ev (fun k => listsched_Compact.f k f s) ((0, 0, [], [], [], ()), 3, ()) := by
  simp only [listsched_Compact.f]
  refine .bind ((valid_prog SF).true V) ?_
  simp only [Bool.not_true, cond_false]
  refine .bind ((fits_prog V S).false F) ?_
  exact .ret _
theorem Compact_off3 (V : VALID f) (SF : SIZES f) (S : SSIZES s) (F : FITS f s) (hl : Flow.Loop f = true) : Ev (fun k => listsched_Compact.f k f s) ((0, 0, [], [], [], ()), 1, ()) := by
  simp only [listsched_Compact.f]
  refine .bind ((valid_prog SF).true V) ?_
  simp only [Bool.not_true, cond_false]
  refine .bind ((fits_prog V S).true F) ?_
  simp only [Bool.not_true, cond_false, hl, cond_true]
  exact .ret _
theorem Compact_off4 (V : VALID f) (SF : SIZES f) (S : SSIZES s) (F : FITS f s) (hl : Flow.Loop f = false) (L : ¬ LG f s) : Ev (fun k => listsched_Compact.f k f s) ((0, 0, [], [], [], ()), 20, ()) := by
  simp only [listsched_Compact.f]
  refine .bind ((valid_prog SF).true V) ?_
  simp only [Bool.not_true, cond_false]
  refine .bind ((fits_prog V S).true F) ?_
  simp only [Bool.not_true, cond_false, hl]
  refine .bind ((legal_prog V SF F).false L) ?_
  exact .ret _
end
end Go.Proofs.YtjddmekfeckphaaGreatV
