/- Chapter 32: the law of Compact. -/
import Derived.Test.YtjddmekfeckphaaGreatL32d
import Derived.Test.YtjddmekfeckphaaGreatL32g
set_option linter.unusedVariables false
set_option linter.unusedSimpArgs false
namespace Go.Proofs.YtjddmekfeckphaaGreatV
open Go Go.Vm

section
variable {f : Flow} {s : Sched}

theorem not_start (V : VALID f) (hl : Flow.Loop f = false) {D : Int} {St : List Int} (T : TIGHT f (sch s D St)) (hst : (St.length : Int) = Flow.Insts f) {i : Nat} (hi : i < St.length) {t : Int} (h0 : 0 ≤ t) (h1 : t < rd St (i : Int)) : ¬ (FITS f (sch s D (List.set St i t)) ∧ LEGAL f (sch s D (List.set St i t))) := by
  rintro ⟨F, L⟩
  have L := (LG_iff V F hl).1 L
  by_cases h : lst f (sch s D St) (i : Int) ≤ t
  · exact L.free i (by show i < (List.set St i t).length; rw [List.length_set]; exact hi) (T.starts i hi t h h1)
  · rcases lst_at (f := f) (s := sch s D St) (i : Int) with e | ⟨a, ha, e1, e2, e3⟩
    · omega
    · have := L.arcs a ha
      obtain ⟨v1, _⟩ := V.arcs a ha
      rw [tm_ne e2 v1, e1, tm_eq hi (by omega)] at this
      omega
theorem not_depth (V : VALID f) (hl : Flow.Loop f = false) {D : Int} {St : List Int} (T : TIGHT f (sch s D St)) {d : Int} (h0 : 1 ≤ d) (h1 : d < D) : ¬ (FITS f (sch s d St) ∧ LEGAL f (sch s d St)) := by
  rintro ⟨F, L⟩
  have L := (LG_iff V F hl).1 L
  have h := T.depth
  have h : ¬ mx 1 (lst f (sch s D St) (Flow.N f + 1)) < D := h
  rcases mx_eq 1 (lst f (sch s D St) (Flow.N f + 1)) with e | e
  · rw [e] at h; omega
  · rw [e] at h
    rcases lst_at (f := f) (s := sch s D St) (Flow.N f + 1) with e0 | ⟨a, ha, e1, e2, e3⟩
    · omega
    · have := L.arcs a ha
      obtain ⟨v1, v2, _⟩ := V.arcs a ha
      rw [e1, tm_depth_eq V, tm_depth_ne (D := D) v2] at this
      omega

theorem tight_ev (V : VALID f) (SF : SIZES f) (S : SSIZES s) (hl : Flow.Loop f = false) {D : Int} {St : List Int} (F : FITS f (sch s D St)) (T : TIGHT f (sch s D St)) : Ev (fun k => jacquardlaw32_tight.f k f (sch s D St)) true := by
  have hst : (St.length : Int) = Flow.Insts f := F.start
  have hi1 := V.i1
  have hd : 1 ≤ D ∧ D ≤ 4096 := F.depth
  have S1 : ∀ i t, SSIZES (sch s D (List.set St i t)) := fun i t => ⟨by show (List.set St i t).length ≤ _; rw [List.length_set]; omega, S.unit, S.params⟩
  have S2 : ∀ d, SSIZES (sch s d St) := fun d => ⟨by show St.length ≤ _; omega, S.unit, S.params⟩
  simp only [jacquardlaw32_tight.f]
  refine Ev.up (c := fun k i => jacquardlaw32_tight.c2 k (St.length : Int) (i : Int) f (sch s D St)) (n := St.length) ?_ (fun i hi ih => ?_) 0 (Nat.zero_le _)
  · refine .succ ?_
    simp (disch := omega) only [jacquardlaw32_tight.c2, ↓cdF]
    have e1 : (1 : Int) = ((1 : Nat) : Int) := rfl
    rw [e1]
    refine Ev.upFrom (c := fun k d => jacquardlaw32_tight.c15 k (d : Int) f (sch s D St)) (n := D.toNat) 1 (by omega) ?_ (fun d h1 h2 ih => ?_)
    · refine .succ ?_
      simp (disch := (show ¬ _ < D; omega)) only [jacquardlaw32_tight.c15, ↓cdF]
      exact .ret _
    · refine .succ ?_
      simp only [natC] at ih
      simp (disch := first | omega | (show _ < D; omega)) only [jacquardlaw32_tight.c15, ↓cdT, w64_id]
      refine .bind ((legal_ref SF (S2 d) V).false (not_depth V hl T (by omega) (by omega))) ?_
      exact ih
  · have hsi : 0 ≤ rd St (i : Int) ∧ rd St (i : Int) ≤ 4096 := F.starts i hi
    refine .succ ?_
    simp (disch := first | omega | (show 0 ≤ (i : Int) ∧ (i : Int) < (St.length : Int); omega)) only [jacquardlaw32_tight.c2, ↓cdT, ↓if_pos]
    have e0 : (0 : Int) = ((0 : Nat) : Int) := rfl
    rw [e0]
    have es : rd (Sched.Start (sch s D St)) (i : Int) = (((rd St (i : Int)).toNat : Nat) : Int) := by show rd St (i : Int) = _; omega
    refine Ev.up (c := fun k t => jacquardlaw32_tight.c5 k (i : Int) (St.length : Int) (i : Int) (rd (Sched.Start (sch s D St)) (i : Int)) (t : Int) f (sch s D St)) (n := (rd St (i : Int)).toNat) ?_ (fun t ht ih2 => ?_) 0 (Nat.zero_le _)
    · refine .succ ?_
      rw [es]
      simp (disch := omega) only [jacquardlaw32_tight.c5, ↓cdF, w64_id]
      simpa only [natC] using ih
    · refine .succ ?_
      simp only [natC] at ih2
      rw [es] at ih2 ⊢
      have e2 : ([] : List Int) ++ Sched.Start (sch s D St) = St := rfl
      have e3 : List.length ([] : List Int) + List.length (Sched.Start (sch s D St)) ≤ 1073741824 := by show 0 + St.length ≤ _; omega
      simp (disch := first | omega | exact e3) only [jacquardlaw32_tight.c5, ↓cdT, ↓bleT, e2, ↓if_pos, Int.toNat_natCast, w64_id]
      refine .bind ((legal_ref SF (S1 i t) V).false (not_start V hl T hst hi (by omega) (by omega))) ?_
      exact ih2

theorem compact_c16 (V : VALID f) (SF : SIZES f) (S : SSIZES s) (hl : Flow.Loop f = false) (F0 : FITS f s) {D : Int} {St : List Int} (C : CO f s D St) (T : TIGHT f (sch s D St)) :
    Ev (fun k => jacquardlaw32_ListschedCompact.c16 k (St.length : Int) 0 f s (Sched.II s) D St (Sched.Params s) (Sched.Unit s)) true := by
  have F := C.fits
  have hst : (St.length : Int) = Flow.Insts f := F.start
  have h1 := F0.start
  have h2 := F0.unit
  have hi1 := V.i1
  refine Ev.up (c := fun k i => jacquardlaw32_ListschedCompact.c16 k (St.length : Int) (i : Int) f s (Sched.II s) D St (Sched.Params s) (Sched.Unit s)) (n := St.length) ?_ (fun i hi ih => ?_) 0 (Nat.zero_le _)
  · refine .succ ?_
    simp (disch := omega) only [jacquardlaw32_ListschedCompact.c16, ↓cdF]
    refine .bind (tight_ev V SF S hl F T) ?_
    exact .ret _
  · have := C.le i hi
    refine .succ ?_
    simp only [natC] at ih
    simp (disch := omega) only [jacquardlaw32_ListschedCompact.c16, ↓cdT, ↓cdF, ↓if_pos, w64_id, decide_true, Bool.not_true, cond_false]
    exact ih

theorem PureListschedCompact (f : Flow) (s : Sched) (g0 : Ty.good Flow.T f) (g1 : Ty.good Sched.T s) : ∃ k, jacquardlaw32_ListschedCompact.f k f s = some true := by
  refine Ev.ex (f := fun k => jacquardlaw32_ListschedCompact.f k f s) ?_
  simp only [jacquardlaw32_ListschedCompact.f]
  have hend : Ev (fun k => (jacquardlaw32_awake.f k).bind fun y45 => some y45) true := Ev.bind awake_ev (.ret true)
  refine .bind awake_ev ?_
  simp only [Bool.not_true, cond_false]
  obtain ⟨_, _, _, ⟨ga, _⟩, _, ⟨gn, _⟩, _⟩ := g0
  refine .test (small_ref 10 6 ga gn) (fun h => ?_) fun h => ?_
  rotate_left
  · exact hend
  simp only [Bool.not_true, cond_false]
  refine .dec (fun _ => hend) fun q1 => .dec (fun _ => hend) fun q2 => .dec (fun _ => hend) fun q3 => .dec (fun _ => hend) fun q4 => .dec (fun _ => hend) fun q5 => ?_
  have SF : SIZES f := ⟨by have := h.arcs; omega, by have := h.res; omega, by omega⟩
  have S : SSIZES s := ⟨by omega, by omega, by omega⟩
  have bad : ∀ (e : Int) (w : Int), e = w → ¬ w = 0 → Ev (fun k => jacquardlaw32_ListschedCompact.c11 k e w f s 0 0 [] [] []) true := fun e w he hw => by
    refine .succ ?_
    simp (disch := first | exact hw | exact he) only [jacquardlaw32_ListschedCompact.c11, ↓cnT, ↓cdT]
    exact .ret _
  by_cases V : VALID f
  rotate_left
  · refine .bind (Compact_off1 V SF) ?_
    refine .bind ((valid_ref SF).false V) ?_
    exact bad 3 3 rfl (by decide)
  by_cases F : FITS f s
  rotate_left
  · refine .bind (Compact_off2 V SF S F) ?_
    refine .bind ((valid_ref SF).true V) ?_
    simp only [Bool.not_true, cond_false]
    refine .bind ((fits_ref V S).false F) ?_
    exact bad 3 3 rfl (by decide)
  cases hl : Flow.Loop f
  rotate_left
  · refine .bind (Compact_off3 V SF S F hl) ?_
    refine .bind ((valid_ref SF).true V) ?_
    simp only [Bool.not_true, cond_false]
    refine .bind ((fits_ref V S).true F) ?_
    exact bad 1 1 rfl (by decide)
  by_cases L : LG f s
  rotate_left
  · refine .bind (Compact_off4 V SF S F hl L) ?_
    refine .bind ((valid_ref SF).true V) ?_
    simp only [Bool.not_true, cond_false]
    refine .bind ((fits_ref V S).true F) ?_
    simp only [Bool.not_true, cond_false]
    refine .bind ((legal_ref SF S V).false fun q => L ((LG_iff V F hl).1 q.2)) ?_
    exact bad 20 20 rfl (by decide)
  obtain ⟨r, hr, h0, D, St, e, C, T⟩ := Compact_prog V SF S F hl L
  refine .bind hr ?_
  obtain ⟨r1, r2, _⟩ := r
  subst e
  have h0 : r2 = 0 := h0
  subst h0
  refine .bind ((valid_ref SF).true V) ?_
  simp only [Bool.not_true, cond_false]
  refine .bind ((fits_ref V S).true F) ?_
  simp only [Bool.not_true, cond_false]
  refine .bind ((legal_ref SF S V).true ⟨F, (LG_iff V F hl).2 L⟩) ?_
  simp only [Bool.not_true, cond_false]
  refine .succ ?_
  have S2 : SSIZES (sch s D St) := ⟨by show St.length ≤ _; rw [C.len]; omega, S.unit, S.params⟩
  have hd : ¬ Sched.Depth s < D := by have := C.dle; omega
  have hlen : (St.length : Int) = ((Sched.Start s).length : Int) := by rw [C.len]
  simp only [jacquardlaw32_ListschedCompact.c11, decide_true, Bool.not_true, cond_false]
  refine .bind ((legal_ref SF S2 V).true ⟨C.fits, (LG_iff V C.fits hl).2 C.legal⟩) ?_
  simp (disch := first | exact hd | exact hlen) only [Bool.not_true, cond_false, ↓cdF, ↓cnF]
  exact compact_c16 V SF S hl F C T
end
end Go.Proofs.YtjddmekfeckphaaGreatV
