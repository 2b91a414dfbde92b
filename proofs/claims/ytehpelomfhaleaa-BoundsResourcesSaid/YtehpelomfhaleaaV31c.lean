/- Chapter 31: windows: the least and the greatest starts. -/
import Derived.Test.YtehpelomfhaleaaV31b
set_option linter.unusedVariables false
set_option linter.unusedSimpArgs false
namespace Go.Proofs.YtehpelomfhaleaaV
open Go Go.Vm Diff

theorem rep2 (k : Nat) (d : Int) : slices_Repeat_int_int.f (k + 12) [d] 2 = some (List.replicate 2 d) := by kernel_rfl
theorem rep3 (k : Nat) (d : Int) : slices_Repeat_int_int.f (k + 12) [d] 3 = some (List.replicate 3 d) := by kernel_rfl
theorem rep4 (k : Nat) (d : Int) : slices_Repeat_int_int.f (k + 12) [d] 4 = some (List.replicate 4 d) := by kernel_rfl
theorem rep5 (k : Nat) (d : Int) : slices_Repeat_int_int.f (k + 12) [d] 5 = some (List.replicate 5 d) := by kernel_rfl
theorem rep6 (k : Nat) (d : Int) : slices_Repeat_int_int.f (k + 12) [d] 6 = some (List.replicate 6 d) := by kernel_rfl
theorem rep7 (k : Nat) (d : Int) : slices_Repeat_int_int.f (k + 12) [d] 7 = some (List.replicate 7 d) := by kernel_rfl
theorem rep8 (k : Nat) (d : Int) : slices_Repeat_int_int.f (k + 12) [d] 8 = some (List.replicate 8 d) := by kernel_rfl
theorem rep9 (k : Nat) (d : Int) : slices_Repeat_int_int.f (k + 12) [d] 9 = some (List.replicate 9 d) := by kernel_rfl
theorem rep10 (k : Nat) (d : Int) : slices_Repeat_int_int.f (k + 12) [d] 10 = some (List.replicate 10 d) := by kernel_rfl
theorem rep11 (k : Nat) (d : Int) : slices_Repeat_int_int.f (k + 12) [d] 11 = some (List.replicate 11 d) := by kernel_rfl
theorem rep12 (k : Nat) (d : Int) : slices_Repeat_int_int.f (k + 12) [d] 12 = some (List.replicate 12 d) := by kernel_rfl
theorem rep13 (k : Nat) (d : Int) : slices_Repeat_int_int.f (k + 12) [d] 13 = some (List.replicate 13 d) := by kernel_rfl
theorem rep14 (k : Nat) (d : Int) : slices_Repeat_int_int.f (k + 12) [d] 14 = some (List.replicate 14 d) := by kernel_rfl
theorem rep15 (k : Nat) (d : Int) : slices_Repeat_int_int.f (k + 12) [d] 15 = some (List.replicate 15 d) := by kernel_rfl
theorem rep16 (k : Nat) (d : Int) : slices_Repeat_int_int.f (k + 12) [d] 16 = some (List.replicate 16 d) := by kernel_rfl
theorem rep17 (k : Nat) (d : Int) : slices_Repeat_int_int.f (k + 12) [d] 17 = some (List.replicate 17 d) := by kernel_rfl
theorem rep18 (k : Nat) (d : Int) : slices_Repeat_int_int.f (k + 12) [d] 18 = some (List.replicate 18 d) := by kernel_rfl
theorem rep19 (k : Nat) (d : Int) : slices_Repeat_int_int.f (k + 12) [d] 19 = some (List.replicate 19 d) := by kernel_rfl
theorem rep20 (k : Nat) (d : Int) : slices_Repeat_int_int.f (k + 12) [d] 20 = some (List.replicate 20 d) := by kernel_rfl
theorem repeat_k (n : Nat) (h0 : 2 ≤ n) (h1 : n ≤ 20) (k : Nat) (d : Int) : slices_Repeat_int_int.f (k + 12) [d] (n : Int) = some (List.replicate n d) := by
  have h : n = 2 ∨ n = 3 ∨ n = 4 ∨ n = 5 ∨ n = 6 ∨ n = 7 ∨ n = 8 ∨ n = 9 ∨ n = 10 ∨ n = 11 ∨ n = 12 ∨ n = 13 ∨ n = 14 ∨ n = 15 ∨ n = 16 ∨ n = 17 ∨ n = 18 ∨ n = 19 ∨ n = 20 := by omega
  rcases h with rfl | rfl | rfl | rfl | rfl | rfl | rfl | rfl | rfl | rfl | rfl | rfl | rfl | rfl | rfl | rfl | rfl | rfl | rfl
  · exact rep2 k d
  · exact rep3 k d
  · exact rep4 k d
  · exact rep5 k d
  · exact rep6 k d
  · exact rep7 k d
  · exact rep8 k d
  · exact rep9 k d
  · exact rep10 k d
  · exact rep11 k d
  · exact rep12 k d
  · exact rep13 k d
  · exact rep14 k d
  · exact rep15 k d
  · exact rep16 k d
  · exact rep17 k d
  · exact rep18 k d
  · exact rep19 k d
  · exact rep20 k d
theorem repeat_ev {n : Int} (h0 : 2 ≤ n) (h1 : n ≤ 20) (d : Int) : Ev (fun k => slices_Repeat_int_int.f k [d] n) (List.replicate n.toNat d) := by
  refine ⟨12, fun k hk => ?_⟩
  obtain ⟨j, rfl⟩ : ∃ j, k = j + 12 := ⟨k - 12, by omega⟩
  have := repeat_k n.toNat (by omega) (by omega) j d
  rwa [Int.toNat_of_nonneg (by omega)] at this

theorem max_ev (xs : List Int) (h0 : 0 < xs.length) (hl : xs.length ≤ 1000000) : W (fun k => slices_Max_int_int.f k xs) (fun r => (∀ i : Nat, i < xs.length → rd xs (i : Int) ≤ r) ∧ ∃ i : Nat, i < xs.length ∧ r = rd xs (i : Int)) := by
  simp (disch := omega) only [slices_Max_int_int.f, ↓cdF]
  refine .succ ?_
  simp (disch := omega) only [slices_Max_int_int.c3, ↓if_pos]
  have loop : ∀ (d i : Nat) (v : Int), i + d = xs.length → (∀ j : Nat, j < i → rd xs (j : Int) ≤ v) → (∃ j : Nat, j < xs.length ∧ v = rd xs (j : Int)) → W (fun k => slices_Max_int_int.c5 k xs v (i : Int)) (fun r => (∀ i : Nat, i < xs.length → rd xs (i : Int) ≤ r) ∧ ∃ i : Nat, i < xs.length ∧ r = rd xs (i : Int)) := by
    intro d
    induction d with
    | zero =>
      intro i v hi h1 h2
      refine .succ ?_
      simp (disch := omega) only [slices_Max_int_int.c5, ↓cdF]
      exact .ret ⟨fun j hj => h1 j (by omega), h2⟩
    | succ d ih =>
      intro i v hi h1 h2
      refine .succ ?_
      simp (disch := omega) only [slices_Max_int_int.c5, ↓cdT, ↓if_pos, w64_id]
      refine ih (i + 1) _ (by omega) (fun j hj => ?_) ?_
      · by_cases e : j = i
        · subst e; exact le_mx_r _ _
        · have := h1 j (by omega); have := le_mx_l v (rd xs (i : Int)); omega
      · rcases mx_eq v (rd xs (i : Int)) with e | e
        · rw [e]; exact h2
        · rw [e]; exact ⟨i, by omega, rfl⟩
  exact loop (xs.length - 1) 1 _ (by omega) (fun j hj => by rw [show j = 0 by omega]; exact Int.le_refl _) ⟨0, h0, rfl⟩

/-- intervals and depths that do not fit -/
def BADW (f : Flow) (ii depth : Int) : Prop := (Flow.Loop f = false ∧ ii ≠ 0) ∨ (Flow.Loop f = true ∧ (ii < 1 ∨ 256 < ii)) ∨ depth < 0 ∨ 4096 < depth
instance (f : Flow) (ii depth : Int) : Decidable (BADW f ii depth) := by unfold BADW; infer_instance
/-- the upper bounds -/
def UP (n depth : Int) : List Int := List.set (List.replicate n.toNat depth) (n - 2).toNat 0

section
variable {f : Flow}

/-- what Window answers where all fits -/
def WINS (f : Flow) (ii depth : Int) (r : List Int × List Int × Int × Unit) : Prop :=
  ∃ a, Answer (Flow.N f + 2) (Flow.Arcs f) ii (fun _ => 0) a ∧
    ((a.2.1 = none ∧ (∀ v : Nat, v < a.1.length → rd a.1 (v : Int) ≤ depth) ∧ r.1 = a.1 ∧ r.2.2.1 = 0 ∧ ∃ u, AnswerU (Flow.N f + 2) (Flow.Arcs f) ii (bnd (UP (Flow.N f + 2) depth)) u ∧ r.2.1 = u.1) ∨
     ((a.2.1 ≠ none ∨ ∃ v : Nat, v < a.1.length ∧ depth < rd a.1 (v : Int)) ∧ r = ([], [], 14, ())))

theorem win_core (V : VALID f) (h : FEW f) (ii depth : Int) : W (fun k => (dataflow_Nodes.f f).bind fun y45 => (diffcons_Earliest.f k y45 (Flow.Arcs f) ii).bind fun y51 => bif (Option.isSome y51.2.1) then some (([], [], 14, ()) : List Int × List Int × Int × Unit) else
    (slices_Max_int_int.f k y51.1).bind fun y58 => bif (decide (depth < y58)) then some ([], [], 14, ()) else (slices_Repeat_int_int.f k [depth] y45).bind fun y65 => (dataflow_Source.f f).bind fun y68 =>
      if 0 ≤ y68 ∧ y68 < (y65.length : Int) then (diffcons_Latest.f k y45 (Flow.Arcs f) ii (List.set y65 y68.toNat 0)).bind fun y76 => some (y51.1, y76.1, 0, ()) else none) (WINS f ii depth) := by
  have hi0 := V.i0; have hp0 := V.p0; have hi1 := h.1.insts; have hp1 := h.1.params
  have hN : Flow.N f = Flow.Insts f + Flow.Params f := rfl
  simp only [nodes_eq V, Option.bind_some]
  have hE := earliest_f (n0 := Flow.N f + 2) (arcs := Flow.Arcs f) (ii := ii) (arcs_le V h)
  rw [nod_of V] at hE
  refine W.bind hE fun a ha => ?_
  cases hc : a.2.1 with
  | some c =>
    simp only [Option.isSome_some, cond_true]
    exact .ret ⟨a, ha, .inr ⟨.inl (by rw [hc]; simp), rfl⟩⟩
  | none =>
    simp only [Option.isSome_none, cond_false]
    have hlen : (a.1.length : Int) = Flow.N f + 2 := by
      rcases ha with ⟨_, q, _⟩ | ⟨_, c, q, _⟩
      · exact q
      · rw [hc] at q; cases q
    refine W.bind (max_ev a.1 (by omega) (by omega)) fun m hm => ?_
    obtain ⟨m1, j, m2, m3⟩ := hm
    refine .dec (fun hd => .ret ⟨a, ha, .inr ⟨.inr ⟨j, m2, by omega⟩, rfl⟩⟩) fun hd => ?_
    refine W.bindEv (repeat_ev (by omega) (by omega) depth) ?_
    simp only [src_prog V, Option.bind_some]
    have hrl : (List.replicate (Flow.N f + 2).toNat depth).length = (Flow.N f + 2).toNat := by simp
    simp (disch := omega) only [↓if_pos]
    have hU := latest_f (n0 := Flow.N f + 2) (l := Flow.Arcs f) (ii := ii) (upper := UP (Flow.N f + 2) depth) (arcs_le V h) (by have := h.1.arcs; omega)
    rw [nod_of V] at hU
    have e : UP (Flow.N f + 2) depth = List.set (List.replicate (Flow.N f + 2).toNat depth) (Flow.N f).toNat 0 := by unfold UP; rw [show Flow.N f + 2 - 2 = Flow.N f by omega]
    rw [e] at hU
    refine W.bind hU fun u hu => ?_
    rw [← e] at hu
    exact .ret ⟨a, ha, .inl ⟨hc, fun v hv => by have := m1 v hv; omega, rfl, rfl, u, hu, rfl⟩⟩

theorem Window_prog (V : VALID f) (h : FEW f) (ii depth : Int) : W (fun k => bounds_Window.f k f ii depth) (fun r => (BADW f ii depth ∧ r = ([], [], 3, ())) ∨ (¬ BADW f ii depth ∧ WINS f ii depth r)) := by
  have S := sizes_of h
  have core := win_core V h ii depth
  simp only [bounds_Window.f]
  refine W.bindEv ((valid_prog S).true V) ?_
  simp only [Bool.not_true, cond_false]
  have bad : BADW f ii depth → W (fun _ => some (([], [], 3, ()) : List Int × List Int × Int × Unit)) (fun r => (BADW f ii depth ∧ r = ([], [], 3, ())) ∨ (¬ BADW f ii depth ∧ WINS f ii depth r)) := fun q => .ret (.inl ⟨q, rfl⟩)
  cases hl : Flow.Loop f with
  | false =>
    simp only [Bool.not_false, cond_true, cond_false]
    by_cases h0 : ii = 0
    · simp (disch := omega) only [↓cnF]
      refine .dec (fun q => bad (.inr (.inr (.inl q)))) fun q1 => ?_
      refine .dec (fun q => bad (.inr (.inr (.inr q)))) fun q2 => ?_
      exact core.mono fun r hr => .inr ⟨fun q => by unfold BADW at q; rw [hl] at q; simp at q; omega, hr⟩
    · simp (disch := omega) only [↓cnT]
      exact bad (.inl ⟨hl, h0⟩)
  | true =>
    simp only [Bool.not_true, cond_true, cond_false]
    refine .dec (fun q => bad (.inr (.inl ⟨hl, .inl q⟩))) fun q1 => ?_
    refine .dec (fun q => bad (.inr (.inl ⟨hl, .inr q⟩))) fun q2 => ?_
    refine .dec (fun q => bad (.inr (.inr (.inl q)))) fun q3 => ?_
    refine .dec (fun q => bad (.inr (.inr (.inr q)))) fun q4 => ?_
    exact core.mono fun r hr => .inr ⟨fun q => by unfold BADW at q; rw [hl] at q; simp at q; omega, hr⟩

theorem same_most {n : Int} {arcs : List Arc} {ii : Int} {hi : Int → Int} {r : List Int × List Int × Unit} {r' : List Int × Bool × Unit} {p : Int → Int} (hp : Feas n arcs ii p) (h : AnswerU n arcs ii hi r) (h' : AnswerL n arcs ii hi r') : r.1 = r'.1 ∧ (r.1.length : Int) = n := by
  rcases h with ⟨a1, a2, a3, a4, a5⟩ | ⟨a1, a3⟩
  · rcases h' with ⟨b1, b2, b3, b4, b5⟩ | ⟨b1, b2, b3⟩
    · refine ⟨Diff.rd_ext (by omega) fun i i0 i1 => ?_, a2⟩
      have e1 := a5 _ b4 (fun v v0 v1 => (b3 v v0 v1).1) i i0 (by omega)
      have e2 := b5 _ a4 (fun v v0 v1 => (a3 v v0 v1).1) i i0 (by omega)
      omega
    · exact absurd a4 (b3 _)
  · exact absurd hp (fun q => a3.not_feas q)

theorem PureBoundsWindow (f : Flow) (ii depth : Int) (g0 : Ty.good Flow.T f) (g1 : Ty.good (.int .i64) ii) (g2 : Ty.good (.int .i64) depth) : ∃ k, jacquardlaw31_BoundsWindow.f k f ii depth = some true := by
  have ga : (Flow.Arcs f).length ≤ 140737488351232 := g0.2.2.2.1.1
  have gn : (Flow.Needs f).length ≤ 140737488351232 := g0.2.2.2.2.2.1.1
  refine Ev.ex (f := fun k => jacquardlaw31_BoundsWindow.f k f ii depth) ?_
  simp only [jacquardlaw31_BoundsWindow.f]
  have hend : Ev (fun k => (jacquardlaw31_awake.f k).bind fun y => some y) true := Ev.bind awake_ev (.ret true)
  refine Ev.bind awake_ev ?_
  simp only [Bool.not_true, cond_false]
  refine Ev.test (few_ev ga gn) (fun hf => ?_) fun _ => hend
  simp only [Bool.not_true, cond_false]
  have S := sizes_of hf
  by_cases V : VALID f
  · obtain ⟨r, h1, h2⟩ := Window_prog V hf ii depth
    refine Ev.bind h1 (Ev.bind ((valid_ref S).true V) ?_)
    simp only [Bool.not_true, cond_false]
    have hi0 := V.i0; have hp0 := V.p0; have hi1 := hf.1.insts; have hp1 := hf.1.params
    have hN : Flow.N f = Flow.Insts f + Flow.Params f := rfl
    rcases h2 with ⟨hbad, rfl⟩ | ⟨hok, a, ha, hr⟩
    · have three : Ev (fun k => bif decide (((([], [], 3, ()) : List Int × List Int × Int × Unit).2.2.1) = 3) then some (decide (w64 (((([], [], 3, ()) : List Int × List Int × Int × Unit).1.length : Int) + ((([], [], 3, ()) : List Int × List Int × Int × Unit).2.1.length : Int)) = 0)) else some false) true := .ret true
      unfold BADW at hbad
      cases hl : Flow.Loop f with
      | false =>
        rw [hl] at hbad
        simp at hbad
        simp only [Bool.not_false, cond_true, cond_false]
        by_cases h0 : ii = 0
        · simp (disch := omega) only [↓cnF]
          refine .dec (fun q => three) fun q1 => .dec (fun q => three) fun q2 => ?_
          omega
        · simp (disch := omega) only [↓cnT]
          exact three
      | true =>
        rw [hl] at hbad
        simp at hbad
        simp only [Bool.not_true, cond_true, cond_false]
        refine .dec (fun q => three) fun q1 => .dec (fun q => three) fun q2 => .dec (fun q => three) fun q3 => .dec (fun q => three) fun q4 => ?_
        omega
    · -- where all fits
      have main : Ev (fun k => (jacquardref28_End.f f).bind fun y78 => (jacquardref30_After.f k (w64 (y78 + 1)) (Flow.Arcs f) ii []).bind fun y85 => jacquardlaw31_BoundsWindow.c9 k ii depth r.2.2.1 (w64 (y78 + 1)) y85.2.1 (y85.1.length : Int) 0 f r.1 r.2.1 y85.1) true := by
        simp (disch := omega) only [end_ref V, Option.bind_some, w64_id]
        rw [show Flow.N f + 1 + 1 = Flow.N f + 2 by omega]
        have hA := after_ref_f (n0 := Flow.N f + 2) (arcs := Flow.Arcs f) (ii := ii) (lower := []) (by rw [nod_of V]; omega) (by have := hf.1.arcs; omega)
        rw [nod_of V] at hA
        obtain ⟨w, hw1, hw2⟩ := hA
        refine Ev.bind hw1 ?_
        have hsame := same_least (fun v v0 _ => (bnd_nil v0).symm) ha hw2
        have hwl : w.1.length ≤ 20 := by
          rcases hsame with ⟨_, _, q, q2⟩ | ⟨_, _, _, q⟩
          · rw [← q]; omega
          · rw [q]; simp
        -- the test of the depth
        refine Ev.up (c := fun k i => jacquardlaw31_BoundsWindow.c9 k ii depth r.2.2.1 (Flow.N f + 2) (w.2.1 && decide (∀ v, v < i → rd w.1 (v : Int) ≤ depth)) (w.1.length : Int) (i : Int) f r.1 r.2.1 w.1) (n := w.1.length) ?_ ?_ 0 (Nat.zero_le _) |> fun q => by simpa using q
        · refine .succ ?_
          simp (disch := omega) only [jacquardlaw31_BoundsWindow.c9, ↓cdF]
          rcases hr with ⟨a1, a2, a3, a4, u, hu, a5⟩ | ⟨a1, rfl⟩
          · rcases hsame with ⟨_, q1, q2, q3⟩ | ⟨q, _⟩
            · have e : (w.2.1 && decide (∀ v, v < w.1.length → rd w.1 (v : Int) ≤ depth)) = true := by
                rw [q1, ← q2, Bool.true_and]; exact decide_eq_true a2
              rw [e]
              simp only [Bool.not_true, cond_false]
              simp (disch := omega) only [↓if_pos]
              have hfeas : Feas (Flow.N f + 2) (Flow.Arcs f) ii (rd a.1) := by
                rcases ha with ⟨_, _, _, q, _⟩ | ⟨_, c, q, _⟩
                · exact q
                · rw [a1] at q; cases q
              -- the upper bounds
              have up : ∀ (d i : Nat) (x : List Int), (i : Int) + d = Flow.N f + 2 → (x.length : Int) = Flow.N f + 2 → (∀ v : Nat, v < i → rd x (v : Int) = depth) → Ev (fun k => jacquardlaw31_BoundsWindow.c17 k ii depth r.2.2.1 (Flow.N f + 2) (Flow.N f + 2) (i : Int) f r.1 r.2.1 w.1 x) true := by
                intro d
                induction d with
                | zero =>
                  intro i x hi hx hv
                  have ex : x = List.replicate (Flow.N f + 2).toNat depth := by
                    refine list_ext_rd (by simp; omega) fun v hv' => ?_
                    rw [hv v (by omega), Go.Vm.rd_replicate (by omega)]
                  subst ex
                  refine .succ ?_
                  simp (disch := omega) only [jacquardlaw31_BoundsWindow.c17, ↓cdF, src_ref V, Option.bind_some, ↓if_pos]
                  have hL := latest_ref_f (n0 := Flow.N f + 2) (arcs := Flow.Arcs f) (ii := ii) (upper := UP (Flow.N f + 2) depth) (by rw [nod_of V]; omega) (by have := hf.1.arcs; omega)
                  rw [nod_of V] at hL
                  have eU : UP (Flow.N f + 2) depth = List.set (List.replicate (Flow.N f + 2).toNat depth) (Flow.N f).toNat 0 := by unfold UP; rw [show Flow.N f + 2 - 2 = Flow.N f by omega]
                  rw [← eU]
                  obtain ⟨m, hm1, hm2⟩ := hL
                  refine Ev.bind hm1 ?_
                  obtain ⟨s1, s2⟩ := same_most hfeas hu hm2
                  have l1 : (r.1.length : Int) = Flow.N f + 2 := by rw [a3]; exact q3
                  have l2 : (r.2.1.length : Int) = Flow.N f + 2 := by rw [a5]; exact s2
                  have l3 : w.1 = r.1 := by rw [a3, q2]
                  have l4 : m.1 = r.2.1 := by rw [a5, s1]
                  rw [l3, l4]
                  simp (disch := omega) only [↓cnF]
                  obtain ⟨n, hn⟩ : ∃ n : Nat, Flow.N f + 2 = (n : Int) := ⟨(Flow.N f + 2).toNat, by omega⟩
                  rw [hn]
                  refine Ev.up (c := fun k i => jacquardlaw31_BoundsWindow.c26 k (n : Int) (i : Int) r.1 r.2.1 r.1 r.2.1) (n := n) ?_ ?_ 0 (Nat.zero_le _)
                  · refine .succ ?_
                    simp (disch := omega) only [jacquardlaw31_BoundsWindow.c26, ↓cdF]
                    exact .ret _
                  · intro i hi hnext
                    refine .succ ?_
                    simp (disch := omega) only [jacquardlaw31_BoundsWindow.c26, ↓cdT, ↓if_pos, ↓cnF, w64_id]
                    exact hnext
                | succ d ih =>
                  intro i x hi hx hv
                  refine .succ ?_
                  simp (disch := omega) only [jacquardlaw31_BoundsWindow.c17, ↓cdT, ↓if_pos, w64_id, Int.toNat_natCast]
                  refine ih (i + 1) _ (by omega) (by simpa using hx) fun v hv' => ?_
                  rw [Go.Vm.rd_set (by omega)]
                  by_cases e : i = v
                  · rw [if_pos e]
                  · rw [if_neg e]; exact hv v (by omega)
              have := up (Flow.N f + 2).toNat 0 (List.replicate (Flow.N f + 2).toNat 0) (by omega) (by simp; omega) (fun v hv => absurd hv (Nat.not_lt_zero _))
              rw [show ((List.replicate (Flow.N f + 2).toNat (0 : Int)).length : Int) = Flow.N f + 2 by simp; omega]
              exact this
            · exact absurd a1 q
          · have e : (w.2.1 && decide (∀ v, v < w.1.length → rd w.1 (v : Int) ≤ depth)) = false := by
              rcases hsame with ⟨p, q1, q2, q3⟩ | ⟨_, _, q, _⟩
              · rcases a1 with a1 | ⟨v, v1, v2⟩
                · exact absurd p a1
                · rw [q1, ← q2, Bool.true_and]
                  exact decide_eq_false fun hh => by have := hh v v1; omega
              · rw [q]; rfl
            rw [e]
            simp only [Bool.not_false, cond_true, decide_true]
            exact .ret _
        · intro i hi hnext
          refine .succ ?_
          have hs : (∀ v, v < i + 1 → rd w.1 (v : Int) ≤ depth) ↔ (∀ v, v < i → rd w.1 (v : Int) ≤ depth) ∧ rd w.1 (i : Int) ≤ depth :=
            ⟨fun q => ⟨fun v hv => q v (by omega), q i (by omega)⟩, fun q v hv => by
              by_cases e : v = i
              · subst e; exact q.2
              · exact q.1 v (by omega)⟩
          simp (disch := omega) only [jacquardlaw31_BoundsWindow.c9, ↓cdT, ↓if_pos, w64_id]
          have hn' : ∀ b, (w.2.1 && decide (∀ v, v < i + 1 → rd w.1 (v : Int) ≤ depth)) = b → Ev (fun k => jacquardlaw31_BoundsWindow.c9 k ii depth r.2.2.1 (Flow.N f + 2) b (w.1.length : Int) ((i : Int) + 1) f r.1 r.2.1 w.1) true := by
            rintro _ rfl; exact hnext
          refine Ev.cond (fun hb => ?_) fun hb => ?_
          · rw [Bool.and_eq_true] at hb
            refine hn' _ ?_
            rw [hb.1, Bool.true_and, decide_eq_decide, hs]
            exact ⟨fun q => q.2, fun q => ⟨of_decide_eq_true hb.2, q⟩⟩
          · refine hn' _ ?_
            rw [Bool.and_eq_false_iff] at hb ⊢
            rcases hb with hb | hb
            · exact .inl hb
            · exact .inr (decide_eq_false fun q => of_decide_eq_false hb (hs.1 q).1)
      unfold BADW at hok
      cases hl : Flow.Loop f with
      | false =>
        rw [hl] at hok
        simp at hok
        simp only [Bool.not_false, cond_true, cond_false]
        simp (disch := omega) only [↓cnF, ↓cdF]
        exact main
      | true =>
        rw [hl] at hok
        simp at hok
        simp only [Bool.not_true, cond_true, cond_false]
        simp (disch := omega) only [↓cdF]
        exact main
  · have e : Ev (fun k => bounds_Window.f k f ii depth) ([], [], 3, ()) := by
      simp only [bounds_Window.f]
      refine Ev.bind ((valid_prog S).false V) ?_
      simp only [Bool.not_false, cond_true]
      exact .ret _
    refine Ev.bind e (Ev.bind ((valid_ref S).false V) ?_)
    simp only [Bool.not_false, cond_true, decide_true]
    exact .ret _
end
end Go.Proofs.YtehpelomfhaleaaV
