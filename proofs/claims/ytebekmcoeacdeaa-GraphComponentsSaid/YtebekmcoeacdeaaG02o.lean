/- Chapter 02: the program's search for a cycle, and the law GraphCycle. -/
import Derived.Test.YtebekmcoeacdeaaG02n
set_option linter.unusedVariables false
set_option linter.unusedSimpArgs false
namespace Go.Proofs.YtebekmcoeacdeaaV
open Go Go.Vm

theorem left_pop {g : Graph} {S A : Nat → Int} {v : Nat} (hv : v < gN g) (hS : S v = 1) : left g (set1 S v 2) A < left g S A := by
  refine sumN_lt (v := v) (fun i hi => ?_) hv ?_
  · by_cases e : i = v
    · subst e
      show _ + (if set1 S i 2 i = 2 then 0 else 1) ≤ _ + (if S i = 2 then 0 else 1)
      rw [set1_eq, if_pos rfl]; omega
    · show _ + (if set1 S v 2 i = 2 then 0 else 1) ≤ _ + (if S i = 2 then 0 else 1)
      rw [set1_ne e]; exact Nat.le_refl _
  · show _ + (if set1 S v 2 v = 2 then 0 else 1) < _ + (if S v = 2 then 0 else 1)
    rw [set1_eq, if_pos rfl, if_neg (by omega)]; omega
theorem left_skip {g : Graph} {S S' A : Nat → Int} {v j : Nat} (hv : v < gN g) (hA : A v = (j : Int)) (hj : j < (succs g v).length) (hSS : ∀ u, S' u = 2 ↔ S u = 2) : left g S' (set1 A v ((j : Int) + 1)) < left g S A := by
  refine sumN_lt (v := v) (fun i hi => ?_) hv ?_
  · show _ + (if S' i = 2 then 0 else 1) ≤ _ + (if S i = 2 then 0 else 1)
    simp only [hSS]
    by_cases e : i = v
    · subst e; rw [set1_eq, hA]; omega
    · rw [set1_ne e]; exact Nat.le_refl _
  · show _ + (if S' v = 2 then 0 else 1) < _ + (if S v = 2 then 0 else 1)
    simp only [hSS]
    rw [set1_eq, hA]; omega

theorem clone_ev {l : List Int} (h : l ≠ []) (hl : l.length ≤ 1000000) : slices_Clone_int_int.f l = some l := by
  have := List.length_pos_iff.2 h
  unfold slices_Clone_int_int.f
  rw [if_pos (by omega), bleT (by simp; omega)]
  rfl

theorem Cycle_prog (g : Graph) (hn : gN g ≤ 1000) (hl : g.2.1.length ≤ 1000000) : W (fun k => graph_Cycle.f k g) (CANS g) := by
  simp only [graph_Cycle.f]
  refine .bindEv (Next_prog g hl) ?_
  simp (disch := first | omega | (rw [NEXT_len]; omega)) only [↓if_pos, NEXT_len, Int.toNat_natCast]
  have main : ∀ (d root : Nat), root + d = gN g → ∀ S A : Nat → Int, ∀ FIN : List Int, CI g S A [] FIN → (∀ v, v < root → S v ≠ 0) →
      W (fun k => graph_Cycle.c5 k (gN g : Int) (root : Int) (NEXT g) (tb (gN g) S) (tb (gN g) A)) (CANS g) := by
    intro d
    induction d with
    | zero =>
      intro root hr S A FIN hI hS
      refine .succ ?_
      simp (disch := omega) only [graph_Cycle.c5, ↓cdF]
      refine .ret (.inl ⟨rfl, ?_⟩)
      have hall : ∀ v : Nat, v < gN g → (v : Int) ∈ FIN := fun v hv => (hI.fin _).2 ⟨v, rfl, hv, by
        rcases hI.st v hv with h | h | h
        · exact absurd h (hS v (by omega))
        · have := (hI.way (v : Int)).2 ⟨v, rfl, hv, h⟩
          cases this
        · exact h⟩
      obtain ⟨f, h1, h2⟩ := rank_of FIN (fun a b => adj g a b = true) (fun i hi a b ha hb => hI.ord i hi a b ha hb) (fun a b h => hall a (adj_l h))
      exact ⟨f, _, h1, h2⟩
    | succ d ih =>
      intro root hr S A FIN hI hS
      have hrn : root < gN g := by omega
      -- the way
      have loop : ∀ (m : Nat) (S A : Nat → Int) (W FIN : List Int), left g S A ≤ m → CI g S A W FIN → (∀ v, v < root + 1 → S v ≠ 0) →
          Vm.W (fun k => graph_Cycle.c10 k (gN g : Int) (root : Int) (NEXT g) (tb (gN g) S) (tb (gN g) A) W) (CANS g) := by
        intro m
        induction m with
        | zero =>
          intro S A W FIN hm hI hS
          rcases List.eq_nil_or_concat W with rfl | ⟨W', x, rfl⟩
          · refine .succ ?_
            simp (disch := first | omega | simp) only [graph_Cycle.c10, ↓cdF, w64_id]
            exact ih (root + 1) (by omega) S A FIN hI hS
          · rw [List.concat_eq_append] at hI ⊢
            obtain ⟨v, rfl, hv, hvS⟩ := (hI.way x).1 (by simp)
            have := left_pop (A := A) hv hvS
            omega
        | succ m ihm =>
          intro S A W FIN hm hI hS
          rcases List.eq_nil_or_concat W with rfl | ⟨W', x, rfl⟩
          · refine .succ ?_
            simp (disch := first | omega | simp) only [graph_Cycle.c10, ↓cdF, w64_id]
            exact ih (root + 1) (by omega) S A FIN hI hS
          · rw [List.concat_eq_append] at hI ⊢
            obtain ⟨v, rfl, hv, hvS⟩ := (hI.way x).1 (by simp)
            have hlen := hI.len
            have hl1 : (W' ++ [(v : Int)]).length = W'.length + 1 := by simp
            have e1 : w64 (((W' ++ [(v : Int)]).length : Int) - 1) = (W'.length : Int) := by rw [w64_id (by omega) (by omega), hl1]; omega
            have e2 : rd (W' ++ [(v : Int)]) (W'.length : Int) = (v : Int) := rd_app_at
            have hsl := succs_len g v
            obtain ⟨a1, a2, a3⟩ := hI.at0 v hv
            refine .succ ?_
            simp (disch := first | omega | (rw [tb_len]; omega) | (rw [NEXT_len]; omega)) only [graph_Cycle.c10, ↓cdT, e1, e2, ↓if_pos, NEXT_rd hv, tb_rd hv, Int.toNat_natCast]
            refine .dec (fun hend => ?_) fun hend => ?_
            · simp only [tb_set1]
              rw [show List.take W'.length (W' ++ [(v : Int)]) = W' by simp]
              refine ihm (set1 S v 2) A W' (FIN ++ [(v : Int)]) (by have := left_pop (A := A) hv hvS; omega) (hI.pop hv hend) fun u hu => ?_
              by_cases e : u = v
              · subst e; rw [set1_eq]; omega
              · rw [set1_ne e]; exact hS u hu
            · obtain ⟨j, hj⟩ : ∃ j : Nat, A v = (j : Int) := ⟨(A v).toNat, by omega⟩
              have hjl : j < (succs g v).length := by omega
              obtain ⟨w, hw, haw, hwn⟩ := succs_rd (g := g) (a := v) hjl
              have e3 : w64 ((j : Int) + 1) = (j : Int) + 1 := w64_id (by omega) (by omega)
              simp (disch := first | omega | (rw [tb_len]; omega)) only [hj, hw, ↓if_pos, tb_rd hwn, Int.toNat_natCast, tb_set1, e3]
              refine .dec (fun h0 => ?_) fun h0 => ?_
              · simp (disch := first | omega | (simp only [List.length_cons, List.length_nil]; omega)) only [↓bleT]
                refine ihm (set1 S w 1) (set1 A v ((j : Int) + 1)) (W' ++ [(v : Int)] ++ [(w : Int)]) FIN ?_ (hI.push hv hj hjl hw haw h0) fun u hu => ?_
                · have := left_skip (S := S) (S' := set1 S w 1) hv hj hjl (fun u => by
                    by_cases e : u = w
                    · subst e; rw [set1_eq]; omega
                    · rw [set1_ne e])
                  omega
                · by_cases e : u = w
                  · subst e; rw [set1_eq]; omega
                  · rw [set1_ne e]; exact hS u hu
              · refine .dec (fun h1 => ?_) fun h1 => ?_
                · have hmem : (w : Int) ∈ W' ++ [(v : Int)] := (hI.way _).2 ⟨w, rfl, hwn, h1⟩
                  refine .bind (index_ev (W' ++ [(v : Int)]) (w : Int) (by omega) (mem_rd hmem)) fun r hr => ?_
                  obtain ⟨y, hy, rfl, hyw⟩ := hr
                  have hcyc := hI.cyc hy hyw haw
                  simp (disch := omega) only [↓if_pos, Int.toNat_natCast]
                  rw [List.take_of_length_le (by simp)]
                  rw [clone_ev hcyc.2.2.1 (by simp; omega)]
                  exact .ret (.inr hcyc)
                · have h2 : S w = 2 := by
                    rcases hI.st w hwn with h | h | h
                    · exact absurd h h0
                    · exact absurd h h1
                    · exact h
                  refine ihm S (set1 A v ((j : Int) + 1)) (W' ++ [(v : Int)]) FIN ?_ (hI.skip hv hj hjl hw h2) hS
                  have := left_skip (S := S) (S' := S) hv hj hjl (fun u => Iff.rfl)
                  omega
      refine .succ ?_
      simp (disch := first | omega | (rw [tb_len]; omega)) only [graph_Cycle.c5, ↓cdT, ↓if_pos, tb_rd hrn, w64_id, Int.toNat_natCast, tb_set1]
      by_cases h0 : S root = 0
      · simp (disch := omega) only [↓cnF]
        refine loop _ (set1 S root 1) A [(root : Int)] FIN (Nat.le_refl _) ⟨fun u hu => ?_, by simp, fun x => ?_, fun x => ?_, ⟨fun i hi => ⟨root, ?_, hrn⟩, fun i hi => by simp at hi⟩, hI.ord, fun u hu => ?_, fun i hi u w hru hw => ?_⟩ fun u hu => ?_
        · by_cases e : u = root
          · subst e; rw [set1_eq]; omega
          · rw [set1_ne e]; exact hI.st u hu
        · constructor
          · intro hx; exact ⟨root, by simpa using hx, hrn, set1_eq ..⟩
          · rintro ⟨u, rfl, h1, h2⟩
            by_cases e : u = root
            · subst e; simp
            · rw [set1_ne e] at h2
              have := (hI.way (u : Int)).2 ⟨u, rfl, h1, h2⟩
              cases this
        · rw [hI.fin]
          constructor
          · rintro ⟨u, rfl, h1, h2⟩
            exact ⟨u, rfl, h1, by rw [set1_ne (fun e => by subst e; omega)]; exact h2⟩
          · rintro ⟨u, rfl, h1, h2⟩
            have e : u ≠ root := fun e => by subst e; rw [set1_eq] at h2; omega
            rw [set1_ne e] at h2
            exact ⟨u, rfl, h1, h2⟩
        · have : i = 0 := by simp at hi; omega
          subst this; rfl
        · refine ⟨(hI.at0 u hu).1, (hI.at0 u hu).2.1, fun h1 => ?_⟩
          by_cases e : u = root
          · subst e; rw [set1_eq] at h1; omega
          · rw [set1_ne e] at h1; exact (hI.at0 u hu).2.2 h1
        · have : i = 0 := by simp at hi; omega
          subst this
          have hru' : (root : Int) = (u : Int) := hru
          have e : root = u := by omega
          subst e
          rw [(hI.at0 root hrn).2.2 h0] at hw
          simp at hw
        · by_cases e : u = root
          · subst e; rw [set1_eq]; omega
          · rw [set1_ne e]; exact hS u (by omega)
      · simp (disch := omega) only [↓cnT]
        refine ih (root + 1) (by omega) S A FIN hI fun u hu => ?_
        by_cases e : u = root
        · subst e; exact h0
        · exact hS u (by omega)
  have := main (gN g) 0 (by omega) (fun _ => 0) (fun _ => 0) [] ⟨fun v _ => .inl rfl, by simp, fun x => ⟨fun h => (by cases h), fun ⟨u, _, _, h⟩ => by simp at h⟩, fun x => ⟨fun h => (by cases h), fun ⟨u, _, _, h⟩ => by simp at h⟩, ⟨fun i hi => absurd hi (Nat.not_lt_zero _), fun i hi => absurd hi (Nat.not_lt_zero _)⟩, fun i hi => absurd hi (Nat.not_lt_zero _), fun v _ => ⟨Int.le_refl _, Int.natCast_nonneg _, fun _ => rfl⟩, fun i hi => absurd hi (Nat.not_lt_zero _)⟩ (fun v hv => absurd hv (Nat.not_lt_zero _))
  rw [← tb_rep] at this
  exact this

theorem cycle_check (g : Graph) (c : List Int) (hc : CYC g c) (hl : c.length ≤ 1000000) : Ev (fun k => jacquardlaw02_GraphCycle.c9 k (c.length : Int) 0 c (MAT g)) true := by
  obtain ⟨hnd, hpt, hne, a0, b0, ha0, hb0, hab0⟩ := hc
  have hpos : 0 < c.length := List.length_pos_iff.2 hne
  refine Ev.up (c := fun k i => jacquardlaw02_GraphCycle.c9 k (c.length : Int) (i : Int) c (MAT g)) (n := c.length) ?_ ?_ 0 (Nat.zero_le _)
  · refine .succ ?_
    simp (disch := omega) only [jacquardlaw02_GraphCycle.c9, ↓cdF]
    rw [decide_eq_true (by omega)]
    exact .ret _
  · intro i hi hnext
    simp only [natC] at hnext
    have key : ∃ (nx : Nat) (a b : Nat), Int.tmod (w64 ((i : Int) + 1)) (c.length : Int) = (nx : Int) ∧ nx < c.length ∧ rd c (i : Int) = (a : Int) ∧ rd c (nx : Int) = (b : Int) ∧ adj g a b = true := by
      rw [w64_id (by omega) (by omega), Int.tmod_eq_emod_of_nonneg (by omega)]
      by_cases e : i + 1 = c.length
      · refine ⟨0, a0, b0, ?_, hpos, ?_, hb0, hab0⟩
        · rw [show (i : Int) + 1 = (c.length : Int) by omega, Int.emod_self]; rfl
        · rw [← ha0]; congr 2; omega
      · obtain ⟨a, b, h1, h2, h3⟩ := hpt.2 i (by omega)
        refine ⟨i + 1, a, b, ?_, by omega, h1, h2, h3⟩
        rw [Int.emod_eq_of_lt (by omega) (by omega)]; omega
    obtain ⟨nx, a, b, e1, e2, e3, e4, e5⟩ := key
    have han := adj_l e5
    have hbn := adj_r e5
    refine .succ ?_
    simp (disch := first | omega | (rw [MAT_len]; omega) | (rw [MAT_row han]; omega)) only [jacquardlaw02_GraphCycle.c9, ↓cdT, ↓if_pos, e1, e3, e4, ↓cdF, MAT_len, MAT_rd han hbn, e5, Bool.not_true, cond_false]
    refine Ev.up (c := fun k j => jacquardlaw02_GraphCycle.c15 k (i : Int) (c.length : Int) (i : Int) (i : Int) (j : Int) c (MAT g)) (n := i) ?_ ?_ 0 (Nat.zero_le _)
    · refine .succ ?_
      simp (disch := omega) only [jacquardlaw02_GraphCycle.c15, ↓cdF, w64_id]
      exact hnext
    · intro j hj h2
      simp only [natC] at h2
      refine .succ ?_
      have : ¬ rd c (j : Int) = rd c (i : Int) := fun e => by have := nodup_idx hnd (by omega) hi e; omega
      simp (disch := first | omega | exact this) only [jacquardlaw02_GraphCycle.c15, ↓cdT, ↓if_pos, ↓cdF, w64_id]
      exact h2

theorem PureGraphCycle (g : Graph) (h0 : Ty.good Graph.T g) : ∃ k, jacquardlaw02_GraphCycle.f k g = some true := by
  refine Ev.ex (f := fun k => jacquardlaw02_GraphCycle.f k g) ?_
  simp only [jacquardlaw02_GraphCycle.f]
  have hend : Ev (fun k => (jacquardlaw02_awake.f k).bind fun y16 => some y16) true := Ev.bind awake_ev (.ret true)
  refine Ev.bind awake_ev ?_
  simp only [Bool.not_true, cond_false]
  obtain ⟨bf, e1, e2⟩ := few_ev g
  rw [e1]
  simp only [Option.bind_some]
  refine Ev.cond (fun _ => hend) fun hb => ?_
  obtain ⟨hn, hl⟩ := e2.1 (by simpa using hb)
  obtain ⟨c, c1, c2⟩ := Cycle_prog g (by omega) (by omega)
  obtain ⟨r, r1, out, hd, rfl⟩ := Topo_prog g (by omega) (by omega)
  refine .bind c1 (.bind r1 ?_)
  rcases c2 with ⟨rfl, hac⟩ | hcyc
  · rw [if_pos (DONE_acyc hd hac)]
    exact .ret true
  · rw [if_neg (DONE_cyc hd hcyc)]
    simp only [cond_false]
    refine .bind (Matrix_ref g (by omega)) (cycle_check g c hcyc ?_)
    have := pigeon (gN g) c hcyc.1 fun x hx => by
      obtain ⟨i, hi, rfl⟩ := mem_rd hx
      obtain ⟨a, h1, h2⟩ := hcyc.2.1.1 i hi
      omega
    omega
end Go.Proofs.YtebekmcoeacdeaaV
