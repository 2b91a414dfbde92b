/- Chapter 02: the law GraphNext. -/
import Derived.Test.YtebekmcoeacdeaaG02d
set_option linter.unusedVariables false
set_option linter.unusedSimpArgs false
namespace Go.Proofs.YtebekmcoeacdeaaV
open Go Go.Vm

def g0 : Graph := (2, [(1, 0, ())], ())
theorem next0 : NEXT g0 = [[], [0]] := by decide
theorem awake_ev : Ev (fun k => jacquardlaw02_awake.f k) true := by
  simp only [jacquardlaw02_awake.f, graph_Topo.f]
  refine .bind (x := ([1, 0], true, ())) ?_ ?_
  · refine .bind (Next_prog g0 (by decide)) ?_
    rw [next0]
    refine ⟨60, fun k hk => ?_⟩
    obtain ⟨j, rfl⟩ : ∃ j, k = j + 60 := ⟨k - 60, by omega⟩
    kernel_rfl
  · exact .ret _

theorem LK_zero (g : Graph) : LK g 0 0 = [] := rfl
theorem LK_next (g : Graph) (b : Nat) : LK g b (gN g) = LK g (b + 1) 0 := by
  unfold LK
  rw [List.range_succ, List.flatMap_append]
  simp [col, pick]
theorem LK_succ (g : Graph) (b a : Nat) : LK g b (a + 1) = if adj g a b = true then LK g b a ++ [((b : Int), (a : Int), ())] else LK g b a := by
  unfold LK col
  rw [pick_succ]
  split <;> simp
theorem LINKS_LK (g : Graph) : LINKS g = LK g (gN g) 0 := by simp [LK, LINKS, col, pick]
theorem col_prefix (g : Graph) (b : Nat) : ∀ d a, a + d = gN g → LK g b a <+: LK g b (gN g)
  | 0, a, h => by rw [show a = gN g by omega]; exact List.prefix_refl _
  | d + 1, a, h => by
    refine List.IsPrefix.trans ?_ (col_prefix g b d (a + 1) (by omega))
    rw [LK_succ]
    split
    · exact List.prefix_append _ _
    · exact List.prefix_refl _
theorem LK_prefix (g : Graph) : ∀ d b, b + d = gN g → ∀ a, a ≤ gN g → b < gN g → LK g b a <+: LINKS g
  | 0, b, h, _, _, h2 => by omega
  | d + 1, b, h, a, ha, h2 => by
    refine (col_prefix g b (gN g - a) a (by omega)).trans ?_
    rw [LK_next]
    by_cases e : b + 1 < gN g
    · exact LK_prefix g d (b + 1) (by omega) 0 (by omega) e
    · rw [LINKS_LK, show gN g = b + 1 by omega]
      exact List.prefix_refl _
theorem LINKS_at {g : Graph} {a b : Nat} (h : adj g a b = true) : (LK g b a).length < (LINKS g).length ∧ rd (LINKS g) ((LK g b a).length : Int) = ((b : Int), (a : Int), ()) := by
  have hp := LK_prefix g (gN g - b) b (by have := adj_r h; omega) (a + 1) (adj_l h) (adj_r h)
  rw [LK_succ, if_pos h] at hp
  obtain ⟨t, ht⟩ := hp
  have hlt : (LK g b a).length < (LINKS g).length := by rw [← ht]; simp
  refine ⟨hlt, ?_⟩
  rw [rd_eq hlt]
  simp only [← ht]
  simp

theorem take_mem_succ {l : List Int} {j : Nat} (hj : j < l.length) (x : Int) : x ∈ l.take (j + 1) ↔ x ∈ l.take j ∨ rd l (j : Int) = x := by
  rw [List.take_add_one, List.getElem?_eq_getElem hj, rd_eq hj, List.mem_append]
  simp only [Option.toList_some, List.mem_singleton]
  exact or_congr Iff.rfl eq_comm
theorem asc_take {l : List Int} (h : l.Pairwise (· < ·)) {j : Nat} (hj : j < l.length) : rd l (j : Int) ∉ l.take j := by
  intro hm
  obtain ⟨i, hi, e⟩ := List.getElem_of_mem hm
  rw [rd_eq hj] at e
  simp only [List.length_take] at hi
  rw [List.getElem_take] at e
  have := List.pairwise_iff_getElem.1 h i j (by omega) hj (by omega)
  omega

/-- how many links were found -/
def found (g : Graph) (b a j : Nat) : Nat := (LK g b a).length + if (b : Int) ∈ (succs g a).take j then 1 else 0
theorem found_zero (g : Graph) (b a : Nat) : found g b a 0 = (LK g b a).length := by simp [found]
theorem found_end {g : Graph} {b a : Nat} : found g b a (succs g a).length = (LK g b (a + 1)).length := by
  unfold found
  rw [List.take_length, LK_succ]
  by_cases h : adj g a b = true
  · rw [if_pos h, if_pos (mem_succs.2 ⟨b, rfl, h⟩)]; simp
  · rw [if_neg h, if_neg (fun hm => by
      obtain ⟨c, e, hc⟩ := mem_succs.1 hm
      rw [show c = b by omega] at hc
      exact h hc)]; simp
theorem LK_len (g : Graph) {b a : Nat} (hb : b < gN g) (ha : a ≤ gN g) : (LK g b a).length ≤ (LINKS g).length := (LK_prefix g (gN g - b) b (by omega) a ha hb).length_le
theorem LINKS_len (g : Graph) : (LINKS g).length ≤ gN g * gN g := by
  rw [← LAID_sorted]
  unfold sortgraph_Turn_1
  rw [List.length_mergeSort]
  exact LAID_len g _

theorem PureGraphNext (g : Graph) (h0 : Ty.good Graph.T g) : ∃ k, jacquardlaw02_GraphNext.f k g = some true := by
  refine Ev.ex (f := fun k => jacquardlaw02_GraphNext.f k g) ?_
  simp only [jacquardlaw02_GraphNext.f]
  have hend : Ev (fun k => (jacquardlaw02_awake.f k).bind fun y16 => some y16) true := Ev.bind awake_ev (.ret true)
  refine Ev.bind awake_ev ?_
  simp only [Bool.not_true, cond_false]
  obtain ⟨bf, e1, e2⟩ := few_ev g
  rw [e1]
  simp only [Option.bind_some]
  refine Ev.cond (fun _ => hend) fun hb => ?_
  obtain ⟨hn, hl⟩ := e2.1 (by simpa using hb)
  refine .bind (Next_prog g (by omega)) ?_
  refine .bind (Next_ref g (by omega)) ?_
  refine .bind (Turn_prog g (by omega) (by omega)) ?_
  have hN : Graph.N (TURN g) = (gN g : Int) := rfl
  have hL : Graph.Links (TURN g) = LINKS g := rfl
  rw [hN, hL]
  have hll : (LINKS g).length ≤ 576 := Nat.le_trans (LINKS_len g) (Nat.mul_le_mul hn hn)
  simp (disch := (rw [NEXT_len]; try omega)) only [↓cnF]
  simp only [NEXT_len, decide_true, Bool.not_true, cond_false]
  refine Ev.up (c := fun k b => jacquardlaw02_GraphNext.c9 k ((LK g b 0).length : Int) (gN g : Int) (b : Int) (NEXT g) (NEXT g) (gN g : Int) (LINKS g)) (n := gN g) ?_ ?_ 0 (Nat.zero_le _)
  · refine .succ ?_
    simp (disch := omega) only [jacquardlaw02_GraphNext.c9, ↓cdF]
    rw [← LINKS_LK]
    simp only [decide_true]
    exact .ret _
  · intro b hb hnext
    refine .succ ?_
    simp only [natC] at hnext
    simp (disch := first | omega | (rw [NEXT_len]; omega)) only [jacquardlaw02_GraphNext.c9, ↓cdT, ↓if_pos]
    refine .bind ((same_ev _ _ (by rw [NEXT_rd hb]; have := succs_len g b; omega)).true rfl) ?_
    simp only [Bool.not_true, cond_false, NEXT_len]
    refine Ev.up (c := fun k a => jacquardlaw02_GraphNext.c14 k ((LK g b a).length : Int) (b : Int) (gN g : Int) (b : Int) (gN g : Int) (a : Int) (NEXT g) (NEXT g) (gN g : Int) (LINKS g)) (n := gN g) ?_ ?_ 0 (Nat.zero_le _)
    · refine .succ ?_
      simp (disch := omega) only [jacquardlaw02_GraphNext.c14, ↓cdF, w64_id]
      rw [LK_next]
      exact hnext
    · intro a ha h2
      refine .succ ?_
      simp only [natC] at h2
      simp (disch := first | omega | (rw [NEXT_len]; omega)) only [jacquardlaw02_GraphNext.c14, ↓cdT, ↓if_pos, NEXT_rd ha]
      have hsl := succs_len g a
      have hk := LK_len g (a := a) hb (by omega)
      rw [← found_zero]
      refine Ev.up (c := fun k j => jacquardlaw02_GraphNext.c17 k (found g b a j : Int) (b : Int) (a : Int) (gN g : Int) (b : Int) (gN g : Int) (a : Int) ((succs g a).length : Int) (j : Int) (NEXT g) (NEXT g) (gN g : Int) (LINKS g)) (n := (succs g a).length) ?_ ?_ 0 (Nat.zero_le _)
      · refine .succ ?_
        simp (disch := omega) only [jacquardlaw02_GraphNext.c17, ↓cdF, w64_id]
        rw [found_end]
        exact h2
      · intro j hj h3
        refine .succ ?_
        simp only [natC] at h3
        simp (disch := first | omega | (rw [NEXT_len]; omega) | (rw [NEXT_rd ha]; omega)) only [jacquardlaw02_GraphNext.c17, ↓cdT, ↓if_pos, NEXT_rd ha, w64_id]
        refine .dec (fun e => ?_) fun e => ?_
        · have hadj : adj g a b = true := by
            have : rd (succs g a) (j : Int) ∈ succs g a := rd_mem (by omega) (by omega)
            rw [e] at this
            obtain ⟨c, e, hc⟩ := mem_succs.1 this
            rwa [show b = c by omega]
          have hnot : (b : Int) ∉ (succs g a).take j := by
            rw [← e]; exact asc_take (succs_sorted g a) hj
          have hf : found g b a j = (LK g b a).length := by unfold found; rw [if_neg hnot]; rfl
          have hf2 : found g b a (j + 1) = (LK g b a).length + 1 := by unfold found; rw [if_pos ((take_mem_succ hj _).2 (.inr e))]
          obtain ⟨a1, a2⟩ := LINKS_at hadj
          rw [hf]
          rw [hf2] at h3
          simp (disch := first | omega) only [↓cdF, ↓if_pos, a2, Link.From, Link.To, w64_id]
          simp only [decide_true, Bool.not_true, cond_false]
          exact h3
        · have hf : found g b a (j + 1) = found g b a j := by
            unfold found
            have : ((b : Int) ∈ (succs g a).take (j + 1)) ↔ (b : Int) ∈ (succs g a).take j := by
              rw [take_mem_succ hj]
              exact ⟨fun h => h.resolve_right e, .inl⟩
            simp only [this]
          rw [hf] at h3
          exact h3
end Go.Proofs.YtebekmcoeacdeaaV
