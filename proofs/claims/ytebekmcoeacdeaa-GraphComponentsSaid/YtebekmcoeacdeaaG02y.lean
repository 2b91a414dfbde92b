/- Chapter 02: the program's search for components. -/
import Derived.Test.YtebekmcoeacdeaaG02x
set_option linter.unusedVariables false
set_option linter.unusedSimpArgs false
namespace Go.Proofs.YtebekmcoeacdeaaV
open Go Go.Vm

theorem FINI.len {g : Graph} {F : List Int} (h : FINI g F) : F.length = gN g := by
  have h1 := (pigeon (gN g) F h.nd fun x hx => by
    obtain ⟨v, rfl, hv⟩ := h.mem x hx
    omega).1
  have h2 := pigeon2 (gN g) F h.nd h.all
  omega

noncomputable def ARR (g : Graph) (F : List Int) (j r : Nat) (l : List Int) (v : Nat) : Int := if (v : Int) ∈ l then (r : Int) else NUM g F (j + 1) v
noncomputable def ARS (g : Graph) (F : List Int) (j r : Nat) (l : List Int) (y : Int) (p : Nat) (v : Nat) : Int := if (v : Int) ∈ l.take p then y else ARR g F j r l v

theorem round_prog (g : Graph) (hn : gN g ≤ 1000) {F : List Int} (hF : FINI g F) {j r : Nat} (hj : j < F.length) (hr : rd F (j : Int) = (r : Int)) (i : Int) :
    Ev (fun k => graph_Components.b.f k i (r : Int) (r : Int) (NEXT (TURN g)) (tb (gN g) (NUM g F (j + 1)))) (NEXT (TURN g), (), tb (gN g) (NUM g F j), ()) := by
  have hrn : r < gN g := by
    obtain ⟨v, e, hv⟩ := hF.mem _ (hr ▸ rd_mem (xs := F) (i := (j : Int)) (by omega) (by omega))
    omega
  have hT := TURN_gN g
  simp (disch := first | omega | (rw [tb_len]; omega)) only [graph_Components.b.f, ↓if_pos, tb_rd hrn]
  refine .dec (fun h0 => ?_) fun h0 => ?_
  · -- it has a number
    have hp := NUM_iff.1 h0
    refine (Ev.ret _).congr fun k => ?_
    congr 3
    refine Prod.ext (tb_congr fun v hv => ?_) rfl
    by_cases e : PAST g F (j + 1) v
    · rw [NUM_pos e, NUM_pos ((PAST_at hj hr v).2 (.inr e))]
    · rw [NUM_neg e, NUM_neg fun h => e (((PAST_at hj hr v).1 h).elim (fun h => PAST_same h hp) id)]
  · have hp : ¬ PAST g F (j + 1) r := fun h => h0 (NUM_iff.2 h)
    simp only [Int.toNat_natCast, tb_set]
    refine W.ev ?_
    -- the search
    have last : ∀ l : List Int, CL g F j r l → CSH g F j l l.length →
        W (fun k => graph_Components.b.c15 k (r : Int) (l.length : Int) (NEXT (TURN g)) (tb (gN g) (ARR g F j r l)) l) (fun z => z = (NEXT (TURN g), (), tb (gN g) (NUM g F j), ())) := by
      intro l hc hs
      have hlen := hc.len
      have hpos : 0 < l.length := List.length_pos_of_mem hc.st
      have hend := hc.end hF hs hj hr hp
      refine .succ ?_
      simp (disch := omega) only [graph_Components.b.c15, ↓cdF]
      refine .bind (min_ev l hpos (by omega)) fun y ⟨hy1, p0, hp0, hy2⟩ => ?_
      have hy : y = (cmp g r : Int) := by
        obtain ⟨w, hw, hwn, _, _⟩ := hc.mem (rd l (p0 : Int)) (rd_mem (by omega) (by omega))
        have hws : Same g w r := (hend w).1 (hw ▸ rd_mem (by omega) (by omega))
        rw [hy2, hw]
        congr 1
        refine (cmp_is hws.symm fun u hu => ?_).symm
        obtain ⟨q, hq, e⟩ := mem_rd ((hend u).2 hu.symm)
        have := hy1 q hq
        omega
      have loop : ∀ (d p : Nat), p + d = l.length → W (fun k => graph_Components.b.c26 k y (l.length : Int) (p : Int) (NEXT (TURN g)) (tb (gN g) (ARS g F j r l y p)) l) (fun z => z = (NEXT (TURN g), (), tb (gN g) (NUM g F j), ())) := by
        intro d
        induction d with
        | zero =>
          intro p hpd
          refine .succ ?_
          simp (disch := omega) only [graph_Components.b.c26, ↓cdF]
          refine .ret ?_
          refine Prod.ext rfl (Prod.ext rfl (Prod.ext (tb_congr fun v hv => ?_) rfl))
          unfold ARS ARR
          rw [List.take_of_length_le (by omega)]
          by_cases e : (v : Int) ∈ l
          · have hs2 := (hend v).1 e
            rw [if_pos e, NUM_pos ((PAST_at hj hr v).2 (.inl hs2)), hy, cmp_eq hs2]
          · rw [if_neg e, if_neg e]
            have hns : ¬ Same g v r := fun h => e ((hend v).2 h)
            by_cases e2 : PAST g F (j + 1) v
            · rw [NUM_pos e2, NUM_pos ((PAST_at hj hr v).2 (.inr e2))]
            · rw [NUM_neg e2, NUM_neg fun h => e2 (((PAST_at hj hr v).1 h).resolve_left hns)]
        | succ d ih =>
          intro p hpd
          have hpl : p < l.length := by omega
          obtain ⟨w, hw, hwn, _, _⟩ := hc.mem (rd l (p : Int)) (rd_mem (by omega) (by omega))
          refine .succ ?_
          simp (disch := first | omega | (rw [tb_len]; omega)) only [graph_Components.b.c26, ↓cdT, ↓if_pos, hw, Int.toNat_natCast, tb_set, w64_id]
          have e0 : (tb (gN g) fun u => if u = w then y else ARS g F j r l y p u) = tb (gN g) (ARS g F j r l y (p + 1)) := tb_congr fun u hu => by
            unfold ARS
            have hm := take_mem_succ hpl (u : Int)
            rw [hw] at hm
            by_cases e : u = w
            · subst e
              rw [if_pos rfl, if_pos (hm.2 (.inr rfl))]
            · rw [if_neg e]
              have : ((u : Int) ∈ l.take (p + 1)) ↔ (u : Int) ∈ l.take p := ⟨fun h => (hm.1 h).resolve_right (by omega), fun h => hm.2 (.inl h)⟩
              simp only [this]
          rw [e0]
          exact ih (p + 1) (by omega)
      have := loop l.length 0 (by omega)
      have e0 : tb (gN g) (ARS g F j r l y 0) = tb (gN g) (ARR g F j r l) := tb_congr fun u hu => by unfold ARS; simp
      rw [e0] at this
      exact this
    have main : ∀ (d i : Nat), gN g = i + d → ∀ l : List Int, CL g F j r l → CSH g F j l i → i ≤ l.length →
        W (fun k => graph_Components.b.c15 k (r : Int) (i : Int) (NEXT (TURN g)) (tb (gN g) (ARR g F j r l)) l) (fun z => z = (NEXT (TURN g), (), tb (gN g) (NUM g F j), ())) := by
      intro d
      induction d with
      | zero =>
        intro i hi l hc hs hil
        have := hc.len
        obtain rfl : i = l.length := by omega
        exact last l hc hs
      | succ d ih =>
        intro i hi l hc hs hil
        by_cases hend : i = l.length
        · subst hend; exact last l hc hs
        · have hlen := hc.len
          have hil' : i < l.length := by omega
          obtain ⟨v, hv, hvn, _, _⟩ := hc.mem _ (rd_mem (xs := l) (i := (i : Int)) (by omega) (by omega))
          have hvT : v < gN (TURN g) := by omega
          have hsl := succs_len (TURN g) v
          refine .succ ?_
          simp (disch := first | omega | (rw [NEXT_len]; omega)) only [graph_Components.b.c15, ↓cdT, ↓if_pos, hv, NEXT_rd hvT]
          have loop : ∀ (e p : Nat), p + e = (succs (TURN g) v).length → ∀ l2 : List Int, CL g F j r l2 → CSH g F j l2 i → i < l2.length → rd l2 (i : Int) = (v : Int) → (∀ w : Nat, (w : Int) ∈ (succs (TURN g) v).take p → (w : Int) ∈ l2 ∨ PAST g F (j + 1) w) →
              W (fun k => graph_Components.b.c18 k (r : Int) (i : Int) (succs (TURN g) v) ((succs (TURN g) v).length : Int) (p : Int) (NEXT (TURN g)) (tb (gN g) (ARR g F j r l2)) l2) (fun z => z = (NEXT (TURN g), (), tb (gN g) (NUM g F j), ())) := by
            intro e
            induction e with
            | zero =>
              intro p hp2 l2 hb2 hs2 hi2 hv2 ht
              refine .succ ?_
              simp (disch := omega) only [graph_Components.b.c18, ↓cdF, w64_id]
              refine ih (i + 1) (by omega) l2 hb2 (fun q hq hql v' w' e' ha' => ?_) (by omega)
              by_cases e2 : q = i
              · subst e2
                rw [hv2] at e'
                rw [← show v = v' by omega] at ha'
                rw [List.take_of_length_le (by omega)] at ht
                exact ht w' (mem_succs.2 ⟨w', rfl, by rw [TURN_adj]; exact ha'⟩)
              · exact hs2 q (by omega) hql v' w' e' ha'
            | succ e ihe =>
              intro p hp2 l2 hb2 hs2 hi2 hv2 ht
              have hpl : p < (succs (TURN g) v).length := by omega
              obtain ⟨w, hw, haw⟩ : ∃ w : Nat, rd (succs (TURN g) v) (p : Int) = (w : Int) ∧ adj (TURN g) v w = true := mem_succs.1 (rd_mem (by omega) (by omega))
              rw [TURN_adj] at haw
              have hwn := adj_l haw
              have hlen2 := hb2.len
              have htk : ∀ x, x ∈ (succs (TURN g) v).take (p + 1) ↔ x ∈ (succs (TURN g) v).take p ∨ (w : Int) = x := fun x => by rw [take_mem_succ hpl, hw]
              refine .succ ?_
              simp (disch := first | omega | (rw [tb_len]; omega)) only [graph_Components.b.c18, ↓cdT, ↓if_pos, hw, tb_rd hwn, Int.toNat_natCast, tb_set, w64_id]
              have go : ∀ l3 : List Int, CL g F j r l3 → CSH g F j l3 i → i < l3.length → rd l3 (i : Int) = (v : Int) → (∀ x, x ∈ l2 → x ∈ l3) → ((w : Int) ∈ l3 ∨ PAST g F (j + 1) w) → W (fun k => graph_Components.b.c18 k (r : Int) (i : Int) (succs (TURN g) v) ((succs (TURN g) v).length : Int) ((p : Int) + 1) (NEXT (TURN g)) (tb (gN g) (ARR g F j r l3)) l3) (fun z => z = (NEXT (TURN g), (), tb (gN g) (NUM g F j), ())) := by
                intro l3 h1 h2 h3 h4 h5 h6
                have := ihe (p + 1) (by omega) l3 h1 h2 h3 h4 fun x hx => by
                  rcases (htk _).1 hx with hx | hx
                  · exact (ht x hx).imp_left (h5 _)
                  · rw [← show w = x by omega]; exact h6
                simpa only [natC] using this
              refine .dec (fun h4 => ?_) fun h4 => ?_
              · have hnl : (w : Int) ∉ l2 := fun h => by
                  unfold ARR at h4
                  rw [if_pos h] at h4; omega
                have hnp : ¬ PAST g F (j + 1) w := fun h => by
                  unfold ARR at h4
                  rw [if_neg hnl, NUM_pos h] at h4; omega
                simp (disch := first | omega | (simp only [List.length_cons, List.length_nil]; omega)) only [↓bleT]
                have e0 : (tb (gN g) fun u => if u = w then (r : Int) else ARR g F j r l2 u) = tb (gN g) (ARR g F j r (l2 ++ [(w : Int)])) := tb_congr fun u hu => by
                  unfold ARR
                  simp only [List.mem_append, List.mem_singleton]
                  by_cases e : u = w
                  · subst e; simp
                  · have : (u : Int) ≠ (w : Int) := by omega
                    simp only [if_neg e, this, or_false]
                rw [e0]
                have hvm : (v : Int) ∈ l2 := hv2 ▸ rd_mem (by omega) (by omega)
                refine go _ (hb2.app hvm haw hnp hnl) (fun q hq hql v' w' e' ha' => ?_) (by simp; omega) (by rw [rd_app_l hi2]; exact hv2) (fun x hx => List.mem_append_left _ hx) (.inl (by simp))
                rw [rd_app_l (by omega)] at e'
                exact (hs2 q hq (by omega) v' w' e' ha').imp_left (List.mem_append_left _)
              · refine go l2 hb2 hs2 hi2 hv2 (fun _ h => h) ?_
                by_cases e : (w : Int) ∈ l2
                · exact .inl e
                · unfold ARR at h4
                  rw [if_neg e] at h4
                  exact .inr (NUM_iff.1 (by omega))
          exact loop (succs (TURN g) v).length 0 (by omega) l hc hs hil' hv fun w hw => by simp at hw
    have := main (gN g) 0 (by omega) [(r : Int)] ⟨by simp, fun x hx => ⟨r, by simpa using hx, hrn, hp, .refl _⟩, by simp⟩ (fun q hq => absurd hq (Nat.not_lt_zero _)) (by simp)
    have e0 : (tb (gN g) fun u => if u = r then (r : Int) else NUM g F (j + 1) u) = tb (gN g) (ARR g F j r [(r : Int)]) := tb_congr fun u hu => by
      unfold ARR
      simp only [List.mem_singleton]
      by_cases e : u = r
      · subst e; simp
      · have : (u : Int) ≠ (r : Int) := by omega
        simp only [if_neg e, if_neg this]
    rw [e0]
    exact this
end Go.Proofs.YtebekmcoeacdeaaV
