/- Chapter 02: the order of the program, and the law GraphTopo. -/
import Derived.Test.YtebekmcoeacdeaaG02f
import Derived.Test.YtebekmcoeacdeaaG02g
set_option linter.unusedVariables false
set_option linter.unusedSimpArgs false
namespace Go.Proofs.YtebekmcoeacdeaaV
open Go Go.Vm

/-- how many predecessors have not been listed -/
def indeg (g : Graph) (out : List Int) (w : Nat) : Nat := cn (fun p => adj g p w && !decide ((p : Int) ∈ out)) (gN g)
theorem indeg_zero {g : Graph} {out : List Int} {w : Nat} : indeg g out w = 0 ↔ ∀ p, adj g p w = true → (p : Int) ∈ out := by
  unfold indeg
  rw [cn_zero]
  constructor
  · intro h p hp
    have := h p (adj_l hp)
    simpa [hp] using this
  · intro h p hp
    by_cases hb : adj g p w = true
    · simp [h p hb]
    · simp [hb]
theorem indeg_app {g : Graph} {out : List Int} {v w : Nat} (hv : (v : Int) ∉ out) : indeg g out w = indeg g (out ++ [(v : Int)]) w + if adj g v w = true then 1 else 0 := by
  unfold indeg
  rw [cn_one (v := v)]
  congr 1
  · refine cn_congr fun i hi => ?_
    by_cases e : i = v
    · subst e; simp
    · have : ¬ (i : Int) = (v : Int) := by omega
      simp [e, this]
  · have : (v < gN g ∧ (adj g v w && !decide ((v : Int) ∈ out)) = true) ↔ adj g v w = true := by
      simp only [hv, decide_false, Bool.not_false, Bool.and_true]
      exact ⟨fun h => h.2, fun h => ⟨adj_l h, h⟩⟩
    simp only [this]
theorem indeg_le (g : Graph) (out : List Int) (w : Nat) : indeg g out w ≤ gN g := cn_le _ _

theorem succs_rd {g : Graph} {a j : Nat} (hj : j < (succs g a).length) : ∃ w : Nat, rd (succs g a) (j : Int) = (w : Int) ∧ adj g a w = true ∧ w < gN g := by
  have : rd (succs g a) (j : Int) ∈ succs g a := rd_mem (by omega) (by omega)
  obtain ⟨w, e, h⟩ := mem_succs.1 this
  exact ⟨w, e, h, adj_r h⟩

/-- the heap holds what P tells -/
def HOLDS (h : List Int) (P : Nat → Prop) : Prop := HEAP h ∧ h.Nodup ∧ ∀ x, x ∈ h ↔ ∃ u : Nat, x = (u : Int) ∧ P u
theorem HOLDS_len {h : List Int} {P : Nat → Prop} {n : Nat} (hh : HOLDS h P) (hP : ∀ u, P u → u < n) : h.length ≤ n :=
  (pigeon n h hh.2.1 fun x hx => by
    obtain ⟨u, rfl, hu⟩ := (hh.2.2 x).1 hx
    have := hP u hu
    omega).1
theorem HOLDS_congr {h : List Int} {P Q : Nat → Prop} (hh : HOLDS h P) (e : ∀ u, P u ↔ Q u) : HOLDS h Q :=
  ⟨hh.1, hh.2.1, fun x => (hh.2.2 x).trans ⟨fun ⟨u, h1, h2⟩ => ⟨u, h1, (e u).1 h2⟩, fun ⟨u, h1, h2⟩ => ⟨u, h1, (e u).2 h2⟩⟩⟩
theorem push_holds {h : List Int} {P : Nat → Prop} (v : Nat) (hh : HOLDS h P) (hl : h.length < 1000000) (hv : ¬ P v) :
    W (fun k => graph_heap_push_i3.f k (v : Int) h) (fun r => HOLDS r.2.2.1 (fun u => P u ∨ u = v)) := by
  refine (push_ev (v : Int) hl hh.1).mono fun r hr => ⟨hr.1, ?_, fun x => ?_⟩
  · rw [hr.2.nodup_iff, List.nodup_cons]
    refine ⟨fun hm => ?_, hh.2.1⟩
    obtain ⟨u, e, hu⟩ := (hh.2.2 _).1 hm
    rw [show v = u by omega] at hv
    exact hv hu
  · rw [hr.2.mem_iff, List.mem_cons, hh.2.2]
    constructor
    · rintro (rfl | ⟨u, rfl, hu⟩)
      · exact ⟨v, rfl, .inr rfl⟩
      · exact ⟨u, rfl, .inl hu⟩
    · rintro ⟨u, rfl, hu | rfl⟩
      · exact .inr ⟨u, rfl, hu⟩
      · exact .inl rfl
theorem pop_holds {h : List Int} {P : Nat → Prop} (h0 : h ≠ []) (hh : HOLDS h P) (hl : h.length ≤ 1000000) :
    W (fun k => graph_heap_pop_i2.f k h) (fun r => ∃ v : Nat, r.1 = (v : Int) ∧ P v ∧ (∀ u, P u → v ≤ u) ∧ HOLDS r.2.2.1 (fun u => P u ∧ u ≠ v)) := by
  refine (pop_ev h0 hl hh.1).mono fun r hr => ?_
  obtain ⟨h1, h2, h3⟩ := hr
  obtain ⟨v, e, hv⟩ := (hh.2.2 r.1).1 (h2.mem_iff.1 (by simp))
  have hnd := (h2.nodup_iff).2 hh.2.1
  obtain ⟨n1, n2⟩ := List.nodup_cons.1 hnd
  refine ⟨v, e, hv, fun u hu => ?_, h1, n2, fun x => ?_⟩
  · have := h3 (u : Int) ((hh.2.2 _).2 ⟨u, rfl, hu⟩)
    omega
  · constructor
    · intro hx
      obtain ⟨u, rfl, hu⟩ := (hh.2.2 x).1 (h2.mem_iff.1 (by simp [hx]))
      refine ⟨u, rfl, hu, fun e2 => ?_⟩
      subst e2
      rw [← e] at hx
      exact n1 hx
    · rintro ⟨u, rfl, hu, hne⟩
      have := h2.mem_iff.2 ((hh.2.2 (u : Int)).2 ⟨u, rfl, hu⟩)
      rcases List.mem_cons.1 this with h | h
      · omega
      · exact h

theorem Topo_prog (g : Graph) (hn : gN g ≤ 1000) (hl : g.2.1.length ≤ 1000000) : W (fun k => graph_Topo.f k g) (ANS g) := by
  simp only [graph_Topo.f]
  refine .bindEv (Next_prog g hl) ?_
  simp (disch := first | omega | (rw [NEXT_len]; omega)) only [↓if_pos, NEXT_len, Int.toNat_natCast]
  -- the main loop
  have main : ∀ (d : Nat) (out h : List Int), out.length + d = gN g → GOOD g out → HOLDS h (FREE g out) →
      W (fun k => graph_Topo.c20 k (NEXT g) (tb (gN g) fun w => (indeg g out w : Int)) out h) (ANS g) := by
    intro d
    induction d with
    | zero =>
      intro out h hlen hg hh
      have hnone : h = [] := by
        cases h with
        | nil => rfl
        | cons x t =>
          obtain ⟨u, _, hu⟩ := (hh.2.2 x).1 (by simp)
          exact absurd hu ((DONE_of_all hg (by omega)).2 u)
      subst hnone
      refine .succ ?_
      simp (disch := first | omega | simp) only [graph_Topo.c20, ↓cdF, NEXT_len]
      simp (disch := omega) only [↓cnF]
      exact .ret ⟨out, DONE_of_all hg (by omega), by rw [if_pos (by omega)]⟩
    | succ d ih =>
      intro out h hlen hg hh
      by_cases hnone : h = []
      · subst hnone
        refine .succ ?_
        simp (disch := first | omega | simp) only [graph_Topo.c20, ↓cdF, NEXT_len]
        simp (disch := omega) only [↓cnT]
        refine .ret ⟨out, ⟨hg, fun u hu => ?_⟩, by rw [if_neg (by omega)]⟩
        have := (hh.2.2 (u : Int)).2 ⟨u, rfl, hu⟩
        cases this
      · have hhl := HOLDS_len hh (n := gN g) fun u hu => hu.1
        have hpos : 0 < h.length := List.length_pos_iff.2 hnone
        refine .succ ?_
        simp (disch := omega) only [graph_Topo.c20, ↓cdT]
        refine .bind (pop_holds hnone hh (by omega)) fun r hr => ?_
        obtain ⟨v, hv, hfree, hmin, hh'⟩ := hr
        have hvn := hfree.1
        have hg' : GOOD g (out ++ [(v : Int)]) := GOOD_app hg ⟨v, rfl, hfree, hmin⟩
        have hsl := succs_len g v
        simp (disch := first | omega | (rw [NEXT_len]; omega) | (simp only [List.length_cons, List.length_nil]; omega)) only [hv, ↓bleT, ↓if_pos, NEXT_rd hvn]
        -- its successors
        have loop : ∀ (e j : Nat), j + e = (succs g v).length → ∀ h2 : List Int, HOLDS h2 (fun u => (FREE g out u ∧ u ≠ v) ∨ ((u : Int) ∈ (succs g v).take j ∧ indeg g (out ++ [(v : Int)]) u = 0)) →
            W (fun k => graph_Topo.c24 k (NEXT g) (succs g v) ((succs g v).length : Int) (j : Int) (tb (gN g) fun w => ((indeg g (out ++ [(v : Int)]) w + if (w : Int) ∈ (succs g v).drop j then 1 else 0 : Nat) : Int)) (out ++ [(v : Int)]) h2) (ANS g) := by
          intro e
          induction e with
          | zero =>
            intro j hj h2 hh2
            refine .succ ?_
            simp (disch := omega) only [graph_Topo.c24, ↓cdF]
            have hq := ih (out ++ [(v : Int)]) h2 (by simp; omega) hg' (HOLDS_congr hh2 fun u => ?_)
            · have e0 : (tb (gN g) fun w => ((indeg g (out ++ [(v : Int)]) w + if (w : Int) ∈ (succs g v).drop j then 1 else 0 : Nat) : Int)) = tb (gN g) fun w => (indeg g (out ++ [(v : Int)]) w : Int) := tb_congr fun c hc => by
                rw [List.drop_eq_nil_of_le (by omega)]; simp
              rw [e0]
              exact hq
            · rw [List.take_of_length_le (by omega)]
              constructor
              · rintro (⟨h3, h4⟩ | ⟨h3, h4⟩)
                · refine ⟨h3.1, ?_, fun p hp => ?_⟩
                  · intro hm
                    rcases List.mem_append.1 hm with hm | hm
                    · exact h3.2.1 hm
                    · exact h4 (by simp at hm; omega)
                  · exact List.mem_append_left _ (h3.2.2 p hp)
                · obtain ⟨u', e', hu'⟩ := mem_succs.1 h3
                  have : u' = u := by omega
                  subst this
                  refine ⟨adj_r hu', fun hm => ?_, indeg_zero.1 h4⟩
                  rcases List.mem_append.1 hm with hm | hm
                  · exact hfree.2.1 (GOOD_closed hg hm hu')
                  · have : u' = v := by simp at hm; omega
                    subst this
                    exact hfree.2.1 (hfree.2.2 u' hu')
              · intro h3
                have hne : u ≠ v := fun e => h3.2.1 (by rw [e]; simp)
                by_cases ha : adj g v u = true
                · exact .inr ⟨mem_succs.2 ⟨u, rfl, ha⟩, indeg_zero.2 h3.2.2⟩
                · refine .inl ⟨⟨h3.1, fun hm => h3.2.1 (List.mem_append_left _ hm), fun p hp => ?_⟩, hne⟩
                  rcases List.mem_append.1 (h3.2.2 p hp) with hm | hm
                  · exact hm
                  · have : p = v := by simp at hm; omega
                    subst this
                    exact absurd hp ha
          | succ e ihe =>
            intro j hj h2 hh2
            obtain ⟨w, hw, haw, hwn⟩ := succs_rd (g := g) (a := v) (j := j) (by omega)
            have hlw : (succs g v).length ≤ gN g := hsl
            have hbound := indeg_le g (out ++ [(v : Int)]) w
            have hdrop : (succs g v).drop j = (w : Int) :: (succs g v).drop (j + 1) := by
              rw [List.drop_eq_getElem_cons (by omega), ← rd_eq (by omega), hw]
            have hnot : (w : Int) ∉ (succs g v).drop (j + 1) := by
              have h4 : ((succs g v).drop j).Pairwise (· < ·) := (succs_sorted g v).sublist (List.drop_sublist _ _)
              rw [hdrop] at h4
              intro hm
              have := (List.pairwise_cons.1 h4).1 _ hm
              omega
            have htake : ∀ x, x ∈ (succs g v).take (j + 1) ↔ x ∈ (succs g v).take j ∨ (w : Int) = x := fun x => by rw [take_mem_succ (by omega), hw]
            have hnt : (w : Int) ∉ (succs g v).take j := by
              have := asc_take (succs_sorted g v) (j := j) (by omega)
              rwa [hw] at this
            refine .succ ?_
            have ew : w64 (((indeg g (out ++ [(v : Int)]) w + if (w : Int) ∈ (succs g v).drop j then 1 else 0 : Nat) : Int) - 1) = (indeg g (out ++ [(v : Int)]) w : Int) := by
              rw [if_pos (by rw [hdrop]; simp), w64_id (by omega) (by omega)]; omega
            have eset : (tb (gN g) fun d => if d = w then (indeg g (out ++ [(v : Int)]) w : Int) else ((indeg g (out ++ [(v : Int)]) d + if (d : Int) ∈ (succs g v).drop j then 1 else 0 : Nat) : Int)) = tb (gN g) fun d => ((indeg g (out ++ [(v : Int)]) d + if (d : Int) ∈ (succs g v).drop (j + 1) then 1 else 0 : Nat) : Int) := tb_congr fun c hc => by
              by_cases ec : c = w
              · subst ec; rw [if_pos rfl, if_neg hnot]; simp
              · rw [if_neg ec, hdrop]
                have : ((c : Int) ∈ (w : Int) :: (succs g v).drop (j + 1)) ↔ (c : Int) ∈ (succs g v).drop (j + 1) := by
                  rw [List.mem_cons]
                  exact ⟨fun h => h.resolve_left (by omega), .inr⟩
                simp only [this]
            simp (disch := first | omega | (rw [tb_len]; omega)) only [graph_Topo.c24, ↓cdT, ↓if_pos, hw, tb_rd hwn, Int.toNat_natCast, tb_set, ew, eset, w64_id]
            rw [if_neg hnot]
            refine .dec (fun h5 => ?_) fun h5 => ?_
            · have hz : indeg g (out ++ [(v : Int)]) w = 0 := by omega
              have hh2l := HOLDS_len hh2 (n := gN g) fun u hu => by
                rcases hu with ⟨h, _⟩ | ⟨h, _⟩
                · exact h.1
                · obtain ⟨u', e', hu'⟩ := mem_succs.1 (List.mem_of_mem_take h)
                  have := adj_r hu'
                  omega
              refine .bind (push_holds w hh2 (by omega) ?_) fun r2 hr2 => ?_
              · rintro (⟨h6, _⟩ | ⟨h6, _⟩)
                · exact hfree.2.1 (h6.2.2 v haw)
                · exact hnt h6
              · refine ihe (j + 1) (by omega) _ (HOLDS_congr hr2 fun u => ?_)
                rw [htake]
                constructor
                · rintro ((h6 | h6) | rfl)
                  · exact .inl h6
                  · exact .inr ⟨.inl h6.1, h6.2⟩
                  · exact .inr ⟨.inr rfl, hz⟩
                · rintro (h6 | ⟨h6 | h6, h7⟩)
                  · exact .inl (.inl h6)
                  · exact .inl (.inr ⟨h6, h7⟩)
                  · exact .inr (by omega)
            · refine ihe (j + 1) (by omega) _ (HOLDS_congr hh2 fun u => ?_)
              rw [htake]
              constructor
              · rintro (h6 | h6)
                · exact .inl h6
                · exact .inr ⟨.inl h6.1, h6.2⟩
              · rintro (h6 | ⟨h6 | h6, h7⟩)
                · exact .inl h6
                · exact .inr ⟨h6, h7⟩
                · exact absurd (by rw [show w = u by omega]; omega) h5
        have := loop (succs g v).length 0 (by omega) r.2.2.1 (HOLDS_congr hh' fun u => by simp)
        have e5 : (tb (gN g) fun w => ((indeg g (out ++ [(v : Int)]) w + if (w : Int) ∈ (succs g v).drop 0 then 1 else 0 : Nat) : Int)) = tb (gN g) fun w => (indeg g out w : Int) := tb_congr fun c hc => by
          rw [indeg_app hfree.2.1, List.drop_zero]
          have : ((c : Int) ∈ succs g v) ↔ adj g v c = true := by
            rw [mem_succs]
            exact ⟨fun ⟨b, e, hb⟩ => by rwa [show c = b by omega], fun hb => ⟨c, rfl, hb⟩⟩
          simp only [this]
        rw [e5] at this
        exact this
  -- the first nodes
  have first : ∀ (d v : Nat), v + d = gN g → ∀ h : List Int, HOLDS h (fun u => u < v ∧ FREE g [] u) →
      W (fun k => graph_Topo.c14 k (NEXT g) (gN g : Int) (v : Int) (tb (gN g) fun w => (indeg g [] w : Int)) h) (ANS g) := by
    intro d
    induction d with
    | zero =>
      intro v hv h hh
      refine .succ ?_
      simp (disch := omega) only [graph_Topo.c14, ↓cdF]
      exact main (gN g) [] h (by simp) (GOOD_nil g) (HOLDS_congr hh fun u => ⟨fun h => h.2, fun h => ⟨by have := h.1; omega, h⟩⟩)
    | succ d ih =>
      intro v hv h hh
      have hhl := HOLDS_len hh (n := gN g) fun u hu => hu.2.1
      have hfr : FREE g [] v ↔ indeg g [] v = 0 := by
        rw [indeg_zero]
        exact ⟨fun h => h.2.2, fun h => ⟨by omega, by simp, h⟩⟩
      refine .succ ?_
      simp (disch := first | omega | (rw [tb_len]; omega)) only [graph_Topo.c14, ↓cdT, ↓if_pos, tb_rd (show v < gN g by omega), w64_id]
      refine .dec (fun h1 => ?_) fun h1 => ?_
      · refine .bind (push_holds v hh (by omega) (fun h => by omega)) fun r hr => ?_
        refine ih (v + 1) (by omega) _ (HOLDS_congr hr fun u => ?_)
        constructor
        · rintro (⟨h2, h3⟩ | rfl)
          · exact ⟨by omega, h3⟩
          · exact ⟨by omega, hfr.2 (by omega)⟩
        · rintro ⟨h2, h3⟩
          by_cases e : u = v
          · exact .inr e
          · exact .inl ⟨by omega, h3⟩
      · refine ih (v + 1) (by omega) _ (HOLDS_congr hh fun u => ?_)
        constructor
        · rintro ⟨h2, h3⟩
          exact ⟨by omega, h3⟩
        · rintro ⟨h2, h3⟩
          by_cases e : u = v
          · subst e; exact absurd (by rw [hfr] at h3; omega) h1
          · exact ⟨by omega, h3⟩
  -- counting
  have count : ∀ (d v : Nat), v + d = gN g → W (fun k => graph_Topo.c4 k (NEXT g) (NEXT g) (gN g : Int) (v : Int) (tb (gN g) fun w => (cn (fun p => adj g p w) v : Int))) (ANS g) := by
    intro d
    induction d with
    | zero =>
      intro v hv
      refine .succ ?_
      simp (disch := omega) only [graph_Topo.c4, ↓cdF, tb_len]
      have := first (gN g) 0 (by omega) [] ⟨fun i _ hi => absurd hi (Nat.not_lt_zero _), List.nodup_nil, fun x => by simp⟩
      have e0 : (tb (gN g) fun w => (cn (fun p => adj g p w) v : Int)) = tb (gN g) fun w => (indeg g [] w : Int) := tb_congr fun c hc => by
        unfold indeg
        rw [show v = gN g by omega]
        congr 1
        exact cn_congr fun i hi => by simp
      rw [e0]
      exact this
    | succ d ih =>
      intro v hv
      have hvn : v < gN g := by omega
      have hsl := succs_len g v
      refine .succ ?_
      simp (disch := first | omega | (rw [NEXT_len]; omega)) only [graph_Topo.c4, ↓cdT, ↓if_pos, NEXT_rd hvn]
      have loop : ∀ (e j : Nat), j + e = (succs g v).length → W (fun k => graph_Topo.c7 k (NEXT g) (NEXT g) (gN g : Int) (v : Int) (succs g v) ((succs g v).length : Int) (j : Int) (tb (gN g) fun w => ((cn (fun p => adj g p w) v + if (w : Int) ∈ (succs g v).take j then 1 else 0 : Nat) : Int))) (ANS g) := by
        intro e
        induction e with
        | zero =>
          intro j hj
          refine .succ ?_
          simp (disch := omega) only [graph_Topo.c7, ↓cdF, w64_id]
          have := ih (v + 1) (by omega)
          have e0 : (tb (gN g) fun w => ((cn (fun p => adj g p w) v + if (w : Int) ∈ (succs g v).take j then 1 else 0 : Nat) : Int)) = tb (gN g) fun w => (cn (fun p => adj g p w) (v + 1) : Int) := tb_congr fun c hc => by
            rw [List.take_of_length_le (by omega)]
            have : ((c : Int) ∈ succs g v) ↔ adj g v c = true := by
              rw [mem_succs]
              exact ⟨fun ⟨b, e, hb⟩ => by rwa [show c = b by omega], fun hb => ⟨c, rfl, hb⟩⟩
            simp only [this, cn]
          rw [e0]
          exact this
        | succ e ihe =>
          intro j hj
          obtain ⟨w, hw, haw, hwn⟩ := succs_rd (g := g) (a := v) (j := j) (by omega)
          have htake : ∀ x, x ∈ (succs g v).take (j + 1) ↔ x ∈ (succs g v).take j ∨ (w : Int) = x := fun x => by rw [take_mem_succ (by omega), hw]
          have hnt : (w : Int) ∉ (succs g v).take j := by
            have := asc_take (succs_sorted g v) (j := j) (by omega)
            rwa [hw] at this
          have hcl := cn_le (fun p => adj g p w) v
          refine .succ ?_
          have ew : w64 (((cn (fun p => adj g p w) v + if (w : Int) ∈ (succs g v).take j then 1 else 0 : Nat) : Int) + 1) = ((cn (fun p => adj g p w) v + 1 : Nat) : Int) := by
            rw [if_neg hnt, w64_id (by omega) (by omega)]; omega
          have eset : (tb (gN g) fun d => if d = w then ((cn (fun p => adj g p w) v + 1 : Nat) : Int) else ((cn (fun p => adj g p d) v + if (d : Int) ∈ (succs g v).take j then 1 else 0 : Nat) : Int)) = tb (gN g) fun d => ((cn (fun p => adj g p d) v + if (d : Int) ∈ (succs g v).take (j + 1) then 1 else 0 : Nat) : Int) := tb_congr fun c hc => by
            by_cases ec : c = w
            · subst ec; rw [if_pos rfl, if_pos ((htake _).2 (.inr rfl))]
            · rw [if_neg ec]
              have : ((c : Int) ∈ (succs g v).take (j + 1)) ↔ (c : Int) ∈ (succs g v).take j := by
                rw [htake]
                exact ⟨fun h => h.resolve_right (by omega), .inl⟩
              simp only [this]
          simp (disch := first | omega | (rw [tb_len]; omega)) only [graph_Topo.c7, ↓cdT, ↓if_pos, hw, tb_rd hwn, Int.toNat_natCast, tb_set, ew, eset, w64_id]
          exact ihe (j + 1) (by omega)
      have := loop (succs g v).length 0 (by omega)
      have e0 : (tb (gN g) fun w => ((cn (fun p => adj g p w) v + if (w : Int) ∈ (succs g v).take 0 then 1 else 0 : Nat) : Int)) = tb (gN g) fun w => (cn (fun p => adj g p w) v : Int) := tb_congr fun c hc => by simp
      rw [e0] at this
      exact this
  have := count (gN g) 0 (by omega)
  rw [tb_rep]
  exact this

theorem PureGraphTopo (g : Graph) (h0 : Ty.good Graph.T g) : ∃ k, jacquardlaw02_GraphTopo.f k g = some true := by
  refine Ev.ex (f := fun k => jacquardlaw02_GraphTopo.f k g) ?_
  simp only [jacquardlaw02_GraphTopo.f]
  have hend : Ev (fun k => (jacquardlaw02_awake.f k).bind fun y16 => some y16) true := Ev.bind awake_ev (.ret true)
  refine Ev.bind awake_ev ?_
  simp only [Bool.not_true, cond_false]
  obtain ⟨bf, e1, e2⟩ := few_ev g
  rw [e1]
  simp only [Option.bind_some]
  refine Ev.cond (fun _ => hend) fun hb => ?_
  obtain ⟨hn, hl⟩ := e2.1 (by simpa using hb)
  obtain ⟨r, r1, r2⟩ := Topo_prog g (by omega) (by omega)
  obtain ⟨s, s1, s2⟩ := Topo_ref g (by omega)
  have hrs := ANS_unique r2 s2
  subst hrs
  refine .bind r1 (.bind s1 ?_)
  simp only [beq_self_eq_true, cond_true]
  have hlen : r.1.length ≤ 1000000 := by
    obtain ⟨out, h1, rfl⟩ := r2
    have := GOOD_len h1.1
    split <;> simp <;> omega
  exact .bind ((same_ev _ _ hlen).true rfl) (.ret true)
end Go.Proofs.YtebekmcoeacdeaaV
