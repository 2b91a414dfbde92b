/- Chapter 02: the search from a node, and the law GraphReach. -/
import Derived.Test.YtebekmcoeacdeaaG02i
set_option linter.unusedVariables false
set_option linter.unusedSimpArgs false
namespace Go.Proofs.YtebekmcoeacdeaaV
open Go Go.Vm

/-- what is reached from a node -/
def RR (g : Graph) (wo s : Int) (v : Nat) : Prop := ∃ a : Nat, s = (a : Int) ∧ a < gN g ∧ s ≠ wo ∧ (v = a ∨ TC (adjW g wo) a v)
noncomputable def RCH (g : Graph) (wo s : Int) : List Bool := tb (gN g) fun v => dec (RR g wo s v)
theorem CLO_len (g : Graph) (wo : Int) : (CLO g wo).length = gN g := tb_len _ _
theorem CLO_row {g : Graph} {wo : Int} {a : Nat} (ha : a < gN g) : (rd (CLO g wo) (a : Int)).length = gN g := by unfold CLO; rw [tb_rd ha, tb_len]
theorem CLO_rd {g : Graph} {wo : Int} {a b : Nat} (ha : a < gN g) (hb : b < gN g) : rd (rd (CLO g wo) (a : Int)) (b : Int) = dec (TC (adjW g wo) a b) := by unfold CLO; rw [tb_rd ha, tb_rd hb]
theorem RCH_len (g : Graph) (wo s : Int) : (RCH g wo s).length = gN g := tb_len _ _
theorem RCH_rd {g : Graph} {wo s : Int} {v : Nat} (hv : v < gN g) : rd (RCH g wo s) (v : Int) = dec (RR g wo s v) := tb_rd hv

theorem Reach_ref (g : Graph) (s : Int) (hl : g.2.1.length ≤ 1000000) : Ev (fun k => jacquardref02_Reach.f k g s) (RCH g (-1) s) := by
  have hn := gN_le g
  simp only [jacquardref02_Reach.f]
  refine .bind (Matrix_ref g hl) (.bind (Closure_ref g (-1)) ?_)
  simp (disch := first | omega | (rw [CLO_len]; omega)) only [↓if_pos, CLO_len, Int.toNat_natCast]
  have e0 : List.replicate (gN g) false = tb (gN g) fun v => if v < 0 then dec (RR g (-1) s v) else false := by rw [tb_rep]; exact tb_congr fun c hc => by simp
  rw [e0]
  refine Ev.up (c := fun k v => jacquardref02_Reach.c4 k s (gN g : Int) (v : Int) (CLO g (-1)) (tb (gN g) fun u => if u < v then dec (RR g (-1) s u) else false)) (n := gN g) ?_ ?_ 0 (Nat.zero_le _)
  · refine .succ ?_
    simp (disch := omega) only [jacquardref02_Reach.c4, ↓cdF]
    refine (Ev.ret _).congr fun k => ?_
    congr 1
    exact tb_congr fun c hc => by rw [if_pos hc]
  · intro v hv hnext
    refine .succ ?_
    simp only [natC] at hnext
    simp (disch := first | omega | (rw [tb_len]; omega)) only [jacquardref02_Reach.c4, ↓cdT, ↓if_pos, CLO_len, Int.toNat_natCast, tb_set, w64_id]
    have fin : ∀ b : Bool, (b = true ↔ RR g (-1) s v) → Ev (fun k => jacquardref02_Reach.c4 k s (gN g : Int) ((v : Int) + 1) (CLO g (-1)) (tb (gN g) fun d => if d = v then b else if d < v then dec (RR g (-1) s d) else false)) (RCH g (-1) s) := fun b hb => by
      refine hnext.congr fun k => ?_
      congr 1
      exact tb_congr fun c hc => by
        by_cases e : c = v
        · subst e
          rw [if_pos rfl, if_pos (by omega)]
          exact dec_bool hb
        · rw [if_neg e]
          by_cases e2 : c < v
          · rw [if_pos e2, if_pos (by omega)]
          · rw [if_neg e2, if_neg (by omega)]
    refine .dec (fun h1 => ?_) fun h1 => ?_
    · refine .dec (fun h2 => ?_) fun h2 => ?_
      · obtain ⟨a, rfl⟩ : ∃ a : Nat, s = (a : Int) := ⟨s.toNat, by omega⟩
        have han : a < gN g := by omega
        simp (disch := first | omega | (rw [CLO_row han]; omega)) only [↓if_pos, CLO_rd han hv]
        refine .dec (fun h3 => ?_) fun h3 => ?_
        · exact fin true ⟨fun _ => ⟨a, rfl, han, by omega, .inl (by omega)⟩, fun _ => rfl⟩
        · refine fin _ ?_
          rw [dec_iff]
          constructor
          · intro h; exact ⟨a, rfl, han, by omega, .inr h⟩
          · rintro ⟨a', e, _, _, h | h⟩
            · omega
            · rw [show a = a' by omega]; exact h
      · exact fin false ⟨fun h => (by cases h), fun ⟨a, e, h, _⟩ => by omega⟩
    · exact fin false ⟨fun h => (by cases h), fun ⟨a, e, h, _⟩ => by omega⟩

/-! ### the program's search -/
/-- the list of those that were reached -/
structure BFS (g : Graph) (wo : Int) (s : Nat) (l : List Int) : Prop where
  nd : l.Nodup
  mem : ∀ x ∈ l, ∃ v : Nat, x = (v : Int) ∧ v < gN g ∧ (v : Int) ≠ wo ∧ (v = s ∨ TC (adjW g wo) s v)
  st : (s : Int) ∈ l
theorem BFS.len {g : Graph} {wo : Int} {s : Nat} {l : List Int} (h : BFS g wo s l) : l.length ≤ gN g := (pigeon' _ l h.nd fun x hx => by
  obtain ⟨v, rfl, hv, _⟩ := h.mem x hx
  omega)
where pigeon' : ∀ (n : Nat) (l : List Int), l.Nodup → (∀ x ∈ l, 0 ≤ x ∧ x < (n : Int)) → l.length ≤ n
  | 0, l, hn, h => by
    cases l with
    | nil => exact Nat.le_refl _
    | cons x l => have := h x (by simp); omega
  | n + 1, l, hn, h => by
    by_cases hm : (n : Int) ∈ l
    · have h1 := pigeon' n (l.erase (n : Int)) (hn.erase _) fun x hx => by
        have h2 := (List.Nodup.mem_erase_iff hn).1 hx
        have := h x h2.2
        have : x ≠ (n : Int) := h2.1
        omega
      have hlen := List.length_erase_of_mem hm
      have hpos : 0 < l.length := List.length_pos_of_mem hm
      omega
    · have h1 := pigeon' n l hn fun x hx => by
        have := h x hx
        have : x ≠ (n : Int) := fun e => hm (e ▸ hx)
        omega
      omega
theorem BFS.app {g : Graph} {wo : Int} {s v w : Nat} {l : List Int} (h : BFS g wo s l) (hv : (v : Int) ∈ l) (hw : adj g v w = true) (hwo : (w : Int) ≠ wo) (hn : (w : Int) ∉ l) : BFS g wo s (l ++ [(w : Int)]) := by
  refine ⟨?_, fun x hx => ?_, List.mem_append_left _ h.st⟩
  · rw [List.nodup_append]
    refine ⟨h.nd, by simp, fun a ha b hb e => ?_⟩
    simp at hb
    subst hb; subst e
    exact hn ha
  · rcases List.mem_append.1 hx with hx | hx
    · exact h.mem x hx
    · simp at hx
      obtain ⟨v', e, h1, h2, h3⟩ := h.mem _ hv
      have : v = v' := by omega
      subst this
      refine ⟨w, hx, adj_r hw, hwo, .inr ?_⟩
      rcases h3 with rfl | h3
      · exact .one ⟨hw, h2, hwo⟩
      · exact h3.snoc ⟨hw, h2, hwo⟩
/-- all links from the first i ones stay within -/
def SHUT (g : Graph) (wo : Int) (l : List Int) (i : Nat) : Prop := ∀ j : Nat, j < i → j < l.length → ∀ v w : Nat, rd l (j : Int) = (v : Int) → adjW g wo v w → (w : Int) ∈ l
theorem BFS.end {g : Graph} {wo : Int} {s : Nat} {l : List Int} (h : BFS g wo s l) (hs : SHUT g wo l l.length) (v : Nat) : (v : Int) ∈ l ↔ v = s ∨ TC (adjW g wo) s v := by
  constructor
  · intro hv
    obtain ⟨v', e, _, _, h3⟩ := h.mem _ hv
    rw [show v = v' by omega]; exact h3
  · have key : ∀ a b, TC (adjW g wo) a b → (a : Int) ∈ l → (b : Int) ∈ l := by
      intro a b hab
      induction hab with
      | one h1 =>
        intro ha
        obtain ⟨j, hj, e⟩ := mem_rd ha
        exact hs j hj hj _ _ e h1
      | step h1 _ ih =>
        intro ha
        obtain ⟨j, hj, e⟩ := mem_rd ha
        exact ih (hs j hj hj _ _ e h1)
    rintro (rfl | h1)
    · exact h.st
    · exact key _ _ h1 h.st

theorem reach_prog (g : Graph) (s wo : Int) (hn : gN g ≤ 1000) : Ev (fun k => graph_reach.f k (NEXT g) s wo) (RCH g wo s) := by
  simp only [graph_reach.f, NEXT_len]
  simp (disch := omega) only [↓if_pos, Int.toNat_natCast]
  have none_ : (∀ v, ¬ RR g wo s v) → Ev (fun _ => some (List.replicate (gN g) false)) (RCH g wo s) := fun h => by
    rw [tb_rep]
    refine (Ev.ret _).congr fun k => ?_
    congr 1
    exact tb_congr fun c hc => (dec_false.2 (h c)).symm
  refine .dec (fun h => none_ fun v ⟨a, e, h2, _⟩ => by omega) fun h1 => ?_
  refine .dec (fun h => none_ fun v ⟨a, e, h2, _⟩ => by omega) fun h2 => ?_
  refine .dec (fun h => none_ fun v ⟨a, e, _, h2, _⟩ => h2 h) fun h3 => ?_
  obtain ⟨a, rfl⟩ : ∃ a : Nat, s = (a : Int) := ⟨s.toNat, by omega⟩
  have han : a < gN g := by omega
  simp (disch := first | omega | (rw [List.length_replicate]; omega)) only [↓if_pos, Int.toNat_natCast]
  refine W.ev ?_
  have main : ∀ (d i : Nat), gN g = i + d → ∀ l : List Int, BFS g wo a l → SHUT g wo l i → i ≤ l.length →
      W (fun k => graph_reach.c7 k (NEXT g) wo (i : Int) (tb (gN g) fun v => decide ((v : Int) ∈ l)) l) (fun z => z = RCH g wo (a : Int)) := by
    have fin : ∀ (i : Nat) (l : List Int), BFS g wo a l → SHUT g wo l i → i = l.length → W (fun k => graph_reach.c7 k (NEXT g) wo (i : Int) (tb (gN g) fun v => decide ((v : Int) ∈ l)) l) (fun z => z = RCH g wo (a : Int)) := by
      intro i l hb hs hi
      refine .succ ?_
      simp (disch := omega) only [graph_reach.c7, ↓cdF]
      refine .ret ?_
      subst hi
      refine tb_congr fun c hc => dec_bool ?_
      rw [decide_eq_true_iff, hb.end hs]
      exact ⟨fun h => ⟨a, rfl, han, h3, h⟩, fun ⟨a', e, _, _, h⟩ => by rwa [show a = a' by omega]⟩
    intro d
    induction d with
    | zero =>
      intro i hi l hb hs hil
      have := hb.len
      exact fin i l hb hs (by omega)
    | succ d ih =>
      intro i hi l hb hs hil
      by_cases hend : i = l.length
      · exact fin i l hb hs hend
      · have hlen := hb.len
        have hil' : i < l.length := by omega
        obtain ⟨v, hv, hvn, hvwo, hvr⟩ := hb.mem _ (rd_mem (xs := l) (i := (i : Int)) (by omega) (by omega))
        have hsl := succs_len g v
        refine .succ ?_
        simp (disch := first | omega | (rw [NEXT_len]; omega)) only [graph_reach.c7, ↓cdT, ↓if_pos, hv, NEXT_rd hvn]
        have loop : ∀ (e j : Nat), j + e = (succs g v).length → ∀ l2 : List Int, BFS g wo a l2 → SHUT g wo l2 i → i < l2.length → rd l2 (i : Int) = (v : Int) → (∀ w : Nat, (w : Int) ∈ (succs g v).take j → (w : Int) ≠ wo → (w : Int) ∈ l2) →
            W (fun k => graph_reach.c10 k (NEXT g) wo (i : Int) (succs g v) ((succs g v).length : Int) (j : Int) (tb (gN g) fun v => decide ((v : Int) ∈ l2)) l2) (fun z => z = RCH g wo (a : Int)) := by
          intro e
          induction e with
          | zero =>
            intro j hj l2 hb2 hs2 hi2 hv2 ht
            refine .succ ?_
            simp (disch := omega) only [graph_reach.c10, ↓cdF, w64_id]
            refine ih (i + 1) (by omega) l2 hb2 (fun j' hj' hjl v' w' e' ha' => ?_) (by omega)
            by_cases e2 : j' = i
            · subst e2
              rw [hv2] at e'
              have : v = v' := by omega
              subst this
              rw [List.take_of_length_le (by omega)] at ht
              exact ht w' (mem_succs.2 ⟨w', rfl, ha'.1⟩) ha'.2.2
            · exact hs2 j' (by omega) hjl v' w' e' ha'
          | succ e ihe =>
            intro j hj l2 hb2 hs2 hi2 hv2 ht
            have hjl : j < (succs g v).length := by omega
            obtain ⟨w, hw, haw⟩ : ∃ w : Nat, rd (succs g v) (j : Int) = (w : Int) ∧ adj g v w = true := mem_succs.1 (rd_mem (by omega) (by omega))
            have hwn := adj_r haw
            have hlen2 := hb2.len
            have htk : ∀ x, x ∈ (succs g v).take (j + 1) ↔ x ∈ (succs g v).take j ∨ (w : Int) = x := fun x => by rw [take_mem_succ hjl, hw]
            refine .succ ?_
            simp (disch := first | omega | (rw [tb_len]; omega) | (simp only [List.length_cons, List.length_nil]; omega)) only [graph_reach.c10, ↓cdT, ↓if_pos, hw, tb_rd hwn, ↓bleT, Int.toNat_natCast, tb_set, w64_id]
            refine .cond (fun h4 => ?_) fun h4 => ?_
            · have h4' : (w : Int) ∉ l2 := by simpa using h4
              by_cases h5 : (w : Int) = wo
              · simp (disch := omega) only [↓cnF]
                refine ihe (j + 1) (by omega) l2 hb2 hs2 hi2 hv2 fun u hu hne => ?_
                rcases (htk _).1 hu with h6 | h6
                · exact ht u h6 hne
                · exact absurd (by omega) hne
              · simp (disch := omega) only [↓cnT]
                have hb3 := hb2.app (v := v) (by rw [← hv2]; exact rd_mem (by omega) (by omega)) haw h5 h4'
                have e6 : (tb (gN g) fun d => if d = w then true else decide ((d : Int) ∈ l2)) = tb (gN g) fun v => decide ((v : Int) ∈ l2 ++ [(w : Int)]) := tb_congr fun c hc => by
                  by_cases e : c = w
                  · subst e; simp
                  · have : ¬ (c : Int) = (w : Int) := by omega
                    simp [e, this]
                rw [e6]
                refine ihe (j + 1) (by omega) (l2 ++ [(w : Int)]) hb3 (fun j' hj' hjl' v' w' e' ha' => ?_) (by simp; omega) (by rw [rd_app_l hi2]; exact hv2) fun u hu hne => ?_
                · rw [rd_app_l (by omega)] at e'
                  exact List.mem_append_left _ (hs2 j' hj' (by omega) v' w' e' ha')
                · rcases (htk _).1 hu with h6 | h6
                  · exact List.mem_append_left _ (ht u h6 hne)
                  · exact List.mem_append_right _ (by simp [h6])
            · have h4' : (w : Int) ∈ l2 := by simpa using h4
              refine ihe (j + 1) (by omega) l2 hb2 hs2 hi2 hv2 fun u hu hne => ?_
              rcases (htk _).1 hu with h6 | h6
              · exact ht u h6 hne
              · rw [← h6]; exact h4'
        exact loop (succs g v).length 0 (by omega) l hb hs hil' hv (fun w hw => by simp at hw)
  have := main (gN g) 0 (by omega) [(a : Int)] ⟨by simp, fun x hx => ⟨a, by simpa using hx, han, h3, .inl rfl⟩, by simp⟩ (fun j hj => absurd hj (Nat.not_lt_zero _)) (by simp)
  have e0 : List.set (List.replicate (gN g) false) a true = tb (gN g) fun v => decide ((v : Int) ∈ [(a : Int)]) := by
    rw [tb_rep, tb_set]
    exact tb_congr fun c hc => by
      by_cases e : c = a
      · subst e; simp
      · have : ¬ (c : Int) = (a : Int) := by omega
        simp [e, this]
  rw [e0]
  exact this

theorem bools_ev (a b : List Bool) (hl : a.length ≤ 1000000) (h : a = b) : Ev (fun k => jacquardlaw02_GraphReach.c7 k (a.length : Int) 0 a b) true := by
  subst h
  refine Ev.up (c := fun k i => jacquardlaw02_GraphReach.c7 k (a.length : Int) (i : Int) a a) (n := a.length) ?_ ?_ 0 (Nat.zero_le _)
  · refine .succ ?_
    simp (disch := omega) only [jacquardlaw02_GraphReach.c7, ↓cdF]
    exact .ret _
  · intro i hi hnext
    refine .succ ?_
    simp only [natC] at hnext
    simp (disch := omega) only [jacquardlaw02_GraphReach.c7, ↓cdT, ↓if_pos, beq_self_eq_true, Bool.not_true, cond_false, w64_id]
    exact hnext
theorem PureGraphReach (g : Graph) (s : Int) (h0 : Ty.good Graph.T g) (h1 : Ty.good (.int .i64) s) : ∃ k, jacquardlaw02_GraphReach.f k g s = some true := by
  refine Ev.ex (f := fun k => jacquardlaw02_GraphReach.f k g s) ?_
  simp only [jacquardlaw02_GraphReach.f]
  have hend : Ev (fun k => (jacquardlaw02_awake.f k).bind fun y16 => some y16) true := Ev.bind awake_ev (.ret true)
  refine Ev.bind awake_ev ?_
  simp only [Bool.not_true, cond_false]
  obtain ⟨bf, e1, e2⟩ := few_ev g
  rw [e1]
  simp only [Option.bind_some]
  refine Ev.cond (fun _ => hend) fun hb => ?_
  obtain ⟨hn, hl⟩ := e2.1 (by simpa using hb)
  refine .bind (x := RCH g (-1) s) ?_ (.bind (Reach_ref g s (by omega)) ?_)
  · simp only [graph_Reach.f]
    exact .bind (Next_prog g (by omega)) (.bind (reach_prog g s (-1) (by omega)) (.ret _))
  · simp only [decide_true, Bool.not_true, cond_false]
    exact bools_ev _ _ (by rw [RCH_len]; omega) rfl
end Go.Proofs.YtebekmcoeacdeaaV
