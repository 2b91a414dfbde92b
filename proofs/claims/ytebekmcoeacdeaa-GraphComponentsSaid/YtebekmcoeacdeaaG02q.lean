/- Chapter 02: immediate dominators of the reference. -/
import Derived.Test.YtebekmcoeacdeaaG02j
set_option linter.unusedVariables false
set_option linter.unusedSimpArgs false
namespace Go.Proofs.YtebekmcoeacdeaaV
open Go Go.Vm

def DOMR (g : Graph) (s : Int) (d v : Nat) : Prop := RR g (-1) s v ∧ RR g (-1) s d ∧ (d = v ∨ (d : Int) = s ∨ ((v : Int) ≠ s ∧ ∀ a : Nat, s = (a : Int) → ¬ TC (adjW g (d : Int)) a v))
noncomputable def DOM2 (g : Graph) (s : Int) : List (List Bool) := tb (gN g) fun d => tb (gN g) fun v => dec (DOMR g s d v)
theorem DOM2_len (g : Graph) (s : Int) : (DOM2 g s).length = gN g := tb_len _ _
theorem DOM2_row {g : Graph} {s : Int} {a : Nat} (ha : a < gN g) : (rd (DOM2 g s) (a : Int)).length = gN g := by unfold DOM2; rw [tb_rd ha, tb_len]
theorem DOM2_rd {g : Graph} {s : Int} {a b : Nat} (ha : a < gN g) (hb : b < gN g) : rd (rd (DOM2 g s) (a : Int)) (b : Int) = dec (DOMR g s a b) := by unfold DOM2; rw [tb_rd ha, tb_rd hb]

theorem Dominates_ref (g : Graph) (s : Int) (hl : g.2.1.length ≤ 1000000) : Ev (fun k => jacquardref02_Dominates.f k g s) (DOM2 g s) := by
  have hn := gN_le g
  simp only [jacquardref02_Dominates.f]
  refine .bind (Matrix_ref g hl) (.bind (Reach_ref g s hl) ?_)
  simp only [MAT_len]
  refine Ev.up (c := fun k d => jacquardref02_Dominates.c5 k s (gN g : Int) (d : Int) (MAT g) (RCH g (-1) s) (tb d fun d => tb (gN g) fun v => dec (DOMR g s d v))) (n := gN g) ?_ ?_ 0 (Nat.zero_le _)
  · refine .succ ?_
    simp (disch := omega) only [jacquardref02_Dominates.c5, ↓cdF]
    exact .ret _
  · intro d hd hnext
    refine .succ ?_
    simp only [natC] at hnext
    simp (disch := first | omega | (rw [MAT_len]; omega)) only [jacquardref02_Dominates.c5, ↓cdT, ↓if_pos, MAT_len, Int.toNat_natCast]
    refine .bind (Closure_ref g (d : Int)) ?_
    have e0 : List.replicate (gN g) false = tb (gN g) fun v => if v < 0 then dec (DOMR g s d v) else false := by rw [tb_rep]; exact tb_congr fun c hc => by simp
    rw [e0]
    refine Ev.up (c := fun k v => jacquardref02_Dominates.c10 k s (d : Int) (gN g : Int) (d : Int) (gN g : Int) (v : Int) (MAT g) (RCH g (-1) s) (tb d fun d => tb (gN g) fun v => dec (DOMR g s d v)) (tb (gN g) fun u => if u < v then dec (DOMR g s d u) else false) (CLO g (d : Int))) (n := gN g) ?_ ?_ 0 (Nat.zero_le _)
    · refine .succ ?_
      simp (disch := first | omega | (simp only [List.length_cons, List.length_nil, tb_len]; omega)) only [jacquardref02_Dominates.c10, ↓cdF, ↓bleT, w64_id]
      refine hnext.congr fun k => ?_
      rw [← tb_app]
      congr 3
      exact tb_congr fun c hc => by rw [if_pos hc]
    · intro v hv h2
      refine .succ ?_
      simp only [natC] at h2
      simp (disch := first | omega | (rw [RCH_len]; omega) | (rw [tb_len]; omega)) only [jacquardref02_Dominates.c10, ↓cdT, ↓if_pos, RCH_rd hv, RCH_rd hd, Int.toNat_natCast, tb_set, w64_id]
      have fin : ∀ b : Bool, (b = true ↔ DOMR g s d v) → Ev (fun k => jacquardref02_Dominates.c10 k s (d : Int) (gN g : Int) (d : Int) (gN g : Int) ((v : Int) + 1) (MAT g) (RCH g (-1) s) (tb d fun d => tb (gN g) fun v => dec (DOMR g s d v)) (tb (gN g) fun e => if e = v then b else if e < v then dec (DOMR g s d e) else false) (CLO g (d : Int))) (DOM2 g s) := fun b hb => by
        refine h2.congr fun k => ?_
        congr 1
        exact tb_congr fun c hc => by
          by_cases e : c = v
          · subst e
            rw [if_pos rfl, if_pos (by omega)]
            exact dec_bool hb
          · rw [if_neg e]
            by_cases e2 : c < v
            · rw [if_pos e2, if_pos (by omega)]
            · rw [if_neg e2, if_neg (by omega)]
      refine .cond (fun h3 => ?_) fun h3 => fin false ⟨fun h => (by cases h), fun h => absurd h.1 (dec_false.1 h3)⟩
      refine .cond (fun h4 => ?_) fun h4 => fin false ⟨fun h => (by cases h), fun h => absurd h.2.1 (dec_false.1 h4)⟩
      have k3 := dec_iff.1 h3
      have k4 := dec_iff.1 h4
      have k5 := k3
      obtain ⟨a, rfl, han, _, _⟩ := k5
      refine .dec (fun h5 => fin true ⟨fun _ => ⟨k3, k4, .inl (by omega)⟩, fun _ => rfl⟩) fun h5 => ?_
      refine .dec (fun h6 => fin true ⟨fun _ => ⟨k3, k4, .inr (.inl h6)⟩, fun _ => rfl⟩) fun h6 => ?_
      by_cases h7 : (v : Int) = (a : Int)
      · simp (disch := omega) only [↓cnF]
        refine fin false ⟨fun h => (by cases h), fun h => ?_⟩
        rcases h.2.2 with h8 | h8 | h8
        · omega
        · omega
        · exact absurd h7 h8.1
      · simp (disch := first | omega | (rw [CLO_len]; omega) | (rw [CLO_row han]; omega)) only [↓cnT, ↓if_pos, CLO_rd han hv]
        refine fin _ ?_
        rw [Bool.not_eq_true', dec_false]
        constructor
        · intro h; exact ⟨k3, k4, .inr (.inr ⟨h7, fun a' e => by rwa [← show a = a' by omega]⟩)⟩
        · intro h
          rcases h.2.2 with h8 | h8 | h8
          · omega
          · omega
          · exact h8.2 a rfl

/-- the immediate one -/
def CAND (g : Graph) (s : Int) (d v : Nat) : Prop := d ≠ v ∧ DOMR g s d v ∧ ∀ e, e < gN g → e ≠ v → DOMR g s e v → DOMR g s e d
def IDOM (g : Graph) (s : Int) (v : Nat) (x : Int) : Prop := (x = -1 ∧ ∀ d, d < gN g → ¬ CAND g s d v) ∨ ∃ d : Nat, d < gN g ∧ x = (d : Int) ∧ CAND g s d v
def RDOM (g : Graph) (s : Int) (r : List Int) : Prop := ∃ F : Nat → Int, r = tb (gN g) F ∧ if 0 ≤ s ∧ s < (gN g : Int) then ∀ v, v < gN g → IDOM g s v (F v) else ∀ v, v < gN g → F v = -1

theorem Dominators_ref (g : Graph) (s : Int) (hl : g.2.1.length ≤ 1000000) : W (fun k => jacquardref02_Dominators.f k g s) (RDOM g s) := by
  have hn := gN_le g
  simp only [jacquardref02_Dominators.f, nodes_ev, Option.bind_some]
  simp (disch := omega) only [↓if_pos, Int.toNat_natCast]
  -- all -1
  have e0 : List.replicate (gN g) (0 : Int) = tb (gN g) fun v => if v < 0 then -1 else 0 := by rw [tb_rep]; exact tb_congr fun c hc => by simp
  rw [e0]
  have init : ∀ (e i : Nat), i + e = gN g → W (fun k => jacquardref02_Dominators.c4 k s (gN g : Int) (gN g : Int) (i : Int) g (tb (gN g) fun v => if v < i then (-1 : Int) else 0)) (RDOM g s) := by
    intro e
    induction e with
    | zero =>
      intro i hi
      refine .succ ?_
      simp (disch := omega) only [jacquardref02_Dominators.c4, ↓cdF]
      have e1 : (tb (gN g) fun v => if v < i then (-1 : Int) else 0) = tb (gN g) fun _ => -1 := tb_congr fun c hc => by rw [if_pos (by omega)]
      rw [e1]
      refine .dec (fun h => .ret ⟨_, rfl, by rw [if_neg (by omega)]; exact fun v _ => rfl⟩) fun h1 => ?_
      refine .dec (fun h => .ret ⟨_, rfl, by rw [if_neg (by omega)]; exact fun v _ => rfl⟩) fun h2 => ?_
      refine .bindEv (Dominates_ref g s hl) ?_
      have main : ∀ (e v : Nat), v + e = gN g → ∀ F : Nat → Int, (∀ u, u < v → u < gN g → IDOM g s u (F u)) → (∀ u, v ≤ u → F u = -1) → W (fun k => jacquardref02_Dominators.c12 k (gN g : Int) (gN g : Int) (v : Int) (tb (gN g) F) (DOM2 g s)) (RDOM g s) := by
        intro e
        induction e with
        | zero =>
          intro v hv F hF hF2
          refine .succ ?_
          simp (disch := omega) only [jacquardref02_Dominators.c12, ↓cdF]
          exact .ret ⟨F, rfl, by rw [if_pos (by omega)]; exact fun u hu => hF u (by omega) hu⟩
        | succ e ihm =>
          intro v hv F hF hF2
          have hvn : v < gN g := by omega
          refine .succ ?_
          simp (disch := omega) only [jacquardref02_Dominators.c12, ↓cdT]
          have loop : ∀ (m d : Nat), d + m = gN g → ∀ G : Nat → Int, (∀ u, u ≠ v → G u = F u) → ((G v = -1 ∧ ∀ c, c < d → ¬ CAND g s c v) ∨ ∃ c : Nat, c < gN g ∧ G v = (c : Int) ∧ CAND g s c v) →
              W (fun k => jacquardref02_Dominators.c15 k (gN g : Int) (v : Int) (gN g : Int) (v : Int) (gN g : Int) (d : Int) (tb (gN g) G) (DOM2 g s)) (RDOM g s) := by
            intro m
            induction m with
            | zero =>
              intro d hd G hG hGv
              refine .succ ?_
              simp (disch := omega) only [jacquardref02_Dominators.c15, ↓cdF, w64_id]
              refine ihm (v + 1) (by omega) G (fun u hu hun => ?_) fun u hu => by rw [hG u (by omega)]; exact hF2 u (by omega)
              by_cases e : u = v
              · subst e
                rcases hGv with ⟨h3, h4⟩ | h3
                · exact .inl ⟨h3, fun c hc => h4 c (by omega)⟩
                · exact .inr h3
              · rw [hG u e]; exact hF u (by omega) hun
            | succ m ihd =>
              intro d hd G hG hGv
              have hdn : d < gN g := by omega
              have skip : ¬ CAND g s d v → W (fun k => jacquardref02_Dominators.c15 k (gN g : Int) (v : Int) (gN g : Int) (v : Int) (gN g : Int) ((d : Int) + 1) (tb (gN g) G) (DOM2 g s)) (RDOM g s) := fun hnc => by
                refine ihd (d + 1) (by omega) G hG ?_
                rcases hGv with ⟨h3, h4⟩ | h3
                · refine .inl ⟨h3, fun c hc => ?_⟩
                  by_cases e : c = d
                  · rw [e]; exact hnc
                  · exact h4 c (by omega)
                · exact .inr h3
              refine .succ ?_
              simp (disch := first | omega | (rw [DOM2_len]; omega) | (rw [DOM2_row hdn]; omega)) only [jacquardref02_Dominators.c15, ↓cdT, ↓if_pos, DOM2_rd hdn hvn, w64_id]
              refine .dec (fun h3 => skip fun h => h.1 (by omega)) fun h3 => ?_
              refine .cond (fun h4 => skip fun h => ?_) fun h4 => ?_
              · rw [Bool.not_eq_true', dec_false] at h4
                exact h4 h.2.1
              · rw [Bool.not_eq_false', dec_iff] at h4
                have inner : ∀ (q j : Nat), j + q = gN g → ∀ b : Bool, (b = true ↔ ∀ e, e < j → e ≠ v → DOMR g s e v → DOMR g s e d) →
                    W (fun k => jacquardref02_Dominators.c20 k (gN g : Int) (v : Int) (d : Int) b (gN g : Int) (v : Int) (gN g : Int) (d : Int) (gN g : Int) (j : Int) (tb (gN g) G) (DOM2 g s)) (RDOM g s) := by
                  intro q
                  induction q with
                  | zero =>
                    intro j hj b hb
                    refine .succ ?_
                    simp (disch := first | omega | (rw [tb_len]; omega)) only [jacquardref02_Dominators.c20, ↓cdF, ↓if_pos, Int.toNat_natCast, tb_set, w64_id]
                    refine .cond (fun h5 => ?_) fun h5 => skip fun h => ?_
                    · have hc : CAND g s d v := ⟨by omega, h4, fun e he => hb.1 h5 e (by omega)⟩
                      refine ihd (d + 1) (by omega) (fun e => if e = v then (d : Int) else G e) (fun u hu => by show (if u = v then (d : Int) else G u) = F u; rw [if_neg hu]; exact hG u hu) (.inr ⟨d, hdn, by show (if v = v then (d : Int) else G v) = (d : Int); rw [if_pos rfl], hc⟩)
                    · have := hb.2 fun e he => h.2.2 e (by omega)
                      rw [h5] at this; cases this
                  | succ q ihq =>
                    intro j hj b hb
                    have hjn : j < gN g := by omega
                    have split : ∀ b' : Bool, (b' = true ↔ b = true ∧ (j ≠ v → DOMR g s j v → DOMR g s j d)) → W (fun k => jacquardref02_Dominators.c20 k (gN g : Int) (v : Int) (d : Int) b' (gN g : Int) (v : Int) (gN g : Int) (d : Int) (gN g : Int) ((j : Int) + 1) (tb (gN g) G) (DOM2 g s)) (RDOM g s) := fun b' hb' => by
                      refine ihq (j + 1) (by omega) b' ?_
                      rw [hb', hb]
                      exact ⟨fun h e he => by
                        by_cases e2 : e = j
                        · subst e2; exact h.2
                        · exact h.1 e (by omega), fun h => ⟨fun e he => h e (by omega), h j (by omega)⟩⟩
                    refine .succ ?_
                    simp (disch := first | omega | (rw [DOM2_len]; omega) | (rw [DOM2_row hjn]; omega)) only [jacquardref02_Dominators.c20, ↓cdT, ↓if_pos, DOM2_rd hjn hvn, DOM2_rd hjn hdn, w64_id]
                    by_cases h5 : (j : Int) = (v : Int)
                    · simp (disch := omega) only [↓cnF]
                      exact split b ⟨fun h => ⟨h, fun h6 => absurd (by omega) h6⟩, fun h => h.1⟩
                    · simp (disch := omega) only [↓cnT]
                      refine .cond (fun h6 => ?_) fun h6 => ?_
                      · refine .cond (fun h7 => ?_) fun h7 => ?_
                        · rw [Bool.not_eq_true', dec_false] at h7
                          exact split false ⟨fun h => (by cases h), fun h => absurd (h.2 (by omega) (dec_iff.1 h6)) h7⟩
                        · rw [Bool.not_eq_false', dec_iff] at h7
                          exact split b ⟨fun h => ⟨h, fun _ _ => h7⟩, fun h => h.1⟩
                      · exact split b ⟨fun h => ⟨h, fun _ h8 => absurd h8 (dec_false.1 h6)⟩, fun h => h.1⟩
                exact inner (gN g) 0 (by omega) true (by simp)
          refine loop (gN g) 0 (by omega) F (fun _ _ => rfl) (.inl ⟨hF2 v (Nat.le_refl _), fun c hc => absurd hc (Nat.not_lt_zero _)⟩)
      exact main (gN g) 0 (by omega) (fun _ => -1) (fun u hu => absurd hu (Nat.not_lt_zero _)) (fun _ _ => rfl)
    | succ e ih =>
      intro i hi
      refine .succ ?_
      simp (disch := first | omega | (rw [tb_len]; omega)) only [jacquardref02_Dominators.c4, ↓cdT, ↓if_pos, Int.toNat_natCast, tb_set, w64_id]
      have a2 : (tb (gN g) fun d => if d = i then (-1 : Int) else if d < i then -1 else 0) = tb (gN g) fun v => if v < i + 1 then -1 else 0 := tb_congr fun c hc => by
        by_cases e : c = i
        · subst e; rw [if_pos rfl, if_pos (by omega)]
        · rw [if_neg e]
          by_cases e2 : c < i
          · rw [if_pos e2, if_pos (by omega)]
          · rw [if_neg e2, if_neg (by omega)]
      rw [a2]
      exact ih (i + 1) (by omega)
  exact init (gN g) 0 (by omega)
end Go.Proofs.YtebekmcoeacdeaaV
