/- Chapter 02: the program's order by finishing. -/
import Derived.Test.YtebekmcoeacdeaaG02v
set_option linter.unusedVariables false
set_option linter.unusedSimpArgs false
namespace Go.Proofs.YtebekmcoeacdeaaV
open Go Go.Vm

/-- all nodes, in the order of finishing -/
structure FINI (g : Graph) (F : List Int) : Prop where
  nd : F.Nodup
  mem : ∀ x ∈ F, ∃ v : Nat, x = (v : Int) ∧ v < gN g
  all : ∀ v : Nat, v < gN g → (v : Int) ∈ F
  t2 : T2 (ADJ g) F

def lft (g : Graph) (A : Nat → Int) (FIN : List Int) : Nat := sumN (fun v => (succs g v).length - (A v).toNat) (gN g) + (gN g - FIN.length)

theorem FI.len {g : Graph} {V : Nat → Bool} {A : Nat → Int} {W FIN : List Int} (h : FI g V A W FIN) : FIN.length + W.length ≤ gN g := by
  have := (pigeon (gN g) _ h.nd fun x hx => by
    obtain ⟨v, rfl, hv⟩ := h.mem x hx
    omega).1
  rwa [List.length_append] at this
theorem lft_pop {g : Graph} {V : Nat → Bool} {A : Nat → Int} {W FIN : List Int} {v : Nat} (h : FI g V A (W ++ [(v : Int)]) FIN) : lft g A (FIN ++ [(v : Int)]) < lft g A FIN := by
  have := h.len
  simp only [lft, List.length_append, List.length_cons, List.length_nil] at this ⊢
  omega
theorem lft_skip {g : Graph} {A : Nat → Int} {FIN : List Int} {v j : Nat} (hv : v < gN g) (hA : A v = (j : Int)) (hj : j < (succs g v).length) : lft g (set1 A v ((j : Int) + 1)) FIN < lft g A FIN := by
  have := sumN_lt (f := fun u => (succs g u).length - (set1 A v ((j : Int) + 1) u).toNat) (h := fun u => (succs g u).length - (A u).toNat) (v := v) (m := gN g) (fun i hi => by
    by_cases e : i = v
    · subst e; simp only [set1_eq, hA]; omega
    · simp only [set1_ne e]; exact Nat.le_refl _) hv (by simp only [set1_eq, hA]; omega)
  simp only [lft]
  omega
theorem tb_setV {n : Nat} {f : Nat → Bool} {v : Nat} {x : Bool} : (tb n f).set v x = tb n (setV f v x) := tb_set

theorem finished_prog (g : Graph) (hn : gN g ≤ 1000) : W (fun k => graph_finished.f k (NEXT g)) (FINI g) := by
  simp only [graph_finished.f, NEXT_len]
  simp (disch := omega) only [↓if_pos, Int.toNat_natCast]
  have main : ∀ (d root : Nat), root + d = gN g → ∀ (V : Nat → Bool) (A : Nat → Int) (FIN : List Int), FI g V A [] FIN → (∀ v, v < root → V v = true) →
      W (fun k => graph_finished.c5 k (NEXT g) (gN g : Int) (root : Int) (tb (gN g) V) (tb (gN g) A) FIN) (FINI g) := by
    intro d
    induction d with
    | zero =>
      intro root hr V A FIN hI hS
      refine .succ ?_
      simp (disch := omega) only [graph_finished.c5, ↓cdF]
      refine .ret ⟨by simpa using hI.nd, fun x hx => hI.mem x (by simpa using hx), fun v hv => ?_, hI.t2⟩
      rcases (hI.vis v hv).1 (hS v (by omega)) with h | h
      · cases h
      · exact h
    | succ d ih =>
      intro root hr V A FIN hI hS
      have hrn : root < gN g := by omega
      have loop : ∀ (m : Nat) (V : Nat → Bool) (A : Nat → Int) (W FIN : List Int), lft g A FIN ≤ m → FI g V A W FIN → (∀ v, v < root + 1 → V v = true) →
          Vm.W (fun k => graph_finished.c10 k (NEXT g) (gN g : Int) (root : Int) (tb (gN g) V) (tb (gN g) A) FIN W) (FINI g) := by
        intro m
        induction m with
        | zero =>
          intro V A W FIN hm hI hS
          rcases List.eq_nil_or_concat W with rfl | ⟨W', x, rfl⟩
          · refine .succ ?_
            simp (disch := first | omega | simp) only [graph_finished.c10, ↓cdF, w64_id]
            exact ih (root + 1) (by omega) V A FIN hI hS
          · rw [List.concat_eq_append] at hI ⊢
            obtain ⟨v, rfl, hv⟩ := hI.mem x (by simp)
            have := lft_pop hI
            omega
        | succ m ihm =>
          intro V A W FIN hm hI hS
          rcases List.eq_nil_or_concat W with rfl | ⟨W', x, rfl⟩
          · refine .succ ?_
            simp (disch := first | omega | simp) only [graph_finished.c10, ↓cdF, w64_id]
            exact ih (root + 1) (by omega) V A FIN hI hS
          · rw [List.concat_eq_append] at hI ⊢
            obtain ⟨v, rfl, hv⟩ := hI.mem x (by simp)
            have hlen := hI.len
            have hl1 : (W' ++ [(v : Int)]).length = W'.length + 1 := by simp
            have e1 : w64 (((W' ++ [(v : Int)]).length : Int) - 1) = (W'.length : Int) := by rw [w64_id (by omega) (by omega), hl1]; omega
            have e2 : rd (W' ++ [(v : Int)]) (W'.length : Int) = (v : Int) := rd_app_at
            have hsl := succs_len g v
            obtain ⟨a1, a2, a3⟩ := hI.at0 v hv
            refine .succ ?_
            simp (disch := first | omega | (rw [tb_len]; omega) | (rw [NEXT_len]; omega)) only [graph_finished.c10, ↓cdT, e1, e2, ↓if_pos, NEXT_rd hv, tb_rd hv, Int.toNat_natCast]
            refine .dec (fun hend => ?_) fun hend => ?_
            · simp (disch := first | omega | (simp only [List.length_cons, List.length_nil]; omega)) only [↓bleT, ↓if_pos]
              rw [show List.take W'.length (W' ++ [(v : Int)]) = W' by simp]
              exact ihm V A W' (FIN ++ [(v : Int)]) (by have := lft_pop hI; omega) (hI.pop hend) hS
            · obtain ⟨j, hj⟩ : ∃ j : Nat, A v = (j : Int) := ⟨(A v).toNat, by omega⟩
              have hjl : j < (succs g v).length := by omega
              obtain ⟨w, hw, haw, hwn⟩ := succs_rd (g := g) (a := v) hjl
              have e3 : w64 ((j : Int) + 1) = (j : Int) + 1 := w64_id (by omega) (by omega)
              simp (disch := first | omega | (rw [tb_len]; omega)) only [hj, hw, ↓if_pos, tb_rd hwn, Int.toNat_natCast, tb_set1, tb_setV, e3]
              refine .cond (fun h0 => ?_) fun h0 => ?_
              · have h0' : V w = false := by simpa using h0
                simp (disch := first | omega | (simp only [List.length_cons, List.length_nil]; omega)) only [↓bleT]
                refine ihm (setV V w true) (set1 A v ((j : Int) + 1)) (W' ++ [(v : Int)] ++ [(w : Int)]) FIN ?_ (hI.push hv hj hjl hw haw h0') fun u hu => ?_
                · have := lft_skip (FIN := FIN) hv hj hjl
                  omega
                · unfold setV
                  split
                  · rfl
                  · exact hS u hu
              · have h0' : V w = true := by simpa using h0
                refine ihm V (set1 A v ((j : Int) + 1)) (W' ++ [(v : Int)]) FIN ?_ (hI.skip hv hj hjl hw h0') hS
                have := lft_skip (FIN := FIN) hv hj hjl
                omega
      refine .succ ?_
      simp (disch := first | omega | (rw [tb_len]; omega)) only [graph_finished.c5, ↓cdT, ↓if_pos, tb_rd hrn, w64_id, Int.toNat_natCast, tb_setV]
      refine .cond (fun h0 => ?_) fun h0 => ?_
      · refine ih (root + 1) (by omega) V A FIN hI fun u hu => ?_
        by_cases e : u = root
        · subst e; exact h0
        · exact hS u (by omega)
      · have hno : (root : Int) ∉ FIN := fun hm => by
          have := (hI.vis root hrn).2 (.inr hm)
          rw [h0] at this; cases this
        have hup : ∀ u, V u = true → setV V root true u = true := fun u hu => by unfold setV; split <;> simp [hu]
        refine loop _ (setV V root true) A [(root : Int)] FIN (Nat.le_refl _) ⟨fun u hu => ?_, ?_, fun x hx => ?_, ⟨fun i hi => ⟨root, ?_, hrn⟩, fun i hi => by simp at hi⟩, fun a w hm hw => hup w (hI.cl a w hm hw), fun u x hu hx => ?_, fun u hu => ?_, hI.t2⟩ fun u hu => ?_
        · by_cases e : u = root
          · subst e; simp [setV]
          · have := hI.vis u hu
            simp only [setV, if_neg e, this, List.mem_singleton, List.not_mem_nil, false_or]
            have : (u : Int) ≠ (root : Int) := by omega
            simp [this]
        · rw [List.nodup_append]
          have := hI.nd
          rw [List.append_nil] at this
          refine ⟨this, by simp, fun a ha b hb e => ?_⟩
          simp at hb; subst hb; subst e
          exact hno ha
        · rcases List.mem_append.1 hx with hx | hx
          · exact hI.mem x (by simpa using hx)
          · simp at hx; exact ⟨root, hx, hrn⟩
        · have : i = 0 := by simp at hi; omega
          subst this; rfl
        · have hu' : u = root := by simp at hu; omega
          subst hu'
          rw [(hI.at0 u hrn).2.2 h0] at hx
          simp at hx
        · refine ⟨(hI.at0 u hu).1, (hI.at0 u hu).2.1, fun h1 => (hI.at0 u hu).2.2 ?_⟩
          cases hu2 : V u
          · rfl
          · rw [hup u hu2] at h1; cases h1
        · by_cases e : u = root
          · subst e; simp [setV]
          · exact hup u (hS u (by omega))
  have := main (gN g) 0 (by omega) (fun _ => false) (fun _ => 0) [] ⟨fun v _ => by simp, by simp, fun x hx => by simp at hx, ⟨fun i hi => absurd hi (Nat.not_lt_zero _), fun i hi => absurd hi (Nat.not_lt_zero _)⟩, fun a w hm => by simp at hm, fun v w hm => by simp at hm, fun v _ => ⟨Int.le_refl _, Int.natCast_nonneg _, fun _ => rfl⟩, fun i j hij hj => absurd hj (Nat.not_lt_zero _)⟩ (fun v hv => absurd hv (Nat.not_lt_zero _))
  rw [← tb_rep, ← tb_rep] at this
  exact this
end Go.Proofs.YtebekmcoeacdeaaV
