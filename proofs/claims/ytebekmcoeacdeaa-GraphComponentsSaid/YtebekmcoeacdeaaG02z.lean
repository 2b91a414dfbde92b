/- Chapter 02: components, and the law GraphComponents. -/
import Derived.Test.YtebekmcoeacdeaaG02y
set_option linter.unusedVariables false
set_option linter.unusedSimpArgs false
namespace Go.Proofs.YtebekmcoeacdeaaV
open Go Go.Vm

theorem rounds_prog (g : Graph) (hn : gN g ≤ 1000) {F : List Int} (hF : FINI g F) : ∀ m : Nat, m ≤ F.length →
    Ev (fun k => Vm.rst (graph_Components.rf k) F m (NEXT (TURN g), (), tb (gN g) (fun _ => (-1 : Int)), ())) (NEXT (TURN g), (), tb (gN g) (NUM g F (F.length - m)), ())
  | 0, _ => by
    refine (Ev.ret _).congr fun k => ?_
    show some _ = some _
    congr 3
    refine Prod.ext (tb_congr fun v hv => ?_) rfl
    exact (NUM_neg (fun ⟨i, b, h1, h2, _⟩ => by omega)).symm
  | m + 1, hm => by
    have ih := rounds_prog g hn hF m (by omega)
    show Ev (fun k => (Vm.rst (graph_Components.rf k) F m (NEXT (TURN g), (), tb (gN g) (fun _ => (-1 : Int)), ())).bind fun d => graph_Components.rf k d ((F.length - 1 - m : Nat) : Int) (F.getD (F.length - 1 - m) 0)) _
    refine Ev.bind ih ?_
    obtain ⟨j, hj⟩ : ∃ j : Nat, F.length - 1 - m = j := ⟨_, rfl⟩
    have hjl : j < F.length := by omega
    obtain ⟨r, hr, hrn⟩ := hF.mem _ (rd_mem (xs := F) (i := (j : Int)) (by omega) (by omega))
    have e1 : F.getD j 0 = (r : Int) := by
      rw [← hr, rd_eq hjl]
      simp [hjl]
    rw [hj, e1, show F.length - m = j + 1 by omega, show F.length - (m + 1) = j by omega]
    exact round_prog g hn hF hjl hr _

theorem Components_prog (g : Graph) (hn : gN g ≤ 1000) (hl : g.2.1.length ≤ 1000000) : Ev (fun k => graph_Components.f k g) (COMPS g) := by
  refine W.ev ?_
  simp only [graph_Components.f]
  refine .bindEv (Next_prog g hl) (.bind (finished_prog g hn) fun F hF => .bindEv (Turn_prog g hn hl) ?_)
  have hT := TURN_gN g
  have hLT : (TURN g).2.1.length ≤ 1000000 := by
    have := LINKS_len g
    have h2 : gN g * gN g ≤ 1000 * 1000 := Nat.mul_le_mul hn hn
    show (LINKS g).length ≤ 1000000
    omega
  refine .bindEv (Next_prog (TURN g) hLT) ?_
  have hFl := hF.len
  simp (disch := omega) only [↓if_pos, List.length_replicate, Int.toNat_natCast]
  have e0 : List.replicate F.length (0 : Int) = tb (gN g) fun v => if v < 0 then (-1 : Int) else 0 := by rw [hFl, tb_rep]; exact tb_congr fun c hc => by simp
  rw [e0]
  have loop : ∀ (d i : Nat), i + d = gN g → W (fun k => graph_Components.c5 k (F.length : Int) (i : Int) F (NEXT (TURN g)) (tb (gN g) fun v => if v < i then (-1 : Int) else 0)) (fun z => z = COMPS g) := by
    intro d
    induction d with
    | zero =>
      intro i hi
      refine .succ ?_
      simp (disch := omega) only [graph_Components.c5, ↓cdF]
      have e1 : (tb (gN g) fun v => if v < i then (-1 : Int) else 0) = tb (gN g) fun _ => (-1 : Int) := tb_congr fun c hc => by rw [if_pos (by omega)]
      rw [e1]
      simp only [graph_Components.c9]
      have hb : Nat.ble F.length 1073741824 = true := by simp; omega
      rw [hb]
      simp only [cond_true]
      refine .bindEv (rounds_prog g hn hF F.length (Nat.le_refl _)) ?_
      refine .ret ?_
      refine tb_congr fun v hv => ?_
      obtain ⟨i, hi, e⟩ := mem_rd (hF.all v hv)
      exact NUM_pos ⟨i, v, by omega, hi, e, .refl _⟩
    | succ d ih =>
      intro i hi
      refine .succ ?_
      simp (disch := first | omega | (rw [tb_len]; omega)) only [graph_Components.c5, ↓cdT, ↓if_pos, Int.toNat_natCast, tb_set, w64_id]
      have e1 : (tb (gN g) fun d => if d = i then (-1 : Int) else if d < i then (-1 : Int) else 0) = tb (gN g) fun v => if v < i + 1 then (-1 : Int) else 0 := tb_congr fun c hc => by
        by_cases e : c = i
        · subst e; rw [if_pos rfl, if_pos (by omega)]
        · rw [if_neg e]
          by_cases e2 : c < i
          · rw [if_pos e2, if_pos (by omega)]
          · rw [if_neg e2, if_neg (by omega)]
      rw [e1]
      have := ih (i + 1) (by omega)
      simpa only [natC] using this
  exact loop (gN g) 0 (by omega)

theorem TC_adj {g : Graph} {a b : Nat} : TC (adjW g (-1)) a b ↔ TC (ADJ g) a b := by
  have e : adjW g (-1) = ADJ g := by
    funext a b
    unfold adjW ADJ
    refine propext ⟨fun h => h.1, fun h => ⟨h, by omega, by omega⟩⟩
  rw [e]
theorem Same_iff {g : Graph} {a b : Nat} : Same g a b ↔ b = a ∨ (TC (adjW g (-1)) a b ∧ TC (adjW g (-1)) b a) := by
  rw [TC_adj, TC_adj]
  constructor
  · rintro ⟨h1, h2⟩
    rcases h1 with rfl | h1
    · exact .inl rfl
    · rcases h2 with rfl | h2
      · exact .inl rfl
      · exact .inr ⟨h1, h2⟩
  · rintro (rfl | ⟨h1, h2⟩)
    · exact .refl _
    · exact ⟨.inr h1, .inr h2⟩

theorem Components_ref (g : Graph) (hl : g.2.1.length ≤ 1000000) : Ev (fun k => jacquardref02_Components.f k g) (COMPS g) := by
  have hn := gN_le g
  simp only [jacquardref02_Components.f]
  refine .bind (Matrix_ref g hl) (.bind (Closure_ref g (-1)) ?_)
  simp only [CLO_len]
  refine Ev.up (c := fun k v => jacquardref02_Components.c4 k (gN g : Int) (v : Int) (CLO g (-1)) (tb v fun u => (cmp g u : Int))) (n := gN g) ?_ ?_ 0 (Nat.zero_le _)
  · refine .succ ?_
    simp (disch := omega) only [jacquardref02_Components.c4, ↓cdF]
    exact .ret _
  · intro v hv hnext
    refine .succ ?_
    simp only [natC] at hnext
    simp (disch := omega) only [jacquardref02_Components.c4, ↓cdT]
    have hcl : cmp g v ≤ v := cmp_le (.refl _)
    have loop : ∀ (d w : Nat), w + d = cmp g v → Ev (fun k => jacquardref02_Components.c7 k (v : Int) (w : Int) (gN g : Int) (v : Int) (CLO g (-1)) (tb v fun u => (cmp g u : Int))) (COMPS g) := by
      have done : ∀ w : Nat, w = cmp g v → Ev (fun k => jacquardref02_Components.c4 k (gN g : Int) (w64 ((v : Int) + 1)) (CLO g (-1)) ((tb v fun u => (cmp g u : Int)) ++ [(w : Int)])) (COMPS g) := by
        rintro w rfl
        rw [w64_id (by omega) (by omega), tb_app v fun u => (cmp g u : Int)]
        exact hnext
      intro d
      induction d with
      | zero =>
        intro w hw
        have hws : Same g v w := by rw [show w = cmp g v by omega]; exact cmp_same g v
        refine .succ ?_
        by_cases e : w = v
        · subst e
          simp (disch := first | omega | (simp only [List.length_cons, List.length_nil, tb_len]; omega)) only [jacquardref02_Components.c7, ↓cnF, ↓bleT]
          exact done w (by omega)
        · have h2 := (Same_iff.1 hws).resolve_left e
          simp (disch := first | omega | (rw [CLO_row (by omega)]; omega) | (simp only [List.length_cons, List.length_nil, tb_len]; omega)) only [jacquardref02_Components.c7, ↓cnT, ↓if_pos, CLO_len, CLO_rd, dec_true h2.1, dec_true h2.2, Bool.not_true, cond_true, cond_false, ↓bleT]
          exact done w (by omega)
      | succ d ih =>
        intro w hw
        have hne : w ≠ v := by omega
        have hns : ¬ (TC (adjW g (-1)) v w ∧ TC (adjW g (-1)) w v) := fun h => by
          have := cmp_le (Same_iff.2 (.inr h))
          omega
        have hnx := ih (w + 1) (by omega)
        simp only [natC] at hnx
        refine .succ ?_
        simp (disch := first | omega | (rw [CLO_row (by omega)]; omega)) only [jacquardref02_Components.c7, ↓cnT, ↓if_pos, CLO_len, CLO_rd, w64_id]
        refine .cond (fun h1 => ?_) fun h1 => hnx
        refine .cond (fun h2 => hnx) fun h2 => ?_
        exact absurd ⟨dec_iff.1 h1, dec_iff.1 (by simpa using h2)⟩ hns
    exact loop (cmp g v) 0 (by omega)

theorem RT_turn {g : Graph} {a b : Nat} (h : RT (ADJ g) a b) : RT (ADJ (TURN g)) b a := by
  rcases h with rfl | h
  · exact .refl _
  · induction h with
    | one h => exact .one (show adj (TURN g) _ _ = true by rw [TURN_adj]; exact h)
    | step h _ ih => exact ih.trans (.one (show adj (TURN g) _ _ = true by rw [TURN_adj]; exact h))
theorem RT_back {g : Graph} {a b : Nat} (h : RT (ADJ (TURN g)) a b) : RT (ADJ g) b a := by
  rcases h with rfl | h
  · exact .refl _
  · induction h with
    | one h => exact .one (show adj g _ _ = true by rw [← TURN_adj]; exact h)
    | step h _ ih => exact ih.trans (.one (show adj g _ _ = true by rw [← TURN_adj]; exact h))
theorem COMPS_turn (g : Graph) : COMPS (TURN g) = COMPS g := by
  unfold COMPS
  rw [TURN_gN]
  refine tb_congr fun v hv => ?_
  congr 1
  refine cmp_is ⟨RT_turn (cmp_same g v).2, RT_turn (cmp_same g v).1⟩ fun u hu => cmp_le ⟨RT_back hu.2, RT_back hu.1⟩

theorem PureGraphComponents (g : Graph) (h0 : Ty.good Graph.T g) : ∃ k, jacquardlaw02_GraphComponents.f k g = some true := by
  refine Ev.ex (f := fun k => jacquardlaw02_GraphComponents.f k g) ?_
  simp only [jacquardlaw02_GraphComponents.f]
  have hend : Ev (fun k => (jacquardlaw02_awake.f k).bind fun y16 => some y16) true := Ev.bind awake_ev (.ret true)
  refine Ev.bind awake_ev ?_
  simp only [Bool.not_true, cond_false]
  obtain ⟨bf, e1, e2⟩ := few_ev g
  rw [e1]
  simp only [Option.bind_some]
  refine Ev.cond (fun _ => hend) fun hb => ?_
  obtain ⟨hn, hl⟩ := e2.1 (by simpa using hb)
  have hlen : (COMPS g).length ≤ 1000000 := by unfold COMPS; rw [tb_len]; omega
  refine .bind (Components_prog g (by omega) (by omega)) (.bind (Components_ref g (by omega)) ?_)
  refine Ev.test (same_ev _ _ hlen) (fun _ => ?_) fun h => absurd rfl h
  simp only [cond_true]
  refine .bind (Turn_prog g (by omega) (by omega)) (.bind (x := COMPS g) ?_ ?_)
  · have hT := TURN_gN g
    have hLT : (TURN g).2.1.length ≤ 1000000 := by
      have := LINKS_len g
      have h2 : gN g * gN g ≤ 1000 * 1000 := Nat.mul_le_mul (by omega) (by omega)
      show (LINKS g).length ≤ 1000000
      omega
    rw [← COMPS_turn g]
    exact Components_prog (TURN g) (by omega) hLT
  · exact Ev.test (same_ev _ _ hlen) (fun _ => .ret true) fun h => absurd rfl h
end Go.Proofs.YtebekmcoeacdeaaV
