/- Chapter 02: the law GraphDominators. -/
import Derived.Test.YtebekmcoeacdeaaG02t
set_option linter.unusedVariables false
set_option linter.unusedSimpArgs false
namespace Go.Proofs.YtebekmcoeacdeaaV
open Go Go.Vm

theorem SET_of {g : Graph} {s : Nat} {FIN : List Int} {PF : Nat → Int} (hs : s < gN g) (hn : gN g ≤ 1000) (O : ORD g s FIN) (hPF : ∀ i : Nat, i < FIN.reverse.length → ∀ v : Nat, rd FIN.reverse (i : Int) = (v : Int) → PF v = (i : Int)) :
    ∃ f, SET g s FIN.reverse (fun v => (PF v).toNat) f PF := by
  have mem : ∀ v : Nat, (v : Int) ∈ FIN.reverse ↔ REA g s v := fun v => by rw [List.mem_reverse]; exact O.mem v
  have place : ∀ i : Nat, i < FIN.reverse.length → ∀ v : Nat, rd FIN.reverse (i : Int) = (v : Int) → (PF v).toNat = i := fun i hi v h => by rw [hPF i hi v h]; simp
  have at_ : ∀ v, REA g s v → (PF v).toNat < FIN.reverse.length ∧ rd FIN.reverse (((PF v).toNat : Nat) : Int) = (v : Int) := fun v hv => by
    obtain ⟨i, hi, e⟩ := mem_rd ((mem v).2 hv)
    rw [place i hi v e]
    exact ⟨hi, e⟩
  have fw : ∀ v, REA g s v → v ≠ s → ∃ p, REA g s p ∧ AJ g p v ∧ (PF p).toNat < (PF v).toNat := fun v hv hvs => by
    obtain ⟨h1, h2⟩ := at_ v hv
    rw [List.length_reverse] at h1
    rw [rd_rev h1] at h2
    obtain ⟨p, j, k1, k2, k3, k4⟩ := O.par _ (by omega) v h2 hvs
    have hp : REA g s p := (O.mem p).1 (by rw [← k4]; exact rd_mem (by omega) (by omega))
    refine ⟨p, hp, k1, ?_⟩
    have h3 := hPF (FIN.length - 1 - j) (by rw [List.length_reverse]; omega) p (by rw [rd_rev (by omega), show FIN.length - 1 - (FIN.length - 1 - j) = j by omega]; exact k4)
    rw [h3]
    simp
    omega
  obtain ⟨F', hF'⟩ := O.last
  obtain ⟨f, hf⟩ : ∃ f : Nat → Nat, ∀ v, REA g s v → v ≠ s → REA g s (f v) ∧ AJ g (f v) v ∧ (PF (f v)).toNat < (PF v).toNat :=
    Classical.axiomOfChoice (r := fun v p => REA g s v → v ≠ s → REA g s p ∧ AJ g p v ∧ (PF p).toNat < (PF v).toNat) fun v => by
      by_cases h : REA g s v ∧ v ≠ s
      · obtain ⟨p, hp⟩ := fw v h.1 h.2
        exact ⟨p, fun _ _ => hp⟩
      · exact ⟨0, fun h1 h2 => absurd ⟨h1, h2⟩ h⟩
  refine ⟨f, hs, hn, ⟨.inl rfl, fun a b ha hr => ha.step hr, fun a b ha hb e => ?_, fun v hv hvs => ?_⟩, ?_, mem, fun x hx => O.node x (List.mem_reverse.1 hx), ?_, ?_, place, fun v hv => ?_⟩
  · have h1 := (at_ a ha).2
    have h2 := (at_ b hb).2
    have e' : (PF a).toNat = (PF b).toNat := e
    rw [e'] at h1
    omega
  · exact hf v hv hvs
  · rw [(List.reverse_perm FIN).nodup_iff]; exact O.nd
  · rw [hF', List.reverse_append]; rfl
  · rw [hF']; simp
  · obtain ⟨i, hi, e⟩ := mem_rd ((mem v).2 hv)
    rw [hPF i hi v e]; simp

theorem Dominators_prog (g : Graph) (s : Int) (hn : gN g ≤ 1000) (hl : g.2.1.length ≤ 1000000) : W (fun k => graph_Dominators.f k g s) (fun r => ∀ r', RDOM g s r' → r = r') := by
  simp only [graph_Dominators.f]
  refine .bindEv (Next_prog g hl) ?_
  simp (disch := first | omega | (rw [NEXT_len]; omega)) only [↓if_pos, NEXT_len, Int.toNat_natCast, List.length_replicate]
  have e0 : List.replicate (gN g) (0 : Int) = tb (gN g) fun v => if v < 0 then -1 else 0 := by rw [tb_rep]; exact tb_congr fun c hc => by simp
  have out_ : ¬ (0 ≤ s ∧ s < (gN g : Int)) → ∀ r', RDOM g s r' → tb (gN g) (fun _ => (-1 : Int)) = r' := by
    rintro h r' ⟨F, rfl, hF⟩
    rw [if_neg h] at hF
    exact tb_congr fun v hv => (hF v hv).symm
  have init : ∀ (e i : Nat), i + e = gN g → W (fun k => graph_Dominators.c4 k s (gN g : Int) (i : Int) g (NEXT g) (tb (gN g) fun v => if v < i then (-1 : Int) else 0)) (fun r => ∀ r', RDOM g s r' → r = r') := by
    intro e
    induction e with
    | zero =>
      intro i hi
      refine .succ ?_
      have e1 : (tb (gN g) fun v => if v < i then (-1 : Int) else 0) = tb (gN g) fun _ => -1 := tb_congr fun c hc => by rw [if_pos (by omega)]
      rw [e1]
      simp (disch := omega) only [graph_Dominators.c4, ↓cdF, NEXT_len]
      refine .dec (fun h => .ret (out_ (by omega))) fun h1 => ?_
      refine .dec (fun h => .ret (out_ (by omega))) fun h2 => ?_
      obtain ⟨a, rfl⟩ : ∃ a : Nat, s = (a : Int) := ⟨s.toNat, by omega⟩
      have han : a < gN g := by omega
      simp (disch := omega) only [↓if_pos, Int.toNat_natCast]
      refine .bindEv (reach_prog g (a : Int) (-1) hn) ?_
      refine .bind (visit_prog g a han hn) fun r hr => ?_
      have hfl : r.2.2.2.2.1.length ≤ gN g := (pigeon _ _ hr.nd fun x hx => by
        obtain ⟨v, rfl, hv⟩ := hr.node x hx
        omega).1
      generalize hF : r.2.2.2.2.1 = FIN at *
      refine .bindEv (reverse_ev FIN (by omega)) ?_
      have hnode : ∀ i : Nat, i < FIN.reverse.length → ∃ v : Nat, rd FIN.reverse (i : Int) = (v : Int) ∧ v < gN g := fun i hi => by
        obtain ⟨v, h1, h2⟩ := hr.node _ (List.mem_reverse.1 (rd_mem (xs := FIN.reverse) (i := (i : Int)) (by omega) (by omega)))
        exact ⟨v, h1, h2⟩
      have hnd : FIN.reverse.Nodup := by rw [(List.reverse_perm FIN).nodup_iff]; exact hr.nd
      have hrl : FIN.reverse.length ≤ gN g := by rw [List.length_reverse]; exact hfl
      -- the places
      have places : ∀ (e i : Nat), i + e = FIN.reverse.length → ∀ PF : Nat → Int, (∀ j : Nat, j < i → ∀ v : Nat, rd FIN.reverse (j : Int) = (v : Int) → PF v = (j : Int)) →
          W (fun k => graph_Dominators.c20 k (a : Int) (FIN.reverse.length : Int) (i : Int) g (RCH g (-1) (a : Int)) FIN.reverse (tb (gN g) fun _ => -1) (tb (gN g) PF)) (fun r => ∀ r', RDOM g (a : Int) r' → r = r') := by
        intro e
        induction e with
        | zero =>
          intro i hi PF hPF
          refine .succ ?_
          simp (disch := omega) only [graph_Dominators.c20, ↓cdF]
          refine .bindEv (Turn_prog g hn hl) ?_
          have hll : (LINKS g).length ≤ 1000000 := Nat.le_trans (LINKS_len g) (Nat.le_trans (Nat.mul_le_mul hn hn) (by omega))
          refine .bindEv (Next_prog (TURN g) hll) ?_
          obtain ⟨f, S⟩ := SET_of han hn hr (fun j hj v h => hPF j (by omega) v h)
          simp (disch := first | omega | (rw [tb_len]; omega)) only [↓if_pos, Int.toNat_natCast, tb_set]
          have e2 : (tb (gN g) fun d => if d = a then (a : Int) else -1) = tb (gN g) (OL (fun _ => a) (fun v => v = a)) := tb_congr fun c hc => by
            by_cases e : c = a
            · rw [if_pos e]; exact (OL_p (O := fun _ => a) (P := fun v => v = a) e).symm
            · rw [if_neg e]; exact (OL_n (O := fun _ => a) (P := fun v => v = a) e).symm
          rw [e2]
          refine (rounds_ev S (fun _ => a) (fun v => v = a) (CK.start S.D rfl)).mono fun z hz r' hr' => ?_
          obtain ⟨F', rfl, hF'⟩ := hr'
          rw [if_pos (by omega)] at hF'
          exact hz F' hF'
        | succ e ihp =>
          intro i hi PF hPF
          obtain ⟨v, hv, hvn⟩ := hnode i (by omega)
          refine .succ ?_
          simp (disch := first | omega | (rw [tb_len]; omega)) only [graph_Dominators.c20, ↓cdT, hv, ↓if_pos, Int.toNat_natCast, tb_set1, w64_id]
          refine ihp (i + 1) (by omega) (set1 PF v (i : Int)) fun j hj u hu => ?_
          by_cases e : u = v
          · subst e
            rw [set1_eq]
            have := nodup_idx hnd (i := j) (j := i) (by omega) (by omega) (by rw [hu, hv])
            omega
          · rw [set1_ne e]
            refine hPF j ?_ u hu
            by_cases e2 : j = i
            · subst e2; rw [hv] at hu; omega
            · omega
      have := places FIN.reverse.length 0 (by omega) (fun _ => 0) (fun j hj => absurd hj (Nat.not_lt_zero _))
      rw [← tb_rep (gN g) (0 : Int)] at this
      exact this
    | succ e ih =>
      intro i hi
      refine .succ ?_
      simp (disch := first | omega | (rw [tb_len]; omega)) only [graph_Dominators.c4, ↓cdT, ↓if_pos, Int.toNat_natCast, tb_set, w64_id]
      have a2 : (tb (gN g) fun d => if d = i then (-1 : Int) else if d < i then -1 else 0) = tb (gN g) fun v => if v < i + 1 then -1 else 0 := tb_congr fun c hc => by
        by_cases e : c = i
        · subst e; rw [if_pos rfl, if_pos (by omega)]
        · rw [if_neg e]
          by_cases e2 : c < i
          · rw [if_pos e2, if_pos (by omega)]
          · rw [if_neg e2, if_neg (by omega)]
      rw [a2]
      exact ih (i + 1) (by omega)
  have := init (gN g) 0 (by omega)
  rw [← e0] at this
  exact this

theorem PureGraphDominators (g : Graph) (s : Int) (h0 : Ty.good Graph.T g) (h1 : Ty.good (.int .i64) s) : ∃ k, jacquardlaw02_GraphDominators.f k g s = some true := by
  refine Ev.ex (f := fun k => jacquardlaw02_GraphDominators.f k g s) ?_
  simp only [jacquardlaw02_GraphDominators.f]
  have hend : Ev (fun k => (jacquardlaw02_awake.f k).bind fun y16 => some y16) true := Ev.bind awake_ev (.ret true)
  refine Ev.bind awake_ev ?_
  simp only [Bool.not_true, cond_false]
  obtain ⟨bf, e1, e2⟩ := few_ev g
  rw [e1]
  simp only [Option.bind_some]
  refine Ev.cond (fun _ => hend) fun hb => ?_
  obtain ⟨hn, hl⟩ := e2.1 (by simpa using hb)
  obtain ⟨r, r1, r2⟩ := Dominators_prog g s (by omega) (by omega)
  obtain ⟨q, q1, q2⟩ := Dominators_ref g s (by omega)
  have e := r2 q q2
  subst e
  have hlen : r.length ≤ 1000000 := by
    obtain ⟨F, rfl, _⟩ := q2
    rw [tb_len]; omega
  exact .bind r1 (.bind q1 (.bind ((same_ev _ _ hlen).true rfl) (.ret true)))
end Go.Proofs.YtebekmcoeacdeaaV
