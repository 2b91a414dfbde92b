/- Chapter 02: immediate dominators of the program, and the law GraphDominators. -/
import Derived.Test.YtebekmcoeacdeaaG02p
import Derived.Test.YtebekmcoeacdeaaG02r
set_option linter.unusedVariables false
set_option linter.unusedSimpArgs false
namespace Go.Proofs.YtebekmcoeacdeaaV
open Go Go.Vm

/-- the list of what was found -/
noncomputable def OL (O : Nat → Nat) (P : Nat → Prop) (v : Nat) : Int := bif dec (P v) then (O v : Int) else -1
theorem OL_p {O : Nat → Nat} {P : Nat → Prop} {v : Nat} (h : P v) : OL O P v = (O v : Int) := by unfold OL; rw [dec_true h, cond_true]
theorem OL_n {O : Nat → Nat} {P : Nat → Prop} {v : Nat} (h : ¬ P v) : OL O P v = -1 := by unfold OL; rw [dec_false.2 h, cond_false]
theorem OL_pos {O : Nat → Nat} {P : Nat → Prop} {v : Nat} : OL O P v < 0 ↔ ¬ P v := by
  by_cases h : P v
  · rw [OL_p h]; exact ⟨fun h2 => by omega, fun h2 => absurd h h2⟩
  · rw [OL_n h]; exact ⟨fun _ => h, fun _ => by omega⟩

section
variable {g : Graph} {s : Nat} {pl f O : Nat → Nat} {P : Nat → Prop} {cur : Nat} {PF : Nat → Int}
theorem REA_lt (hs : s < gN g) {v : Nat} (h : REA g s v) : v < gN g := by
  rcases h with rfl | h
  · exact hs
  · obtain ⟨b, h1, _⟩ := h.last
    exact adj_r h1

/-- the meeting point of two -/
theorem meet_ev (hs : s < gN g) (D : DG (AJ g) (REA g s) s pl f) (C : CK (AJ g) (REA g s) s pl f O P cur) (hPF : ∀ v, REA g s v → PF v = (pl v : Int)) {a b : Nat} (ha : P a) (hb : P b) :
    W (fun k => graph_Dominators_2.f k (a : Int) (b : Int) (tb (gN g) PF) (tb (gN g) (OL O P))) (fun r => ∃ c : Nat, r.1 = (c : Int) ∧ P c ∧ ∀ x, AN O c x ↔ AN O a x ∧ AN O b x) := by
  simp only [graph_Dominators_2.f]
  have key : ∀ (m : Nat) (u v : Nat), P u → P v → pl u + pl v ≤ m → (∀ x, AN O u x ∧ AN O v x ↔ AN O a x ∧ AN O b x) →
      W (fun k => graph_Dominators_2.c1 k (u : Int) (v : Int) (tb (gN g) PF) (tb (gN g) (OL O P))) (fun r => ∃ c : Nat, r.1 = (c : Int) ∧ P c ∧ ∀ x, AN O c x ↔ AN O a x ∧ AN O b x) ∧
      W (fun k => graph_Dominators_2.c2 k (u : Int) (v : Int) (tb (gN g) PF) (tb (gN g) (OL O P))) (fun r => ∃ c : Nat, r.1 = (c : Int) ∧ P c ∧ ∀ x, AN O c x ↔ AN O a x ∧ AN O b x) ∧
      W (fun k => graph_Dominators_2.c4 k (u : Int) (v : Int) (tb (gN g) PF) (tb (gN g) (OL O P))) (fun r => ∃ c : Nat, r.1 = (c : Int) ∧ P c ∧ ∀ x, AN O c x ↔ AN O a x ∧ AN O b x) := by
    intro m
    have equal : ∀ u v : Nat, u = v → P u → (∀ x, AN O u x ∧ AN O v x ↔ AN O a x ∧ AN O b x) → W (fun k => graph_Dominators_2.c1 k (u : Int) (v : Int) (tb (gN g) PF) (tb (gN g) (OL O P))) (fun r => ∃ c : Nat, r.1 = (c : Int) ∧ P c ∧ ∀ x, AN O c x ↔ AN O a x ∧ AN O b x) := by
      intro u v e hu hx
      subst e
      refine .succ ?_
      simp (disch := omega) only [graph_Dominators_2.c1, ↓cnF]
      exact .ret ⟨u, rfl, hu, fun x => by rw [← hx]; exact ⟨fun h => ⟨h, h⟩, fun h => h.1⟩⟩
    -- steps, where a smaller sum is known
    have up1 : ∀ u v : Nat, P u → P v → pl v < pl u → (∀ x, AN O u x ∧ AN O v x ↔ AN O a x ∧ AN O b x) → P (O u) ∧ pl (O u) < pl u ∧ ∀ x, AN O (O u) x ∧ AN O v x ↔ AN O a x ∧ AN O b x := by
      intro u v hu hv hlt hx
      have hur : u ≠ s := fun e => by
        have := (C.tr.an hv (C.tr.toroot _ v (Nat.le_refl _) hv)).2.1
        rw [e] at hlt; omega
      obtain ⟨h1, h2⟩ := C.tr.dn u hu hur
      refine ⟨h1, h2, fun x => ?_⟩
      rw [← hx]
      refine ⟨fun h => ⟨.up h.1, h.2⟩, fun h => ⟨?_, h.2⟩⟩
      rcases h.1.cases with e | h3
      · subst e
        have := (C.tr.an hv h.2).2.1
        omega
      · exact h3
    have up2 : ∀ u v : Nat, P u → P v → pl u < pl v → (∀ x, AN O u x ∧ AN O v x ↔ AN O a x ∧ AN O b x) → P (O v) ∧ pl (O v) < pl v ∧ ∀ x, AN O u x ∧ AN O (O v) x ↔ AN O a x ∧ AN O b x := by
      intro u v hu hv hlt hx
      obtain ⟨h1, h2, h3⟩ := up1 v u hv hu hlt (fun x => by rw [And.comm]; exact hx x)
      exact ⟨h1, h2, fun x => by rw [And.comm]; exact h3 x⟩
    induction m with
    | zero =>
      intro u v hu hv hm hx
      have hun := REA_lt hs (C.pr u hu)
      have hvn := REA_lt hs (C.pr v hv)
      have euv : u = v := D.inj u v (C.pr u hu) (C.pr v hv) (by omega)
      have w1 := equal u v euv hu hx
      have w4 : W (fun k => graph_Dominators_2.c4 k (u : Int) (v : Int) (tb (gN g) PF) (tb (gN g) (OL O P))) (fun r => ∃ c : Nat, r.1 = (c : Int) ∧ P c ∧ ∀ x, AN O c x ↔ AN O a x ∧ AN O b x) := by
        refine .succ ?_
        simp (disch := first | omega | (rw [tb_len]; omega)) only [graph_Dominators_2.c4, ↓if_pos, tb_rd hun, tb_rd hvn, hPF _ (C.pr u hu), hPF _ (C.pr v hv), ↓cdF]
        exact w1
      refine ⟨w1, ?_, w4⟩
      refine .succ ?_
      simp (disch := first | omega | (rw [tb_len]; omega)) only [graph_Dominators_2.c2, ↓if_pos, tb_rd hun, tb_rd hvn, hPF _ (C.pr u hu), hPF _ (C.pr v hv), ↓cdF]
      exact w4
    | succ m ih =>
      intro u v hu hv hm hx
      have hun := REA_lt hs (C.pr u hu)
      have hvn := REA_lt hs (C.pr v hv)
      -- c4 where v lies behind
      have w4lt : pl u < pl v → W (fun k => graph_Dominators_2.c4 k (u : Int) (v : Int) (tb (gN g) PF) (tb (gN g) (OL O P))) (fun r => ∃ c : Nat, r.1 = (c : Int) ∧ P c ∧ ∀ x, AN O c x ↔ AN O a x ∧ AN O b x) := fun hlt => by
        obtain ⟨h1, h2, h3⟩ := up2 u v hu hv hlt hx
        refine .succ ?_
        simp (disch := first | omega | (rw [tb_len]; omega)) only [graph_Dominators_2.c4, ↓if_pos, tb_rd hun, tb_rd hvn, hPF _ (C.pr u hu), hPF _ (C.pr v hv), ↓cdT, OL_p hv]
        exact (ih u (O v) hu h1 (by omega) h3).2.2
      have w2lt : pl v < pl u → W (fun k => graph_Dominators_2.c2 k (u : Int) (v : Int) (tb (gN g) PF) (tb (gN g) (OL O P))) (fun r => ∃ c : Nat, r.1 = (c : Int) ∧ P c ∧ ∀ x, AN O c x ↔ AN O a x ∧ AN O b x) := fun hlt => by
        obtain ⟨h1, h2, h3⟩ := up1 u v hu hv hlt hx
        refine .succ ?_
        simp (disch := first | omega | (rw [tb_len]; omega)) only [graph_Dominators_2.c2, ↓if_pos, tb_rd hun, tb_rd hvn, hPF _ (C.pr u hu), hPF _ (C.pr v hv), ↓cdT, OL_p hu]
        exact (ih (O u) v h1 hv (by omega) h3).2.1
      have w1 : W (fun k => graph_Dominators_2.c1 k (u : Int) (v : Int) (tb (gN g) PF) (tb (gN g) (OL O P))) (fun r => ∃ c : Nat, r.1 = (c : Int) ∧ P c ∧ ∀ x, AN O c x ↔ AN O a x ∧ AN O b x) := by
        by_cases e : u = v
        · exact equal u v e hu hx
        · have hne : pl u ≠ pl v := fun h => e (D.inj u v (C.pr u hu) (C.pr v hv) h)
          refine .succ ?_
          simp (disch := omega) only [graph_Dominators_2.c1, ↓cnT]
          by_cases hlt : pl v < pl u
          · exact w2lt hlt
          · refine .succ ?_
            simp (disch := first | omega | (rw [tb_len]; omega)) only [graph_Dominators_2.c2, ↓if_pos, tb_rd hun, tb_rd hvn, hPF _ (C.pr u hu), hPF _ (C.pr v hv), ↓cdF]
            exact w4lt (by omega)
      have w4 : W (fun k => graph_Dominators_2.c4 k (u : Int) (v : Int) (tb (gN g) PF) (tb (gN g) (OL O P))) (fun r => ∃ c : Nat, r.1 = (c : Int) ∧ P c ∧ ∀ x, AN O c x ↔ AN O a x ∧ AN O b x) := by
        by_cases hlt : pl u < pl v
        · exact w4lt hlt
        · refine .succ ?_
          simp (disch := first | omega | (rw [tb_len]; omega)) only [graph_Dominators_2.c4, ↓if_pos, tb_rd hun, tb_rd hvn, hPF _ (C.pr u hu), hPF _ (C.pr v hv), ↓cdF]
          exact w1
      refine ⟨w1, ?_, w4⟩
      by_cases hlt : pl v < pl u
      · exact w2lt hlt
      · refine .succ ?_
        simp (disch := first | omega | (rw [tb_len]; omega)) only [graph_Dominators_2.c2, ↓if_pos, tb_rd hun, tb_rd hvn, hPF _ (C.pr u hu), hPF _ (C.pr v hv), ↓cdF]
        exact w4
  exact (key _ a b ha hb (Nat.le_refl _) (fun x => Iff.rfl)).1
end

theorem TURN_gN (g : Graph) : gN (TURN g) = gN g := by
  have h1 := gN_int (TURN g)
  have h2 := gN_int g
  have h3 := gN_le g
  have h4 : (TURN g).1 = (gN g : Int) := rfl
  rw [h4] at h1
  have : mn (mx (gN g : Int) 0) 20000 = (gN g : Int) := by
    unfold mx mn
    repeat' split <;> try omega
  omega
theorem TURN_adj (g : Graph) (a b : Nat) : adj (TURN g) a b = adj g b a := by
  have h : adj (TURN g) a b = true ↔ adj g b a = true := by
    rw [adj_iff, TURN_gN]
    constructor
    · rintro ⟨_, _, l, h1, h2, h3⟩
      obtain ⟨b', a', h4, rfl⟩ := mem_LINKS.1 h1
      simp only at h2 h3
      rwa [show b = a' by omega, show a = b' by omega]
    · intro h
      exact ⟨adj_r h, adj_l h, ((a : Int), (b : Int), ()), mem_LINKS.2 ⟨a, b, h, rfl⟩, rfl, rfl⟩
  cases h1 : adj (TURN g) a b <;> cases h2 : adj g b a <;> simp_all
theorem RR_REA {g : Graph} {s v : Nat} (hs : s < gN g) : RR g (-1) (s : Int) v ↔ REA g s v := by
  have e : adjW g (-1) = AJ g := by
    funext a b
    simp only [adjW, AJ]
    exact propext ⟨fun h => h.1, fun h => ⟨h, by omega, by omega⟩⟩
  unfold RR REA
  rw [e]
  constructor
  · rintro ⟨a, h1, _, _, h2⟩
    rwa [show s = a by omega]
  · intro h; exact ⟨s, rfl, hs, by omega, h⟩

/-- the immediate dominators, as the program lays them -/
theorem DOMR_AN {g : Graph} {s : Nat} (hs : s < gN g) {pl f O : Nat → Nat} {P : Nat → Prop} {cur : Nat} (D : DG (AJ g) (REA g s) s pl f) (C : CK (AJ g) (REA g s) s pl f O P cur) (hall : ∀ v, REA g s v → P v)
    (hm : ∀ v, REA g s v → v ≠ s → MEET (AJ g) O P v (O v)) {x v : Nat} (hv : REA g s v) : DOMR g (s : Int) x v ↔ AN O v x := by
  rw [C.done D hall hm hv]
  have e : adjW g (x : Int) = fun a b => AJ g a b ∧ a ≠ x ∧ b ≠ x := by
    funext a b
    simp only [adjW, AJ]
    exact propext ⟨fun h => ⟨h.1, by omega, by omega⟩, fun h => ⟨h.1, by omega, by omega⟩⟩
  unfold DOMR AV
  rw [RR_REA hs, RR_REA hs]
  constructor
  · rintro ⟨_, _, h | h | ⟨h1, h2⟩⟩ ⟨k1, k2, k3⟩
    · exact k2 h
    · exact k1 (by omega)
    · rcases k3 with k3 | k3
      · exact h1 (by omega)
      · have := h2 s rfl
        rw [e] at this
        exact this k3
  · intro h
    have hx : AN O v x := (C.done D hall hm hv).2 h
    refine ⟨hv, C.pr x (C.tr.an (hall v hv) hx).1, ?_⟩
    by_cases e1 : x = v
    · exact .inl e1
    · by_cases e2 : x = s
      · exact .inr (.inl (by omega))
      · refine .inr (.inr ⟨fun e3 => h ⟨e2, e1, .inl (by omega)⟩, fun a ha hT => h ⟨e2, e1, .inr ?_⟩⟩)
        rw [e] at hT
        rwa [show s = a by omega]
theorem IDOM_unique {g : Graph} {s : Nat} (hs : s < gN g) {pl f O : Nat → Nat} {P : Nat → Prop} {cur : Nat} (D : DG (AJ g) (REA g s) s pl f) (C : CK (AJ g) (REA g s) s pl f O P cur) (hall : ∀ v, REA g s v → P v)
    (hm : ∀ v, REA g s v → v ≠ s → MEET (AJ g) O P v (O v)) {v : Nat} {x y : Int} (hx : IDOM g (s : Int) v x) (hy : IDOM g (s : Int) v y) : x = y := by
  rcases hx with ⟨rfl, h1⟩ | ⟨d, hd, rfl, h1⟩
  · rcases hy with ⟨rfl, h2⟩ | ⟨d, hd, rfl, h2⟩
    · rfl
    · exact absurd h2 (h1 d hd)
  · rcases hy with ⟨rfl, h2⟩ | ⟨e, he, rfl, h2⟩
    · exact absurd h1 (h2 d hd)
    · have k1 := h1.2.2 e he h2.1 h2.2.1
      have k2 := h2.2.2 d hd h1.1 h1.2.1
      have Rd : REA g s d := (RR_REA hs).1 k2.2.1
      have Re : REA g s e := (RR_REA hs).1 k1.2.1
      have a1 := C.tr.an (hall d Rd) ((DOMR_AN hs D C hall hm Rd).1 k1)
      have a2 := C.tr.an (hall e Re) ((DOMR_AN hs D C hall hm Re).1 k2)
      have : d = e := D.inj d e Rd Re (by omega)
      rw [this]
theorem IDOM_prog {g : Graph} {s : Nat} (hs : s < gN g) {pl f O : Nat → Nat} {P : Nat → Prop} {cur : Nat} (D : DG (AJ g) (REA g s) s pl f) (C : CK (AJ g) (REA g s) s pl f O P cur) (hall : ∀ v, REA g s v → P v)
    (hm : ∀ v, REA g s v → v ≠ s → MEET (AJ g) O P v (O v)) (v : Nat) : IDOM g (s : Int) v (if v = s then -1 else OL O P v) := by
  by_cases e : v = s
  · rw [if_pos e]
    refine .inl ⟨rfl, fun d _ hc => ?_⟩
    rcases hc.2.1.2.2 with h | h | h
    · exact hc.1 h
    · exact hc.1 (by omega)
    · exact h.1 (by omega)
  · rw [if_neg e]
    by_cases hv : REA g s v
    · have hP := hall v hv
      obtain ⟨h1, h2⟩ := C.tr.dn v hP e
      rw [OL_p hP]
      have hRO := C.pr _ h1
      refine .inr ⟨O v, REA_lt hs hRO, rfl, fun h => by rw [h] at h2; omega, (DOMR_AN hs D C hall hm hv).2 (.up (.refl _)), fun x _ hx hd => ?_⟩
      refine (DOMR_AN hs D C hall hm hRO).2 ?_
      rcases ((DOMR_AN hs D C hall hm hv).1 hd).cases with h | h
      · exact absurd h hx
      · exact h
    · rw [OL_n (fun h => hv (C.pr v h))]
      exact .inl ⟨rfl, fun d _ hc => hv ((RR_REA hs).1 hc.2.1.1)⟩
end Go.Proofs.YtebekmcoeacdeaaV
