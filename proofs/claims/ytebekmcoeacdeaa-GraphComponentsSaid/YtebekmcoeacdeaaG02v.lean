/- Chapter 02: the order by finishing. -/
import Derived.Test.YtebekmcoeacdeaaG02u
set_option linter.unusedVariables false
set_option linter.unusedSimpArgs false
namespace Go.Vm
open Go
def RT (r : Nat → Nat → Prop) (a b : Nat) : Prop := a = b ∨ TC r a b
theorem RT.refl {r : Nat → Nat → Prop} (a : Nat) : RT r a a := .inl rfl
theorem RT.one {r : Nat → Nat → Prop} {a b : Nat} (h : r a b) : RT r a b := .inr (.one h)
theorem RT.trans {r : Nat → Nat → Prop} {a b c : Nat} (h : RT r a b) (h' : RT r b c) : RT r a c := by
  rcases h with rfl | h
  · exact h'
  · rcases h' with rfl | h'
    · exact .inr h
    · exact .inr (h.trans h')

/-- an order by finishing -/
def T2 (r : Nat → Nat → Prop) (F : List Int) : Prop := ∀ i j : Nat, i ≤ j → j < F.length → ∀ a w b : Nat, rd F (i : Int) = (a : Int) → r a w → rd F (j : Int) = (b : Int) → (w : Int) ∈ F.take j ∨ RT r w b

/-- a path that leaves the first ones -/
theorem crossing {r : Nat → Nat → Prop} {n : Nat} {F : List Int} (hall : ∀ v : Nat, v < n → (v : Int) ∈ F) (hr : ∀ a b, r a b → b < n) {i m : Nat} (him : i < m) (hm : m < F.length) {z : Nat} (hz : rd F (m : Int) = (z : Int)) {x : Nat} (h : TC r x z) : (∃ p : Nat, p ≤ i ∧ rd F (p : Int) = (x : Int)) →
    ∃ a b p q : Nat, RT r x a ∧ r a b ∧ rd F (p : Int) = (a : Int) ∧ p ≤ i ∧ rd F (q : Int) = (b : Int) ∧ i < q ∧ q < F.length := by
  induction h with
  | one h1 => exact fun ⟨p, hp, e⟩ => ⟨_, _, p, m, .refl _, h1, e, hp, hz, him, hm⟩
  | @step x y z h1 _ ih =>
    rintro ⟨p, hp, e⟩
    obtain ⟨q, hq, eq⟩ := mem_rd (hall y (hr _ _ h1))
    by_cases hqi : q ≤ i
    · obtain ⟨a, b, p', q', h2, h3, h4, h5, h6⟩ := ih hz ⟨q, hqi, eq⟩
      exact ⟨a, b, p', q', (RT.one h1).trans h2, h3, h4, h5, h6⟩
    · exact ⟨x, y, p, q, .refl _, h1, e, hp, eq, by omega, hq⟩

theorem kosaraju {r : Nat → Nat → Prop} {n : Nat} {F : List Int} (hn : F.Nodup) (hall : ∀ v : Nat, v < n → (v : Int) ∈ F) (hr : ∀ a b, r a b → b < n) (h : T2 r F) {m z w : Nat} (hm : m < F.length) (hz : rd F (m : Int) = (z : Int)) (hw : w < n) (hwz : RT r w z)
    (hno : ∀ j : Nat, m < j → j < F.length → ∀ b : Nat, rd F (j : Int) = (b : Int) → ¬ (RT r w b ∧ RT r b w)) : RT r z w := by
  have key : ∀ d i : Nat, i + d = m → ∀ c : Nat, rd F (i : Int) = (c : Int) → RT r w c → RT r c w → RT r z w := by
    intro d
    induction d using Nat.strongRecOn with
    | _ d ih =>
      intro i hi c hc h1 h2
      by_cases e : d = 0
      · subst e
        rw [show i = m by omega] at hc
        rw [show z = c by omega]
        exact h2
      · have hcz : RT r c z := h2.trans hwz
        rcases hcz with rfl | hcz
        · exact h2
        · obtain ⟨a, b, p, q, k1, k2, k3, k4, k5, k6, k7⟩ := crossing hall hr (i := i) (by omega) hm hz hcz ⟨i, Nat.le_refl _, hc⟩
          have hb : RT r b c := by
            rcases h p i k4 (by omega) a b c k3 k2 hc with h3 | h3
            · obtain ⟨q', hq', e'⟩ := mem_rd h3
              rw [List.length_take] at hq'
              have e2 : rd F (q' : Int) = (b : Int) := by
                rw [rd_eq (by rw [List.length_take]; omega), List.getElem_take] at e'
                rw [rd_eq (by omega)]
                exact e'
              have := nodup_idx hn (i := q) (j := q') k7 (by omega) (k5.trans e2.symm)
              omega
            · exact h3
          have hwb : RT r w b := h1.trans (k1.trans (.one k2))
          have hbw : RT r b w := hb.trans h2
          by_cases hqm : q ≤ m
          · exact ih (m - q) (by omega) q (by omega) b k5 hwb hbw
          · exact absurd ⟨hwb, hbw⟩ (hno q (by omega) k7 b k5)
  obtain ⟨i, hi, e⟩ := mem_rd (hall w hw)
  by_cases him : i ≤ m
  · exact key (m - i) i (by omega) w e (.refl _) (.refl _)
  · exact absurd ⟨.refl _, .refl _⟩ (hno i (by omega) hi w e)
end Go.Vm
namespace Go.Proofs.YtebekmcoeacdeaaV
open Go Go.Vm

def ADJ (g : Graph) (a b : Nat) : Prop := adj g a b = true
/-- the search, so far -/
structure FI (g : Graph) (V : Nat → Bool) (A : Nat → Int) (W FIN : List Int) : Prop where
  vis : ∀ v, v < gN g → (V v = true ↔ (v : Int) ∈ W ∨ (v : Int) ∈ FIN)
  nd : (FIN ++ W).Nodup
  mem : ∀ x ∈ FIN ++ W, ∃ v : Nat, x = (v : Int) ∧ v < gN g
  pt : PT g W
  cl : ∀ a w : Nat, (a : Int) ∈ FIN → adj g a w = true → V w = true
  lk : ∀ v w : Nat, (v : Int) ∈ W → (w : Int) ∈ (succs g v).take (A v).toNat → V w = true
  at0 : ∀ v, v < gN g → 0 ≤ A v ∧ A v ≤ ((succs g v).length : Int) ∧ (V v = false → A v = 0)
  t2 : T2 (ADJ g) FIN

theorem PT_end {g : Graph} : ∀ {W : List Int} {v : Nat}, PT g (W ++ [(v : Int)]) → ∀ w : Nat, (w : Int) ∈ W ++ [(v : Int)] → RT (ADJ g) w v := by
  intro W v h w hw
  obtain ⟨i, hi, e⟩ := mem_rd hw
  have hl : (W ++ [(v : Int)]).length = W.length + 1 := by simp
  have key : ∀ d i : Nat, i + d = W.length → ∀ w : Nat, rd (W ++ [(v : Int)]) (i : Int) = (w : Int) → RT (ADJ g) w v := by
    intro d
    induction d with
    | zero =>
      intro i hi w e
      rw [show i = W.length by omega, rd_app_at] at e
      exact .inl (by omega)
    | succ d ih =>
      intro i hi w e
      obtain ⟨a, b, h1, h2, h3⟩ := h.2 i (by omega)
      rw [show w = a by omega]
      exact (RT.one h3).trans (ih (i + 1) (by omega) b h2)
  exact key (W.length - i) i (by omega) w e

theorem FI.pop {g : Graph} {V : Nat → Bool} {A : Nat → Int} {W FIN : List Int} {v : Nat} (h : FI g V A (W ++ [(v : Int)]) FIN) (ha : A v = ((succs g v).length : Int)) : FI g V A W (FIN ++ [(v : Int)]) := by
  have hvis : ∀ w : Nat, adj g v w = true → V w = true := fun w hw => h.lk v w (by simp) (by
    rw [ha, Int.toNat_natCast, List.take_length]
    exact mem_succs.2 ⟨w, rfl, hw⟩)
  have hcl : ∀ a w : Nat, (a : Int) ∈ FIN ++ [(v : Int)] → adj g a w = true → V w = true := fun a w hm hw => by
    rcases List.mem_append.1 hm with hm | hm
    · exact h.cl a w hm hw
    · simp at hm
      rw [show a = v by omega] at hw
      exact hvis w hw
  refine ⟨fun u hu => ?_, ?_, fun x hx => h.mem x ?_, PT_front h.pt, hcl, fun u w hu hw => h.lk u w (List.mem_append_left _ hu) hw, h.at0, ?_⟩
  · rw [h.vis u hu]
    simp only [List.mem_append, List.mem_singleton]
    grind
  · have := h.nd
    rw [List.append_assoc]
    refine (List.Perm.nodup_iff ?_).1 this
    exact List.Perm.append_left _ List.perm_append_comm
  · simp only [List.mem_append, List.mem_singleton] at hx ⊢
    grind
  · intro i j hij hj a w b h1 h2 h3
    have hl : (FIN ++ [(v : Int)]).length = FIN.length + 1 := by simp
    by_cases e : j < FIN.length
    · rw [rd_app_l (by omega)] at h1
      rw [rd_app_l e] at h3
      rw [List.take_append_of_le_length (by omega)]
      exact h.t2 i j hij e a w b h1 h2 h3
    · obtain rfl : j = FIN.length := by omega
      rw [rd_app_at] at h3
      have eb : b = v := by omega
      subst eb
      rw [List.take_append_of_le_length (Nat.le_refl _), List.take_length]
      have hav : (a : Int) ∈ FIN ++ [(b : Int)] := h1 ▸ rd_mem (by omega) (by omega)
      have hw := (h.vis w (adj_r h2)).1 (hcl a w hav h2)
      rcases hw with hw | hw
      · exact .inr (PT_end h.pt w hw)
      · exact .inl hw
theorem FI.skip {g : Graph} {V : Nat → Bool} {A : Nat → Int} {W FIN : List Int} {v w j : Nat} (h : FI g V A (W ++ [(v : Int)]) FIN) (hv : v < gN g) (ha : A v = (j : Int)) (hj : j < (succs g v).length) (hw : rd (succs g v) (j : Int) = (w : Int)) (hV : V w = true) : FI g V (set1 A v ((j : Int) + 1)) (W ++ [(v : Int)]) FIN := by
  have hvV : V v = true := (h.vis v hv).2 (.inl (by simp))
  refine { h with lk := fun u x hu hx => ?_, at0 := fun u hu => ?_ }
  · by_cases e : u = v
    · subst e
      rw [set1_eq, show ((j : Int) + 1).toNat = j + 1 by omega, succs_mem_take hj hw] at hx
      rcases hx with hx | rfl
      · exact h.lk u x hu (by rw [ha, Int.toNat_natCast]; exact hx)
      · exact hV
    · rw [set1_ne e] at hx
      exact h.lk u x hu hx
  · by_cases e : u = v
    · subst e; rw [set1_eq]; exact ⟨by omega, by omega, fun h => by rw [hvV] at h; cases h⟩
    · rw [set1_ne e]; exact h.at0 u hu
def setV (f : Nat → Bool) (v : Nat) (x : Bool) : Nat → Bool := fun u => if u = v then x else f u
theorem FI.push {g : Graph} {V : Nat → Bool} {A : Nat → Int} {W FIN : List Int} {v w j : Nat} (h : FI g V A (W ++ [(v : Int)]) FIN) (hv : v < gN g) (ha : A v = (j : Int)) (hj : j < (succs g v).length) (hw : rd (succs g v) (j : Int) = (w : Int)) (hadj : adj g v w = true) (hV : V w = false) : FI g (setV V w true) (set1 A v ((j : Int) + 1)) (W ++ [(v : Int)] ++ [(w : Int)]) FIN := by
  have hwn := adj_r hadj
  have hvV : V v = true := (h.vis v hv).2 (.inl (by simp))
  have hwv : w ≠ v := fun e => by subst e; rw [hV] at hvV; cases hvV
  have hno : ¬ ((w : Int) ∈ W ++ [(v : Int)] ∨ (w : Int) ∈ FIN) := fun hm => by rw [(h.vis w hwn).2 hm] at hV; cases hV
  have hup : ∀ u, V u = true → setV V w true u = true := fun u hu => by unfold setV; split <;> simp [hu]
  refine ⟨fun u hu => ?_, ?_, fun x hx => ?_, PT_push h.pt hadj, fun a x hm hx => hup x (h.cl a x hm hx), fun u x hu hx => ?_, fun u hu => ?_, h.t2⟩
  · by_cases e : u = w
    · subst e; simp [setV]
    · have := h.vis u hu
      simp only [setV, if_neg e, this, List.mem_append, List.mem_singleton]
      have : (u : Int) ≠ (w : Int) := by omega
      grind
  · rw [← List.append_assoc, List.nodup_append]
    refine ⟨h.nd, by simp, fun a ha b hb e => ?_⟩
    simp at hb; subst hb; subst e
    rcases List.mem_append.1 ha with h1 | h1
    · exact hno (.inr h1)
    · exact hno (.inl h1)
  · rw [← List.append_assoc] at hx
    rcases List.mem_append.1 hx with hx | hx
    · exact h.mem x hx
    · simp at hx; exact ⟨w, hx, hwn⟩
  · have hu' : (u : Int) ∈ W ++ [(v : Int)] ∨ u = w := by
      rcases List.mem_append.1 hu with h1 | h1
      · exact .inl h1
      · simp at h1; exact .inr (by omega)
    by_cases e : u = v
    · subst e
      rw [set1_eq, show ((j : Int) + 1).toNat = j + 1 by omega, succs_mem_take hj hw] at hx
      rcases hx with hx | rfl
      · exact hup x (h.lk u x (by simp) (by rw [ha, Int.toNat_natCast]; exact hx))
      · simp [setV]
    · rw [set1_ne e] at hx
      rcases hu' with h1 | rfl
      · exact hup x (h.lk u x h1 hx)
      · rw [(h.at0 u hwn).2.2 hV] at hx
        simp at hx
  · by_cases e : u = v
    · subst e
      rw [set1_eq]
      exact ⟨by omega, by omega, fun h => by rw [hup u hvV] at h; cases h⟩
    · rw [set1_ne e]
      refine ⟨(h.at0 u hu).1, (h.at0 u hu).2.1, fun h1 => (h.at0 u hu).2.2 ?_⟩
      cases hu2 : V u
      · rfl
      · rw [hup u hu2] at h1; cases h1
end Go.Proofs.YtebekmcoeacdeaaV
