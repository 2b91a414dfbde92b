/- Chapter 02: the order in which a search in depth leaves the nodes. -/
import Derived.Test.YtebekmcoeacdeaaG02o
import Derived.Test.YtebekmcoeacdeaaG02q
set_option linter.unusedVariables false
set_option linter.unusedSimpArgs false
namespace Go.Proofs.YtebekmcoeacdeaaV
open Go Go.Vm

def AJ (g : Graph) (a b : Nat) : Prop := adj g a b = true
def REA (g : Graph) (s v : Nat) : Prop := v = s ∨ TC (AJ g) s v
theorem REA.step {g : Graph} {s a b : Nat} (h : REA g s a) (hr : adj g a b = true) : REA g s b := by
  rcases h with rfl | h
  · exact .inr (.one hr)
  · exact .inr (h.snoc hr)
structure DI (g : Graph) (s : Nat) (D : Nat → Bool) (A : Nat → Int) (W FIN : List Int) : Prop where
  dn : ∀ v, v < gN g → (D v = true ↔ (v : Int) ∈ W ∨ (v : Int) ∈ FIN)
  nd : (W ++ FIN).Nodup
  node : ∀ x, x ∈ W ∨ x ∈ FIN → ∃ v : Nat, x = (v : Int) ∧ v < gN g ∧ REA g s v
  pt : PT g W
  hd : W ≠ [] → rd W 0 = (s : Int)
  at0 : ∀ v, v < gN g → 0 ≤ A v ∧ A v ≤ ((succs g v).length : Int) ∧ (D v = false → A v = 0)
  look : ∀ v w : Nat, (v : Int) ∈ W → (w : Int) ∈ (succs g v).take (A v).toNat → D w = true
  clo : ∀ v w : Nat, (v : Int) ∈ FIN → adj g v w = true → D w = true
  par : ∀ i : Nat, i < FIN.length → ∀ v : Nat, rd FIN (i : Int) = (v : Int) → v ≠ s → ∃ p : Nat, adj g p v = true ∧ ((p : Int) ∈ W ∨ ∃ j : Nat, i < j ∧ j < FIN.length ∧ rd FIN (j : Int) = (p : Int))
  fst : (s : Int) ∈ W ∨ (s : Int) ∈ FIN
  last : W = [] → ∃ F' : List Int, FIN = F' ++ [(s : Int)]
def setB (f : Nat → Bool) (v : Nat) (x : Bool) : Nat → Bool := fun u => if u = v then x else f u
theorem setB_eq (f : Nat → Bool) (v : Nat) (x : Bool) : setB f v x v = x := by simp [setB]
theorem setB_ne {f : Nat → Bool} {v u : Nat} {x : Bool} (h : u ≠ v) : setB f v x u = f u := by simp [setB, h]
theorem tb_setB {n : Nat} {f : Nat → Bool} {v : Nat} {x : Bool} : (tb n f).set v x = tb n (setB f v x) := tb_set
def leftD (g : Graph) (A : Nat → Int) (FIN : List Int) : Nat := sumN (fun v => ((succs g v).length - (A v).toNat) + if (v : Int) ∈ FIN then 0 else 1) (gN g)
theorem leftD_pop {g : Graph} {A : Nat → Int} {FIN : List Int} {v : Nat} (hv : v < gN g) (hn : (v : Int) ∉ FIN) : leftD g A (FIN ++ [(v : Int)]) < leftD g A FIN := by
  refine sumN_lt (v := v) (fun i hi => ?_) hv ?_
  · show _ + (if (i : Int) ∈ FIN ++ [(v : Int)] then 0 else 1) ≤ _ + (if (i : Int) ∈ FIN then 0 else 1)
    by_cases e : (i : Int) ∈ FIN
    · rw [if_pos e, if_pos (List.mem_append_left _ e)]; exact Nat.le_refl _
    · rw [if_neg e]; split <;> omega
  · show _ + (if (v : Int) ∈ FIN ++ [(v : Int)] then 0 else 1) < _ + (if (v : Int) ∈ FIN then 0 else 1)
    rw [if_pos (by simp), if_neg hn]; omega
theorem leftD_skip {g : Graph} {A : Nat → Int} {FIN : List Int} {v j : Nat} (hv : v < gN g) (hA : A v = (j : Int)) (hj : j < (succs g v).length) : leftD g (set1 A v ((j : Int) + 1)) FIN < leftD g A FIN := by
  refine sumN_lt (v := v) (fun i hi => ?_) hv ?_
  · by_cases e : i = v
    · subst e
      show ((succs g i).length - (set1 A i ((j : Int) + 1) i).toNat) + _ ≤ ((succs g i).length - (A i).toNat) + _
      rw [set1_eq, hA]; omega
    · show ((succs g i).length - (set1 A v ((j : Int) + 1) i).toNat) + _ ≤ ((succs g i).length - (A i).toNat) + _
      rw [set1_ne e]; exact Nat.le_refl _
  · show ((succs g v).length - (set1 A v ((j : Int) + 1) v).toNat) + _ < ((succs g v).length - (A v).toNat) + _
    rw [set1_eq, hA]; omega

section
variable {g : Graph} {s : Nat} {D : Nat → Bool} {A : Nat → Int} {W FIN : List Int} {v w j : Nat}
theorem DI.len (h : DI g s D A W FIN) : W.length ≤ gN g ∧ FIN.length ≤ gN g := by
  have h1 := List.nodup_append.1 h.nd
  exact ⟨(pigeon _ _ h1.1 fun x hx => by obtain ⟨v, rfl, hv, _⟩ := h.node x (.inl hx); omega).1, (pigeon _ _ h1.2.1 fun x hx => by obtain ⟨v, rfl, hv, _⟩ := h.node x (.inr hx); omega).1⟩
theorem PT_front {l : List Int} {x : Int} (h : PT g (l ++ [x])) : PT g l := by
  refine ⟨fun i hi => ?_, fun i hi => ?_⟩
  · have := h.1 i (by simp; omega)
    rwa [rd_app_l hi] at this
  · have := h.2 i (by simp; omega)
    rwa [rd_app_l (by omega), rd_app_l hi] at this
theorem PT_push {l : List Int} {v w : Nat} (h : PT g (l ++ [(v : Int)])) (hw : adj g v w = true) : PT g (l ++ [(v : Int)] ++ [(w : Int)]) := by
  refine ⟨fun i hi => ?_, fun i hi => ?_⟩
  · by_cases e : i < (l ++ [(v : Int)]).length
    · rw [rd_app_l e]; exact h.1 i e
    · have : i = (l ++ [(v : Int)]).length := by simp at hi e ⊢; omega
      subst this
      rw [rd_app_at]
      exact ⟨w, rfl, adj_r hw⟩
  · by_cases e : i + 1 < (l ++ [(v : Int)]).length
    · rw [rd_app_l (by omega), rd_app_l e]; exact h.2 i e
    · have e2 : i = l.length := by simp at hi e; omega
      subst e2
      refine ⟨v, w, ?_, ?_, hw⟩
      · rw [rd_app_l (by simp)]; exact rd_app_at
      · rw [show l.length + 1 = (l ++ [(v : Int)]).length by simp]; exact rd_app_at
theorem DI.pop (h : DI g s D A (W ++ [(v : Int)]) FIN) (hv : v < gN g) (ha : A v = ((succs g v).length : Int)) : DI g s D A W (FIN ++ [(v : Int)]) := by
  have hperm : (W ++ (FIN ++ [(v : Int)])).Perm (W ++ [(v : Int)] ++ FIN) := by
    rw [List.append_assoc]
    exact List.Perm.append_left W List.perm_append_comm
  have hmem : ∀ x, (x ∈ W ∨ x ∈ FIN ++ [(v : Int)]) ↔ (x ∈ W ++ [(v : Int)] ∨ x ∈ FIN) := fun x => by
    simp only [List.mem_append, List.mem_singleton]
    constructor
    · rintro (h | h | h)
      · exact .inl (.inl h)
      · exact .inr h
      · exact .inl (.inr h)
    · rintro ((h | h) | h)
      · exact .inl h
      · exact .inr (.inr h)
      · exact .inr (.inl h)
  refine ⟨fun u hu => by rw [hmem]; exact h.dn u hu, hperm.nodup_iff.2 h.nd, fun x hx => h.node x ((hmem x).1 hx), PT_front h.pt, fun hne => ?_, h.at0, fun u x hu hx => h.look u x (List.mem_append_left _ hu) hx, fun u x hu hx => ?_, fun i hi u hiu hus => ?_, (hmem _).2 h.fst, fun hW => ?_⟩
  · have := h.hd (by simp)
    rwa [show (0 : Int) = ((0 : Nat) : Int) by rfl, rd_app_l (List.length_pos_iff.2 hne)] at this
  · rcases List.mem_append.1 hu with hu | hu
    · exact h.clo u x hu hx
    · simp at hu
      have : u = v := by omega
      subst this
      refine h.look u x (by simp) ?_
      rw [ha, Int.toNat_natCast, List.take_length]
      exact mem_succs.2 ⟨x, rfl, hx⟩
  · by_cases e : i < FIN.length
    · rw [rd_app_l e] at hiu
      obtain ⟨p, h1, h2⟩ := h.par i e u hiu hus
      refine ⟨p, h1, ?_⟩
      rcases h2 with h2 | ⟨j, k1, k2, k3⟩
      · rcases List.mem_append.1 h2 with h2 | h2
        · exact .inl h2
        · simp at h2
          exact .inr ⟨FIN.length, e, by simp, by rw [rd_app_at]; omega⟩
      · exact .inr ⟨j, k1, by simp; omega, by rw [rd_app_l k2]; exact k3⟩
    · have : i = FIN.length := by simp at hi; omega
      subst this
      rw [rd_app_at] at hiu
      have : v = u := by omega
      subst this
      rcases List.eq_nil_or_concat W with hW | ⟨W', x, hW⟩
      · have := h.hd (by simp)
        subst hW
        have hvs : (v : Int) = (s : Int) := this
        omega
      · rw [List.concat_eq_append] at hW
        subst hW
        obtain ⟨a, b, h1, h2, h3⟩ := h.pt.2 W'.length (by simp)
        rw [show W'.length + 1 = (W' ++ [x]).length by simp, rd_app_at] at h2
        rw [rd_app_l (by simp), rd_app_at] at h1
        refine ⟨a, by rwa [show v = b by omega], .inl ?_⟩
        rw [← h1]; simp
  · have := h.hd (by simp)
    subst hW
    have hvs : (v : Int) = (s : Int) := this
    exact ⟨FIN, by rw [hvs]⟩
theorem DI.skip (h : DI g s D A (W ++ [(v : Int)]) FIN) (hv : v < gN g) (ha : A v = (j : Int)) (hj : j < (succs g v).length) (hw : rd (succs g v) (j : Int) = (w : Int)) (hD : D w = true) : DI g s D (set1 A v ((j : Int) + 1)) (W ++ [(v : Int)]) FIN := by
  refine { h with at0 := fun u hu => ?_, look := fun u x hu hx => ?_ }
  · by_cases e : u = v
    · subst e
      rw [set1_eq]
      exact ⟨by omega, by omega, fun hf => by rw [(h.dn u hu).2 (.inl (by simp))] at hf; cases hf⟩
    · rw [set1_ne e]; exact h.at0 u hu
  · by_cases e : u = v
    · subst e
      rw [set1_eq, show ((j : Int) + 1).toNat = j + 1 by omega, succs_mem_take hj hw] at hx
      rcases hx with hx | rfl
      · exact h.look u x hu (by rw [ha, Int.toNat_natCast]; exact hx)
      · exact hD
    · rw [set1_ne e] at hx; exact h.look u x hu hx
theorem DI.push (h : DI g s D A (W ++ [(v : Int)]) FIN) (hv : v < gN g) (ha : A v = (j : Int)) (hj : j < (succs g v).length) (hw : rd (succs g v) (j : Int) = (w : Int)) (hadj : adj g v w = true) (hD : D w = false) : DI g s (setB D w true) (set1 A v ((j : Int) + 1)) (W ++ [(v : Int)] ++ [(w : Int)]) FIN := by
  have hwn := adj_r hadj
  have hnot : ¬ ((w : Int) ∈ W ++ [(v : Int)] ∨ (w : Int) ∈ FIN) := fun hm => by rw [(h.dn w hwn).2 hm] at hD; cases hD
  have hwv : w ≠ v := fun e => hnot (.inl (by rw [e]; simp))
  have keep : ∀ x, D x = true → setB D w true x = true := fun x hx => by
    by_cases e : x = w
    · subst e; exact setB_eq ..
    · rw [setB_ne e]; exact hx
  have hvr : REA g s v := by
    obtain ⟨v', e, _, h1⟩ := h.node (v : Int) (.inl (by simp))
    rwa [show v = v' by omega]
  refine ⟨fun u hu => ?_, ?_, fun x hx => ?_, PT_push h.pt hadj, fun _ => ?_, fun u hu => ?_, fun u x hu hx => ?_, fun u x hu hx => keep _ (h.clo u x hu hx), fun i hi u hiu hus => ?_, h.fst.imp (List.mem_append_left _) id, fun hW => by simp at hW⟩
  · by_cases e : u = w
    · subst e; rw [setB_eq]; simp
    · rw [setB_ne e, h.dn u hu]
      have : ((u : Int) ∈ W ++ [(v : Int)] ++ [(w : Int)]) ↔ (u : Int) ∈ W ++ [(v : Int)] := by
        rw [List.mem_append, List.mem_singleton]
        exact ⟨fun h => h.resolve_right (by omega), .inl⟩
      rw [this]
  · have hp : (W ++ [(v : Int)] ++ [(w : Int)] ++ FIN).Perm ((w : Int) :: (W ++ [(v : Int)] ++ FIN)) := by
      refine List.Perm.trans (List.Perm.append_right FIN (List.perm_append_comm (l₁ := W ++ [(v : Int)]) (l₂ := [(w : Int)]))) ?_
      simp
    rw [hp.nodup_iff, List.nodup_cons]
    exact ⟨fun hm => hnot (List.mem_append.1 hm), h.nd⟩
  · rcases hx with hx | hx
    · rcases List.mem_append.1 hx with hx | hx
      · exact h.node x (.inl hx)
      · simp at hx
        exact ⟨w, hx, hwn, hvr.step hadj⟩
    · exact h.node x (.inr hx)
  · have := h.hd (by simp)
    rw [show (0 : Int) = ((0 : Nat) : Int) by rfl, rd_app_l (by simp)]
    exact this
  · by_cases e : u = v
    · subst e
      rw [set1_eq, setB_ne (Ne.symm hwv)]
      exact ⟨by omega, by omega, fun hf => by rw [(h.dn u hu).2 (.inl (by simp))] at hf; cases hf⟩
    · rw [set1_ne e]
      refine ⟨(h.at0 u hu).1, (h.at0 u hu).2.1, fun hf => ?_⟩
      by_cases e2 : u = w
      · subst e2; rw [setB_eq] at hf; cases hf
      · rw [setB_ne e2] at hf; exact (h.at0 u hu).2.2 hf
  · rcases List.mem_append.1 hu with hu | hu
    · by_cases e : u = v
      · subst e
        rw [set1_eq, show ((j : Int) + 1).toNat = j + 1 by omega, succs_mem_take hj hw] at hx
        rcases hx with hx | rfl
        · exact keep _ (h.look u x hu (by rw [ha, Int.toNat_natCast]; exact hx))
        · exact setB_eq ..
      · rw [set1_ne e] at hx; exact keep _ (h.look u x hu hx)
    · simp at hu
      have : u = w := by omega
      subst this
      rw [set1_ne hwv, (h.at0 u hwn).2.2 hD] at hx
      simp at hx
  · obtain ⟨p, h1, h2⟩ := h.par i hi u hiu hus
    exact ⟨p, h1, h2.imp (List.mem_append_left _) id⟩
end

/-- the order, the root last -/
structure ORD (g : Graph) (s : Nat) (L : List Int) : Prop where
  nd : L.Nodup
  mem : ∀ v : Nat, (v : Int) ∈ L ↔ REA g s v
  node : ∀ x ∈ L, ∃ v : Nat, x = (v : Int) ∧ v < gN g
  last : ∃ F', L = F' ++ [(s : Int)]
  par : ∀ i : Nat, i < L.length → ∀ v : Nat, rd L (i : Int) = (v : Int) → v ≠ s → ∃ (p j : Nat), adj g p v = true ∧ i < j ∧ j < L.length ∧ rd L (j : Int) = (p : Int)

theorem DI.fin {g : Graph} {s : Nat} {D : Nat → Bool} {A : Nat → Int} {FIN : List Int} (h : DI g s D A [] FIN) : ORD g s FIN := by
  refine ⟨by simpa using h.nd, fun v => ⟨fun hv => ?_, fun hv => ?_⟩, fun x hx => ?_, h.last rfl, fun i hi v hv hs => ?_⟩
  · obtain ⟨v', e, _, h1⟩ := h.node _ (.inr hv)
    rwa [show v = v' by omega]
  · have key : ∀ a b, TC (AJ g) a b → (a : Int) ∈ FIN → (b : Int) ∈ FIN := by
      intro a b hab
      have edge : ∀ a b, adj g a b = true → (a : Int) ∈ FIN → (b : Int) ∈ FIN := fun a b hr ha => by
        have := (h.dn b (adj_r hr)).1 (h.clo a b ha hr)
        exact this.resolve_left (by simp)
      induction hab with
      | one h => exact edge _ _ h
      | step h _ ih => exact fun ha => ih (edge _ _ h ha)
    have h0 : (s : Int) ∈ FIN := h.fst.resolve_left (by simp)
    rcases hv with rfl | hv
    · exact h0
    · exact key _ _ hv h0
  · obtain ⟨v, e, h1, _⟩ := h.node x (.inr hx)
    exact ⟨v, e, h1⟩
  · obtain ⟨p, h1, h2⟩ := h.par i hi v hv hs
    obtain ⟨j, k1, k2, k3⟩ := h2.resolve_left (by simp)
    exact ⟨p, j, h1, k1, k2, k3⟩

theorem visit_prog (g : Graph) (s : Nat) (hs : s < gN g) (hn : gN g ≤ 1000) : W (fun k => graph_Dominators_1_i3.f k (s : Int) (NEXT g) (List.replicate (gN g) false) (List.replicate (gN g) (0 : Int))) (fun r => ORD g s r.2.2.2.2.1) := by
  simp (disch := first | omega | (rw [List.length_replicate]; omega)) only [graph_Dominators_1_i3.f, ↓if_pos, Int.toNat_natCast]
  have loop : ∀ (m : Nat) (D : Nat → Bool) (A : Nat → Int) (W FIN : List Int), leftD g A FIN ≤ m → DI g s D A W FIN →
      Vm.W (fun k => graph_Dominators_1_i3.c2 k (tb (gN g) D) (tb (gN g) A) (NEXT g) W FIN) (fun r => ORD g s r.2.2.2.2.1) := by
    intro m
    induction m with
    | zero =>
      intro D A W FIN hm hI
      rcases List.eq_nil_or_concat W with rfl | ⟨W', x, rfl⟩
      · refine .succ ?_
        simp (disch := first | omega | simp) only [graph_Dominators_1_i3.c2, ↓cdF]
        exact .ret hI.fin
      · rw [List.concat_eq_append] at hI
        obtain ⟨v, rfl, hv, _⟩ := hI.node x (.inl (by simp))
        have := leftD_pop (A := A) (FIN := FIN) hv (fun hm => (List.nodup_append.1 hI.nd).2.2 _ (by simp) _ hm rfl)
        omega
    | succ m ih =>
      intro D A W FIN hm hI
      rcases List.eq_nil_or_concat W with rfl | ⟨W', x, rfl⟩
      · refine .succ ?_
        simp (disch := first | omega | simp) only [graph_Dominators_1_i3.c2, ↓cdF]
        exact .ret hI.fin
      · rw [List.concat_eq_append] at hI ⊢
        obtain ⟨v, rfl, hv, _⟩ := hI.node x (.inl (by simp))
        obtain ⟨l1, l2⟩ := hI.len
        have hl1 : (W' ++ [(v : Int)]).length = W'.length + 1 := by simp
        have e1 : w64 (((W' ++ [(v : Int)]).length : Int) - 1) = (W'.length : Int) := by rw [w64_id (by omega) (by omega), hl1]; omega
        have e2 : rd (W' ++ [(v : Int)]) (W'.length : Int) = (v : Int) := rd_app_at
        have hsl := succs_len g v
        have hvF : (v : Int) ∉ FIN := fun hm => (List.nodup_append.1 hI.nd).2.2 _ (by simp) _ hm rfl
        obtain ⟨a1, a2, a3⟩ := hI.at0 v hv
        refine .succ ?_
        simp (disch := first | omega | (rw [tb_len]; omega) | (rw [NEXT_len]; omega)) only [graph_Dominators_1_i3.c2, ↓cdT, e1, e2, ↓if_pos, NEXT_rd hv, tb_rd hv, Int.toNat_natCast]
        refine .dec (fun hend => ?_) fun hend => ?_
        · simp (disch := first | omega | (simp only [List.length_cons, List.length_nil]; omega)) only [↓bleT]
          rw [show List.take W'.length (W' ++ [(v : Int)]) = W' by simp]
          exact ih D A W' (FIN ++ [(v : Int)]) (by have := leftD_pop (A := A) hv hvF; omega) (hI.pop hv hend)
        · obtain ⟨j, hj⟩ : ∃ j : Nat, A v = (j : Int) := ⟨(A v).toNat, by omega⟩
          have hjl : j < (succs g v).length := by omega
          obtain ⟨w, hw, haw, hwn⟩ := succs_rd (g := g) (a := v) hjl
          have e3 : w64 ((j : Int) + 1) = (j : Int) + 1 := w64_id (by omega) (by omega)
          have hsk := leftD_skip (FIN := FIN) hv hj hjl
          simp (disch := first | omega | (rw [tb_len]; omega)) only [hj, hw, ↓if_pos, tb_rd hwn, Int.toNat_natCast, tb_set1, tb_setB, e3]
          refine .cond (fun h0 => ?_) fun h0 => ?_
          · simp (disch := first | omega | (simp only [List.length_cons, List.length_nil]; omega)) only [↓bleT]
            exact ih _ _ _ FIN (by omega) (hI.push hv hj hjl hw haw (by simpa using h0))
          · exact ih _ _ _ FIN (by omega) (hI.skip hv hj hjl hw (by simpa using h0))
  have := loop _ (setB (fun _ => false) s true) (fun _ => 0) [(s : Int)] [] (Nat.le_refl _) ⟨fun v hv => ?_, by simp, fun x hx => ⟨s, by simpa using hx, hs, .inl rfl⟩, ⟨fun i hi => ⟨s, ?_, hs⟩, fun i hi => by simp at hi⟩, fun _ => rfl, fun v _ => ⟨Int.le_refl _, Int.natCast_nonneg _, fun _ => rfl⟩, fun v w _ hw => by simp at hw, fun v w hv _ => by simp at hv, fun i hi => absurd hi (Nat.not_lt_zero _), .inl (by simp), fun h => by simp at h⟩
  · rw [← tb_setB, ← tb_rep, ← tb_rep] at this
    exact this
  · by_cases e : v = s
    · subst e; rw [setB_eq]; simp
    · rw [setB_ne e]
      simp; omega
  · have : i = 0 := by simp at hi; omega
    subst this; rfl
end Go.Proofs.YtebekmcoeacdeaaV
