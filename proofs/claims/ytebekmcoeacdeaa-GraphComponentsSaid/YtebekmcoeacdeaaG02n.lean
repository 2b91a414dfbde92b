/- Chapter 02: cycles, and the law GraphCycle. -/
import Derived.Test.YtebekmcoeacdeaaG02m
set_option linter.unusedVariables false
set_option linter.unusedSimpArgs false
namespace Go.Vm
open Go
def sumN (f : Nat → Nat) : Nat → Nat
  | 0 => 0
  | m + 1 => sumN f m + f m
theorem sumN_le {f h : Nat → Nat} : ∀ {m : Nat}, (∀ i, i < m → f i ≤ h i) → sumN f m ≤ sumN h m
  | 0, _ => Nat.le_refl _
  | m + 1, e => by have := sumN_le (m := m) fun i hi => e i (by omega); have := e m (by omega); simp only [sumN]; omega
theorem sumN_lt {f h : Nat → Nat} {v : Nat} : ∀ {m : Nat}, (∀ i, i < m → f i ≤ h i) → v < m → f v < h v → sumN f m < sumN h m
  | 0, _, hv, _ => by omega
  | m + 1, e, hv, hlt => by
    simp only [sumN]
    by_cases em : v = m
    · subst em
      have := sumN_le (m := v) fun i hi => e i (by omega)
      omega
    · have := sumN_lt (m := m) (fun i hi => e i (by omega)) (by omega) hlt
      have := e m (by omega)
      omega
/-- a list in which each one stands behind those that it is tied to -/
theorem rank_of (l : List Int) (r : Nat → Nat → Prop) (h : ∀ i : Nat, i < l.length → ∀ a b : Nat, rd l (i : Int) = (a : Int) → r a b → (b : Int) ∈ l.take i) (hall : ∀ a b, r a b → (a : Int) ∈ l) : ∃ f : Nat → Nat, (∀ a, f a ≤ l.length) ∧ ∀ a b, r a b → f b < f a := by
  refine ⟨fun v => l.findIdx (fun x => decide (x = (v : Int))), fun a => List.findIdx_le_length, fun a b hr => ?_⟩
  have hlt : l.findIdx (fun x => decide (x = (a : Int))) < l.length := List.findIdx_lt_length_of_exists ⟨_, hall a b hr, by simp⟩
  have he := List.findIdx_getElem (w := hlt)
  simp only [decide_eq_true_eq] at he
  have hm := h _ hlt a b (by rw [rd_eq hlt]; exact he) hr
  obtain ⟨j, hj, e⟩ := List.getElem_of_mem hm
  have hj' : j < l.findIdx (fun x => decide (x = (a : Int))) ∧ j < l.length := by simp at hj; omega
  rw [List.getElem_take] at e
  have : ¬ j < l.findIdx (fun x => decide (x = (b : Int))) := fun hlt2 => by
    have := List.not_of_lt_findIdx hlt2
    simp [e] at this
  show l.findIdx (fun x => decide (x = (b : Int))) < l.findIdx (fun x => decide (x = (a : Int)))
  omega
theorem nodup_idx {l : List Int} (h : l.Nodup) {i j : Nat} (hi : i < l.length) (hj : j < l.length) (e : rd l (i : Int) = rd l (j : Int)) : i = j := by
  rw [rd_eq hi, rd_eq hj] at e
  rw [List.nodup_iff_pairwise_ne, List.pairwise_iff_getElem] at h
  rcases Nat.lt_trichotomy i j with h1 | h1 | h1
  · exact absurd e (h i j hi hj h1)
  · exact h1
  · exact absurd e.symm (h j i hj hi h1)
theorem pigeon2 : ∀ (n : Nat) (l : List Int), l.Nodup → (∀ v : Nat, v < n → (v : Int) ∈ l) → n ≤ l.length
  | 0, _, _, _ => Nat.zero_le _
  | n + 1, l, hn, h => by
    have hm := h n (by omega)
    have := pigeon2 n (l.erase (n : Int)) (hn.erase _) fun v hv => (List.Nodup.mem_erase_iff hn).2 ⟨by omega, h v (by omega)⟩
    have hlen := List.length_erase_of_mem hm
    have := List.length_pos_of_mem hm
    omega
end Go.Vm
namespace Go.Proofs.YtebekmcoeacdeaaV
open Go Go.Vm

def ACYC (g : Graph) : Prop := ∃ (f : Nat → Nat) (B : Nat), (∀ a, f a ≤ B) ∧ ∀ a b, adj g a b = true → f b < f a
/-- a cycle without repetition -/
def CYC (g : Graph) (c : List Int) : Prop := c.Nodup ∧ PT g c ∧ c ≠ [] ∧ ∃ a b : Nat, rd c ((c.length - 1 : Nat) : Int) = (a : Int) ∧ rd c 0 = (b : Int) ∧ adj g a b = true

theorem DONE_acyc {g : Graph} {out : List Int} (h : DONE g out) (ha : ACYC g) : out.length = gN g := by
  obtain ⟨f, B, hB, hf⟩ := ha
  have key : ∀ m v : Nat, B ≤ m + f v → v < gN g → (v : Int) ∈ out := by
    intro m
    induction m with
    | zero =>
      intro v hm hv
      refine Classical.byContradiction fun hno => h.2 v ⟨hv, hno, fun p hp => ?_⟩
      have := hf p v hp
      have := hB p
      omega
    | succ m ih =>
      intro v hm hv
      refine Classical.byContradiction fun hno => h.2 v ⟨hv, hno, fun p hp => ?_⟩
      have := hf p v hp
      exact ih p (by omega) (adj_l hp)
  have h1 := pigeon2 (gN g) out (GOOD_nodup h.1) fun v hv => key B v (by omega) hv
  have := GOOD_len h.1
  omega
theorem DONE_cyc {g : Graph} {out c : List Int} (h : DONE g out) (hc : CYC g c) : out.length ≠ gN g := by
  intro hl
  obtain ⟨f, _, hf⟩ := rank_of out (fun a b => adj g b a = true) (fun i hi a b ha hr => by
    obtain ⟨v, e, _, _, hp⟩ := order_at h.1 hi
    rw [show a = v by omega] at hr
    exact hp b hr) (fun a b hr => GOOD_all h.1 hl a (adj_r hr))
  obtain ⟨_, hpt, hne, a, b, ha, hb, hab⟩ := hc
  have hpos : 0 < c.length := List.length_pos_iff.2 hne
  have key : ∀ i : Nat, i < c.length → ∀ v : Nat, rd c (i : Int) = (v : Int) → f b ≤ f v := by
    intro i
    induction i with
    | zero =>
      intro _ v hv
      have hv' : rd c 0 = (v : Int) := hv
      rw [show v = b by omega]; exact Nat.le_refl _
    | succ i ih =>
      intro hi v hv
      obtain ⟨p, q, h1, h2, h3⟩ := hpt.2 i hi
      have := ih (by omega) p h1
      have e : q = v := by omega
      subst e
      have := hf q p h3
      omega
  have h1 := key (c.length - 1) (by omega) a ha
  have := hf b a hab
  omega

/-! ### the search -/
structure CI (g : Graph) (S A : Nat → Int) (W FIN : List Int) : Prop where
  st : ∀ v, v < gN g → S v = 0 ∨ S v = 1 ∨ S v = 2
  nd : W.Nodup
  way : ∀ x, x ∈ W ↔ ∃ v : Nat, x = (v : Int) ∧ v < gN g ∧ S v = 1
  fin : ∀ x, x ∈ FIN ↔ ∃ v : Nat, x = (v : Int) ∧ v < gN g ∧ S v = 2
  pt : PT g W
  ord : ∀ i : Nat, i < FIN.length → ∀ a b : Nat, rd FIN (i : Int) = (a : Int) → adj g a b = true → (b : Int) ∈ FIN.take i
  at0 : ∀ v, v < gN g → 0 ≤ A v ∧ A v ≤ ((succs g v).length : Int) ∧ (S v = 0 → A v = 0)
  look : ∀ i : Nat, i < W.length → ∀ v w : Nat, rd W (i : Int) = (v : Int) → (w : Int) ∈ (succs g v).take (A v).toNat → S w = 2 ∨ (i + 1 < W.length ∧ rd W ((i + 1 : Nat) : Int) = (w : Int))
def set1 (f : Nat → Int) (v : Nat) (x : Int) : Nat → Int := fun u => if u = v then x else f u
theorem set1_eq (f : Nat → Int) (v : Nat) (x : Int) : set1 f v x v = x := by simp [set1]
theorem set1_ne {f : Nat → Int} {v u : Nat} {x : Int} (h : u ≠ v) : set1 f v x u = f u := by simp [set1, h]
theorem tb_set1 {n : Nat} {f : Nat → Int} {v : Nat} {x : Int} : (tb n f).set v x = tb n (set1 f v x) := tb_set
/-- the work that is left -/
def left (g : Graph) (S A : Nat → Int) : Nat := sumN (fun v => ((succs g v).length - (A v).toNat) + if S v = 2 then 0 else 1) (gN g)

theorem CI.len {g : Graph} {S A : Nat → Int} {W FIN : List Int} (h : CI g S A W FIN) : W.length ≤ gN g := (pigeon _ _ h.nd fun x hx => by
  obtain ⟨v, rfl, hv, _⟩ := (h.way x).1 hx
  omega).1

theorem succs_mem_take {g : Graph} {v j : Nat} (hj : j < (succs g v).length) {w : Nat} (hw : rd (succs g v) (j : Int) = (w : Int)) (x : Nat) : (x : Int) ∈ (succs g v).take (j + 1) ↔ (x : Int) ∈ (succs g v).take j ∨ w = x := by
  rw [take_mem_succ hj, hw]
  exact ⟨fun h => h.imp id (fun e => by omega), fun h => h.imp id (fun e => by omega)⟩

/-- the last one of the way is left -/
theorem CI.pop {g : Graph} {S A : Nat → Int} {W FIN : List Int} {v : Nat} (h : CI g S A (W ++ [(v : Int)]) FIN) (hv : v < gN g) (ha : A v = ((succs g v).length : Int)) : CI g (set1 S v 2) A W (FIN ++ [(v : Int)]) := by
  have hnd := h.nd
  rw [List.nodup_append] at hnd
  have hvW : (v : Int) ∉ W := fun hm => hnd.2.2 _ hm _ (by simp) rfl
  have hS : S v = 1 := by
    obtain ⟨v', e, _, h1⟩ := (h.way (v : Int)).1 (by simp)
    rwa [show v = v' by omega]
  have hlast := h.look W.length (by simp) v
  refine ⟨fun u hu => ?_, hnd.1, fun x => ?_, fun x => ?_, ?_, fun i hi a b hra hab => ?_, fun u hu => ?_, fun i hi u w hru hw => ?_⟩
  · by_cases e : u = v
    · subst e; rw [set1_eq]; omega
    · rw [set1_ne e]; exact h.st u hu
  · constructor
    · intro hx
      obtain ⟨u, rfl, h1, h2⟩ := (h.way x).1 (List.mem_append_left _ hx)
      have e : u ≠ v := fun e => hvW (e ▸ hx)
      exact ⟨u, rfl, h1, by rw [set1_ne e]; exact h2⟩
    · rintro ⟨u, rfl, h1, h2⟩
      have e : u ≠ v := fun e => by subst e; rw [set1_eq] at h2; omega
      rw [set1_ne e] at h2
      rcases List.mem_append.1 ((h.way (u : Int)).2 ⟨u, rfl, h1, h2⟩) with h3 | h3
      · exact h3
      · simp at h3; omega
  · rw [List.mem_append, h.fin]
    constructor
    · rintro (⟨u, rfl, h1, h2⟩ | hx)
      · have e : u ≠ v := fun e => by subst e; omega
        exact ⟨u, rfl, h1, by rw [set1_ne e]; exact h2⟩
      · simp at hx
        exact ⟨v, hx, hv, set1_eq ..⟩
    · rintro ⟨u, rfl, h1, h2⟩
      by_cases e : u = v
      · subst e; exact .inr (by simp)
      · rw [set1_ne e] at h2; exact .inl ⟨u, rfl, h1, h2⟩
  · refine ⟨fun i hi => ?_, fun i hi => ?_⟩
    · have := h.pt.1 i (by simp; omega)
      rwa [rd_app_l hi] at this
    · have := h.pt.2 i (by simp; omega)
      rwa [rd_app_l (by omega), rd_app_l hi] at this
  · by_cases e : i < FIN.length
    · rw [rd_app_l e] at hra
      rw [List.take_append_of_le_length (by omega)]
      exact h.ord i e a b hra hab
    · have : i = FIN.length := by simp at hi; omega
      subst this
      rw [rd_app_at] at hra
      have e2 : v = a := by omega
      subst e2
      rw [List.take_append_of_le_length (Nat.le_refl _), List.take_length]
      have hb := hlast b rd_app_at (by
        rw [ha, Int.toNat_natCast, List.take_length]
        exact mem_succs.2 ⟨b, rfl, hab⟩)
      rcases hb with hb | ⟨hb, _⟩
      · exact (h.fin _).2 ⟨b, rfl, adj_r hab, hb⟩
      · simp at hb
  · refine ⟨(h.at0 u hu).1, (h.at0 u hu).2.1, fun h1 => ?_⟩
    by_cases e : u = v
    · subst e; rw [set1_eq] at h1; omega
    · rw [set1_ne e] at h1; exact (h.at0 u hu).2.2 h1
  · have h1 := h.look i (by simp; omega) u w (by rw [rd_app_l hi]; exact hru) hw
    rcases h1 with h1 | ⟨h1, h2⟩
    · left
      by_cases e : w = v
      · subst e; exact set1_eq ..
      · rw [set1_ne e]; exact h1
    · by_cases e : i + 1 < W.length
      · rw [rd_app_l e] at h2
        exact .inr ⟨e, h2⟩
      · have : i + 1 = W.length := by simp at h1; omega
        rw [this, rd_app_at] at h2
        left
        rw [show w = v by omega]; exact set1_eq ..
/-- a successor that is not on the way -/
theorem CI.skip {g : Graph} {S A : Nat → Int} {W FIN : List Int} {v w j : Nat} (h : CI g S A (W ++ [(v : Int)]) FIN) (hv : v < gN g) (ha : A v = (j : Int)) (hj : j < (succs g v).length) (hw : rd (succs g v) (j : Int) = (w : Int)) (hS : S w = 2) : CI g S (set1 A v ((j : Int) + 1)) (W ++ [(v : Int)]) FIN := by
  have hvS : S v = 1 := by
    obtain ⟨v', e, _, h1⟩ := (h.way (v : Int)).1 (by simp)
    rwa [show v = v' by omega]
  refine { h with at0 := fun u hu => ?_, look := fun i hi u x hru hx => ?_ }
  · by_cases e : u = v
    · subst e; rw [set1_eq]; exact ⟨by omega, by omega, fun h => by omega⟩
    · rw [set1_ne e]; exact h.at0 u hu
  · by_cases e : u = v
    · subst e
      rw [set1_eq, show ((j : Int) + 1).toNat = j + 1 by omega, succs_mem_take hj hw] at hx
      rcases hx with hx | rfl
      · exact h.look i hi u x hru (by rw [ha, Int.toNat_natCast]; exact hx)
      · exact .inl hS
    · rw [set1_ne e] at hx
      exact h.look i hi u x hru hx
/-- a successor that is new -/
theorem CI.push {g : Graph} {S A : Nat → Int} {W FIN : List Int} {v w j : Nat} (h : CI g S A (W ++ [(v : Int)]) FIN) (hv : v < gN g) (ha : A v = (j : Int)) (hj : j < (succs g v).length) (hw : rd (succs g v) (j : Int) = (w : Int)) (hadj : adj g v w = true) (hS : S w = 0) : CI g (set1 S w 1) (set1 A v ((j : Int) + 1)) (W ++ [(v : Int)] ++ [(w : Int)]) FIN := by
  have hvS : S v = 1 := by
    obtain ⟨v', e, _, h1⟩ := (h.way (v : Int)).1 (by simp)
    rwa [show v = v' by omega]
  have hwn := adj_r hadj
  have hwv : w ≠ v := fun e => by subst e; omega
  have hwW : (w : Int) ∉ W ++ [(v : Int)] := fun hm => by
    obtain ⟨u, e, _, h1⟩ := (h.way _).1 hm
    rw [← show w = u by omega] at h1; omega
  refine ⟨fun u hu => ?_, ?_, fun x => ?_, fun x => ?_, ?_, h.ord, fun u hu => ?_, fun i hi u x hru hx => ?_⟩
  · by_cases e : u = w
    · subst e; rw [set1_eq]; omega
    · rw [set1_ne e]; exact h.st u hu
  · rw [List.nodup_append]
    refine ⟨h.nd, by simp, fun a ha b hb e => ?_⟩
    simp at hb; subst hb; subst e
    exact hwW ha
  · rw [List.mem_append, h.way]
    constructor
    · rintro (⟨u, rfl, h1, h2⟩ | hx)
      · have e : u ≠ w := fun e => by subst e; omega
        exact ⟨u, rfl, h1, by rw [set1_ne e]; exact h2⟩
      · simp at hx
        exact ⟨w, hx, hwn, set1_eq ..⟩
    · rintro ⟨u, rfl, h1, h2⟩
      by_cases e : u = w
      · subst e; exact .inr (by simp)
      · rw [set1_ne e] at h2; exact .inl ⟨u, rfl, h1, h2⟩
  · rw [h.fin]
    constructor
    · rintro ⟨u, rfl, h1, h2⟩
      have e : u ≠ w := fun e => by subst e; omega
      exact ⟨u, rfl, h1, by rw [set1_ne e]; exact h2⟩
    · rintro ⟨u, rfl, h1, h2⟩
      have e : u ≠ w := fun e => by subst e; rw [set1_eq] at h2; omega
      rw [set1_ne e] at h2
      exact ⟨u, rfl, h1, h2⟩
  · refine ⟨fun i hi => ?_, fun i hi => ?_⟩
    · by_cases e : i < (W ++ [(v : Int)]).length
      · rw [rd_app_l e]; exact h.pt.1 i e
      · have : i = (W ++ [(v : Int)]).length := by simp at hi e ⊢; omega
        subst this
        rw [rd_app_at]
        exact ⟨w, rfl, hwn⟩
    · by_cases e : i + 1 < (W ++ [(v : Int)]).length
      · rw [rd_app_l (by omega), rd_app_l e]; exact h.pt.2 i e
      · have e2 : i = W.length := by simp at hi e; omega
        subst e2
        refine ⟨v, w, ?_, ?_, hadj⟩
        · rw [rd_app_l (by simp)]; exact rd_app_at
        · rw [show W.length + 1 = (W ++ [(v : Int)]).length by simp]; exact rd_app_at
  · by_cases e : u = v
    · subst e
      rw [set1_eq, set1_ne (Ne.symm hwv)]
      exact ⟨by omega, by omega, fun h => by omega⟩
    · rw [set1_ne e]
      refine ⟨(h.at0 u hu).1, (h.at0 u hu).2.1, fun h1 => ?_⟩
      by_cases e2 : u = w
      · subst e2; rw [set1_eq] at h1; omega
      · rw [set1_ne e2] at h1; exact (h.at0 u hu).2.2 h1
  · have keep : S x = 2 → set1 S w 1 x = 2 := fun h2 => by
      rw [set1_ne (fun e => by subst e; omega)]; exact h2
    by_cases e : i < (W ++ [(v : Int)]).length
    · rw [rd_app_l e] at hru
      by_cases e2 : u = v
      · subst e2
        -- the last one before
        have hil : i = W.length := by
          have h1 : rd (W ++ [(u : Int)]) ((W.length : Nat) : Int) = (u : Int) := rd_app_at
          have h2 := h.nd
          exact nodup_idx h2 e (by simp) (hru.trans h1.symm)
        rw [set1_eq, show ((j : Int) + 1).toNat = j + 1 by omega, succs_mem_take hj hw] at hx
        rcases hx with hx | rfl
        · rcases h.look i e u x hru (by rw [ha, Int.toNat_natCast]; exact hx) with h3 | ⟨h3, _⟩
          · exact .inl (keep h3)
          · subst hil; simp at h3
        · right
          subst hil
          refine ⟨by simp, ?_⟩
          rw [show W.length + 1 = (W ++ [(u : Int)]).length by simp]; exact rd_app_at
      · rw [set1_ne e2] at hx
        rcases h.look i e u x hru hx with h3 | ⟨h3, h4⟩
        · exact .inl (keep h3)
        · exact .inr ⟨by simp at h3 ⊢; omega, by rw [rd_app_l h3]; exact h4⟩
    · have : i = (W ++ [(v : Int)]).length := by simp at hi e ⊢; omega
      subst this
      rw [rd_app_at] at hru
      have e2 : u = w := by omega
      subst e2
      rw [set1_ne hwv, (h.at0 u hwn).2.2 hS] at hx
      simp at hx
/-- a successor on the way closes a cycle -/
theorem CI.cyc {g : Graph} {S A : Nat → Int} {W FIN : List Int} {v w y : Nat} (h : CI g S A (W ++ [(v : Int)]) FIN) (hy : y < (W ++ [(v : Int)]).length) (hw : rd (W ++ [(v : Int)]) (y : Int) = (w : Int)) (hadj : adj g v w = true) : CYC g ((W ++ [(v : Int)]).drop y) := by
  have hl : (W ++ [(v : Int)]).length = W.length + 1 := by simp
  have rdd : ∀ i : Nat, i + y < (W ++ [(v : Int)]).length → rd ((W ++ [(v : Int)]).drop y) (i : Int) = rd (W ++ [(v : Int)]) ((i + y : Nat) : Int) := fun i hi => by
    rw [rd_eq (by simp; omega), rd_eq hi, List.getElem_drop]
    congr 1; omega
  refine ⟨h.nd.sublist (List.drop_sublist _ _), ⟨fun i hi => ?_, fun i hi => ?_⟩, fun e => ?_, v, w, ?_, ?_, hadj⟩
  · rw [List.length_drop] at hi
    rw [rdd i (by omega)]; exact h.pt.1 _ (by omega)
  · rw [List.length_drop] at hi
    rw [rdd i (by omega), rdd (i + 1) (by omega)]
    have := h.pt.2 (i + y) (by omega)
    rwa [show i + y + 1 = i + 1 + y by omega] at this
  · have := congrArg List.length e
    simp at this
    omega
  · rw [List.length_drop, rdd _ (by omega), show (W ++ [(v : Int)]).length - y - 1 + y = W.length by omega]
    exact rd_app_at
  · have := rdd 0 (by omega)
    rw [Nat.zero_add] at this
    rw [← hw, ← this]; rfl

def CANS (g : Graph) (c : List Int) : Prop := (c = [] ∧ ACYC g) ∨ CYC g c
end Go.Proofs.YtebekmcoeacdeaaV
