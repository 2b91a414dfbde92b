/- Chapter 02: the topological order, as mathematics, and the reference's. -/
import Derived.Test.YtebekmcoeacdeaaG02e
set_option linter.unusedVariables false
set_option linter.unusedSimpArgs false
namespace Go.Vm
open Go
/-- how many of the first ones -/
def cn (f : Nat → Bool) : Nat → Nat
  | 0 => 0
  | m + 1 => cn f m + if f m = true then 1 else 0
theorem cn_congr {f g : Nat → Bool} : ∀ {m}, (∀ i, i < m → f i = g i) → cn f m = cn g m
  | 0, _ => rfl
  | m + 1, h => by simp only [cn]; rw [cn_congr fun i hi => h i (by omega), h m (by omega)]
theorem cn_le (f : Nat → Bool) : ∀ m, cn f m ≤ m
  | 0 => Nat.le_refl _
  | m + 1 => by have := cn_le f m; unfold cn; split <;> omega
theorem cn_zero {f : Nat → Bool} : ∀ {m}, cn f m = 0 ↔ ∀ i, i < m → f i = false
  | 0 => by simp [cn]
  | m + 1 => by
    unfold cn
    constructor
    · intro h i hi
      have h1 : cn f m = 0 := by omega
      by_cases e : i = m
      · subst e
        split at h
        · omega
        · rename_i hf; simpa using hf
      · exact cn_zero.1 h1 i (by omega)
    · intro h
      rw [cn_zero.2 fun i hi => h i (by omega), h m (by omega)]
      rfl
theorem cn_one {f : Nat → Bool} {v : Nat} : ∀ {m}, cn f m = cn (fun i => f i && !decide (i = v)) m + if v < m ∧ f v = true then 1 else 0
  | 0 => by simp [cn]
  | m + 1 => by
    have ih := cn_one (f := f) (v := v) (m := m)
    show cn f m + (if f m = true then 1 else 0) = cn (fun i => f i && !decide (i = v)) m + (if (f m && !decide (m = v)) = true then 1 else 0) + _
    by_cases e : m = v
    · subst e
      rw [if_neg (fun h => Nat.lt_irrefl _ h.1)] at ih
      rw [if_neg (by simp : ¬ (f m && !decide (m = m)) = true), ih]
      have : (m < m + 1 ∧ f m = true) ↔ f m = true := ⟨fun h => h.2, fun h => ⟨by omega, h⟩⟩
      simp only [this]
    · have h3 : (v < m + 1 ∧ f v = true) ↔ (v < m ∧ f v = true) := ⟨fun h => ⟨by omega, h.2⟩, fun h => ⟨by omega, h.2⟩⟩
      have h4 : (f m && !decide (m = v)) = f m := by simp [e]
      rw [ih, h4]
      simp only [h3]
      omega
/-- n different numbers below n are all of them -/
theorem pigeon : ∀ (n : Nat) (l : List Int), l.Nodup → (∀ x ∈ l, 0 ≤ x ∧ x < (n : Int)) → l.length ≤ n ∧ (l.length = n → ∀ v : Nat, v < n → (v : Int) ∈ l)
  | 0, l, hn, h => by
    cases l with
    | nil => exact ⟨Nat.le_refl _, fun _ v hv => absurd hv (Nat.not_lt_zero _)⟩
    | cons x l => have := h x (by simp); omega
  | n + 1, l, hn, h => by
    by_cases hm : (n : Int) ∈ l
    · have h1 := pigeon n (l.erase (n : Int)) (hn.erase _) fun x hx => by
        have h2 := (List.Nodup.mem_erase_iff hn).1 hx
        have := h x h2.2
        have : x ≠ (n : Int) := h2.1
        omega
      have hlen := List.length_erase_of_mem hm
      have hpos : 0 < l.length := List.length_pos_of_mem hm
      refine ⟨by omega, fun hl v hv => ?_⟩
      by_cases e : v = n
      · rw [e]; exact hm
      · exact List.mem_of_mem_erase (h1.2 (by omega) v (by omega))
    · have h1 := pigeon n l hn fun x hx => by
        have := h x hx
        have : x ≠ (n : Int) := fun e => hm (e ▸ hx)
        omega
      exact ⟨by omega, fun hl => by omega⟩
end Go.Vm
namespace Go.Proofs.YtebekmcoeacdeaaV
open Go Go.Vm

/-- a node whose predecessors have all been listed -/
def FREE (g : Graph) (out : List Int) (v : Nat) : Prop := v < gN g ∧ (v : Int) ∉ out ∧ ∀ p, adj g p v = true → (p : Int) ∈ out
def LEAST (g : Graph) (out : List Int) (x : Int) : Prop := ∃ v : Nat, x = (v : Int) ∧ FREE g out v ∧ ∀ u, FREE g out u → v ≤ u
def GOOD (g : Graph) (out : List Int) : Prop := ∀ i : Nat, i < out.length → LEAST g (out.take i) (rd out (i : Int))
def DONE (g : Graph) (out : List Int) : Prop := GOOD g out ∧ ∀ v, ¬ FREE g out v

theorem GOOD_nil (g : Graph) : GOOD g [] := fun i hi => absurd hi (Nat.not_lt_zero _)
theorem GOOD_app {g : Graph} {out : List Int} {x : Int} (h : GOOD g out) (hx : LEAST g out x) : GOOD g (out ++ [x]) := by
  intro i hi
  by_cases e : i < out.length
  · rw [rd_app_l e, List.take_append_of_le_length (by omega)]
    exact h i e
  · have : i = out.length := by simp at hi; omega
    subst this
    rw [rd_app_at, List.take_append_of_le_length (Nat.le_refl _), List.take_length]
    exact hx
theorem GOOD_take {g : Graph} {out : List Int} (h : GOOD g out) (m : Nat) : GOOD g (out.take m) := by
  intro i hi
  have hi' : i < out.length ∧ i < m := by simp at hi; omega
  have := h i hi'.1
  rw [List.take_take, Nat.min_eq_left (by omega)]
  rw [rd_eq hi] 
  rw [rd_eq hi'.1] at this
  rwa [List.getElem_take]
theorem GOOD_mem {g : Graph} {out : List Int} (h : GOOD g out) : ∀ x ∈ out, 0 ≤ x ∧ x < (gN g : Int) := by
  intro x hx
  obtain ⟨i, hi, rfl⟩ := mem_rd hx
  obtain ⟨v, e, hv, _⟩ := h i hi
  have := hv.1
  omega
theorem GOOD_nodup {g : Graph} {out : List Int} (h : GOOD g out) : out.Nodup := by
  rw [List.nodup_iff_pairwise_ne, List.pairwise_iff_getElem]
  intro i j hi hj hij e
  obtain ⟨v, e2, hv, _⟩ := h j hj
  refine hv.2.1 ?_
  rw [← e2, rd_eq hj, ← e]
  have : (out.take j)[i]'(by simp; omega) ∈ out.take j := List.getElem_mem _
  rwa [List.getElem_take] at this
theorem GOOD_closed {g : Graph} {out : List Int} (h : GOOD g out) {u p : Nat} (hu : (u : Int) ∈ out) (hp : adj g p u = true) : (p : Int) ∈ out := by
  obtain ⟨i, hi, e⟩ := mem_rd hu
  obtain ⟨v, e2, hv, _⟩ := h i hi
  rw [e] at e2
  have : u = v := by omega
  subst this
  exact List.mem_of_mem_take (hv.2.2 p hp)
theorem GOOD_len {g : Graph} {out : List Int} (h : GOOD g out) : out.length ≤ gN g := (pigeon _ _ (GOOD_nodup h) (GOOD_mem h)).1
theorem GOOD_all {g : Graph} {out : List Int} (h : GOOD g out) (hl : out.length = gN g) : ∀ v : Nat, v < gN g → (v : Int) ∈ out := (pigeon _ _ (GOOD_nodup h) (GOOD_mem h)).2 hl
theorem DONE_of_all {g : Graph} {out : List Int} (h : GOOD g out) (hl : out.length = gN g) : DONE g out := ⟨h, fun v hv => hv.2.1 (GOOD_all h hl v hv.1)⟩
theorem LEAST_unique {g : Graph} {out : List Int} {x y : Int} (hx : LEAST g out x) (hy : LEAST g out y) : x = y := by
  obtain ⟨v, rfl, h1, h2⟩ := hx
  obtain ⟨u, rfl, h3, h4⟩ := hy
  have := h2 u h3
  have := h4 v h1
  omega
theorem DONE_unique {g : Graph} {a b : List Int} (ha : DONE g a) (hb : DONE g b) : a = b := by
  have key : ∀ m, a.take m = b.take m := by
    intro m
    induction m with
    | zero => simp
    | succ m ih =>
      by_cases h1 : m < a.length
      · by_cases h2 : m < b.length
        · have e1 := ha.1 m h1
          have e2 := hb.1 m h2
          rw [ih] at e1
          have := LEAST_unique e1 e2
          rw [rd_eq h1, rd_eq h2] at this
          rw [List.take_add_one, List.take_add_one, ih, List.getElem?_eq_getElem h1, List.getElem?_eq_getElem h2, this]
        · obtain ⟨v, _, hv, _⟩ := ha.1 m h1
          rw [ih, List.take_of_length_le (by omega)] at hv
          exact absurd hv (hb.2 v)
      · by_cases h2 : m < b.length
        · obtain ⟨v, _, hv, _⟩ := hb.1 m h2
          rw [← ih, List.take_of_length_le (by omega)] at hv
          exact absurd hv (ha.2 v)
        · rw [List.take_of_length_le (by omega), List.take_of_length_le (by omega)]
          rwa [List.take_of_length_le (by omega), List.take_of_length_le (by omega)] at ih
  have := key (max a.length b.length)
  rwa [List.take_of_length_le (by omega), List.take_of_length_le (by omega)] at this

/-- what an order answers -/
def ANS (g : Graph) (r : List Int × Bool × Unit) : Prop := ∃ out, DONE g out ∧ r = if out.length = gN g then (out, true, ()) else ([], false, ())
theorem ANS_unique {g : Graph} {r s : List Int × Bool × Unit} (h : ANS g r) (h' : ANS g s) : r = s := by
  obtain ⟨a, h1, rfl⟩ := h
  obtain ⟨b, h2, rfl⟩ := h'
  rw [DONE_unique h1 h2]

/-! ### the reference -/
/-- the least free node from v on, or -1 -/
def LF (g : Graph) (out : List Int) (v : Nat) (x : Int) : Prop := (x = -1 ∧ ∀ u, v ≤ u → ¬ FREE g out u) ∨ ∃ u : Nat, x = (u : Int) ∧ v ≤ u ∧ FREE g out u ∧ ∀ z, v ≤ z → FREE g out z → u ≤ z
theorem LF_range {g : Graph} {out : List Int} {v : Nat} {x : Int} (h : LF g out v x) : -1 ≤ x ∧ x < (gN g : Int) := by
  rcases h with ⟨rfl, _⟩ | ⟨u, rfl, _, h, _⟩
  · omega
  · have := h.1; omega

theorem Topo_ref (g : Graph) (hl : g.2.1.length ≤ 1000000) : W (fun k => jacquardref02_Topo.f k g) (ANS g) := by
  have hn := gN_le g
  simp only [jacquardref02_Topo.f]
  refine .bindEv (Matrix_ref g hl) ?_
  simp (disch := first | omega | (rw [MAT_len]; omega)) only [↓if_pos, MAT_len, Int.toNat_natCast]
  -- the list so far
  have main : ∀ (d : Nat) (out : List Int), out.length + d = gN g → GOOD g out →
      W (fun k => jacquardref02_Topo.c5 k (gN g : Int) (out.length : Int) (MAT g) (tb (gN g) fun v => decide ((v : Int) ∈ out)) out) (ANS g) := by
    intro d
    induction d with
    | zero =>
      intro out hlen hg
      refine .succ ?_
      simp (disch := omega) only [jacquardref02_Topo.c5, ↓cdF]
      exact .ret ⟨out, DONE_of_all hg (by omega), by rw [if_pos (by omega)]⟩
    | succ d ih =>
      intro out hlen hg
      refine .succ ?_
      simp (disch := omega) only [jacquardref02_Topo.c5, ↓cdT, MAT_len]
      have e0 : w64 ((gN g : Int) - 1) = ((gN g : Nat) : Int) - 1 := w64_id (by omega) (by omega)
      rw [e0]
      -- the nodes, from above
      have loop : ∀ (v : Nat), v ≤ gN g → ∀ x, LF g out v x → W (fun k => jacquardref02_Topo.c8 k x ((v : Int) - 1) (gN g : Int) (out.length : Int) (MAT g) (tb (gN g) fun v => decide ((v : Int) ∈ out)) out) (ANS g) := by
        intro v
        induction v with
        | zero =>
          intro hv x hx
          refine .succ ?_
          simp (disch := omega) only [jacquardref02_Topo.c8, ↓cdF]
          rcases hx with ⟨rfl, hno⟩ | ⟨u, rfl, _, hu, hmin⟩
          · simp (disch := omega) only [↓cdT]
            refine .ret ⟨out, ⟨hg, fun u hu => hno u (Nat.zero_le _) hu⟩, by rw [if_neg (by omega)]⟩
          · have hun := hu.1
            simp (disch := first | omega | (rw [tb_len]; omega) | (simp only [List.length_cons, List.length_nil]; omega)) only [↓cdF, ↓if_pos, ↓bleT, Int.toNat_natCast, tb_set, w64_id]
            have hg' : GOOD g (out ++ [(u : Int)]) := GOOD_app hg ⟨u, rfl, hu, fun z hz => hmin z (Nat.zero_le _) hz⟩
            have := ih (out ++ [(u : Int)]) (by simp; omega) hg'
            have e1 : (((out ++ [(u : Int)]).length : Nat) : Int) = (out.length : Int) + 1 := by simp
            rw [e1] at this
            have e2 : (tb (gN g) fun d => if d = u then true else decide ((d : Int) ∈ out)) = tb (gN g) fun v => decide ((v : Int) ∈ out ++ [(u : Int)]) := tb_congr fun c hc => by
              by_cases e : c = u
              · subst e; simp
              · simp [e]; omega
            rw [e2]
            exact this
        | succ v ihv =>
          intro hv x hx
          have hrx := LF_range hx
          refine .succ ?_
          have e3 : ((v + 1 : Nat) : Int) - 1 = (v : Int) := by omega
          rw [e3]
          simp (disch := first | omega | (rw [tb_len]; omega)) only [jacquardref02_Topo.c8, ↓cdT, ↓if_pos, MAT_len, tb_rd (show v < gN g by omega)]
          -- its predecessors
          have inner : ∀ (e j : Nat), j + e = gN g → ∀ b : Bool, (b = true ↔ (v : Int) ∉ out ∧ ∀ p, p < j → adj g p v = true → (p : Int) ∈ out) →
              W (fun k => jacquardref02_Topo.c12 k x (v : Int) b (gN g : Int) (out.length : Int) (gN g : Int) (j : Int) (MAT g) (tb (gN g) fun v => decide ((v : Int) ∈ out)) out) (ANS g) := by
            intro e
            induction e with
            | zero =>
              intro j hj b hb
              refine .succ ?_
              simp (disch := omega) only [jacquardref02_Topo.c12, ↓cdF, w64_id]
              have hfree : b = true ↔ FREE g out v := by
                rw [hb]
                exact ⟨fun h => ⟨by omega, h.1, fun p hp => h.2 p (by have := adj_l hp; omega) hp⟩, fun h => ⟨h.2.1, fun p _ hp => h.2.2 p hp⟩⟩
              refine .cond (fun h => ?_) fun h => ?_
              · refine ihv (by omega) _ (.inr ⟨v, rfl, Nat.le_refl _, hfree.1 h, fun z hz _ => hz⟩)
              · have hnf : ¬ FREE g out v := fun hf => by rw [hfree.2 hf] at h; cases h
                refine ihv (by omega) _ ?_
                rcases hx with ⟨rfl, hno⟩ | ⟨u, rfl, hvu, hu, hmin⟩
                · refine .inl ⟨rfl, fun u hu hf => ?_⟩
                  by_cases e : u = v
                  · subst e; exact hnf hf
                  · exact hno u (by omega) hf
                · refine .inr ⟨u, rfl, by omega, hu, fun z hz hf => ?_⟩
                  by_cases e : z = v
                  · subst e; exact absurd hf hnf
                  · exact hmin z (by omega) hf
            | succ e ihe =>
              intro j hj b hb
              refine .succ ?_
              have hjn : j < gN g := by omega
              have hvn : v < gN g := by omega
              simp (disch := first | omega | (rw [MAT_len]; omega) | (rw [MAT_row hjn]; omega) | (rw [tb_len]; omega)) only [jacquardref02_Topo.c12, ↓cdT, ↓if_pos, MAT_rd hjn hvn, tb_rd hjn, w64_id]
              have nx : ∀ b' : Bool, (b' = true ↔ (v : Int) ∉ out ∧ ∀ p, p < j + 1 → adj g p v = true → (p : Int) ∈ out) → W (fun k => jacquardref02_Topo.c12 k x (v : Int) b' (gN g : Int) (out.length : Int) (gN g : Int) ((j : Int) + 1) (MAT g) (tb (gN g) fun v => decide ((v : Int) ∈ out)) out) (ANS g) := fun b' hb' => ihe (j + 1) (by omega) b' hb'
              have split : (∀ p, p < j + 1 → adj g p v = true → (p : Int) ∈ out) ↔ (∀ p, p < j → adj g p v = true → (p : Int) ∈ out) ∧ (adj g j v = true → (j : Int) ∈ out) :=
                ⟨fun h => ⟨fun p hp => h p (by omega), h j (by omega)⟩, fun h p hp ha => by
                  by_cases e : p = j
                  · subst e; exact h.2 ha
                  · exact h.1 p (by omega) ha⟩
              refine .cond (fun h => ?_) fun h => ?_
              · refine .cond (fun h2 => ?_) fun h2 => ?_
                · refine nx false ?_
                  simp only [Bool.not_eq_true', decide_eq_false_iff_not] at h2
                  rw [split]
                  exact ⟨fun h => (by cases h), fun h3 => absurd (h3.2.2 h) h2⟩
                · refine nx b ?_
                  simp only [Bool.not_eq_false', decide_eq_true_eq] at h2
                  rw [hb, split]
                  exact ⟨fun h3 => ⟨h3.1, h3.2, fun _ => h2⟩, fun h3 => ⟨h3.1, h3.2.1⟩⟩
              · refine nx b ?_
                rw [hb, split]
                exact ⟨fun h3 => ⟨h3.1, h3.2, fun h4 => by rw [h] at h4; cases h4⟩, fun h3 => ⟨h3.1, h3.2.1⟩⟩
          refine inner (gN g) 0 (by omega) _ ?_
          simp
      exact loop (gN g) (Nat.le_refl _) (-1) (.inl ⟨rfl, fun u hu hf => by have := hf.1; omega⟩)
  have := main (gN g) [] (by simp) (GOOD_nil g)
  have e4 : (tb (gN g) fun v => decide ((v : Int) ∈ ([] : List Int))) = List.replicate (gN g) false := by
    rw [tb_rep]; exact tb_congr fun c hc => by simp
  rw [e4] at this
  exact this
end Go.Proofs.YtebekmcoeacdeaaV
