/- The reference: the greatest weights of walks (Floyd, Warshall), told by feasible potentials. -/
import Derived.Test.YtehpelomfhaleaaDc
set_option linter.unusedVariables false
set_option linter.unusedSimpArgs false
namespace Go.Proofs.YtehpelomfhaleaaV.Diff
open Go Go.Vm

theorem nodes_ref (n : Int) : jacquardref30_Nodes.f n = some (nod n) := rfl
theorem weight_ref (a : Arc) (ii : Int) : jacquardref30_Weight.f a ii = some (wt a ii) := by
  have h1 := clamp_le (Arc.Lat a) (-1048576) 1048576 (by omega)
  have h2 := clamp_le (Arc.Dist a) (-1048576) 1048576 (by omega)
  have h3 := clamp_le ii 0 256 (by omega)
  have h4 := prod_le h3.1 h3.2 h2.1 h2.2
  unfold jacquardref30_Weight.f
  rw [show w64 (0 - 1048576) = -1048576 by rw [wrap_id (by omega) (by omega)]; omega]
  rw [wrap_id (n := mn (mx ii 0) 256 * mn (mx (Arc.Dist a) (-1048576)) 1048576) (by omega) (by omega), wrap_id (by omega) (by omega)]
  rfl
theorem counts_ref (n : Int) (a : Arc) : jacquardref30_Counts.f n a = some (decide (Inn (nod n) a)) := by
  unfold jacquardref30_Counts.f
  rw [nodes_ref]
  by_cases h0 : 0 ≤ (Arc.From a) <;> by_cases h1 : (Arc.From a) < nod n <;> by_cases h2 : 0 ≤ (Arc.To a) <;> by_cases h3 : (Arc.To a) < nod n <;> simp [Inn, h0, h1, h2, h3]
theorem bound_ref {l : List Int} {v : Int} (h : 0 ≤ v) : jacquardref30_Bound.f l v = some (bnd l v) := by
  unfold jacquardref30_Bound.f bnd
  by_cases h1 : (l.length : Int) ≤ v
  · simp (disch := omega) only [↓cdT, if_pos]
  · simp (disch := omega) only [↓cdF, if_pos, if_neg]

/-! ### Matrices -/
def At (d : List (List Int)) (a b : Int) : Int := rd (rd d a) b
def Sq (n : Int) (d : List (List Int)) : Prop := (d.length : Int) = n ∧ ∀ a : Int, 0 ≤ a → a < n → ((rd d a).length : Int) = n
theorem rdL_set {d : List (List Int)} {a a' : Int} {v : List Int} (h0 : 0 ≤ a) (h1 : a < d.length) (h2 : 0 ≤ a') : rd (d.set a.toNat v) a' = if a' = a then v else rd d a' := rd_set h0 h1 h2
theorem at_put {n : Int} {d : List (List Int)} (hs : Sq n d) {a b v : Int} (ha0 : 0 ≤ a) (ha1 : a < n) (hb0 : 0 ≤ b) (hb1 : b < n) :
    Sq n (d.set a.toNat ((rd d a).set b.toNat v)) ∧ ∀ a' b', 0 ≤ a' → 0 ≤ b' → At (d.set a.toNat ((rd d a).set b.toNat v)) a' b' = if a' = a ∧ b' = b then v else At d a' b' := by
  obtain ⟨hl, hr⟩ := hs
  have hra := hr a ha0 ha1
  refine ⟨⟨by simpa using hl, fun a' h0 h1 => ?_⟩, fun a' b' h0 h1 => ?_⟩
  · rw [rdL_set ha0 (by omega) h0]
    split
    · simpa using hra
    · exact hr a' h0 h1
  · unfold At
    rw [rdL_set ha0 (by omega) h0]
    by_cases e : a' = a
    · subst e
      rw [if_pos rfl, rd_set hb0 (by omega) h1]
      by_cases e2 : b' = b
      · rw [if_pos e2, if_pos ⟨rfl, e2⟩]
      · rw [if_neg e2, if_neg (fun h => e2 h.2)]
    · rw [if_neg e, if_neg (fun h => e h.1)]

/-- What one round for the node k makes of an entry. -/
def upd (m : Int → Int → Int) (k a b : Int) : Int := if m a k > -1152921504606846976 then (if m k b > -1152921504606846976 then mx (m a b) (m a k + m k b) else m a b) else m a b

/-- What is known of the entries in front of round k (B bounds them). -/
structure FW (n : Int) (arcs : List Arc) (ii : Int) (k B : Int) (m : Int → Int → Int) : Prop where
  snd : ∀ p : Int → Int, Feas n arcs ii p → ∀ a b, 0 ≤ a → a < n → 0 ≤ b → b < n → m a b > -1152921504606846976 → m a b ≤ p b - p a
  bd : ∀ a b, 0 ≤ a → a < n → 0 ≤ b → b < n → m a b = -1152921504606846976 ∨ (-B ≤ m a b ∧ m a b ≤ B)
  dg : ∀ a, 0 ≤ a → a < n → 0 ≤ m a a
  cl : ∀ a b c, 0 ≤ a → a < n → 0 ≤ b → b < n → 0 ≤ c → c < k → m a c > -1152921504606846976 → m c b > -1152921504606846976 → m a c + m c b ≤ m a b
  ar : ∀ i : Int, 0 ≤ i → i < arcs.length → Inn n (rd arcs i) → wt (rd arcs i) ii ≤ m (Arc.From (rd arcs i)) (Arc.To (rd arcs i))

section
variable {n : Int} {arcs : List Arc} {ii k B : Int} {m : Int → Int → Int}
theorem upd_row (h0 : m k k = 0) (b : Int) : upd m k k b = m k b := by
  unfold upd
  rw [h0]
  rw [if_pos (by omega)]
  split
  · unfold mx; omega
  · rfl
theorem upd_col (h0 : m k k = 0) (a : Int) : upd m k a k = m a k := by
  unfold upd
  split
  · rw [h0, if_pos (by omega)]; unfold mx; omega
  · rfl
theorem upd_ge (a b : Int) : m a b ≤ upd m k a b := by
  unfold upd
  split
  · split
    · unfold mx; omega
    · omega
  · omega
theorem FW.step (h : FW n arcs ii k B m) (hk0 : 0 ≤ k) (hk1 : k < n) (h0 : m k k = 0) (hB0 : 0 ≤ B) (hB : B ≤ 288230376151711744) : FW n arcs ii (k + 1) (2 * B) (upd m k) where
  snd p hp a b a0 a1 b0 b1 hgt := by
    unfold upd at hgt ⊢
    split
    · rename_i c1
      rw [if_pos c1] at hgt
      split
      · rename_i c2
        have e1 := h.snd p hp a k a0 a1 hk0 hk1 c1
        have e2 := h.snd p hp k b hk0 hk1 b0 b1 c2
        unfold mx
        split
        · omega
        · rename_i c3
          by_cases c4 : m a b > -1152921504606846976
          · exact h.snd p hp a b a0 a1 b0 b1 c4
          · have f1 := h.bd a k a0 a1 hk0 hk1
            have f2 := h.bd k b hk0 hk1 b0 b1
            omega
      · rename_i c2
        rw [if_neg c2] at hgt
        exact h.snd p hp a b a0 a1 b0 b1 hgt
    · rename_i c1
      rw [if_neg c1] at hgt
      exact h.snd p hp a b a0 a1 b0 b1 hgt
  bd a b a0 a1 b0 b1 := by
    have f0 := h.bd a b a0 a1 b0 b1
    have f1 := h.bd a k a0 a1 hk0 hk1
    have f2 := h.bd k b hk0 hk1 b0 b1
    unfold upd
    split
    · split
      · unfold mx
        split <;> omega
      · omega
    · omega
  dg a a0 a1 := Int.le_trans (h.dg a a0 a1) (upd_ge a a)
  ar i i0 i1 hi := Int.le_trans (h.ar i i0 i1 hi) (upd_ge _ _)
  cl a b c a0 a1 b0 b1 c0 c1 h1 h2 := by
    by_cases ck : c = k
    · subst ck
      rw [upd_row h0, upd_col h0] at *
      have : upd m c a b = mx (m a b) (m a c + m c b) := by unfold upd; rw [if_pos h1, if_pos h2]
      rw [this]
      unfold mx; split <;> omega
    · have c1' : c < k := by omega
      have cn : c < n := by omega
      have e0 := h.cl a b c a0 a1 b0 b1 c0 c1'
      have e1 := h.cl a k c a0 a1 hk0 hk1 c0 c1'
      have e2 := h.cl k b c hk0 hk1 b0 b1 c0 c1'
      have e3 := h.cl k k c hk0 hk1 hk0 hk1 c0 c1'
      have g1 := h.bd a c a0 a1 c0 cn
      have g2 := h.bd c b c0 cn b0 b1
      have g3 := h.bd a k a0 a1 hk0 hk1
      have g4 := h.bd k b hk0 hk1 b0 b1
      have g5 := h.bd k c hk0 hk1 c0 cn
      have g6 := h.bd c k c0 cn hk0 hk1
      rw [h0] at e3
      unfold upd at h1 h2 ⊢
      unfold mx at h1 h2 ⊢
      by_cases q1 : m a k > -1152921504606846976 <;> by_cases q2 : m k b > -1152921504606846976 <;> by_cases q3 : m k c > -1152921504606846976 <;> by_cases q4 : m c k > -1152921504606846976 <;>
        simp only [q1, q2, q3, q4, if_true, if_false] at h1 h2 ⊢ <;> omega
end

theorem pow_le {k : Nat} (h : k ≤ 20) : (269484032 : Int) * 2 ^ k ≤ 288230376151711744 := by
  have h1 : (2 : Nat) ^ k ≤ 2 ^ 20 := Nat.pow_le_pow_right (by omega) h
  have h2 : (2 : Nat) ^ k ≤ 1048576 := Nat.le_trans h1 (by decide)
  have h3 : ((2 ^ k : Nat) : Int) ≤ 1048576 := by omega
  rw [Int.natCast_pow] at h3
  have h4 : (2 : Int) ^ k ≤ 1048576 := h3
  omega
theorem pow_pos' (k : Nat) : (0 : Int) ≤ 269484032 * 2 ^ k := by
  have : (0 : Int) < 2 ^ k := Int.pow_pos (by omega)
  omega
theorem pow_succ' (k : Nat) : (269484032 : Int) * 2 ^ (k + 1) = 2 * (269484032 * 2 ^ k) := by
  rw [Int.pow_succ]; omega

/-- What Walks answers. -/
def Paths (n : Int) (arcs : List Arc) (ii : Int) (r : List (List Int) × Bool × Unit) : Prop :=
  (r.2.1 = true ∧ Sq n r.1 ∧ FW n arcs ii n 288230376151711744 (At r.1)) ∨ (r.2.1 = false ∧ r.1 = [] ∧ ∀ p, ¬ Feas n arcs ii p)

section
variable {n : Int} {arcs : List Arc} {ii : Int}
theorem FW.loop_no {k B : Int} {m : Int → Int → Int} (h : FW n arcs ii k B m) {a : Int} (h0 : 0 ≤ a) (h1 : a < n) (hp : m a a > 0) : ∀ p, ¬ Feas n arcs ii p := fun p hf => by
  have := h.snd p hf a a h0 h1 h0 h1 (by omega)
  omega
theorem FW.congr {k B : Int} {m m' : Int → Int → Int} (h : FW n arcs ii k B m) (e : ∀ a b, 0 ≤ a → a < n → 0 ≤ b → b < n → m' a b = m a b) (hk : k ≤ n) : FW n arcs ii k B m' where
  snd p hp a b a0 a1 b0 b1 hgt := by rw [e a b a0 a1 b0 b1] at *; exact h.snd p hp a b a0 a1 b0 b1 hgt
  bd a b a0 a1 b0 b1 := by rw [e a b a0 a1 b0 b1]; exact h.bd a b a0 a1 b0 b1
  dg a a0 a1 := by rw [e a a a0 a1 a0 a1]; exact h.dg a a0 a1
  cl a b c a0 a1 b0 b1 c0 c1 h1 h2 := by rw [e a c a0 a1 c0 (by omega)] at *; rw [e c b c0 (by omega) b0 b1] at *; rw [e a b a0 a1 b0 b1]; exact h.cl a b c a0 a1 b0 b1 c0 c1 h1 h2
  ar i i0 i1 hi := by rw [e _ _ hi.1 hi.2.1 hi.2.2.1 hi.2.2.2]; exact h.ar i i0 i1 hi
theorem FW.wide {k B B' : Int} {m : Int → Int → Int} (h : FW n arcs ii k B m) (hB : B ≤ B') : FW n arcs ii k B' m where
  snd := h.snd
  bd a b a0 a1 b0 b1 := by rcases h.bd a b a0 a1 b0 b1 with e | e <;> omega
  dg := h.dg
  cl := h.cl
  ar := h.ar

/-- In the middle of round k: the entries in front of (a, b) are done. -/
def Mid (n : Int) (m : Int → Int → Int) (k a b : Int) (d : List (List Int)) : Prop := Sq n d ∧ ∀ a' b', 0 ≤ a' → a' < n → 0 ≤ b' → b' < n → At d a' b' = if a' < a ∨ (a' = a ∧ b' < b) then upd m k a' b' else m a' b'

theorem Mid.col {m : Int → Int → Int} {k a b : Int} {d : List (List Int)} (h : Mid n m k a b d) (h0 : m k k = 0) (hk0 : 0 ≤ k) (hk1 : k < n) (a' : Int) (a0 : 0 ≤ a') (a1 : a' < n) : At d a' k = m a' k := by
  rw [h.2 a' k a0 a1 hk0 hk1]
  split
  · exact upd_col h0 a'
  · rfl
theorem Mid.row {m : Int → Int → Int} {k a b : Int} {d : List (List Int)} (h : Mid n m k a b d) (h0 : m k k = 0) (hk0 : 0 ≤ k) (hk1 : k < n) (b' : Int) (b0 : 0 ≤ b') (b1 : b' < n) : At d k b' = m k b' := by
  rw [h.2 k b' hk0 hk1 b0 b1]
  split
  · exact upd_row h0 b'
  · rfl

theorem walks_c30 (hn0 : 0 ≤ n) (hn : n ≤ 20) {m : Int → Int → Int} {k B : Int} (hF : FW n arcs ii k B m) (hB : B ≤ 288230376151711744) (hk0 : 0 ≤ k) (hk1 : k < n) (h0 : m k k = 0) {a : Int} (a0 : 0 ≤ a) (a1 : a < n) {Q : List (List Int) × Bool × Unit → Prop}
    (hk : ∀ d, Mid n m k (a + 1) 0 d → W (fun q => jacquardref30_Walks.c27 q n k n k n (a + 1) d) Q) :
    ∀ (c : Nat) (b : Int) (d : List (List Int)), 0 ≤ b → b + c = n → Mid n m k a b d → W (fun q => jacquardref30_Walks.c30 q n k a n k n a n b d) Q := by
  intro c
  induction c with
  | zero =>
    intro b d b0 hbc hM
    refine .succ ?_
    simp (disch := omega) only [jacquardref30_Walks.c30, ↓cdF, w64_id]
    refine hk d ⟨hM.1, fun a' b' p0 p1 q0 q1 => ?_⟩
    rw [hM.2 a' b' p0 p1 q0 q1]
    by_cases e : a' < a ∨ a' = a ∧ b' < b
    · rw [if_pos e, if_pos (by omega)]
    · rw [if_neg e, if_neg (by omega)]
  | succ c ih =>
    intro b d b0 hbc hM
    have hS := hM.1
    have hla := hS.2 a a0 a1
    have hlk := hS.2 k hk0 hk1
    have hld := hS.1
    have hb1 : b < n := by omega
    have hca := hM.col h0 hk0 hk1 a a0 a1
    have hrb := hM.row h0 hk0 hk1 b b0 hb1
    have hab : At d a b = m a b := by rw [hM.2 a b a0 a1 b0 hb1, if_neg (by omega)]
    have g1 := hF.bd a k a0 a1 hk0 hk1
    have g2 := hF.bd k b hk0 hk1 b0 hb1
    unfold At at hca hrb hab
    have hsame : upd m k a b = m a b → Mid n m k a (b + 1) d := fun hu => ⟨hS, fun a' b' p0 p1 q0 q1 => by
      rw [hM.2 a' b' p0 p1 q0 q1]
      by_cases e : a' = a ∧ b' = b
      · rw [e.1, e.2, if_neg (by omega), if_pos (by omega), hu]
      · by_cases e2 : a' < a ∨ a' = a ∧ b' < b
        · rw [if_pos e2, if_pos (by omega)]
        · rw [if_neg e2, if_neg (by omega)]⟩
    refine .succ ?_
    simp (disch := omega) only [jacquardref30_Walks.c30, ↓cdT, ↓if_pos, hca, hrb, hab, w64_id (n := b + 1)]
    refine .dec (fun c1 => ?_) fun c1 => ?_
    · refine .dec (fun c2 => ?_) fun c2 => ?_
      · have hput := at_put hS (v := mx (m a b) (m a k + m k b)) a0 a1 b0 hb1
        rw [w64_id (n := m a k + m k b) (by omega) (by omega)]
        refine ih (b + 1) (d.set a.toNat ((rd d a).set b.toNat (mx (m a b) (m a k + m k b)))) (by omega) (by omega) ⟨hput.1, fun a' b' p0 p1 q0 q1 => ?_⟩
        rw [hput.2 a' b' p0 q0]
        by_cases e : a' = a ∧ b' = b
        · rw [if_pos e, if_pos (by omega), e.1, e.2]; unfold upd; rw [if_pos c1, if_pos c2]
        · rw [if_neg e, hM.2 a' b' p0 p1 q0 q1]
          by_cases e2 : a' < a ∨ a' = a ∧ b' < b
          · rw [if_pos e2, if_pos (by omega)]
          · rw [if_neg e2, if_neg (by omega)]
      · exact ih (b + 1) d (by omega) (by omega) (hsame (by unfold upd; rw [if_pos c1, if_neg c2]))
    · exact ih (b + 1) d (by omega) (by omega) (hsame (by unfold upd; rw [if_neg c1]))

theorem walks_c27 (hn0 : 0 ≤ n) (hn : n ≤ 20) {m : Int → Int → Int} {k B : Int} (hF : FW n arcs ii k B m) (hB : B ≤ 288230376151711744) (hk0 : 0 ≤ k) (hk1 : k < n) (h0 : m k k = 0) {Q : List (List Int) × Bool × Unit → Prop}
    (hk : ∀ d, Sq n d → (∀ a b, 0 ≤ a → a < n → 0 ≤ b → b < n → At d a b = upd m k a b) → W (fun q => jacquardref30_Walks.c37 q n n k n 0 d) Q) :
    ∀ (c : Nat) (a : Int) (d : List (List Int)), 0 ≤ a → a + c = n → Mid n m k a 0 d → W (fun q => jacquardref30_Walks.c27 q n k n k n a d) Q := by
  intro c
  induction c with
  | zero =>
    intro a d a0 hac hM
    refine .succ ?_
    simp (disch := omega) only [jacquardref30_Walks.c27, ↓cdF]
    refine hk d hM.1 (fun a' b' p0 p1 q0 q1 => ?_)
    rw [hM.2 a' b' p0 p1 q0 q1, if_pos (by omega)]
  | succ c ih =>
    intro a d a0 hac hM
    refine .succ ?_
    simp (disch := omega) only [jacquardref30_Walks.c27, ↓cdT]
    exact walks_c30 hn0 hn hF hB hk0 hk1 h0 a0 (by omega) (fun d' hM' => ih (a + 1) d' (by omega) (by omega) hM') n.toNat 0 d (by omega) (by omega) hM

theorem walks_c37 (hn0 : 0 ≤ n) (hn : n ≤ 20) {d : List (List Int)} (hS : Sq n d) {k B : Int} (hF : FW n arcs ii (k + 1) B (At d)) (hk0 : 0 ≤ k) (hk1 : k < n)
    (hk : (∀ a, 0 ≤ a → a < n → At d a a ≤ 0) → W (fun q => jacquardref30_Walks.c22 q n n (k + 1) d) (Paths n arcs ii)) :
    ∀ (c : Nat) (a : Int), 0 ≤ a → a + c = n → (∀ a', 0 ≤ a' → a' < a → At d a' a' ≤ 0) → W (fun q => jacquardref30_Walks.c37 q n n k n a d) (Paths n arcs ii) := by
  intro c
  induction c with
  | zero =>
    intro a a0 hac hx
    refine .succ ?_
    simp (disch := omega) only [jacquardref30_Walks.c37, ↓cdF, w64_id]
    exact hk (fun a' h1 h2 => hx a' h1 (by omega))
  | succ c ih =>
    intro a a0 hac hx
    have hla := hS.2 a a0 (by omega)
    have hld := hS.1
    refine .succ ?_
    simp (disch := omega) only [jacquardref30_Walks.c37, ↓cdT, ↓if_pos, w64_id]
    refine .dec (fun hp => .ret (Or.inr ⟨rfl, rfl, hF.loop_no a0 (by omega) hp⟩)) fun hp => ?_
    exact ih (a + 1) (by omega) (by omega) (fun a' h1 h2 => by
      by_cases e : a' = a
      · subst e; unfold At; omega
      · exact hx a' h1 (by omega))

theorem walks_c22 (hn0 : 0 ≤ n) (hn : n ≤ 20) : ∀ (c : Nat) (k : Nat) (d : List (List Int)), (k : Int) + c = n → Sq n d → FW n arcs ii k (269484032 * 2 ^ k) (At d) → W (fun q => jacquardref30_Walks.c22 q n n k d) (Paths n arcs ii) := by
  intro c
  induction c with
  | zero =>
    intro k d hkc hS hF
    refine .succ ?_
    simp (disch := omega) only [jacquardref30_Walks.c22, ↓cdF]
    refine .ret (Or.inl ⟨rfl, hS, ?_⟩)
    have hkn : (k : Int) = n := by omega
    rw [hkn] at hF
    exact hF.wide (pow_le (by omega))
  | succ c ih =>
    intro k d hkc hS hF
    have hlk := hS.2 k (by omega) (by omega)
    have hld := hS.1
    refine .succ ?_
    simp (disch := omega) only [jacquardref30_Walks.c22, ↓cdT, ↓if_pos]
    refine .dec (fun hp => .ret (Or.inr ⟨rfl, rfl, hF.loop_no (a := (k : Int)) (by omega) (by omega) hp⟩)) fun hp => ?_
    have h0 : At d k k = 0 := by have := hF.dg k (by omega) (by omega); unfold At at *; omega
    have hstep := hF.step (by omega) (by omega) h0 (pow_pos' k) (pow_le (by omega))
    refine walks_c27 hn0 hn hF (pow_le (by omega)) (by omega) (by omega) h0 (fun d' hS' hU => ?_) n.toNat 0 d (by omega) (by omega) ⟨hS, fun a' b' p0 p1 q0 q1 => by rw [if_neg (by omega)]⟩
    have hF' : FW n arcs ii (k + 1) (2 * (269484032 * 2 ^ k)) (At d') := hstep.congr hU (by omega)
    refine walks_c37 hn0 hn hS' hF' (by omega) (by omega) (fun _ => ?_) n.toNat 0 (by omega) (by omega) (fun a' h1 h2 => by omega)
    rw [← pow_succ'] at hF'
    exact ih (k + 1) d' (by omega) hS' hF'

/-- Before the rounds: 0 in the diagonal, and the arcs so far. -/
structure Begin (n : Int) (arcs : List Arc) (ii i : Int) (m : Int → Int → Int) : Prop where
  snd : ∀ p : Int → Int, Feas n arcs ii p → ∀ a b, 0 ≤ a → a < n → 0 ≤ b → b < n → m a b > -1152921504606846976 → m a b ≤ p b - p a
  bd : ∀ a b, 0 ≤ a → a < n → 0 ≤ b → b < n → m a b = -1152921504606846976 ∨ (-269484032 ≤ m a b ∧ m a b ≤ 269484032)
  dg : ∀ a, 0 ≤ a → a < n → 0 ≤ m a a
  ar : ∀ j : Int, 0 ≤ j → j < i → Inn n (rd arcs j) → wt (rd arcs j) ii ≤ m (Arc.From (rd arcs j)) (Arc.To (rd arcs j))

theorem walks_c16 {n0 : Int} (hn : n = nod n0) (hn20 : n ≤ 20) (hlen : arcs.length ≤ 1000000) : ∀ (c : Nat) (i : Int) (d : List (List Int)), 0 ≤ i → i + c = arcs.length → Sq n d → Begin n arcs ii i (At d) → W (fun q => jacquardref30_Walks.c16 q n arcs ii arcs.length i d) (Paths n arcs ii) := by
  have hn0 : 0 ≤ n := by have := nod_le n0; omega
  have hnn : nod n = n := by rw [hn]; unfold nod mn mx; repeat' split
                             all_goals omega
  intro c
  induction c with
  | zero =>
    intro i d i0 hic hS hB
    refine .succ ?_
    simp (disch := omega) only [jacquardref30_Walks.c16, ↓cdF]
    exact walks_c22 hn0 hn20 n.toNat 0 d (by omega) hS ⟨hB.snd, hB.bd, hB.dg, fun a b c _ _ _ _ h1 h2 => by simp at h2; omega, fun j h1 h2 h3 => hB.ar j h1 (by omega) h3⟩
  | succ c ih =>
    intro i d i0 hic hS hB
    refine .succ ?_
    simp (disch := omega) only [jacquardref30_Walks.c16, ↓cdT, ↓if_pos, counts_ref, hnn, Option.bind_some, weight_ref, w64_id (n := i + 1)]
    refine .dec (fun hi => ?_) fun hi => ?_
    · obtain ⟨u0, u1, v0, v1⟩ := id hi
      have hput := at_put hS (v := mx (At d (Arc.From (rd arcs i)) (Arc.To (rd arcs i))) (wt (rd arcs i) ii)) u0 u1 v0 v1
      have hw := wt_le (rd arcs i) ii
      have hru := hS.2 _ u0 u1
      have hld := hS.1
      simp (disch := omega) only [↓if_pos]
      refine ih (i + 1) (d.set (Arc.From (rd arcs i)).toNat ((rd d (Arc.From (rd arcs i))).set (Arc.To (rd arcs i)).toNat (mx (At d (Arc.From (rd arcs i)) (Arc.To (rd arcs i))) (wt (rd arcs i) ii)))) (by omega) (by omega) hput.1 ⟨?_, ?_, ?_, ?_⟩
      · intro p hp a b a0 a1 b0 b1 hgt
        rw [hput.2 a b a0 b0] at hgt ⊢
        split
        · rename_i e
          rw [if_pos e] at hgt
          rw [e.1, e.2]
          have f1 := hp i i0 (by omega) hi
          have f2 := hB.snd p hp _ _ u0 u1 v0 v1
          have f3 := hB.bd _ _ u0 u1 v0 v1
          unfold mx
          split
          · omega
          · by_cases c4 : At d (Arc.From (rd arcs i)) (Arc.To (rd arcs i)) > -1152921504606846976
            · exact f2 c4
            · omega
        · rename_i e
          rw [if_neg e] at hgt
          exact hB.snd p hp a b a0 a1 b0 b1 hgt
      · intro a b a0 a1 b0 b1
        rw [hput.2 a b a0 b0]
        split
        · have f3 := hB.bd _ _ u0 u1 v0 v1
          unfold mx
          split <;> omega
        · exact hB.bd a b a0 a1 b0 b1
      · intro a a0 a1
        rw [hput.2 a a a0 a0]
        split
        · rename_i e
          have f := hB.dg a a0 a1
          rw [e.1] at f
          have e3 : (Arc.From (rd arcs i)) = (Arc.To (rd arcs i)) := by omega
          rw [← e3]
          unfold mx; split <;> omega
        · exact hB.dg a a0 a1
      · intro j j0 j1 hj
        rw [hput.2 _ _ hj.1 hj.2.2.1]
        by_cases e : j = i
        · subst e
          rw [if_pos ⟨rfl, rfl⟩]
          unfold mx; split <;> omega
        · have f := hB.ar j j0 (by omega) hj
          split
          · rename_i e2
            rw [e2.1, e2.2] at f
            unfold mx; split <;> omega
          · exact f
    · refine ih (i + 1) d (by omega) (by omega) hS ⟨hB.snd, hB.bd, hB.dg, fun j j0 j1 hj => ?_⟩
      by_cases e : j = i
      · subst e; exact absurd hj hi
      · exact hB.ar j j0 (by omega) hj

/-- The rows so far: 0 in the diagonal, none elsewhere. -/
def Rows0 (n : Int) (a : Int) (d : List (List Int)) : Prop := (d.length : Int) = a ∧ ∀ i : Int, 0 ≤ i → i < a → ((rd d i).length : Int) = n ∧ ∀ j, 0 ≤ j → j < n → rd (rd d i) j = if j = i then 0 else -1152921504606846976
theorem rdL_append {d : List (List Int)} {v : List Int} {i : Int} (h0 : 0 ≤ i) (h2 : i ≤ d.length) : rd (d ++ [v]) i = if i < d.length then rd d i else v := by
  by_cases h1 : i < d.length
  · rw [if_pos h1]; exact rd_append_left (by omega)
  · rw [if_neg h1]; exact rd_append_right (by omega)
theorem walks_c8 (hn0 : 0 ≤ n) (hn : n ≤ 20) {a : Int} (a0 : 0 ≤ a) (a1 : a < n) {d : List (List Int)} (hd : Rows0 n a d) {Q : List (List Int) × Bool × Unit → Prop}
    (hk : ∀ d', Rows0 n (a + 1) d' → W (fun q => jacquardref30_Walks.c4 q n arcs ii n (a + 1) d') Q) :
    ∀ (c : Nat) (b : Int) (l : List Int), 0 ≤ b → b + c = n → (l.length : Int) = n → (∀ j, 0 ≤ j → j < b → rd l j = -1152921504606846976) → W (fun q => jacquardref30_Walks.c8 q n arcs ii a n a n b d l) Q := by
  have hdl := hd.1
  intro c
  induction c with
  | zero =>
    intro b l b0 hbc hl hx
    refine .succ ?_
    simp (disch := first | omega | (simp only [List.length_singleton]; omega)) only [jacquardref30_Walks.c8, ↓cdF, ↓if_pos, ↓bleT, w64_id]
    refine hk (d ++ [l.set a.toNat 0]) ⟨by simp; omega, fun i i0 i1 => ?_⟩
    rw [rdL_append i0 (by omega)]
    by_cases e : i < d.length
    · rw [if_pos e]; exact hd.2 i i0 (by omega)
    · rw [if_neg e]
      refine ⟨by simpa using hl, fun j j0 j1 => ?_⟩
      rw [rd_set a0 (by omega) j0, show i = a by omega]
      split
      · rfl
      · exact hx j j0 (by omega)
  | succ c ih =>
    intro b l b0 hbc hl hx
    refine .succ ?_
    simp (disch := omega) only [jacquardref30_Walks.c8, ↓cdT, ↓if_pos, w64_id]
    refine ih (b + 1) (l.set b.toNat (-1152921504606846976)) (by omega) (by omega) (by simpa using hl) (fun j j0 j1 => ?_)
    rw [rd_set b0 (by omega) j0]
    split
    · rfl
    · exact hx j j0 (by omega)
theorem walks_c4 {n0 : Int} (hnd : n = nod n0) (hn : n ≤ 20) (hlen : arcs.length ≤ 1000000) : ∀ (c : Nat) (a : Int) (d : List (List Int)), 0 ≤ a → a + c = n → Rows0 n a d → W (fun q => jacquardref30_Walks.c4 q n arcs ii n a d) (Paths n arcs ii) := by
  have hn0 : 0 ≤ n := by have := nod_le n0; omega
  intro c
  induction c with
  | zero =>
    intro a d a0 hac hR
    have ea : a = n := by omega
    subst ea
    refine .succ ?_
    simp (disch := omega) only [jacquardref30_Walks.c4, ↓cdF]
    refine walks_c16 hnd hn hlen arcs.length 0 d (by omega) (by omega) ⟨hR.1, fun i h1 h2 => (hR.2 i h1 h2).1⟩ ⟨?_, ?_, ?_, fun j h1 h2 => by omega⟩
    · intro p hp x y x0 x1 y0 y1 hgt
      unfold At at hgt ⊢
      rw [(hR.2 x x0 x1).2 y y0 y1] at hgt ⊢
      split
      · rename_i e; subst e; omega
      · rename_i e; rw [if_neg e] at hgt; omega
    · intro x y x0 x1 y0 y1
      unfold At
      rw [(hR.2 x x0 x1).2 y y0 y1]
      split <;> omega
    · intro x x0 x1
      unfold At
      rw [(hR.2 x x0 x1).2 x x0 x1, if_pos rfl]; omega
  | succ c ih =>
    intro a d a0 hac hR
    refine .succ ?_
    simp (disch := omega) only [jacquardref30_Walks.c4, ↓cdT, ↓if_pos]
    exact walks_c8 hn0 hn a0 (by omega) hR (fun d' hR' => ih (a + 1) d' (by omega) (by omega) hR') n.toNat 0 (List.replicate n.toNat 0) (by omega) (by omega) (by simp; omega) (fun j h1 h2 => by omega)
end
/-- WALKS. -/
theorem walks_f {n0 : Int} {arcs : List Arc} {ii : Int} (hn : nod n0 ≤ 20) (hlen : arcs.length ≤ 1000000) : W (fun q => jacquardref30_Walks.f q n0 arcs ii) (Paths (nod n0) arcs ii) := by
  have h0 := nod_le n0
  simp only [jacquardref30_Walks.f, nodes_ref, Option.bind_some]
  exact walks_c4 rfl hn hlen (nod n0).toNat 0 [] (by omega) (by omega) ⟨rfl, fun i h1 h2 => by omega⟩
end Go.Proofs.YtehpelomfhaleaaV.Diff
