/- Proofs about the functions, part 3 of 4. -/
import Derived.Test.YtjddmekfeckphaaGreatM1
import Derived.Test.YtjddmekfeckphaaGreatM0
import Derived.KernelRfl
import Derived.Test.YtjddmekfeckphaaGreatF
set_option linter.unusedVariables false
set_option linter.unusedSimpArgs false
namespace Go.Proofs.YtjddmekfeckphaaGreatV.Diff
open Go Go.Vm
theorem nodes_ref (n : Int) : jacquardref30_Nodes.f n = some (nod n) := rfl
theorem weight_ref (a : Arc) (ii : Int) : jacquardref30_Weight.f a ii = some (wt a ii) := by
 have h1 := clamp_le (Arc.Lat a) (-1048576) 1048576 (by omega)
 have h2 := clamp_le (Arc.Dist a) (-1048576) 1048576 (by omega)
 have h3 := clamp_le ii 0 256 (by omega)
 have h4 := prod_le h3.1 h3.2 h2.1 h2.2
 unfold jacquardref30_Weight.f
 rw [show w64 (0 - 1048576) = -1048576 by rw [wrap_id (by omega) (by omega)]; omega]
 rw [wrap_id (n := mn (mx ii 0) 256 * mn (mx (Arc.Dist a) (-1048576)) 1048576) (by omega) (by omega), wrap_id (by omega) (by omega)]
 rfl
theorem counts_ref (n : Int) (a : Arc) : jacquardref30_Counts.f n a = some (decide (Inn (nod n) a)) := by
 unfold jacquardref30_Counts.f
 rw [nodes_ref]
 by_cases h0 : 0 <= (Arc.From a) <;> by_cases h1 : (Arc.From a) < nod n <;> by_cases h2 : 0 <= (Arc.To a) <;> by_cases h3 : (Arc.To a) < nod n <;> simp [Inn, h0, h1, h2, h3]
theorem bound_ref {l : List Int} {v : Int} (h : 0 <= v) : jacquardref30_Bound.f l v = some (bnd l v) := by
 unfold jacquardref30_Bound.f bnd
 by_cases h1 : (l.length : Int) <= v
 . simp (disch := omega) only [↓cdT, if_pos]
 . simp (disch := omega) only [↓cdF, if_pos, if_neg]
def At (d : List (List Int)) (a b : Int) : Int := rd (rd d a) b
def Sq (n : Int) (d : List (List Int)) : Prop := (d.length : Int) = n /\ ∀ a : Int, 0 <= a -> a < n -> ((rd d a).length : Int) = n
theorem rdL_set {d : List (List Int)} {a a' : Int} {v : List Int} (h0 : 0 <= a) (h1 : a < d.length) (h2 : 0 <= a') : rd (d.set a.toNat v) a' = if a' = a then v else rd d a' := rd_set h0 h1 h2
theorem at_put {n : Int} {d : List (List Int)} (hs : Sq n d) {a b v : Int} (ha0 : 0 <= a) (ha1 : a < n) (hb0 : 0 <= b) (hb1 : b < n) :
 Sq n (d.set a.toNat ((rd d a).set b.toNat v)) /\ ∀ a' b', 0 <= a' -> 0 <= b' -> At (d.set a.toNat ((rd d a).set b.toNat v)) a' b' = if a' = a /\ b' = b then v else At d a' b' := by
 obtain ⟨hl, hr⟩ := hs
 have hra := hr a ha0 ha1
 refine ⟨⟨by simpa using hl, fun a' h0 h1 => ?_⟩, fun a' b' h0 h1 => ?_⟩
 . rw [rdL_set ha0 (by omega) h0]
   split
   . simpa using hra
   . exact hr a' h0 h1
 . unfold At
   rw [rdL_set ha0 (by omega) h0]
   by_cases e : a' = a
   . subst e
     rw [if_pos rfl, rd_set hb0 (by omega) h1]
     by_cases e2 : b' = b
     . rw [if_pos e2, if_pos ⟨rfl, e2⟩]
     . rw [if_neg e2, if_neg (fun h => e2 h.2)]
   . rw [if_neg e, if_neg (fun h => e h.1)]
def upd (m : Int -> Int -> Int) (k a b : Int) : Int := if m a k > -1152921504606846976 then (if m k b > -1152921504606846976 then mx (m a b) (m a k + m k b) else m a b) else m a b
structure FW (n : Int) (arcs : List Arc) (ii : Int) (k B : Int) (m : Int -> Int -> Int) : Prop where
 snd : ∀ p : Int -> Int, Feas n arcs ii p -> ∀ a b, 0 <= a -> a < n -> 0 <= b -> b < n -> m a b > -1152921504606846976 -> m a b <= p b - p a
 bd : ∀ a b, 0 <= a -> a < n -> 0 <= b -> b < n -> m a b = -1152921504606846976 \/ (-B <= m a b /\ m a b <= B)
 dg : ∀ a, 0 <= a -> a < n -> 0 <= m a a
 cl : ∀ a b c, 0 <= a -> a < n -> 0 <= b -> b < n -> 0 <= c -> c < k -> m a c > -1152921504606846976 -> m c b > -1152921504606846976 -> m a c + m c b <= m a b
 ar : ∀ i : Int, 0 <= i -> i < arcs.length -> Inn n (rd arcs i) -> wt (rd arcs i) ii <= m (Arc.From (rd arcs i)) (Arc.To (rd arcs i))
section
variable {n : Int} {arcs : List Arc} {ii k B : Int} {m : Int -> Int -> Int}
theorem upd_row (h0 : m k k = 0) (b : Int) : upd m k k b = m k b := by
 unfold upd
 rw [h0]
 rw [if_pos (by omega)]
 split
 . unfold mx; omega
 . rfl
theorem upd_col (h0 : m k k = 0) (a : Int) : upd m k a k = m a k := by
 unfold upd
 split
 . rw [h0, if_pos (by omega)]; unfold mx; omega
 . rfl
theorem upd_ge (a b : Int) : m a b <= upd m k a b := by
 unfold upd
 split
 . split
   . unfold mx; omega
   . omega
 . omega
theorem FW.step (h : FW n arcs ii k B m) (hk0 : 0 <= k) (hk1 : k < n) (h0 : m k k = 0) (hB0 : 0 <= B) (hB : B <= 288230376151711744) : FW n arcs ii (k + 1) (2 * B) (upd m k) where
 snd p hp a b a0 a1 b0 b1 hgt := by
  unfold upd at hgt ⊢
  split
  . rename_i c1
    rw [if_pos c1] at hgt
    split
    . rename_i c2
      have e1 := h.snd p hp a k a0 a1 hk0 hk1 c1
      have e2 := h.snd p hp k b hk0 hk1 b0 b1 c2
      unfold mx
      split
      . omega
      . rename_i c3
        by_cases c4 : m a b > -1152921504606846976
        . exact h.snd p hp a b a0 a1 b0 b1 c4
        . have f1 := h.bd a k a0 a1 hk0 hk1
          have f2 := h.bd k b hk0 hk1 b0 b1
          omega
    . rename_i c2
      rw [if_neg c2] at hgt
      exact h.snd p hp a b a0 a1 b0 b1 hgt
  . rename_i c1
    rw [if_neg c1] at hgt
    exact h.snd p hp a b a0 a1 b0 b1 hgt
 bd a b a0 a1 b0 b1 := by
  have f0 := h.bd a b a0 a1 b0 b1
  have f1 := h.bd a k a0 a1 hk0 hk1
  have f2 := h.bd k b hk0 hk1 b0 b1
  unfold upd
  split
  . split
    . unfold mx
      split <;> omega
    . omega
  . omega
 dg a a0 a1 := Int.le_trans (h.dg a a0 a1) (upd_ge a a)
 ar i i0 i1 hi := Int.le_trans (h.ar i i0 i1 hi) (upd_ge _ _)
 cl a b c a0 a1 b0 b1 c0 c1 h1 h2 := by
  by_cases ck : c = k
  . subst ck
    rw [upd_row h0, upd_col h0] at *
    have : upd m c a b = mx (m a b) (m a c + m c b) := by unfold upd; rw [if_pos h1, if_pos h2]
    rw [this]
    unfold mx; split <;> omega
  . have c1' : c < k := by omega
    have cn : c < n := by omega
    have e0 := h.cl a b c a0 a1 b0 b1 c0 c1'
    have e1 := h.cl a k c a0 a1 hk0 hk1 c0 c1'
    have e2 := h.cl k b c hk0 hk1 b0 b1 c0 c1'
    have e3 := h.cl k k c hk0 hk1 hk0 hk1 c0 c1'
    have g1 := h.bd a c a0 a1 c0 cn
    have g2 := h.bd c b c0 cn b0 b1
    have g3 := h.bd a k a0 a1 hk0 hk1
    have g4 := h.bd k b hk0 hk1 b0 b1
    have g5 := h.bd k c hk0 hk1 c0 cn
    have g6 := h.bd c k c0 cn hk0 hk1
    rw [h0] at e3
    unfold upd at h1 h2 ⊢
    unfold mx at h1 h2 ⊢
    by_cases q1 : m a k > -1152921504606846976 <;> by_cases q2 : m k b > -1152921504606846976 <;> by_cases q3 : m k c > -1152921504606846976 <;> by_cases q4 : m c k > -1152921504606846976 <;>
     simp only [q1, q2, q3, q4, if_true, if_false] at h1 h2 ⊢ <;> omega
end
theorem pow_le {k : Nat} (h : k <= 22) : (269484032 : Int) * 2 ^ k <= 288230376151711744 := by
 have h1 : (2 : Nat) ^ k <= 2 ^ 22 := Nat.pow_le_pow_right (by omega) h
 have h2 : (2 : Nat) ^ k <= 4194304 := Nat.le_trans h1 (by decide)
 have h3 : ((2 ^ k : Nat) : Int) <= 4194304 := by omega
 rw [Int.natCast_pow] at h3
 have h4 : (2 : Int) ^ k <= 4194304 := h3
 omega
theorem pow_pos' (k : Nat) : (0 : Int) <= 269484032 * 2 ^ k := by
 have : (0 : Int) < 2 ^ k := Int.pow_pos (by omega)
 omega
theorem pow_succ' (k : Nat) : (269484032 : Int) * 2 ^ (k + 1) = 2 * (269484032 * 2 ^ k) := by
 rw [Int.pow_succ]; omega
def Paths (n : Int) (arcs : List Arc) (ii : Int) (r : List (List Int) × Bool × Unit) : Prop :=
 (r.2.1 = true /\ Sq n r.1 /\ FW n arcs ii n 288230376151711744 (At r.1)) \/ (r.2.1 = false /\ r.1 = [] /\ ∀ p, ¬ Feas n arcs ii p)
section
variable {n : Int} {arcs : List Arc} {ii : Int}
theorem FW.loop_no {k B : Int} {m : Int -> Int -> Int} (h : FW n arcs ii k B m) {a : Int} (h0 : 0 <= a) (h1 : a < n) (hp : m a a > 0) : ∀ p, ¬ Feas n arcs ii p := fun p hf => by
 have := h.snd p hf a a h0 h1 h0 h1 (by omega)
 omega
theorem FW.congr {k B : Int} {m m' : Int -> Int -> Int} (h : FW n arcs ii k B m) (e : ∀ a b, 0 <= a -> a < n -> 0 <= b -> b < n -> m' a b = m a b) (hk : k <= n) : FW n arcs ii k B m' where
 snd p hp a b a0 a1 b0 b1 hgt := by rw [e a b a0 a1 b0 b1] at *; exact h.snd p hp a b a0 a1 b0 b1 hgt
 bd a b a0 a1 b0 b1 := by rw [e a b a0 a1 b0 b1]; exact h.bd a b a0 a1 b0 b1
 dg a a0 a1 := by rw [e a a a0 a1 a0 a1]; exact h.dg a a0 a1
 cl a b c a0 a1 b0 b1 c0 c1 h1 h2 := by rw [e a c a0 a1 c0 (by omega)] at *; rw [e c b c0 (by omega) b0 b1] at *; rw [e a b a0 a1 b0 b1]; exact h.cl a b c a0 a1 b0 b1 c0 c1 h1 h2
 ar i i0 i1 hi := by rw [e _ _ hi.1 hi.2.1 hi.2.2.1 hi.2.2.2]; exact h.ar i i0 i1 hi
theorem FW.wide {k B B' : Int} {m : Int -> Int -> Int} (h : FW n arcs ii k B m) (hB : B <= B') : FW n arcs ii k B' m where
 snd := h.snd
 bd a b a0 a1 b0 b1 := by rcases h.bd a b a0 a1 b0 b1 with e | e <;> omega
 dg := h.dg
 cl := h.cl
 ar := h.ar
def Mid (n : Int) (m : Int -> Int -> Int) (k a b : Int) (d : List (List Int)) : Prop := Sq n d /\ ∀ a' b', 0 <= a' -> a' < n -> 0 <= b' -> b' < n -> At d a' b' = if a' < a \/ (a' = a /\ b' < b) then upd m k a' b' else m a' b'
theorem Mid.col {m : Int -> Int -> Int} {k a b : Int} {d : List (List Int)} (h : Mid n m k a b d) (h0 : m k k = 0) (hk0 : 0 <= k) (hk1 : k < n) (a' : Int) (a0 : 0 <= a') (a1 : a' < n) : At d a' k = m a' k := by
 rw [h.2 a' k a0 a1 hk0 hk1]
 split
 . exact upd_col h0 a'
 . rfl
theorem Mid.row {m : Int -> Int -> Int} {k a b : Int} {d : List (List Int)} (h : Mid n m k a b d) (h0 : m k k = 0) (hk0 : 0 <= k) (hk1 : k < n) (b' : Int) (b0 : 0 <= b') (b1 : b' < n) : At d k b' = m k b' := by
 rw [h.2 k b' hk0 hk1 b0 b1]
 split
 . exact upd_row h0 b'
 . rfl
theorem walks_c30 (hn0 : 0 <= n) (hn : n <= 22) {m : Int -> Int -> Int} {k B : Int} (hF : FW n arcs ii k B m) (hB : B <= 288230376151711744) (hk0 : 0 <= k) (hk1 : k < n) (h0 : m k k = 0) {a : Int} (a0 : 0 <= a) (a1 : a < n) {Q : List (List Int) × Bool × Unit -> Prop}
 (hk : ∀ d, Mid n m k (a + 1) 0 d -> W (fun q => jacquardref30_Walks.c27 q n k n k n (a + 1) d) Q) :
 ∀ (c : Nat) (b : Int) (d : List (List Int)), 0 <= b -> b + c = n -> Mid n m k a b d -> W (fun q => jacquardref30_Walks.c30 q n k a n k n a n b d) Q := by
 intro c
 induction c with
 | zero =>
   intro b d b0 hbc hM
   refine .succ ?_
   simp (disch := omega) only [jacquardref30_Walks.c30, ↓cdF, w64_id]
   refine hk d ⟨hM.1, fun a' b' p0 p1 q0 q1 => ?_⟩
   rw [hM.2 a' b' p0 p1 q0 q1]
   by_cases e : a' < a \/ a' = a /\ b' < b
   . rw [if_pos e, if_pos (by omega)]
   . rw [if_neg e, if_neg (by omega)]
 | succ c ih =>
   intro b d b0 hbc hM
   have hS := hM.1
   have hla := hS.2 a a0 a1
   have hlk := hS.2 k hk0 hk1
   have hld := hS.1
   have hb1 : b < n := by omega
   have hca := hM.col h0 hk0 hk1 a a0 a1
   have hrb := hM.row h0 hk0 hk1 b b0 hb1
   have hab : At d a b = m a b := by rw [hM.2 a b a0 a1 b0 hb1, if_neg (by omega)]
   have g1 := hF.bd a k a0 a1 hk0 hk1
   have g2 := hF.bd k b hk0 hk1 b0 hb1
   unfold At at hca hrb hab
   have hsame : upd m k a b = m a b -> Mid n m k a (b + 1) d := fun hu => ⟨hS, fun a' b' p0 p1 q0 q1 => by
    rw [hM.2 a' b' p0 p1 q0 q1]
    by_cases e : a' = a /\ b' = b
    . rw [e.1, e.2, if_neg (by omega), if_pos (by omega), hu]
    . by_cases e2 : a' < a \/ a' = a /\ b' < b
      . rw [if_pos e2, if_pos (by omega)]
      . rw [if_neg e2, if_neg (by omega)]⟩
   refine .succ ?_
   simp (disch := omega) only [jacquardref30_Walks.c30, ↓cdT, ↓if_pos, hca, hrb, hab, w64_id (n := b + 1)]
   refine .dec (fun c1 => ?_) fun c1 => ?_
   . refine .dec (fun c2 => ?_) fun c2 => ?_
     . have hput := at_put hS (v := mx (m a b) (m a k + m k b)) a0 a1 b0 hb1
       rw [w64_id (n := m a k + m k b) (by omega) (by omega)]
       refine ih (b + 1) (d.set a.toNat ((rd d a).set b.toNat (mx (m a b) (m a k + m k b)))) (by omega) (by omega) ⟨hput.1, fun a' b' p0 p1 q0 q1 => ?_⟩
       rw [hput.2 a' b' p0 q0]
       by_cases e : a' = a /\ b' = b
       . rw [if_pos e, if_pos (by omega), e.1, e.2]; unfold upd; rw [if_pos c1, if_pos c2]
       . rw [if_neg e, hM.2 a' b' p0 p1 q0 q1]
         by_cases e2 : a' < a \/ a' = a /\ b' < b
         . rw [if_pos e2, if_pos (by omega)]
         . rw [if_neg e2, if_neg (by omega)]
     . exact ih (b + 1) d (by omega) (by omega) (hsame (by unfold upd; rw [if_pos c1, if_neg c2]))
   . exact ih (b + 1) d (by omega) (by omega) (hsame (by unfold upd; rw [if_neg c1]))
theorem walks_c27 (hn0 : 0 <= n) (hn : n <= 22) {m : Int -> Int -> Int} {k B : Int} (hF : FW n arcs ii k B m) (hB : B <= 288230376151711744) (hk0 : 0 <= k) (hk1 : k < n) (h0 : m k k = 0) {Q : List (List Int) × Bool × Unit -> Prop}
 (hk : ∀ d, Sq n d -> (∀ a b, 0 <= a -> a < n -> 0 <= b -> b < n -> At d a b = upd m k a b) -> W (fun q => jacquardref30_Walks.c37 q n n k n 0 d) Q) :
 ∀ (c : Nat) (a : Int) (d : List (List Int)), 0 <= a -> a + c = n -> Mid n m k a 0 d -> W (fun q => jacquardref30_Walks.c27 q n k n k n a d) Q := by
 intro c
 induction c with
 | zero =>
   intro a d a0 hac hM
   refine .succ ?_
   simp (disch := omega) only [jacquardref30_Walks.c27, ↓cdF]
   refine hk d hM.1 (fun a' b' p0 p1 q0 q1 => ?_)
   rw [hM.2 a' b' p0 p1 q0 q1, if_pos (by omega)]
 | succ c ih =>
   intro a d a0 hac hM
   refine .succ ?_
   simp (disch := omega) only [jacquardref30_Walks.c27, ↓cdT]
   exact walks_c30 hn0 hn hF hB hk0 hk1 h0 a0 (by omega) (fun d' hM' => ih (a + 1) d' (by omega) (by omega) hM') n.toNat 0 d (by omega) (by omega) hM
theorem walks_c37 (hn0 : 0 <= n) (hn : n <= 22) {d : List (List Int)} (hS : Sq n d) {k B : Int} (hF : FW n arcs ii (k + 1) B (At d)) (hk0 : 0 <= k) (hk1 : k < n)
 (hk : (∀ a, 0 <= a -> a < n -> At d a a <= 0) -> W (fun q => jacquardref30_Walks.c22 q n n (k + 1) d) (Paths n arcs ii)) :
 ∀ (c : Nat) (a : Int), 0 <= a -> a + c = n -> (∀ a', 0 <= a' -> a' < a -> At d a' a' <= 0) -> W (fun q => jacquardref30_Walks.c37 q n n k n a d) (Paths n arcs ii) := by
 intro c
 induction c with
 | zero =>
   intro a a0 hac hx
   refine .succ ?_
   simp (disch := omega) only [jacquardref30_Walks.c37, ↓cdF, w64_id]
   exact hk (fun a' h1 h2 => hx a' h1 (by omega))
 | succ c ih =>
   intro a a0 hac hx
   have hla := hS.2 a a0 (by omega)
   have hld := hS.1
   refine .succ ?_
   simp (disch := omega) only [jacquardref30_Walks.c37, ↓cdT, ↓if_pos, w64_id]
   refine .dec (fun hp => .ret (Or.inr ⟨rfl, rfl, hF.loop_no a0 (by omega) hp⟩)) fun hp => ?_
   exact ih (a + 1) (by omega) (by omega) (fun a' h1 h2 => by
    by_cases e : a' = a
    . subst e; unfold At; omega
    . exact hx a' h1 (by omega))
theorem walks_c22 (hn0 : 0 <= n) (hn : n <= 22) : ∀ (c : Nat) (k : Nat) (d : List (List Int)), (k : Int) + c = n -> Sq n d -> FW n arcs ii k (269484032 * 2 ^ k) (At d) -> W (fun q => jacquardref30_Walks.c22 q n n k d) (Paths n arcs ii) := by
 intro c
 induction c with
 | zero =>
   intro k d hkc hS hF
   refine .succ ?_
   simp (disch := omega) only [jacquardref30_Walks.c22, ↓cdF]
   refine .ret (Or.inl ⟨rfl, hS, ?_⟩)
   have hkn : (k : Int) = n := by omega
   rw [hkn] at hF
   exact hF.wide (pow_le (by omega))
 | succ c ih =>
   intro k d hkc hS hF
   have hlk := hS.2 k (by omega) (by omega)
   have hld := hS.1
   refine .succ ?_
   simp (disch := omega) only [jacquardref30_Walks.c22, ↓cdT, ↓if_pos]
   refine .dec (fun hp => .ret (Or.inr ⟨rfl, rfl, hF.loop_no (a := (k : Int)) (by omega) (by omega) hp⟩)) fun hp => ?_
   have h0 : At d k k = 0 := by have := hF.dg k (by omega) (by omega); unfold At at *; omega
   have hstep := hF.step (by omega) (by omega) h0 (pow_pos' k) (pow_le (by omega))
   refine walks_c27 hn0 hn hF (pow_le (by omega)) (by omega) (by omega) h0 (fun d' hS' hU => ?_) n.toNat 0 d (by omega) (by omega) ⟨hS, fun a' b' p0 p1 q0 q1 => by rw [if_neg (by omega)]⟩
   have hF' : FW n arcs ii (k + 1) (2 * (269484032 * 2 ^ k)) (At d') := hstep.congr hU (by omega)
   refine walks_c37 hn0 hn hS' hF' (by omega) (by omega) (fun _ => ?_) n.toNat 0 (by omega) (by omega) (fun a' h1 h2 => by omega)
   rw [<- pow_succ'] at hF'
   exact ih (k + 1) d' (by omega) hS' hF'
structure Begin (n : Int) (arcs : List Arc) (ii i : Int) (m : Int -> Int -> Int) : Prop where
 snd : ∀ p : Int -> Int, Feas n arcs ii p -> ∀ a b, 0 <= a -> a < n -> 0 <= b -> b < n -> m a b > -1152921504606846976 -> m a b <= p b - p a
 bd : ∀ a b, 0 <= a -> a < n -> 0 <= b -> b < n -> m a b = -1152921504606846976 \/ (-269484032 <= m a b /\ m a b <= 269484032)
 dg : ∀ a, 0 <= a -> a < n -> 0 <= m a a
 ar : ∀ j : Int, 0 <= j -> j < i -> Inn n (rd arcs j) -> wt (rd arcs j) ii <= m (Arc.From (rd arcs j)) (Arc.To (rd arcs j))
theorem walks_c16 {n0 : Int} (hn : n = nod n0) (hn20 : n <= 22) (hlen : arcs.length <= 1000000) : ∀ (c : Nat) (i : Int) (d : List (List Int)), 0 <= i -> i + c = arcs.length -> Sq n d -> Begin n arcs ii i (At d) -> W (fun q => jacquardref30_Walks.c16 q n arcs ii arcs.length i d) (Paths n arcs ii) := by
 have hn0 : 0 <= n := by have := nod_le n0; omega
 have hnn : nod n = n := by rw [hn]; unfold nod mn mx; repeat' split
                            all_goals omega
 intro c
 induction c with
 | zero =>
   intro i d i0 hic hS hB
   refine .succ ?_
   simp (disch := omega) only [jacquardref30_Walks.c16, ↓cdF]
   exact walks_c22 hn0 hn20 n.toNat 0 d (by omega) hS ⟨hB.snd, hB.bd, hB.dg, fun a b c _ _ _ _ h1 h2 => by simp at h2; omega, fun j h1 h2 h3 => hB.ar j h1 (by omega) h3⟩
 | succ c ih =>
   intro i d i0 hic hS hB
   refine .succ ?_
   simp (disch := omega) only [jacquardref30_Walks.c16, ↓cdT, ↓if_pos, counts_ref, hnn, Option.bind_some, weight_ref, w64_id (n := i + 1)]
   refine .dec (fun hi => ?_) fun hi => ?_
   . obtain ⟨u0, u1, v0, v1⟩ := id hi
     have hput := at_put hS (v := mx (At d (Arc.From (rd arcs i)) (Arc.To (rd arcs i))) (wt (rd arcs i) ii)) u0 u1 v0 v1
     have hw := wt_le (rd arcs i) ii
     have hru := hS.2 _ u0 u1
     have hld := hS.1
     simp (disch := omega) only [↓if_pos]
     refine ih (i + 1) (d.set (Arc.From (rd arcs i)).toNat ((rd d (Arc.From (rd arcs i))).set (Arc.To (rd arcs i)).toNat (mx (At d (Arc.From (rd arcs i)) (Arc.To (rd arcs i))) (wt (rd arcs i) ii)))) (by omega) (by omega) hput.1 ⟨?_, ?_, ?_, ?_⟩
     . intro p hp a b a0 a1 b0 b1 hgt
       rw [hput.2 a b a0 b0] at hgt ⊢
       split
       . rename_i e
         rw [if_pos e] at hgt
         rw [e.1, e.2]
         have f1 := hp i i0 (by omega) hi
         have f2 := hB.snd p hp _ _ u0 u1 v0 v1
         have f3 := hB.bd _ _ u0 u1 v0 v1
         unfold mx
         split
         . omega
         . by_cases c4 : At d (Arc.From (rd arcs i)) (Arc.To (rd arcs i)) > -1152921504606846976
           . exact f2 c4
           . omega
       . rename_i e
         rw [if_neg e] at hgt
         exact hB.snd p hp a b a0 a1 b0 b1 hgt
     . intro a b a0 a1 b0 b1
       rw [hput.2 a b a0 b0]
       split
       . have f3 := hB.bd _ _ u0 u1 v0 v1
         unfold mx
         split <;> omega
       . exact hB.bd a b a0 a1 b0 b1
     . intro a a0 a1
       rw [hput.2 a a a0 a0]
       split
       . rename_i e
         have f := hB.dg a a0 a1
         rw [e.1] at f
         have e3 : (Arc.From (rd arcs i)) = (Arc.To (rd arcs i)) := by omega
         rw [<- e3]
         unfold mx; split <;> omega
       . exact hB.dg a a0 a1
     . intro j j0 j1 hj
       rw [hput.2 _ _ hj.1 hj.2.2.1]
       by_cases e : j = i
       . subst e
         rw [if_pos ⟨rfl, rfl⟩]
         unfold mx; split <;> omega
       . have f := hB.ar j j0 (by omega) hj
         split
         . rename_i e2
           rw [e2.1, e2.2] at f
           unfold mx; split <;> omega
         . exact f
   . refine ih (i + 1) d (by omega) (by omega) hS ⟨hB.snd, hB.bd, hB.dg, fun j j0 j1 hj => ?_⟩
     by_cases e : j = i
     . subst e; exact absurd hj hi
     . exact hB.ar j j0 (by omega) hj
def Rows0 (n : Int) (a : Int) (d : List (List Int)) : Prop := (d.length : Int) = a /\ ∀ i : Int, 0 <= i -> i < a -> ((rd d i).length : Int) = n /\ ∀ j, 0 <= j -> j < n -> rd (rd d i) j = if j = i then 0 else -1152921504606846976
theorem rdL_append {d : List (List Int)} {v : List Int} {i : Int} (h0 : 0 <= i) (h2 : i <= d.length) : rd (d ++ [v]) i = if i < d.length then rd d i else v := by
 by_cases h1 : i < d.length
 . rw [if_pos h1]; exact rd_append_left (by omega)
 . rw [if_neg h1]; exact rd_append_right (by omega)
theorem walks_c8 (hn0 : 0 <= n) (hn : n <= 22) {a : Int} (a0 : 0 <= a) (a1 : a < n) {d : List (List Int)} (hd : Rows0 n a d) {Q : List (List Int) × Bool × Unit -> Prop}
 (hk : ∀ d', Rows0 n (a + 1) d' -> W (fun q => jacquardref30_Walks.c4 q n arcs ii n (a + 1) d') Q) :
 ∀ (c : Nat) (b : Int) (l : List Int), 0 <= b -> b + c = n -> (l.length : Int) = n -> (∀ j, 0 <= j -> j < b -> rd l j = -1152921504606846976) -> W (fun q => jacquardref30_Walks.c8 q n arcs ii a n a n b d l) Q := by
 have hdl := hd.1
 intro c
 induction c with
 | zero =>
   intro b l b0 hbc hl hx
   refine .succ ?_
   simp (disch := first | omega | (simp only [List.length_singleton]; omega)) only [jacquardref30_Walks.c8, ↓cdF, ↓if_pos, ↓bleT, w64_id]
   refine hk (d ++ [l.set a.toNat 0]) ⟨by simp; omega, fun i i0 i1 => ?_⟩
   rw [rdL_append i0 (by omega)]
   by_cases e : i < d.length
   . rw [if_pos e]; exact hd.2 i i0 (by omega)
   . rw [if_neg e]
     refine ⟨by simpa using hl, fun j j0 j1 => ?_⟩
     rw [rd_set a0 (by omega) j0, show i = a by omega]
     split
     . rfl
     . exact hx j j0 (by omega)
 | succ c ih =>
   intro b l b0 hbc hl hx
   refine .succ ?_
   simp (disch := omega) only [jacquardref30_Walks.c8, ↓cdT, ↓if_pos, w64_id]
   refine ih (b + 1) (l.set b.toNat (-1152921504606846976)) (by omega) (by omega) (by simpa using hl) (fun j j0 j1 => ?_)
   rw [rd_set b0 (by omega) j0]
   split
   . rfl
   . exact hx j j0 (by omega)
theorem walks_c4 {n0 : Int} (hnd : n = nod n0) (hn : n <= 22) (hlen : arcs.length <= 1000000) : ∀ (c : Nat) (a : Int) (d : List (List Int)), 0 <= a -> a + c = n -> Rows0 n a d -> W (fun q => jacquardref30_Walks.c4 q n arcs ii n a d) (Paths n arcs ii) := by
 have hn0 : 0 <= n := by have := nod_le n0; omega
 intro c
 induction c with
 | zero =>
   intro a d a0 hac hR
   have ea : a = n := by omega
   subst ea
   refine .succ ?_
   simp (disch := omega) only [jacquardref30_Walks.c4, ↓cdF]
   refine walks_c16 hnd hn hlen arcs.length 0 d (by omega) (by omega) ⟨hR.1, fun i h1 h2 => (hR.2 i h1 h2).1⟩ ⟨?_, ?_, ?_, fun j h1 h2 => by omega⟩
   . intro p hp x y x0 x1 y0 y1 hgt
     unfold At at hgt ⊢
     rw [(hR.2 x x0 x1).2 y y0 y1] at hgt ⊢
     split
     . rename_i e; subst e; omega
     . rename_i e; rw [if_neg e] at hgt; omega
   . intro x y x0 x1 y0 y1
     unfold At
     rw [(hR.2 x x0 x1).2 y y0 y1]
     split <;> omega
   . intro x x0 x1
     unfold At
     rw [(hR.2 x x0 x1).2 x x0 x1, if_pos rfl]; omega
 | succ c ih =>
   intro a d a0 hac hR
   refine .succ ?_
   simp (disch := omega) only [jacquardref30_Walks.c4, ↓cdT, ↓if_pos]
   exact walks_c8 hn0 hn a0 (by omega) hR (fun d' hR' => ih (a + 1) d' (by omega) (by omega) hR') n.toNat 0 (List.replicate n.toNat 0) (by omega) (by omega) (by simp; omega) (fun j h1 h2 => by omega)
end
theorem walks_f {n0 : Int} {arcs : List Arc} {ii : Int} (hn : nod n0 <= 22) (hlen : arcs.length <= 1000000) : W (fun q => jacquardref30_Walks.f q n0 arcs ii) (Paths (nod n0) arcs ii) := by
 have h0 := nod_le n0
 simp only [jacquardref30_Walks.f, nodes_ref, Option.bind_some]
 exact walks_c4 rfl hn hlen (nod n0).toNat 0 [] (by omega) (by omega) ⟨rfl, fun i h1 h2 => by omega⟩
end Go.Proofs.YtjddmekfeckphaaGreatV.Diff
namespace Go.Proofs.YtjddmekfeckphaaGreatV.Diff
open Go Go.Vm
def Best (n : Int) (lo : Int -> Int) (m : Int -> Int -> Int) (b c v : Int) : Prop :=
 lo b <= v /\ v <= 600000000000000000 /\ (∀ a, 0 <= a -> a < c -> m a b > -1152921504606846976 -> lo a + m a b <= v) /\ ∀ x, lo b <= x -> (∀ a, 0 <= a -> a < c -> m a b > -1152921504606846976 -> lo a + m a b <= x) -> v <= x
def AnswerR (n : Int) (arcs : List Arc) (ii : Int) (lo : Int -> Int) (r : List Int × Bool × Unit) : Prop :=
 (r.2.1 = true /\ (r.1.length : Int) = n /\ (∀ v, 0 <= v -> v < n -> lo v <= rd r.1 v /\ rd r.1 v <= 600000000000000000) /\ Feas n arcs ii (rd r.1) /\ ∀ p : Int -> Int, Feas n arcs ii p -> (∀ v, 0 <= v -> v < n -> lo v <= p v) -> ∀ v, 0 <= v -> v < n -> rd r.1 v <= p v) \/
 (r.2.1 = false /\ r.1 = [] /\ ∀ p, ¬ Feas n arcs ii p)
section
variable {n : Int} {arcs : List Arc} {ii : Int}
theorem best_feas {lo : Int -> Int} {m : Int -> Int -> Int} (hF : FW n arcs ii n 288230376151711744 m) {out : Int -> Int} (hb : ∀ b, 0 <= b -> b < n -> Best n lo m b n (out b)) :
 Feas n arcs ii out /\ ∀ p : Int -> Int, Feas n arcs ii p -> (∀ v, 0 <= v -> v < n -> lo v <= p v) -> ∀ v, 0 <= v -> v < n -> out v <= p v := by
 constructor
 . intro i i0 i1 hi
   obtain ⟨u0, u1, v0, v1⟩ := id hi
   have hw := wt_le (rd arcs i) ii
   have ha := hF.ar i i0 i1 hi
   have bu := hb _ u0 u1
   have bv := hb _ v0 v1
   have := bu.2.2.2 (out (Arc.To (rd arcs i)) - wt (rd arcs i) ii) (by have := bv.2.2.1 _ u0 u1 (by omega); omega) (fun a a0 a1 hgt => by
    have e1 := hF.cl a _ _ a0 a1 v0 v1 u0 u1 hgt (by omega)
    have g1 := hF.bd a _ a0 a1 u0 u1
    have e2 := bv.2.2.1 a a0 a1 (by omega)
    omega)
   omega
 . intro p hp hl v v0 v1
   refine (hb v v0 v1).2.2.2 (p v) (hl v v0 v1) (fun a a0 a1 hgt => ?_)
   have := hF.snd p hp a v a0 a1 v0 v1 hgt
   have := hl a a0 a1
   omega
theorem after_ref_c10 (hn0 : 0 <= n) (hn : n <= 8192) {lower : List Int} {d : List (List Int)} (hS : Sq n d) (hF : FW n arcs ii n 288230376151711744 (At d)) {b : Int} (b0 : 0 <= b) (b1 : b < n) {out : List Int} (hout : out.length <= 8192) {Q : List Int × Bool × Unit -> Prop}
 (hk : ∀ v, Best n (bnd lower) (At d) b n v -> W (fun q => jacquardref30_After.c6 q lower n (b + 1) d (out ++ [v])) Q) :
 ∀ (c : Nat) (a v : Int), 0 <= a -> a + c = n -> Best n (bnd lower) (At d) b a v -> W (fun q => jacquardref30_After.c10 q lower b v n b n a d out) Q := by
 intro c
 induction c with
 | zero =>
   intro a v a0 hac hB
   obtain rfl : a = n := by omega
   refine .succ ?_
   simp (disch := first | omega | (simp only [List.length_singleton]; omega)) only [jacquardref30_After.c10, ↓cdF, ↓bleT, w64_id]
   exact hk v hB
 | succ c ih =>
   intro a v a0 hac hB
   have hla := hS.2 a a0 (by omega)
   have hld := hS.1
   have g := hF.bd a b a0 (by omega) b0 b1
   have hbl := bnd_le lower a
   refine .succ ?_
   simp (disch := omega) only [jacquardref30_After.c10, ↓cdT, ↓if_pos, bound_ref, Option.bind_some, w64_id (n := a + 1)]
   refine .dec (fun c1 => ?_) fun c1 => ?_
   . change At d a b > -1152921504606846976 at c1
     have hB1 := hB.1
     have hB2 := hB.2.1
     have e0 : w64 (bnd lower a + rd (rd d a) b) = bnd lower a + At d a b := by unfold At at *; exact w64_id (by omega) (by omega)
     rw [e0]
     refine ih (a + 1) (mx v (bnd lower a + At d a b)) (by omega) (by omega) ⟨?_, ?_, ?_, ?_⟩
     . unfold mx; split <;> omega
     . unfold mx; split <;> omega
     . intro a' h0 h1 hgt
       by_cases e : a' = a
       . subst e; unfold mx; split <;> omega
       . have := hB.2.2.1 a' h0 (by omega) hgt
         unfold mx; split <;> omega
     . intro x hx hall
       have e1 := hB.2.2.2 x hx (fun a' h0 h1 hgt => hall a' h0 (by omega) hgt)
       have e2 := hall a a0 (by omega) c1
       unfold mx; split <;> omega
   . refine ih (a + 1) v (by omega) (by omega) ⟨hB.1, hB.2.1, fun a' h0 h1 hgt => ?_, fun x hx hall => hB.2.2.2 x hx (fun a' h0 h1 hgt => hall a' h0 (by omega) hgt)⟩
     by_cases e : a' = a
     . subst e; exact absurd hgt c1
     . exact hB.2.2.1 a' h0 (by omega) hgt
theorem after_ref_c6 (hn0 : 0 <= n) (hn : n <= 8192) {lower : List Int} {d : List (List Int)} (hS : Sq n d) (hF : FW n arcs ii n 288230376151711744 (At d)) :
 ∀ (c : Nat) (b : Int) (out : List Int), 0 <= b -> b + c = n -> (out.length : Int) = b -> (∀ v, 0 <= v -> v < b -> Best n (bnd lower) (At d) v n (rd out v)) -> W (fun q => jacquardref30_After.c6 q lower n b d out) (AnswerR n arcs ii (bnd lower)) := by
 intro c
 induction c with
 | zero =>
   intro b out b0 hbc hl hx
   obtain rfl : b = n := by omega
   have hf := best_feas (out := rd out) hF hx
   refine .succ ?_
   simp (disch := omega) only [jacquardref30_After.c6, ↓cdF]
   exact .ret (Or.inl ⟨rfl, hl, fun v v0 v1 => ⟨(hx v v0 v1).1, (hx v v0 v1).2.1⟩, hf.1, hf.2⟩)
 | succ c ih =>
   intro b out b0 hbc hl hx
   have hbl := bnd_le lower b
   refine .succ ?_
   simp (disch := omega) only [jacquardref30_After.c6, ↓cdT, bound_ref, Option.bind_some]
   rw [hS.1]
   refine after_ref_c10 hn0 hn (lower := lower) hS hF b0 (by omega) (out := out) (by omega) (fun v hv => ih (b + 1) (out ++ [v]) (by omega) (by omega) (by simp; omega) (fun w w0 w1 => ?_)) n.toNat 0 (bnd lower b) (by omega) (by omega) ⟨by omega, by omega, fun a h0 h1 => by omega, fun x hx _ => hx⟩
   by_cases e : w = b
   . rw [rd_append_right (by omega), e]; exact hv
   . rw [rd_append_left (by omega)]; exact hx w w0 (by omega)
end
theorem after_ref_f {n0 : Int} {arcs : List Arc} {ii : Int} {lower : List Int} (hn : nod n0 <= 22) (hlen : arcs.length <= 1000000) : W (fun q => jacquardref30_After.f q n0 arcs ii lower) (AnswerR (nod n0) arcs ii (bnd lower)) := by
 have h0 := nod_le n0
 simp only [jacquardref30_After.f]
 refine W.bind (walks_f hn hlen) (fun r hr => ?_)
 rcases hr with ⟨h1, h2, h3⟩ | ⟨h1, h2, h3⟩
 . simp only [h1, Bool.not_true, cond_false]
   rw [h2.1]
   exact after_ref_c6 h0.1 h0.2 h2 h3 (nod n0).toNat 0 [] (by omega) (by omega) rfl (fun v a b => by omega)
 . simp only [h1, Bool.not_false, cond_true]
   exact .ret (Or.inr ⟨rfl, rfl, h3⟩)
section
variable {n : Int} {arcs : List Arc} {ii : Int}
end
end Go.Proofs.YtjddmekfeckphaaGreatV.Diff
namespace Go.Proofs.YtjddmekfeckphaaGreatV
open Go Go.Vm
section
variable {f : Flow} {s : Sched}
def tm (f : Flow) (s : Sched) (v : Int) : Int := if v < Flow.Insts f then rd (Sched.Start s) v else if v < Flow.N f then rd (Sched.Params s) (v - Flow.Insts f) else if v = Flow.N f then 0 else Sched.Depth s
theorem tm_bound (F : FITS f s) (V : VALID f) {v : Int} (h0 : 0 <= v) : 0 <= tm f s v /\ tm f s v <= 4096 := by
 unfold tm
 have h1 := F.start
 have h2 := F.params
 have h3 := F.depth
 have hN : Flow.N f = Flow.Insts f + Flow.Params f := rfl
 have hi := V.i0
 split
 . have := F.starts v.toNat (by omega)
   rw [show ((v.toNat : Nat) : Int) = v by omega] at this
   exact this
 . split
   . have := F.parms (v - Flow.Insts f).toNat (by omega)
     rw [show (((v - Flow.Insts f).toNat : Nat) : Int) = v - Flow.Insts f by omega] at this
     exact this
   . split <;> omega
theorem time_ref (F : FITS f s) (V : VALID f) {v : Int} (h0 : 0 <= v) : jacquardref28_Time.f f s v = some (tm f s v) := by
 unfold jacquardref28_Time.f tm jacquardref28_Source.f
 have h1 := F.start
 have h2 := F.params
 have hN : Flow.N f = Flow.Insts f + Flow.Params f := rfl
 have i0 := V.i0
 have i1 := V.i1
 have p0 := V.p0
 have p1 := V.p1
 rw [w64_id (n := Flow.Insts f + Flow.Params f) (by omega) (by omega)]
 simp only [Option.bind_some]
 by_cases hv : v < Flow.Insts f
 . rw [decide_eq_true hv, if_pos hv, if_pos (by omega)]; rfl
 . rw [decide_eq_false hv, if_neg hv]
   simp only [cond_false]
   by_cases hv2 : v < Flow.N f
   . rw [decide_eq_true (show v < Flow.Insts f + Flow.Params f by omega), if_pos hv2]
     simp only [cond_true]
     rw [w64_id (n := v - Flow.Insts f) (by omega) (by omega), if_pos (by omega)]
   . rw [decide_eq_false (show ¬ v < Flow.Insts f + Flow.Params f by omega), if_neg hv2]
     simp only [cond_false]
     by_cases hv3 : v = Flow.N f
     . rw [decide_eq_true (show v = Flow.Insts f + Flow.Params f by omega), if_pos hv3]; rfl
     . rw [decide_eq_false (show ¬ v = Flow.Insts f + Flow.Params f by omega), if_neg hv3]; rfl
def slk (f : Flow) (s : Sched) (i : Nat) : Int := tm f s (Arc.To (rd (Flow.Arcs f) (i : Int))) - tm f s (Arc.From (rd (Flow.Arcs f) (i : Int))) - (Arc.Lat (rd (Flow.Arcs f) (i : Int)) - Sched.II s * Arc.Dist (rd (Flow.Arcs f) (i : Int)))
theorem arc_mul (F : FITS f s) (V : VALID f) {i : Nat} (hi : i < (Flow.Arcs f).length) : 0 <= Sched.II s * Arc.Dist (rd (Flow.Arcs f) (i : Int)) /\ Sched.II s * Arc.Dist (rd (Flow.Arcs f) (i : Int)) <= 65536 := by
 obtain ⟨_, _, _, _, _, _, d0, d1, _⟩ := V.arcs i hi
 have h := F.ii
 refine ⟨Int.mul_nonneg h.1 d0, ?_⟩
 have := Int.mul_le_mul h.2 d1 d0 (by omega)
 omega
theorem late_ref (SF : SIZES f) (S : SSIZES s) (V : VALID f) (F : FITS f s) : Ev (fun k => jacquardref28_Late.f k f s) (pick (fun i => decide (slk f s i < 0)) (fun i => (i : Int)) (Flow.Arcs f).length) := by
 simp only [jacquardref28_Late.f]
 have hs := SF.arcs
 refine Ev.up (c := fun k i => jacquardref28_Late.c3 k ((Flow.Arcs f).length : Int) (i : Int) f s (pick (fun i => decide (slk f s i < 0)) (fun i => (i : Int)) i)) (n := (Flow.Arcs f).length) ?_ (fun i hi ih => ?_) 0 (Nat.zero_le _)
 . refine Ev.step (.ret _) fun k => ?_
   simp only [jacquardref28_Late.c3]
   rw [decide_eq_false (by omega)]
   rfl
 . refine ih.step fun k => ?_
   obtain ⟨a1, a2, a3, a4, a5, a6, d0, d1, _⟩ := V.arcs i hi
   have hm := arc_mul F V hi
   have t1 := tm_bound F V a1
   have t2 := tm_bound F V a3
   have hpl2 := pick_len (fun i => decide (slk f s i < 0)) (fun i => (i : Int)) i
   simp only [jacquardref28_Late.c3, natC, time_ref F V a1, time_ref F V a3, jacquardref28_Weight.f, Option.bind_some]
   rw [w64_id (n := Sched.II s * _) (by omega) (by omega), w64_id (n := _ - Sched.II s * _) (by omega) (by omega), w64_id (n := tm f s _ - tm f s _) (by omega) (by omega), w64_id (n := (i : Int) + 1) (by omega) (by omega)]
   have e : decide (tm f s (Arc.To (rd (Flow.Arcs f) (i : Int))) - tm f s (Arc.From (rd (Flow.Arcs f) (i : Int))) < Arc.Lat (rd (Flow.Arcs f) (i : Int)) - Sched.II s * Arc.Dist (rd (Flow.Arcs f) (i : Int))) = decide (slk f s i < 0) := by
    congr 1
    unfold slk
    apply propext
    omega
   rw [decide_eq_true (show (i : Int) < ((Flow.Arcs f).length : Int) by omega), if_pos (by omega), e, pick_succ]
   have hble : Nat.ble ((pick (fun i => decide (slk f s i < 0)) (fun i => (i : Int)) i).length + [(i : Int)].length) 1073741824 = true := by
    rw [Nat.ble_eq]; simp; omega
   rw [hble]
   by_cases h : slk f s i < 0
   . simp [h]
   . simp [h]
end
end Go.Proofs.YtjddmekfeckphaaGreatV
namespace Go.Proofs.YtjddmekfeckphaaGreatV
open Go Go.Vm
theorem circle {n a b x y : Int} (hn : 0 < n) (hx : 0 < x) (hy : 0 < y) : (∃ c, 0 <= c /\ c < n /\ (c - a) % n < x /\ (c - b) % n < y) ↔ ((b - a) % n < x \/ (a - b) % n < y) := by
 constructor
 . rintro ⟨c, _, _, h1, h2⟩
   have e1 := Int.emod_add_mul_ediv (c - a) n
   have e2 := Int.emod_add_mul_ediv (c - b) n
   have p1 := Int.emod_nonneg (c - a) (by omega : n ≠ 0)
   have p2 := Int.emod_nonneg (c - b) (by omega : n ≠ 0)
   have l1 := Int.emod_lt_of_pos (c - a) hn
   have l2 := Int.emod_lt_of_pos (c - b) hn
   generalize (c - a) % n = u at *
   generalize (c - b) % n = v at *
   generalize (c - a) / n = q1 at *
   generalize (c - b) / n = q2 at *
   rcases Int.le_total v u with h | h
   . left
     have : b - a = (u - v) + n * (q1 - q2) := by rw [Int.mul_sub]; omega
     rw [this, Int.add_mul_emod_self_left, Int.emod_eq_of_lt (by omega) (by omega)]
     omega
   . right
     have : a - b = (v - u) + n * (q2 - q1) := by rw [Int.mul_sub]; omega
     rw [this, Int.add_mul_emod_self_left, Int.emod_eq_of_lt (by omega) (by omega)]
     omega
 . rintro (h | h)
   . refine ⟨b % n, Int.emod_nonneg _ (by omega), Int.emod_lt_of_pos _ hn, ?_, ?_⟩
     . rw [Int.emod_sub_emod]; exact h
     . rw [Int.emod_sub_emod, Int.sub_self, Int.zero_emod]; exact hy
   . refine ⟨a % n, Int.emod_nonneg _ (by omega), Int.emod_lt_of_pos _ hn, ?_, ?_⟩
     . rw [Int.emod_sub_emod, Int.sub_self, Int.zero_emod]; exact hx
     . rw [Int.emod_sub_emod]; exact h
theorem tmod_fix {d n : Int} (hn : 0 < n) : Int.tmod (Int.tmod d n + n) n = d % n := by
 have h1 : Int.tmod d n = if 0 <= d then d % n else d % n - (if d % n = 0 then 0 else n) := by
  rcases Int.le_total 0 d with h | h
  . rw [if_pos h, Int.tmod_eq_emod_of_nonneg h]
  . have := Int.tmod_eq_emod (a := d) (b := n)
    rw [this]
    by_cases h0 : 0 <= d
    . have : d = 0 := by omega
      subst this
      simp
    . rw [if_neg h0]
      by_cases hd : d % n = 0
      . rw [hd]
        have : n ∣ d := Int.dvd_of_emod_eq_zero hd
        simp [this]
      . have hnd : ¬ n ∣ d := fun h => hd (Int.emod_eq_zero_of_dvd h)
        have hna : (n.natAbs : Int) = n := by omega
        simp [hnd, h0, hd, hna]
 have p := Int.emod_nonneg d (by omega : n ≠ 0)
 have l := Int.emod_lt_of_pos d hn
 rw [Int.tmod_eq_emod_of_nonneg]
 . rw [h1]
   split
   . rw [Int.add_emod_right, Int.emod_emod]
   . split
     . rw [Int.sub_zero, Int.add_emod_right, Int.emod_emod]
     . rw [Int.sub_add_cancel, Int.emod_emod]
 . rw [h1]
   split
   . omega
   . split <;> omega
section
variable {f : Flow} {s : Sched}
def CL (f : Flow) (s : Sched) (i k : Nat) : Prop :=
 0 <= Need.Res (rd (Flow.Needs f) (i : Int)) /\ Need.Res (rd (Flow.Needs f) (i : Int)) = Need.Res (rd (Flow.Needs f) (k : Int)) /\ rd (Sched.Unit s) (i : Int) = rd (Sched.Unit s) (k : Int) /\
 0 < Need.Busy (rd (Flow.Needs f) (i : Int)) /\ 0 < Need.Busy (rd (Flow.Needs f) (k : Int)) /\
 (Sched.II s = 0 -> rd (Sched.Start s) (k : Int) - rd (Sched.Start s) (i : Int) < Need.Busy (rd (Flow.Needs f) (i : Int)) /\ rd (Sched.Start s) (i : Int) - rd (Sched.Start s) (k : Int) < Need.Busy (rd (Flow.Needs f) (k : Int))) /\
 (0 < Sched.II s -> (rd (Sched.Start s) (k : Int) - rd (Sched.Start s) (i : Int)) % Sched.II s < Need.Busy (rd (Flow.Needs f) (i : Int)) \/ (rd (Sched.Start s) (i : Int) - rd (Sched.Start s) (k : Int)) % Sched.II s < Need.Busy (rd (Flow.Needs f) (k : Int)))
def SELF (f : Flow) (s : Sched) (i : Nat) : Prop := 0 < Sched.II s /\ 0 <= Need.Res (rd (Flow.Needs f) (i : Int)) /\ Sched.II s < Need.Busy (rd (Flow.Needs f) (i : Int))
def OCC (f : Flow) (s : Sched) (i : Nat) (c : Int) : Prop := (Sched.II s = 0 -> rd (Sched.Start s) (i : Int) <= c /\ c - rd (Sched.Start s) (i : Int) < Need.Busy (rd (Flow.Needs f) (i : Int))) /\
 (0 < Sched.II s -> (c - rd (Sched.Start s) (i : Int)) % Sched.II s < Need.Busy (rd (Flow.Needs f) (i : Int)))
theorem occ_ref (V : VALID f) (F : FITS f s) {i : Nat} (hi : (i : Int) < Flow.Insts f) {c : Int} (hc : 0 <= c /\ c <= 100000) : EvP (fun k => jacquardref28_Occupies.f k f s (i : Int) c) (OCC f s i c) := by
 have h1 := F.start
 have h3 := V.needs
 have si := F.starts i (by omega)
 have ii := F.ii
 have b1 : 0 <= (i : Int) /\ (i : Int) < ((Flow.Needs f).length : Int) := by omega
 have b5 : 0 <= (i : Int) /\ (i : Int) < ((Sched.Start s).length : Int) := by omega
 unfold OCC
 simp only [jacquardref28_Occupies.f, if_pos b5]
 rw [w64_id (n := c - _) (by omega) (by omega)]
 have c6 : ∀ (d : Int) (Q : Prop), (0 <= d /\ d < Need.Busy (rd (Flow.Needs f) (i : Int)) ↔ Q) -> EvP (fun k => jacquardref28_Occupies.c6 k (i : Int) d f) Q := fun d Q hQ => by
  refine EvP.step (g := fun k => bif decide (0 <= d) then some (decide (d < Need.Busy (rd (Flow.Needs f) (i : Int)))) else some false) (.cond (fun h => .dec ?_) (fun h => .ff ?_)) fun k => ?_
  . have := of_decide_eq_true h
    rw [<- hQ]
    exact ⟨fun q => ⟨this, q⟩, fun q => q.2⟩
  . have := of_decide_eq_false h
    rw [<- hQ]
    exact fun q => this q.1
  . simp only [jacquardref28_Occupies.c6, if_pos b1]
 generalize rd (Sched.Start s) (i : Int) = st at *
 generalize Sched.II s = n at *
 by_cases hn : 0 < n
 . simp only [decide_eq_true hn, cond_true, if_pos (show ¬ n = 0 by omega)]
   have p := Int.emod_nonneg (c - st) (by omega : n ≠ 0)
   have key : Int.tmod (c - st) n = (c - st) % n /\ 0 <= Int.tmod (c - st) n \/ Int.tmod (c - st) n < 0 /\ Int.tmod (c - st) n + n = (c - st) % n := by
    rcases Int.le_total 0 (c - st) with h | h
    . exact .inl ⟨Int.tmod_eq_emod_of_nonneg h, Int.tmod_nonneg _ h⟩
    . rcases Int.lt_or_le (Int.tmod (c - st) n) 0 with h2 | h2
      . refine .inr ⟨h2, ?_⟩
        have l := Int.tmod_lt_of_pos (c - st) hn
        have := tmod_fix (d := c - st) hn
        have h3 : -n < Int.tmod (c - st) n := by
         have e : Int.tmod (c - st) n = - Int.tmod (-(c - st)) n := by rw [Int.neg_tmod, Int.neg_neg]
         have := Int.tmod_lt_of_pos (-(c - st)) hn
         omega
        rw [Int.tmod_eq_emod_of_nonneg (by omega), Int.emod_eq_of_lt (by omega) (by omega)] at this
        exact this
      . refine .inl ⟨?_, h2⟩
        have l := Int.tmod_lt_of_pos (c - st) hn
        have := tmod_fix (d := c - st) hn
        rw [Int.tmod_eq_emod_of_nonneg (by omega), Int.add_emod_right, Int.emod_eq_of_lt h2 l] at this
        exact this
   have lt := Int.emod_lt_of_pos (c - st) hn
   rcases key with ⟨e, h0⟩ | ⟨h0, e⟩
   . simp only [decide_eq_false (show ¬ Int.tmod (c - st) n < 0 by omega), cond_false]
     refine c6 _ _ ?_
     rw [e]
     exact ⟨fun q => ⟨fun h => by omega, fun _ => q.2⟩, fun q => ⟨p, q.2 hn⟩⟩
   . simp only [decide_eq_true h0, cond_true]
     rw [e, w64_id (by omega) (by omega)]
     refine c6 _ _ ?_
     exact ⟨fun q => ⟨fun h => by omega, fun _ => q.2⟩, fun q => ⟨p, q.2 hn⟩⟩
 . simp only [decide_eq_false hn, cond_false]
   refine c6 _ _ ?_
   exact ⟨fun q => ⟨fun _ => by omega, fun h => by omega⟩, fun q => by have := q.1 (by omega); omega⟩
theorem clash_ref (V : VALID f) (F : FITS f s) {i j : Nat} (hi : (i : Int) < Flow.Insts f) (hj : (j : Int) < Flow.Insts f) (hij : i ≠ j) : EvP (fun k => jacquardref28_Clash.f k f s (i : Int) (j : Int)) (CL f s i j) := by
 have h1 := F.start
 have h2 := F.unit
 have h3 := V.needs
 have si := F.starts i (by omega)
 have sk := F.starts j (by omega)
 have ii := F.ii
 have vi := V.need i (by omega)
 have vj := V.need j (by omega)
 have b1 : 0 <= (i : Int) /\ (i : Int) < ((Flow.Needs f).length : Int) := by omega
 have b2 : 0 <= (j : Int) /\ (j : Int) < ((Flow.Needs f).length : Int) := by omega
 have b3 : 0 <= (i : Int) /\ (i : Int) < ((Sched.Unit s).length : Int) := by omega
 have b4 : 0 <= (j : Int) /\ (j : Int) < ((Sched.Unit s).length : Int) := by omega
 have b5 : 0 <= (i : Int) /\ (i : Int) < ((Sched.Start s).length : Int) := by omega
 have b6 : 0 <= (j : Int) /\ (j : Int) < ((Sched.Start s).length : Int) := by omega
 -- trying all cycles
 have loop : ∀ (lo hi' : Int), 0 <= lo -> hi' <= 50000 -> lo <= hi' + 1 -> EvP (fun k => jacquardref28_Clash.c9 k (i : Int) (j : Int) lo hi' f s) (∃ c, lo <= c /\ c <= hi' /\ OCC f s i c /\ OCC f s j c) := fun lo hi' h0 h1' h2' => by
  refine EvP.step (g := fun k => jacquardref28_Clash.c10 k (i : Int) (j : Int) hi' lo f s) ?_ (fun k => by simp only [jacquardref28_Clash.c9])
  have := EvP.any' (c := fun k m => jacquardref28_Clash.c10 k (i : Int) (j : Int) hi' (lo + (m : Int)) f s) (n := (hi' + 1 - lo).toNat) (Q := ∃ c, lo <= c /\ c <= hi' /\ OCC f s i c /\ OCC f s j c) (fun m => OCC f s i (lo + (m : Int)) /\ OCC f s j (lo + (m : Int)))
   (fun m hm q => ⟨lo + m, by omega, by omega, q⟩) (fun m hm hq b hb => ?_) (fun m hm hq => ?_) (fun hall => ?_)
  . simpa using this
  . have body : Ev (fun k => (jacquardref28_Occupies.f k f s (i : Int) (lo + (m : Int))).bind fun y => bif y then (jacquardref28_Occupies.f k f s (j : Int) (lo + (m : Int))).bind fun y => bif y then some true else jacquardref28_Clash.c10 k (i : Int) (j : Int) hi' (lo + ((m + 1 : Nat) : Int)) f s else jacquardref28_Clash.c10 k (i : Int) (j : Int) hi' (lo + ((m + 1 : Nat) : Int)) f s) b := by
     refine .test (occ_ref V F hi (by omega)) (fun q1 => ?_) (fun q1 => hb)
     simp only [cond_true]
     exact .test (occ_ref V F hj (by omega)) (fun q2 => absurd ⟨q1, q2⟩ hq) (fun q2 => hb)
    refine body.step fun k => ?_
    simp only [jacquardref28_Clash.c10]
    rw [decide_eq_true (show lo + (m : Int) <= hi' by omega), w64_id (by omega) (by omega), show lo + (m : Int) + 1 = lo + ((m + 1 : Nat) : Int) by omega]
    rfl
  . have body : Ev (fun k => (jacquardref28_Occupies.f k f s (i : Int) (lo + (m : Int))).bind fun y => bif y then (jacquardref28_Occupies.f k f s (j : Int) (lo + (m : Int))).bind fun y => bif y then some true else jacquardref28_Clash.c10 k (i : Int) (j : Int) hi' (lo + ((m + 1 : Nat) : Int)) f s else jacquardref28_Clash.c10 k (i : Int) (j : Int) hi' (lo + ((m + 1 : Nat) : Int)) f s) true := by
     refine .test (occ_ref V F hi (by omega)) (fun q1 => ?_) (fun q1 => absurd hq.1 q1)
     simp only [cond_true]
     exact .test (occ_ref V F hj (by omega)) (fun q2 => .ret _) (fun q2 => absurd hq.2 q2)
    refine body.step fun k => ?_
    simp only [jacquardref28_Clash.c10]
    rw [decide_eq_true (show lo + (m : Int) <= hi' by omega), w64_id (by omega) (by omega), show lo + (m : Int) + 1 = lo + ((m + 1 : Nat) : Int) by omega]
    rfl
  . refine EvP.step (.ff ?_) fun k => ?_
    . rintro ⟨c, c1, c2, c3⟩
      refine hall (c - lo).toNat (by omega) ?_
      rw [show lo + (((c - lo).toNat : Nat) : Int) = c by omega]
      exact c3
    . simp only [jacquardref28_Clash.c10]
      rw [decide_eq_false (by omega)]
      rfl
 simp only [jacquardref28_Clash.f, if_pos b1, if_pos b2, if_pos b3, if_pos b4, if_pos b5, if_pos b6]
 unfold VNeed at vi vj
 unfold OCC at loop
 unfold CL
 generalize rd (Sched.Start s) (i : Int) = sti at *
 generalize rd (Sched.Start s) (j : Int) = stk at *
 generalize rd (Sched.Unit s) (i : Int) = ui at *
 generalize rd (Sched.Unit s) (j : Int) = uk at *
 generalize rd (Flow.Needs f) (i : Int) = ni at *
 generalize rd (Flow.Needs f) (j : Int) = nk at *
 obtain ⟨ri, bi, _⟩ := ni
 obtain ⟨rk, bk, _⟩ := nk
 have e1 : Need.Res (ri, bi, ()) = ri := rfl
 have e2 : Need.Res (rk, bk, ()) = rk := rfl
 have e3 : Need.Busy (ri, bi, ()) = bi := rfl
 have e4 : Need.Busy (rk, bk, ()) = bk := rfl
 simp only [e1, e2, e3, e4] at *
 generalize Sched.II s = n at *
 refine .cond (fun h => .ff fun q => ?_) fun g1 => .cond (fun h => .ff fun q => ?_) fun g2 => .cond (fun h => .ff fun q => ?_) fun g3 => .cond (fun h => ?_) fun g4 => .cond (fun h => ?_) fun g5 => ?_
 . have := of_decide_eq_true h; omega
 . simp at h; exact h q.2.1
 . simp at h; exact h q.2.2.1
 . have := of_decide_eq_true h; omega
 . have hn := of_decide_eq_true h
   have g1 := of_decide_eq_false g1
   have g2 : ri = rk := by simpa using g2
   have g3 : ui = uk := by simpa using g3
   rw [w64_id (n := n - 1) (by omega) (by omega)]
   refine (loop 0 (n - 1) (by omega) (by omega) (by omega)).iff ?_
   have hbi : 0 < bi := by rcases vi with ⟨a, _⟩ | ⟨_, _, a, _⟩ <;> omega
   have hbk : 0 < bk := by rcases vj with ⟨a, _⟩ | ⟨_, _, a, _⟩ <;> omega
   have hc := circle (a := sti) (b := stk) hn hbi hbk
   constructor
   . rintro ⟨c, c1, c2, ⟨_, c3⟩, _, c4⟩
     exact ⟨by omega, g2, g3, hbi, hbk, fun h => by omega, fun _ => hc.1 ⟨c, c1, by omega, c3 hn, c4 hn⟩⟩
   . intro q
     obtain ⟨c, c1, c2, c3, c4⟩ := hc.2 (q.2.2.2.2.2.2 hn)
     exact ⟨c, c1, by omega, ⟨fun h => by omega, fun _ => c3⟩, fun h => by omega, fun _ => c4⟩
 . have hn := of_decide_eq_false g5
   have g1 := of_decide_eq_false g1
   have g2 : ri = rk := by simpa using g2
   have g3 : ui = uk := by simpa using g3
   have hbi : 0 < bi /\ bi <= 256 := by rcases vi with ⟨a, _⟩ | ⟨_, _, a, _⟩ <;> omega
   have hbk : 0 < bk /\ bk <= 256 := by rcases vj with ⟨a, _⟩ | ⟨_, _, a, _⟩ <;> omega
   have m1 : mn sti stk <= sti /\ mn sti stk <= stk /\ 0 <= mn sti stk := by unfold mn; split <;> omega
   have m2 : sti <= mx sti stk /\ stk <= mx sti stk /\ (mx sti stk = sti \/ mx sti stk = stk) := by unfold mx; split <;> omega
   rw [w64_id (n := mx sti stk + 256) (by omega) (by omega)]
   refine (loop _ _ (by omega) (by omega) (by omega)).iff ?_
   constructor
   . rintro ⟨c, c1, c2, ⟨c3, _⟩, c4, _⟩
     have := c3 (by omega)
     have := c4 (by omega)
     exact ⟨by omega, g2, g3, by omega, by omega, fun h => by omega, fun h => by omega⟩
   . intro q
     have := q.2.2.2.2.2.1 (by omega)
     exact ⟨mx sti stk, by omega, by omega, ⟨fun h => by omega, fun h => by omega⟩, fun h => by omega, fun h => by omega⟩
theorem self_ref (V : VALID f) (F : FITS f s) {i : Nat} (hi : (i : Int) < Flow.Insts f) : EvP (fun k => jacquardref28_Clash.f k f s (i : Int) (i : Int)) (SELF f s i) := by
 have h2 := F.unit
 have h3 := V.needs
 have b1 : 0 <= (i : Int) /\ (i : Int) < ((Flow.Needs f).length : Int) := by omega
 have b3 : 0 <= (i : Int) /\ (i : Int) < ((Sched.Unit s).length : Int) := by omega
 unfold SELF
 simp only [jacquardref28_Clash.f, if_pos b1, if_pos b3]
 refine .cond (fun h => .ff fun q => ?_) fun g1 => ?_
 . have := of_decide_eq_true h; omega
 have g1 := of_decide_eq_false g1
 simp only [decide_true, Bool.not_true, cond_true, cond_false]
 refine .cond (fun h => .dec ?_) (fun h => .ff fun q => ?_)
 . have := of_decide_eq_true h
   exact ⟨fun q => ⟨this, by omega, q⟩, fun q => q.2.2⟩
 . have := of_decide_eq_false h; omega
end
end Go.Proofs.YtjddmekfeckphaaGreatV
namespace Go.Proofs.YtjddmekfeckphaaGreatV
open Go Go.Vm
open Classical
section
variable {f : Flow} {s : Sched}
noncomputable def row (f : Flow) (s : Sched) (i : Nat) : List Arr2_3 := (if SELF f s i then [((i : Int), (i : Int), ())] else []) ++ pick (fun m => decide (CL f s i (i + 1 + m))) (fun m => ((i : Int), ((i + 1 + m : Nat) : Int), ())) ((Flow.Insts f).toNat - 1 - i)
noncomputable def clList (f : Flow) (s : Sched) : List Arr2_3 := (List.range (Flow.Insts f).toNat).flatMap (row f s)
theorem row_len (i : Nat) : (row f s i).length <= 1 + (Flow.Insts f).toNat := by
 unfold row
 rw [List.length_append]
 have := pick_len (fun m => decide (CL f s i (i + 1 + m))) (fun m => (((i : Int), ((i + 1 + m : Nat) : Int), ()) : Arr2_3)) ((Flow.Insts f).toNat - 1 - i)
 split <;> simp only [List.length_singleton, List.length_nil] <;> omega
theorem acc_len (n : Nat) (hi : Flow.Insts f <= 4096) : ((List.range n).flatMap (row f s)).length <= n * 4097 := by
 induction n with
 | zero => simp
 | succ n ih =>
   rw [List.range_succ, List.flatMap_append, List.length_append, List.flatMap_singleton]
   have := row_len (f := f) (s := s) n
   omega
theorem inner_ref (V : VALID f) (F : FITS f s) {i : Nat} (hi : (i : Int) < Flow.Insts f) {acc : List Arr2_3} (hacc : acc.length <= 20000000) {y : List Arr2_3} (hy : Ev (fun k => jacquardref28_Clashes.c3 k (Flow.Insts f) ((i + 1 : Nat) : Int) f s (acc ++ pick (fun m => decide (CL f s i (i + 1 + m))) (fun m => ((i : Int), ((i + 1 + m : Nat) : Int), ())) ((Flow.Insts f).toNat - 1 - i))) y) :
 Ev (fun k => jacquardref28_Clashes.c6 k (i : Int) ((i + 1 : Nat) : Int) (Flow.Insts f) (i : Int) f s acc) y := by
 have i0 := V.i0
 have i1 := V.i1
 have := Ev.up (c := fun k m => jacquardref28_Clashes.c6 k (i : Int) ((i + 1 + m : Nat) : Int) (Flow.Insts f) (i : Int) f s (acc ++ pick (fun m => decide (CL f s i (i + 1 + m))) (fun m => ((i : Int), ((i + 1 + m : Nat) : Int), ())) m)) (n := (Flow.Insts f).toNat - 1 - i) (y := y) ?_ (fun m hm ih => ?_) 0 (Nat.zero_le _)
 . rw [pick_zero, List.append_nil] at this
   exact this
 . refine hy.step fun k => ?_
   simp only [jacquardref28_Clashes.c6]
   rw [decide_eq_false (by omega)]
   simp only [cond_false]
   rw [w64_id (by omega) (by omega), natC]
 . have hp := pick_len (fun m => decide (CL f s i (i + 1 + m))) (fun m => (((i : Int), ((i + 1 + m : Nat) : Int), ()) : Arr2_3)) m
   have body : Ev (fun k => (jacquardref28_Clash.f k f s (i : Int) ((i + 1 + m : Nat) : Int)).bind fun y57 => bif y57 then bif Nat.ble ((acc ++ pick (fun m => decide (CL f s i (i + 1 + m))) (fun m => (((i : Int), ((i + 1 + m : Nat) : Int), ()) : Arr2_3)) m).length + [(((i : Int), ((i + 1 + m : Nat) : Int), ()) : Arr2_3)].length) 1073741824 then
    jacquardref28_Clashes.c6 k (i : Int) ((i + 1 + (m + 1) : Nat) : Int) (Flow.Insts f) (i : Int) f s ((acc ++ pick (fun m => decide (CL f s i (i + 1 + m))) (fun m => (((i : Int), ((i + 1 + m : Nat) : Int), ()) : Arr2_3)) m) ++ [(((i : Int), ((i + 1 + m : Nat) : Int), ()) : Arr2_3)]) else none
    else jacquardref28_Clashes.c6 k (i : Int) ((i + 1 + (m + 1) : Nat) : Int) (Flow.Insts f) (i : Int) f s (acc ++ pick (fun m => decide (CL f s i (i + 1 + m))) (fun m => (((i : Int), ((i + 1 + m : Nat) : Int), ()) : Arr2_3)) m)) y := by
    have hble : Nat.ble ((acc ++ pick (fun m => decide (CL f s i (i + 1 + m))) (fun m => (((i : Int), ((i + 1 + m : Nat) : Int), ()) : Arr2_3)) m).length + [(((i : Int), ((i + 1 + m : Nat) : Int), ()) : Arr2_3)].length) 1073741824 = true := by
     rw [Nat.ble_eq, List.length_append, List.length_singleton]; omega
    rw [hble]
    refine .test (clash_ref V F hi (by omega) (by omega)) (fun q => ?_) (fun q => ?_)
    . rw [pick_succ, if_pos (by simpa using q), <- List.append_assoc] at ih
      exact ih
    . rw [pick_succ, if_neg (by simpa using q)] at ih
      exact ih
   refine body.step fun k => ?_
   simp only [jacquardref28_Clashes.c6]
   rw [decide_eq_true (by omega), w64_id (by omega) (by omega), show ((i + 1 + m : Nat) : Int) + 1 = ((i + 1 + (m + 1) : Nat) : Int) by omega]
   rfl
theorem clashes_ref (V : VALID f) (F : FITS f s) : Ev (fun k => jacquardref28_Clashes.f k f s) (clList f s) := by
 have i0 := V.i0
 have i1 := V.i1
 have hnd := V.needs
 simp only [jacquardref28_Clashes.f]
 have hI : ((Flow.Insts f).toNat : Int) = Flow.Insts f := by omega
 refine Ev.up (c := fun k i => jacquardref28_Clashes.c3 k (Flow.Insts f) (i : Int) f s ((List.range i).flatMap (row f s))) (n := (Flow.Insts f).toNat) ?_ (fun i hi ih => ?_) 0 (Nat.zero_le _)
 . refine Ev.step (.ret _) fun k => ?_
   simp only [jacquardref28_Clashes.c3]
   rw [decide_eq_false (by omega)]
   rfl
 . have hal := acc_len (f := f) (s := s) i i1
   rw [List.range_succ, List.flatMap_append, List.flatMap_singleton] at ih
   have hb : i * 4097 <= 4096 * 4097 := Nat.mul_le_mul_right _ (by omega)
   unfold row at ih
   have hble : Nat.ble (((List.range i).flatMap (row f s)).length + [(((i : Int), (i : Int), ()) : Arr2_3)].length) 1073741824 = true := by
    rw [Nat.ble_eq, List.length_singleton]; omega
   have body : Ev (fun k => (jacquardref28_Clash.f k f s (i : Int) (i : Int)).bind fun y24 => bif y24 then bif Nat.ble (((List.range i).flatMap (row f s)).length + [(((i : Int), (i : Int), ()) : Arr2_3)].length) 1073741824 then
    jacquardref28_Clashes.c6 k (i : Int) ((i + 1 : Nat) : Int) (Flow.Insts f) (i : Int) f s ((List.range i).flatMap (row f s) ++ [((i : Int), (i : Int), ())]) else none
    else jacquardref28_Clashes.c6 k (i : Int) ((i + 1 : Nat) : Int) (Flow.Insts f) (i : Int) f s ((List.range i).flatMap (row f s))) (clList f s) := by
    rw [hble]
    refine .test (self_ref V F (by omega)) (fun q => ?_) (fun q => ?_)
    . rw [if_pos q, <- List.append_assoc] at ih
      exact inner_ref V F (by omega) (by rw [List.length_append, List.length_singleton]; omega) ih
    . rw [if_neg q, List.nil_append] at ih
      exact inner_ref V F (by omega) (by omega) ih
   have b2 : Ev (fun k => jacquardref28_Clashes.c6 k (i : Int) (i : Int) (Flow.Insts f) (i : Int) f s ((List.range i).flatMap (row f s))) (clList f s) := by
    refine body.step fun k => ?_
    simp only [jacquardref28_Clashes.c6]
    rw [decide_eq_true (by omega), w64_id (by omega) (by omega), natC]
    rfl
   refine b2.step fun k => ?_
   simp only [jacquardref28_Clashes.c3]
   rw [decide_eq_true (by omega)]
   rfl
structure LEGAL (f : Flow) (s : Sched) : Prop where
 depth : Sched.II s <= Sched.Depth s
 late : ∀ i, i < (Flow.Arcs f).length -> 0 <= slk f s i
 clash : clList f s = []
 params : Flow.Loop f = false -> ∀ p, p < (Sched.Params s).length -> rd (Sched.Params s) (p : Int) = 0
theorem late_nil : pick (fun i => decide (slk f s i < 0)) (fun i => (i : Int)) (Flow.Arcs f).length = [] ↔ ∀ i, i < (Flow.Arcs f).length -> 0 <= slk f s i := by
 rw [pick_nil]
 simp
theorem len_zero {α : Type} {l : List α} : ((l.length : Int) = 0) ↔ l = [] := by
 constructor
 . intro h; exact List.eq_nil_of_length_eq_zero (by omega)
 . rintro rfl; rfl
theorem legal_ref (SF : SIZES f) (S : SSIZES s) (V : VALID f) : EvP (fun k => jacquardref28_Legal.f k f s) (FITS f s /\ LEGAL f s) := by
 simp only [jacquardref28_Legal.f]
 refine .test (fits_ref V S) (fun F => ?_) (fun q => .ff fun h => q h.1)
 simp only [Bool.not_true, cond_false]
 refine .cond (fun h => .ff fun q => ?_) (fun h => ?_)
 . have := of_decide_eq_true h
   have := q.2.depth
   omega
 . have hd := of_decide_eq_false h
   have hs := S.params
   refine EvP.all' 1 (c := fun k i => jacquardref28_Legal.c4 k ((Sched.Params s).length : Int) (i : Int) f s) (n := (Sched.Params s).length) (P := fun i => Flow.Loop f = false -> rd (Sched.Params s) (i : Int) = 0) (fun q i hi hl => q.2.params hl i hi) (fun i hi k => ?_) (fun hall => ?_)
   . simp only [jacquardref28_Legal.c4, natC]
     rw [decide_eq_true (show (i : Int) < ((Sched.Params s).length : Int) by omega), if_pos (by omega), w64_id (by omega) (by omega)]
     generalize jacquardref28_Legal.c4 k _ _ _ _ = r
     generalize rd (Sched.Params s) (i : Int) = a
     cases Flow.Loop f <;> by_cases h : a = 0 <;> simp [h]
   . refine EvP.step (g := fun k => (jacquardref28_Late.f k f s).bind fun y37 => bif decide ((y37.length : Int) = 0) then (jacquardref28_Clashes.f k f s).bind fun y43 => some (decide ((y43.length : Int) = 0)) else some false) (.bind (late_ref SF S V F) (.cond (fun h => ?_) (fun h => .ff fun q => ?_))) fun k => ?_
     . have hl := late_nil.1 (len_zero.1 (of_decide_eq_true h))
       refine .bind (clashes_ref V F) (.dec ?_)
       rw [len_zero]
       exact ⟨fun q => ⟨F, by omega, hl, q, fun hl p hp => hall p hp hl⟩, fun q => q.2.clash⟩
     . have := of_decide_eq_false h
       rw [len_zero, late_nil] at this
       exact this q.2.late
     . simp only [jacquardref28_Legal.c4]
       rw [decide_eq_false (by omega)]
       rfl
end
end Go.Proofs.YtjddmekfeckphaaGreatV
namespace Go.Proofs.YtjddmekfeckphaaGreatV
open Go Go.Vm
theorem evAt {α : Type} {f : Nat -> Option α} {y : α} (N : Nat) (h : ∀ k, f (k + N) = some y) : Ev f y :=
 ⟨N, fun k hk => by obtain ⟨j, rfl⟩ : ∃ j, k = j + N := ⟨k - N, by omega⟩; exact h j⟩
def f32 : Flow := (3, 0, false, [(3, 0, 0, 0, ()), (3, 1, 0, 0, ()), (3, 2, 0, 0, ()), (3, 4, 0, 0, ()), (0, 4, 2, 0, ()), (1, 4, 2, 0, ()), (2, 4, 2, 0, ())], [(1, 0, 0, 1, ())], [(0, 2, ()), (0, 2, ()), (0, 2, ())], ())
def g32 : Graph := (5, [(3, 0, ()), (3, 1, ()), (3, 2, ()), (3, 4, ()), (0, 4, ()), (1, 4, ()), (2, 4, ())], ())
def t32 : Graph := (5, [(0, 3, ()), (1, 3, ()), (2, 3, ()), (4, 0, ()), (4, 1, ()), (4, 2, ()), (4, 3, ())], ())
theorem next32 : NEXT g32 = [[4], [4], [4], [0, 1, 2, 4], []] := by decide
theorem turn32 : TURN g32 = t32 := by decide
theorem nextt32 : NEXT t32 = [[3], [3], [3], [], [0, 1, 2, 3]] := by decide
theorem triple32 : Ev (fun k => jacquardlaw32_triple.f k 1) f32 := evAt 20 fun k => by kernel_rfl
theorem fin32 : Ev (fun k => graph_finished.f k [[4], [4], [4], [0, 1, 2, 4], []]) [4, 0, 1, 2, 3] := evAt 200 fun k => by kernel_rfl
theorem comps32 : Ev (fun k => graph_Components.f k g32) [0, 1, 2, 3, 4] := by
 simp only [graph_Components.f]
 refine .bind (Next_prog g32 (by decide)) ?_
 rw [next32]
 refine .bind fin32 ?_
 refine .bind (Turn_prog g32 (by decide) (by decide)) ?_
 rw [turn32]
 refine .bind (x := [[3], [3], [3], [], [0, 1, 2, 3]]) ?_ ?_
 . have := Next_prog t32 (by decide)
   rw [nextt32] at this
   exact this
 . exact evAt 200 fun k => by kernel_rfl
theorem tangled32 : Ev (fun k => listsched_tangled.f k f32) false := by
 have h : Ev (fun k => (graph_Components.f k g32).bind fun y => listsched_tangled.c12 k (y.length : Int) 0 f32 y ([] : List (Int × Int))) false := by
  refine .bind comps32 ?_
  exact evAt 100 fun k => by kernel_rfl
 exact h.steps 8 fun k => by kernel_rfl
theorem sched32 : Ev (fun k => listsched_Schedule.f k f32) ((0, 6, [0, 2, 4], [], [0, 0, 0], ()), 0, ()) := by
 simp only [listsched_Schedule.f]
 refine .bind (x := true) (evAt 100 fun k => by kernel_rfl) ?_
 simp only [Bool.not_true, cond_false]
 have e : dataflow_Nodes.f f32 = some 5 := by kernel_rfl
 rw [e]
 simp only [Option.bind_some]
 have e2 : Flow.Loop f32 = false := rfl
 simp only [e2, cond_false]
 refine .bind (x := ([0, 0, 0, 0, 2], none, ())) (evAt 200 fun k => by kernel_rfl) ?_
 refine .bind tangled32 ?_
 exact evAt 400 fun k => by kernel_rfl
theorem awake_ev : Ev (fun k => jacquardlaw32_awake.f k) true := by
 simp only [jacquardlaw32_awake.f]
 refine .bind triple32 ?_
 refine .bind sched32 ?_
 exact evAt 0 fun k => by kernel_rfl
end Go.Proofs.YtjddmekfeckphaaGreatV
namespace Go.Proofs.YtjddmekfeckphaaGreatV
open Go Go.Vm
def cntN (l : List Need) (r : Int) : Nat -> Nat
 | 0 => 0
 | m + 1 => cntN l r m + if Need.Res (rd l (m : Int)) = r then 1 else 0
theorem cntN_succ (l : List Need) (r : Int) (m : Nat) : cntN l r (m + 1) = cntN l r m + if Need.Res (rd l (m : Int)) = r then 1 else 0 := rfl
theorem cntN_le (l : List Need) (r : Int) : ∀ m : Nat, cntN l r m <= m
 | 0 => Nat.le_refl _
 | m + 1 => by
   have := cntN_le l r m
   rw [cntN_succ]
   split <;> omega
def CONT (f : Flow) (i : Nat) : Prop := 0 <= Need.Res (rd (Flow.Needs f) (i : Int)) /\ Resource.Count (rd (Flow.Res f) (Need.Res (rd (Flow.Needs f) (i : Int)))) < (cntN (Flow.Needs f) (Need.Res (rd (Flow.Needs f) (i : Int))) (Flow.Needs f).length : Int)
instance (f : Flow) (i : Nat) : Decidable (CONT f i) := by unfold CONT; infer_instance
def CONTS (f : Flow) (m : Nat) : List Int := pick (fun i => decide (CONT f i)) (fun i => (i : Int)) m
def FEW (f : Flow) : Prop := SMALL f 14 6 /\ (Flow.Needs f).length <= 20
section
variable {f : Flow}
theorem few_ev (ha : (Flow.Arcs f).length <= 140737488351232) (hn : (Flow.Needs f).length <= 140737488351232) : EvP (fun k => jacquardlaw32_few.f k f) (FEW f) := by
 simp only [jacquardlaw32_few.f]
 refine EvP.test (small_ref 14 6 ha hn) (fun h => ?_) fun h => ?_
 . simp only [cond_true]
   exact .dec ⟨fun q => ⟨h, by omega⟩, fun q => by have := q.2; omega⟩
 . simp only [cond_false]
   exact .ff fun q => h q.1
theorem sizes_of (h : FEW f) : SIZES f := ⟨by have := h.1.arcs; omega, by have := h.1.res; omega, by have := h.2; omega⟩
theorem need_at (V : VALID f) {i : Nat} (hi : i < (Flow.Needs f).length) : -1 <= Need.Res (rd (Flow.Needs f) (i : Int)) /\ Need.Res (rd (Flow.Needs f) (i : Int)) < ((Flow.Res f).length : Int) := by
 rcases V.need i hi with ⟨a, _⟩ | ⟨a, b, _⟩ <;> omega
theorem contested_ref (V : VALID f) (hn : (Flow.Needs f).length <= 1000000) : Ev (fun k => jacquardref32_Contested.f k f) (CONTS f (Flow.Needs f).length) := by
 simp only [jacquardref32_Contested.f]
 refine Ev.up (c := fun k i => jacquardref32_Contested.c3 k ((Flow.Needs f).length : Int) (i : Int) f (CONTS f i)) (n := (Flow.Needs f).length) ?_ (fun i hi ih => ?_) 0 (Nat.zero_le _)
 . refine .succ ?_
   simp (disch := omega) only [jacquardref32_Contested.c3, ↓cdF]
   exact .ret _
 . have b := need_at V hi
   have hpl : (CONTS f i).length <= i := pick_len _ _ _
   simp only [natC] at ih
   refine .succ ?_
   simp (disch := omega) only [jacquardref32_Contested.c3, ↓cdT]
   have e0 : (0 : Int) = (cntN (Flow.Needs f) (Need.Res (rd (Flow.Needs f) (i : Int))) 0 : Int) := rfl
   refine Ev.up (c := fun k j => jacquardref32_Contested.c7 k (i : Int) (cntN (Flow.Needs f) (Need.Res (rd (Flow.Needs f) (i : Int))) j : Int) ((Flow.Needs f).length : Int) (i : Int) ((Flow.Needs f).length : Int) (j : Int) f (CONTS f i)) (n := (Flow.Needs f).length) ?_ (fun j hj ih2 => ?_) 0 (Nat.zero_le _)
   . unfold CONTS at ih hpl ⊢
     rw [pick_succ] at ih
     refine .succ ?_
     simp (disch := omega) only [jacquardref32_Contested.c7, ↓cdF, ↓if_pos, w64_id]
     refine .dec (fun h0 => ?_) fun h0 => ?_
     . simp (disch := omega) only [↓if_pos]
       refine .dec (fun h1 => ?_) fun h1 => ?_
       . rw [if_pos (by exact decide_eq_true ⟨h0, h1⟩)] at ih
         simp (disch := (simp only [List.length_singleton]; omega)) only [↓bleT]
         exact ih
       . rw [if_neg (by rw [decide_eq_true_iff]; exact fun q => h1 q.2)] at ih
         exact ih
     . rw [if_neg (by rw [decide_eq_true_iff]; exact fun q => h0 q.1)] at ih
       exact ih
   . have hle := cntN_le (Flow.Needs f) (Need.Res (rd (Flow.Needs f) (i : Int))) j
     simp only [natC] at ih2
     refine .succ ?_
     simp (disch := omega) only [jacquardref32_Contested.c7, ↓cdT, ↓if_pos, w64_id]
     rw [cntN_succ] at ih2
     refine .dec (fun h0 => ?_) fun h0 => ?_
     . rw [if_pos h0] at ih2
       exact ih2
     . rw [if_neg h0] at ih2
       exact ih2
end
end Go.Proofs.YtjddmekfeckphaaGreatV
namespace Go.Proofs.YtjddmekfeckphaaGreatV
open Go Go.Vm
section
variable {f : Flow} {s : Sched}
def KL (f : Flow) (s : Sched) (i k : Nat) : Prop := k ≠ i /\ Need.Res (rd (Flow.Needs f) (k : Int)) = Need.Res (rd (Flow.Needs f) (i : Int)) /\ rd (Sched.Unit s) (k : Int) = rd (Sched.Unit s) (i : Int) /\
 rd (Sched.Start s) (k : Int) < rd (Sched.Start s) (i : Int) + Need.Busy (rd (Flow.Needs f) (i : Int)) /\ rd (Sched.Start s) (i : Int) < rd (Sched.Start s) (k : Int) + Need.Busy (rd (Flow.Needs f) (k : Int))
def CLA (f : Flow) (s : Sched) (i : Nat) : Prop := 0 <= Need.Res (rd (Flow.Needs f) (i : Int)) /\ ∃ k : Nat, k < (Flow.Needs f).length /\ KL f s i k
theorem KL.symm {i k : Nat} (h : KL f s i k) : KL f s k i := ⟨h.1.symm, h.2.1.symm, h.2.2.1.symm, h.2.2.2.2, h.2.2.2.1⟩
structure LG (f : Flow) (s : Sched) : Prop where
 params : ∀ p : Nat, p < (Sched.Params s).length -> rd (Sched.Params s) (p : Int) = 0
 arcs : ∀ i : Nat, i < (Flow.Arcs f).length -> Arc.Lat (rd (Flow.Arcs f) (i : Int)) <= tm f s (Arc.To (rd (Flow.Arcs f) (i : Int))) - tm f s (Arc.From (rd (Flow.Arcs f) (i : Int)))
 free : ∀ i : Nat, i < (Sched.Start s).length -> ¬ CLA f s i
end
end Go.Proofs.YtjddmekfeckphaaGreatV
namespace Go.Proofs.YtjddmekfeckphaaGreatV
open Go Go.Vm
section
variable {f : Flow} {s : Sched}
def lstN (f : Flow) (s : Sched) (v : Int) : Nat -> Int
 | 0 => 0
 | m + 1 => if Arc.To (rd (Flow.Arcs f) (m : Int)) = v /\ Arc.From (rd (Flow.Arcs f) (m : Int)) ≠ v then mx (lstN f s v m) (tm f s (Arc.From (rd (Flow.Arcs f) (m : Int))) + Arc.Lat (rd (Flow.Arcs f) (m : Int))) else lstN f s v m
def lst (f : Flow) (s : Sched) (v : Int) : Int := lstN f s v (Flow.Arcs f).length
end
end Go.Proofs.YtjddmekfeckphaaGreatV
namespace Go.Proofs.YtjddmekfeckphaaGreatV
open Go Go.Vm
section
variable {f : Flow} {s : Sched}
theorem LG_iff (V : VALID f) (F : FITS f s) (hl : Flow.Loop f = false) : LEGAL f s ↔ LG f s := by
 have hn := V.needs
 have i0 := V.i0
 have a1 := F.start
 have hii : Sched.II s = 0 := by
  have := F.ii
  have h2 := F.loop
  rw [hl] at h2
  simp at h2
  omega
 have hd : ∀ i : Nat, i < (Flow.Arcs f).length -> slk f s i = tm f s (Arc.To (rd (Flow.Arcs f) (i : Int))) - tm f s (Arc.From (rd (Flow.Arcs f) (i : Int))) - Arc.Lat (rd (Flow.Arcs f) (i : Int)) := fun i hi => by
  unfold slk
  rw [hii, Int.zero_mul]
  omega
 have hcl : ∀ i k : Nat, i < (Flow.Needs f).length -> k < (Flow.Needs f).length -> i ≠ k -> (CL f s i k ↔ 0 <= Need.Res (rd (Flow.Needs f) (i : Int)) /\ KL f s i k) := by
  intro i k hi hk hne
  unfold CL KL
  rw [hii]
  constructor
  . rintro ⟨q1, q2, q3, q4, q5, q6, _⟩
    have := q6 rfl
    exact ⟨q1, Ne.symm hne, q2.symm, q3.symm, by omega, by omega⟩
  . rintro ⟨q1, q2, q3, q4, q5, q6⟩
    have bi : 1 <= Need.Busy (rd (Flow.Needs f) (i : Int)) := by
     rcases V.need i hi with ⟨a, _⟩ | ⟨_, _, a, b⟩ <;> omega
    have bk : 1 <= Need.Busy (rd (Flow.Needs f) (k : Int)) := by
     rcases V.need k hk with ⟨a, _⟩ | ⟨_, _, a, b⟩ <;> omega
    exact ⟨q1, q3.symm, q4.symm, by omega, by omega, fun _ => by omega, fun h => by omega⟩
 have hcs : clList f s = [] ↔ ∀ i : Nat, i < (Flow.Insts f).toNat -> ¬ CLA f s i := by
  unfold clList
  rw [List.flatMap_eq_nil_iff]
  have hrow : ∀ i : Nat, row f s i = [] ↔ ∀ m : Nat, m < (Flow.Insts f).toNat - 1 - i -> ¬ CL f s i (i + 1 + m) := by
   intro i
   unfold row SELF
   rw [if_neg (by rw [hii]; omega), List.nil_append, pick_nil]
   constructor
   . intro h m hm q
     have := h m hm
     rw [decide_eq_false_iff_not] at this
     exact this q
   . intro h m hm
     rw [decide_eq_false_iff_not]
     exact h m hm
  constructor
  . rintro h i hi ⟨q1, k, hk, q2⟩
    rcases Nat.lt_or_gt_of_ne q2.1 with hlt | hgt
    . have := (hrow k).1 (h k (by simp; omega)) (i - 1 - k) (by omega)
      rw [show k + 1 + (i - 1 - k) = i by omega] at this
      exact this ((hcl k i hk (by omega) (by omega)).2 ⟨by have := q2.2.1; omega, q2.symm⟩)
    . have := (hrow i).1 (h i (by simpa using hi)) (k - 1 - i) (by omega)
      rw [show i + 1 + (k - 1 - i) = k by omega] at this
      exact this ((hcl i k (by omega) hk (by omega)).2 ⟨q1, q2⟩)
  . intro h i hi
    have hi : i < (Flow.Insts f).toNat := by simpa using hi
    refine (hrow i).2 fun m hm q => ?_
    have := (hcl i (i + 1 + m) (by omega) (by omega) (by omega)).1 q
    exact h i hi ⟨this.1, i + 1 + m, by omega, this.2⟩
 constructor
 . intro L
   refine ⟨L.params hl, fun i hi => ?_, fun i hi => hcs.1 L.clash i (by omega)⟩
   have := L.late i hi
   rw [hd i hi] at this
   omega
 . intro L
   refine ⟨by have := F.depth; omega, fun i hi => ?_, hcs.2 fun i hi => L.free i (by omega), fun _ => L.params⟩
   rw [hd i hi]
   have := L.arcs i hi
   omega
end
end Go.Proofs.YtjddmekfeckphaaGreatV
namespace Go.Proofs.YtjddmekfeckphaaGreatV
open Go Go.Vm
section
variable {f : Flow} {s : Sched}
end
end Go.Proofs.YtjddmekfeckphaaGreatV
namespace Go.Proofs.YtjddmekfeckphaaGreatV
open Go Go.Vm
def INQ (q TL : List Int) : Prop := ∀ x ∈ q, 0 <= x /\ x < (TL.length : Int)
theorem INQ.perm {q q' TL : List Int} (h : INQ q TL) (p : q'.Perm q) : INQ q' TL := fun x hx => h x (p.mem_iff.1 hx)
theorem INQ.rd {q TL : List Int} (h : INQ q TL) {i : Nat} (hi : i < q.length) : 0 <= rd q (i : Int) /\ rd q (i : Int) < (TL.length : Int) := h _ (rd_mem (by omega) (by omega))
def swq (l : List Int) (i j : Nat) : List Int := (l.set i (rd l (j : Int))).set j (rd l (i : Int))
theorem swq_len (l : List Int) (i j : Nat) : (swq l i j).length = l.length := by simp [swq]
theorem swq_perm {l : List Int} {i j : Nat} (hi : i < l.length) (hj : j < l.length) : (swq l i j).Perm l := by
 unfold swq
 rw [rd_eq hi, rd_eq hj]
 exact List.set_set_perm hi hj
theorem swq_rd {l : List Int} {i j c : Nat} (hi : c ≠ i) (hj : c ≠ j) : rd (swq l i j) (c : Int) = rd l (c : Int) := by
 unfold swq
 rw [rd_set_ne (Ne.symm hj), rd_set_ne (Ne.symm hi)]
theorem swap1_f {l TL : List Int} {i j : Nat} (hi : i < l.length) (hj : j < l.length) : listsched_queue_Swap_i1.f (i : Int) (j : Int) TL l = some ((), swq l i j, ()) := by
 unfold listsched_queue_Swap_i1.f swq
 rw [if_pos (by omega), if_pos (by omega), if_pos (by omega), if_pos (by rw [List.length_set]; omega)]
 rfl
theorem swap2_f {l TL : List Int} {i j : Nat} (hi : i < l.length) (hj : j < l.length) : listsched_queue_Swap_i2.f (i : Int) (j : Int) TL l = some ((), swq l i j, ()) := by
 unfold listsched_queue_Swap_i2.f swq
 rw [if_pos (by omega), if_pos (by omega), if_pos (by omega), if_pos (by rw [List.length_set]; omega)]
 rfl
theorem less_f {l TL : List Int} (h : INQ l TL) {i j : Nat} (hi : i < l.length) (hj : j < l.length) : ∃ b, listsched_queue_Less.f (i : Int) (j : Int) l TL = some (b, ()) := by
 have h1 := h.rd hi
 have h2 := h.rd hj
 unfold listsched_queue_Less.f
 rw [if_pos (by omega), if_pos (by omega), if_pos h1, if_pos h2, if_pos h1, if_pos h2]
 cases (!decide (rd TL (rd l (i : Int)) = rd TL (rd l (j : Int)))) <;> exact ⟨_, rfl⟩
theorem up_ev {TL : List Int} : ∀ (d i : Nat), i <= d -> ∀ l : List Int, i < l.length -> l.length <= 1000000 -> INQ l TL -> W (fun k => heap_up_i1.c0 k (i : Int) l TL) (fun r => r.2.1.Perm l) := by
 intro d
 induction d with
 | zero =>
   intro i hi l hl hb h
   have e : i = 0 := by omega
   subst e
   refine .succ ?_
   have e : w64 (Int.tdiv (w64 (((0 : Nat) : Int) - 1)) 2) = ((0 : Nat) : Int) := by decide
   simp only [heap_up_i1.c0, e, decide_true, cond_true]
   exact .ret (List.Perm.refl _)
 | succ d ih =>
   intro i hi l hl hb h
   by_cases e0 : i = 0
   . exact ih i (by omega) l hl hb h
   have e : w64 (Int.tdiv (w64 ((i : Int) - 1)) 2) = (((i - 1) / 2 : Nat) : Int) := by
    have e : w64 ((i : Int) - 1) = ((i - 1 : Nat) : Int) := by rw [w64_id (by omega) (by omega)]; omega
    rw [e, Int.tdiv_eq_ediv_of_nonneg (by omega), w64_id (by omega) (by omega)]
    omega
   have hp : (i - 1) / 2 < l.length := by omega
   refine .succ ?_
   simp only [heap_up_i1.c0, e]
   simp (disch := omega) only [↓cdF]
   obtain ⟨b, hbb⟩ := less_f h (i := i) (j := (i - 1) / 2) hl hp
   rw [hbb]
   simp only [Option.bind_some]
   cases b
   . simp only [Bool.not_false, cond_true]
     exact .ret (List.Perm.refl _)
   . simp only [Bool.not_true, cond_false]
     rw [swap1_f hp hl]
     simp only [Option.bind_some]
     have hs := swq_perm (l := l) hp hl
     exact (ih ((i - 1) / 2) (by omega) (swq l ((i - 1) / 2) i) (by rw [swq_len]; omega) (by rw [swq_len]; omega) (h.perm hs)).mono fun r hr => hr.trans hs
theorem push_evq {q TL : List Int} {x : Int} (hq : INQ q TL) (hx : 0 <= x /\ x < (TL.length : Int)) (hl : q.length < 1000000) : W (fun k => heap_Push_i4.f k x q TL) (fun r => r.2.2.1 = TL /\ r.2.2.2.1.Perm (q ++ [x])) := by
 have hq2 : INQ (q ++ [x]) TL := fun y hy => by
  rcases List.mem_append.1 hy with h | h
  . exact hq y h
  . rw [List.mem_singleton.1 h]; exact hx
 have hlen : (q ++ [x]).length = q.length + 1 := by simp
 simp only [heap_Push_i4.f, listsched_queue_Push_i4.f, listsched_queue_Len.f]
 simp (disch := (simp only [List.length_singleton]; omega)) only [↓bleT, Option.bind_some]
 have e : w64 (((q ++ [x]).length : Int) - 1) = (q.length : Int) := by rw [w64_id (by omega) (by omega)]; omega
 rw [e]
 refine .bind (up_ev q.length q.length (Nat.le_refl _) (q ++ [x]) (by omega) (by omega) hq2) fun r hr => .ret ⟨rfl, hr⟩
theorem down_ev {TL : List Int} {n : Nat} : ∀ (d i : Nat), n - i <= d -> ∀ l : List Int, i < l.length -> n <= l.length -> l.length <= 1000000 -> INQ l TL ->
 W (fun k => heap_down_i1.c2 k 0 (n : Int) (i : Int) l TL) (fun r => r.2.1.Perm l /\ ∀ c : Nat, n <= c -> i < n -> rd r.2.1 (c : Int) = rd l (c : Int)) := by
 intro d
 induction d with
 | zero =>
   intro i hi l hl hn hb h
   refine .succ ?_
   have e : w64 (w64 (2 * (i : Int)) + 1) = 2 * (i : Int) + 1 := by rw [w64_id (n := 2 * (i : Int)) (by omega) (by omega), w64_id (by omega) (by omega)]
   simp only [heap_down_i1.c2, e]
   simp (disch := omega) only [↓cdT]
   exact .ret ⟨List.Perm.refl _, fun _ _ _ => rfl⟩
 | succ d ih =>
   intro i hi l hl hn hb h
   refine .succ ?_
   have e : w64 (w64 (2 * (i : Int)) + 1) = ((2 * i + 1 : Nat) : Int) := by rw [w64_id (n := 2 * (i : Int)) (by omega) (by omega), w64_id (by omega) (by omega)]; omega
   have e2 : w64 (((2 * i + 1 : Nat) : Int) + 1) = ((2 * i + 2 : Nat) : Int) := by rw [w64_id (by omega) (by omega)]; omega
   simp only [heap_down_i1.c2, e, e2]
   refine .dec (fun h1 => .ret ⟨List.Perm.refl _, fun _ _ _ => rfl⟩) fun h1 => ?_
   simp (disch := omega) only [↓cdF]
   have body : ∀ c : Nat, i < c -> c < n -> W (fun k => heap_down_i1.c8 k 0 (n : Int) (i : Int) (c : Int) l TL) (fun r => r.2.1.Perm l /\ ∀ c : Nat, n <= c -> i < n -> rd r.2.1 (c : Int) = rd l (c : Int)) := by
    intro c hic hcn
    refine .succ ?_
    obtain ⟨b, hbb⟩ := less_f h (i := c) (j := i) (by omega) hl
    simp only [heap_down_i1.c8, hbb, Option.bind_some]
    cases b
    . simp only [Bool.not_false, cond_true]
      exact .ret ⟨List.Perm.refl _, fun _ _ _ => rfl⟩
    . simp only [Bool.not_true, cond_false]
      rw [swap2_f hl (by omega)]
      simp only [Option.bind_some]
      have hs := swq_perm (l := l) (i := i) (j := c) hl (by omega)
      refine (ih c (by omega) (swq l i c) (by rw [swq_len]; omega) (by rw [swq_len]; omega) (by rw [swq_len]; omega) (h.perm hs)).mono fun r hr => ⟨hr.1.trans hs, fun x hx _ => ?_⟩
      rw [hr.2 x hx hcn, swq_rd (by omega) (by omega)]
   refine .dec (fun h2 => ?_) fun h2 => body _ (by omega) (by omega)
   obtain ⟨b, hbb⟩ := less_f h (i := 2 * i + 2) (j := 2 * i + 1) (by omega) (by omega)
   rw [hbb]
   simp only [Option.bind_some]
   cases b
   . exact body _ (by omega) (by omega)
   . exact body _ (by omega) (by omega)
theorem pop_evq {q TL : List Int} (hq : INQ q TL) (h0 : 0 < q.length) (hl : q.length <= 1000000) : W (fun k => heap_Pop_i3.f k q TL) (fun r => r.2.2.1 = TL /\ (r.1 :: r.2.2.2.1).Perm q) := by
 simp only [heap_Pop_i3.f, listsched_queue_Len.f, Option.bind_some]
 have e : w64 ((q.length : Int) - 1) = ((q.length - 1 : Nat) : Int) := by rw [w64_id (by omega) (by omega)]; omega
 rw [e]
 have e0 : (0 : Int) = ((0 : Nat) : Int) := rfl
 have hsw := swap2_f (l := q) (TL := TL) (i := 0) (j := q.length - 1) h0 (by omega)
 rw [<- e0] at hsw
 rw [hsw]
 simp only [Option.bind_some]
 have hs := swq_perm (l := q) (i := 0) (j := q.length - 1) h0 (by omega)
 simp only [heap_down_i1.f]
 refine .bind (down_ev (TL := TL) (n := q.length - 1) (q.length - 1) 0 (by omega) (swq q 0 (q.length - 1)) (by rw [swq_len]; omega) (by rw [swq_len]; omega) (by rw [swq_len]; omega) (hq.perm hs)) fun r hr => ?_
 obtain ⟨r0, l, _⟩ := r
 have hp : l.Perm q := hr.1.trans hs
 have hlen : l.length = q.length := hp.length_eq
 have e3 : w64 ((l.length : Int) - 1) = ((q.length - 1 : Nat) : Int) := by rw [hlen]; exact e
 simp only [listsched_queue_Pop_i3.f, e3]
 simp (disch := omega) only [↓if_pos, Option.bind_some, Int.toNat_natCast]
 refine .ret ⟨rfl, ?_⟩
 have e4 : l.take (q.length - 1) ++ [rd l ((q.length - 1 : Nat) : Int)] = l := by
  have : l.take (q.length - 1 + 1) = l := List.take_of_length_le (by omega)
  rw [List.take_add_one, List.getElem?_eq_getElem (by omega)] at this
  rw [rd_eq (by omega)]
  simpa using this
 show (rd l ((q.length - 1 : Nat) : Int) :: l.take (q.length - 1)).Perm q
 refine List.Perm.trans ?_ hp
 conv => rhs; rw [<- e4]
 exact (List.perm_append_singleton _ _).symm
end Go.Proofs.YtjddmekfeckphaaGreatV
namespace Go.Proofs.YtjddmekfeckphaaGreatV
open Go Go.Vm
abbrev rsI (f : Flow) (i : Nat) : Int := Need.Res (rd (Flow.Needs f) (i : Int))
abbrev bsI (f : Flow) (i : Nat) : Int := Need.Busy (rd (Flow.Needs f) (i : Int))
abbrev cnt (f : Flow) (r : Int) : Int := Resource.Count (rd (Flow.Res f) r)
abbrev aF (f : Flow) (j : Nat) : Int := Arc.From (rd (Flow.Arcs f) (j : Int))
abbrev aT (f : Flow) (j : Nat) : Int := Arc.To (rd (Flow.Arcs f) (j : Int))
abbrev aL (f : Flow) (j : Nat) : Int := Arc.Lat (rd (Flow.Arcs f) (j : Int))
def opP (I : Int) (WT : List Bool) (v : Int) (a : Arc) : Bool := decide (Arc.From a < I) && (rd WT (Arc.From a) && decide (Arc.To a = v))
def opc (f : Flow) (WT : List Bool) (v : Int) : Nat := (Flow.Arcs f).countP (opP (Flow.Insts f) WT v)
def nxl (f : Flow) (i : Nat) : List Arc := (Flow.Arcs f).filter fun a => decide (Arc.From a = (i : Int))
theorem cp_place {I : Int} {WT : List Bool} {i : Nat} (hi : i < WT.length) (hI : (i : Int) < I) (hw : rd WT (i : Int) = true) (v : Int) : ∀ l : List Arc, (∀ a ∈ l, 0 <= Arc.From a) ->
 l.countP (opP I WT v) = l.countP (opP I (WT.set i false) v) + (l.filter fun a => decide (Arc.From a = (i : Int))).countP fun a => decide (Arc.To a = v)
 | [], _ => rfl
 | a :: l, h => by
   have ih := cp_place hi hI hw v l fun b hb => h b (by simp [hb])
   have h0 := h a (by simp)
   rw [List.countP_cons, List.countP_cons, ih]
   by_cases e : Arc.From a = (i : Int)
   . rw [List.filter_cons_of_pos (by simp [e]), List.countP_cons]
     have e1 : opP I WT v a = decide (Arc.To a = v) := by unfold opP; rw [e, hw]; simp [hI]
     have e2 : opP I (WT.set i false) v a = false := by unfold opP; rw [e, rd_set_eq hi]; simp
     rw [e1, e2]
     simp
     omega
   . rw [List.filter_cons_of_neg (by simp [e])]
     obtain ⟨m, hm⟩ : ∃ m : Nat, Arc.From a = (m : Int) := ⟨(Arc.From a).toNat, by omega⟩
     have e1 : opP I (WT.set i false) v a = opP I WT v a := by unfold opP; rw [hm, rd_set_ne (by omega)]
     rw [e1]
     omega
theorem opc_zero {f : Flow} {WT : List Bool} {v : Int} (h : opc f WT v = 0) {j : Nat} (hj : j < (Flow.Arcs f).length) (h1 : aF f j < Flow.Insts f) (h2 : rd WT (aF f j) = true) : aT f j ≠ v := by
 intro e
 have := List.countP_eq_zero.1 h (rd (Flow.Arcs f) (j : Int)) (rd_mem (by omega) (by omega))
 apply this
 unfold opP
 rw [decide_eq_true h1, h2, decide_eq_true e]
 rfl
theorem opc_one {f : Flow} {WT : List Bool} {v : Int} (h : opc f WT v ≠ 0) : ∃ j : Nat, j < (Flow.Arcs f).length /\ aF f j < Flow.Insts f /\ rd WT (aF f j) = true /\ aT f j = v := by
 have hne : ¬ ∀ a ∈ Flow.Arcs f, ¬ opP (Flow.Insts f) WT v a = true := fun q => h (List.countP_eq_zero.2 q)
 obtain ⟨a, ha⟩ := Classical.not_forall.1 hne
 obtain ⟨h1, h2⟩ := Classical.not_imp.1 ha
 have h2 := Classical.not_not.1 h2
 obtain ⟨j, hj, e⟩ := mem_rd h1
 subst e
 unfold opP at h2
 simp only [Bool.and_eq_true, decide_eq_true_iff] at h2
 exact ⟨j, hj, h2.1, h2.2.1, h2.2.2⟩
theorem mem_nxl {f : Flow} {i : Nat} {a : Arc} : a ∈ nxl f i ↔ ∃ j : Nat, j < (Flow.Arcs f).length /\ rd (Flow.Arcs f) (j : Int) = a /\ aF f j = (i : Int) := by
 unfold nxl
 rw [List.mem_filter, decide_eq_true_iff]
 constructor
 . rintro ⟨h1, h2⟩
   obtain ⟨j, hj, e⟩ := mem_rd h1
   subst e
   exact ⟨j, hj, rfl, h2⟩
 . rintro ⟨j, hj, e, h2⟩
   subst e
   exact ⟨rd_mem (by omega) (by omega), h2⟩
def CB (f : Flow) (WT : List Bool) (ST : List Int) (x : Int) : Nat -> Int
 | 0 => 0
 | m + 1 => CB f WT ST x m + if rd WT (m : Int) = false /\ CONT f m then mx 0 (mn x (rd ST (m : Int) + bsI f m) - rd ST (m : Int)) else 0
def KSUM (f : Flow) : Nat -> Int
 | 0 => 0
 | m + 1 => KSUM f m + if CONT f m then bsI f m else 0
section
variable {f : Flow} {WT : List Bool} {ST : List Int}
theorem CB_mono {x y : Int} (h : x <= y) : ∀ m, CB f WT ST x m <= CB f WT ST y m
 | 0 => Int.le_refl _
 | m + 1 => by
   have ih := CB_mono h m
   show _ + ite _ _ _ <= _ + ite _ _ _
   split
   . have : mx 0 (mn x (rd ST (m : Int) + bsI f m) - rd ST (m : Int)) <= mx 0 (mn y (rd ST (m : Int) + bsI f m) - rd ST (m : Int)) := by unfold mx mn; repeat' split <;> omega
     omega
   . omega
theorem CB_sum {x : Int} (hb : ∀ i : Nat, 0 <= bsI f i \/ ¬ CONT f i) : ∀ m, CB f WT ST x m <= KSUM f m
 | 0 => Int.le_refl _
 | m + 1 => by
   have ih := CB_sum (x := x) hb m
   show _ + ite _ _ _ <= _ + ite _ _ _
   by_cases h : CONT f m
   . rw [if_pos h]
     have hbm : 0 <= bsI f m := (hb m).resolve_right fun q => q h
     split
     . have : mx 0 (mn x (rd ST (m : Int) + bsI f m) - rd ST (m : Int)) <= bsI f m := by unfold mx mn; repeat' split <;> omega
       omega
     . omega
   . rw [if_neg h, if_neg fun q => h q.2]
     omega
theorem CB_cover {x y : Int} {k : Nat} (hw : rd WT (k : Int) = false) (hc : CONT f k) (h1 : rd ST (k : Int) <= x) (h2 : x <= y) (h3 : y <= rd ST (k : Int) + bsI f k) : ∀ m, k < m -> CB f WT ST x m + (y - x) <= CB f WT ST y m
 | 0, h => by omega
 | m + 1, h => by
   show _ + ite _ _ _ + _ <= _ + ite _ _ _
   by_cases e : k = m
   . subst e
     rw [if_pos ⟨hw, hc⟩, if_pos ⟨hw, hc⟩]
     have := CB_mono (f := f) (WT := WT) (ST := ST) h2 k
     have : mx 0 (mn x (rd ST (k : Int) + bsI f k) - rd ST (k : Int)) + (y - x) <= mx 0 (mn y (rd ST (k : Int) + bsI f k) - rd ST (k : Int)) := by unfold mx mn; repeat' split <;> omega
     omega
   . have ih := CB_cover hw hc h1 h2 h3 m (by omega)
     split
     . have : mx 0 (mn x (rd ST (m : Int) + bsI f m) - rd ST (m : Int)) <= mx 0 (mn y (rd ST (m : Int) + bsI f m) - rd ST (m : Int)) := by unfold mx mn; repeat' split <;> omega
       omega
     . omega
theorem CB_place {i : Nat} {t x : Int} (hi : i < WT.length) (hs : i < ST.length) (hw : rd WT (i : Int) = true) : ∀ m, CB f WT ST x m <= CB f (WT.set i false) (ST.set i t) x m
 | 0 => Int.le_refl _
 | m + 1 => by
   have ih := CB_place (t := t) (x := x) hi hs hw m
   show _ + ite _ _ _ <= _ + ite _ _ _
   by_cases e : i = m
   . subst e
     rw [if_neg (by rw [hw]; simp)]
     split
     . have := le_mx_l 0 (mn x (rd (ST.set i t) (i : Int) + bsI f i) - rd (ST.set i t) (i : Int))
       omega
     . omega
   . rw [rd_set_ne e, rd_set_ne e]
     omega
end
def RDY (f : Flow) (t : Int) (WT : List Bool) (OP EA : List Int) (i : Nat) : Prop := (i : Int) < Flow.Insts f /\ rd WT (i : Int) = true /\ rd OP (i : Int) = 0 /\ rd EA (i : Int) <= t
structure RI (f : Flow) (p : Int -> Int) (t : Int) (WT : List Bool) (ST UN OP EA : List Int) (FR : List (List Int)) : Prop where
 lw : (WT.length : Int) = Flow.Insts f
 ls : (ST.length : Int) = Flow.Insts f
 lu : (UN.length : Int) = Flow.Insts f
 lo : (OP.length : Int) = Flow.N f + 2
 le : (EA.length : Int) = Flow.N f + 2
 lf : FR.length = (Flow.Res f).length
 lfr : ∀ r : Nat, r < (Flow.Res f).length -> ((rd FR (r : Int)).length : Int) = cnt f r
 t0 : 0 <= t
 opn : ∀ v : Nat, (v : Int) < Flow.N f + 2 -> rd OP (v : Int) = (opc f WT v : Int)
 ea : ∀ v : Nat, (v : Int) < Flow.N f + 2 -> 0 <= rd EA (v : Int) /\ rd EA (v : Int) <= t + 4096
 eaf : ∀ j : Nat, j < (Flow.Arcs f).length -> (aF f j < Flow.Insts f -> rd WT (aF f j) = false -> rd ST (aF f j) + aL f j <= rd EA (aT f j)) /\ (Flow.Insts f <= aF f j -> aL f j <= rd EA (aT f j))
 st : ∀ i : Nat, (i : Int) < Flow.Insts f -> rd WT (i : Int) = false -> 0 <= rd ST (i : Int) /\ rd ST (i : Int) <= t
 leg : ∀ j : Nat, j < (Flow.Arcs f).length -> aT f j < Flow.Insts f -> rd WT (aT f j) = false -> (aF f j < Flow.Insts f -> rd WT (aF f j) = false /\ rd ST (aF f j) + aL f j <= rd ST (aT f j)) /\ (Flow.Insts f <= aF f j -> aL f j <= rd ST (aT f j))
 un1 : ∀ i : Nat, (i : Int) < Flow.Insts f -> rsI f i < 0 -> rd UN (i : Int) = -1
 un2 : ∀ i : Nat, (i : Int) < Flow.Insts f -> rd WT (i : Int) = false -> 0 <= rsI f i -> 0 <= rd UN (i : Int) /\ rd UN (i : Int) < cnt f (rsI f i) /\ rd ST (i : Int) + bsI f i <= rd (rd FR (rsI f i)) (rd UN (i : Int))
 fre : ∀ i k : Nat, (i : Int) < Flow.Insts f -> (k : Int) < Flow.Insts f -> i ≠ k -> rd WT (i : Int) = false -> rd WT (k : Int) = false -> 0 <= rsI f i -> rsI f i = rsI f k -> rd UN (i : Int) = rd UN (k : Int) -> rd ST (i : Int) + bsI f i <= rd ST (k : Int) \/ rd ST (k : Int) + bsI f k <= rd ST (i : Int)
 frk : ∀ r : Nat, r < (Flow.Res f).length -> ∀ u : Nat, (u : Int) < cnt f r -> rd (rd FR (r : Int)) (u : Int) = 0 \/ ∃ k : Nat, (k : Int) < Flow.Insts f /\ rd WT (k : Int) = false /\ rsI f k = r /\ rd UN (k : Int) = u /\ rd (rd FR (r : Int)) (u : Int) = rd ST (k : Int) + bsI f k
 c1 : ∀ v : Nat, (v : Int) < Flow.N f + 2 -> rd EA (v : Int) <= p v + CB f WT ST (rd EA (v : Int)) (Flow.Insts f).toNat
 c2 : ∀ i : Nat, RDY f t WT OP EA i -> t <= p i + CB f WT ST t (Flow.Insts f).toNat
 c3 : ∀ i : Nat, (i : Int) < Flow.Insts f -> rd WT (i : Int) = false -> rd ST (i : Int) <= p i + CB f WT ST (rd ST (i : Int)) (Flow.Insts f).toNat
structure PLC (f : Flow) (t : Int) (i : Nat) (OP EA OP' EA' : List Int) : Prop where
 lo : OP'.length = OP.length
 le : EA'.length = EA.length
 op : ∀ v : Nat, v < OP.length -> rd OP' (v : Int) = rd OP (v : Int) - ((nxl f i).countP (fun a => decide (Arc.To a = (v : Int))) : Int)
 up : ∀ v : Nat, v < EA.length -> rd EA (v : Int) <= rd EA' (v : Int)
 ge : ∀ a ∈ nxl f i, t + Arc.Lat a <= rd EA' (Arc.To a)
 at' : ∀ v : Nat, v < EA.length -> rd EA' (v : Int) = rd EA (v : Int) \/ ∃ a ∈ nxl f i, Arc.To a = (v : Int) /\ rd EA' (v : Int) = t + Arc.Lat a
structure SOL (f : Flow) (p : Int -> Int) : Prop where
 pos : ∀ v : Int, 0 <= v -> v < Flow.N f + 2 -> 0 <= p v
 arc : ∀ j : Nat, j < (Flow.Arcs f).length -> p (aF f j) + aL f j <= p (aT f j)
section
variable {f : Flow} {p : Int -> Int} {t : Int} {WT : List Bool} {ST UN OP EA : List Int} {FR : List (List Int)}
theorem RI.place (V : VALID f) (hp : SOL f p) (H : RI f p t WT ST UN OP EA FR) {i : Nat} (hr : RDY f t WT OP EA i) {OP' EA' UN' : List Int} {FR' : List (List Int)} (hP : PLC f t i OP EA OP' EA')
 (hU : (rsI f i < 0 /\ UN' = UN /\ FR' = FR) \/ (0 <= rsI f i /\ ∃ u : Nat, (u : Int) < cnt f (rsI f i) /\ rd (rd FR (rsI f i)) (u : Int) <= t /\ UN' = UN.set i (u : Int) /\ FR' = FR.set (rsI f i).toNat ((rd FR (rsI f i)).set u (t + bsI f i)))) :
 RI f p t (WT.set i false) (ST.set i t) UN' OP' EA' FR' := by
 obtain ⟨hi, hw, ho, he⟩ := hr
 have hnl := V.needs
 have hN : Flow.N f = Flow.Insts f + Flow.Params f := rfl
 have p0 := V.p0
 have l1 := H.lw
 have l2 := H.ls
 have l3 := H.lu
 have l4 := H.lo
 have l5 := H.le
 have hres : -1 <= rsI f i /\ rsI f i < ((Flow.Res f).length : Int) := need_at V (i := i) (by omega)
 have hbs : 0 <= bsI f i := by rcases V.need i (by omega) with ⟨_, a⟩ | ⟨_, _, a, b⟩ <;> (show 0 <= Need.Busy _) <;> omega
 have t0 := H.t0
 have hiW : i < WT.length := by omega
 have hiS : i < ST.length := by omega
 have hopc : opc f WT i = 0 := by have := H.opn i (by omega); omega
 have hti := H.c2 i ⟨hi, hw, ho, he⟩
 have arc0 : ∀ j : Nat, j < (Flow.Arcs f).length -> 0 <= aF f j /\ aF f j <= Flow.N f /\ 0 <= aT f j /\ aT f j <= Flow.N f + 1 /\ 0 <= aL f j /\ aL f j <= 4096 := fun j hj => by
  obtain ⟨v1, v2, v3, v4, v5, v6, _⟩ := V.arcs j hj
  exact ⟨v1, v2, v3, v4, v5, v6⟩
 have wt : ∀ {k : Nat}, (k : Int) < Flow.Insts f -> rd (WT.set i false) (k : Int) = false -> k = i \/ (k ≠ i /\ rd WT (k : Int) = false) := fun {k} hk h => by
  by_cases e : k = i
  . exact .inl e
  . rw [rd_set_ne (Ne.symm e)] at h
    exact .inr ⟨e, h⟩
 have wtI : ∀ {x : Int}, 0 <= x -> x ≠ (i : Int) -> rd (WT.set i false) x = rd WT x /\ rd (ST.set i t) x = rd ST x := fun {x} h0 hx => by
  obtain ⟨m, rfl⟩ : ∃ m : Nat, x = (m : Int) := ⟨x.toNat, by omega⟩
  exact ⟨rd_set_ne (by omega), rd_set_ne (by omega)⟩
 -- no arc from the instruction to one that is ready, or placed
 have noarc : ∀ j : Nat, j < (Flow.Arcs f).length -> aF f j = (i : Int) -> ¬ (aT f j < Flow.Insts f /\ rd (WT.set i false) (aT f j) = false) := by
  rintro j hj hf ⟨h1, h2⟩
  obtain ⟨a1, a2, a3, a4, a5, a6⟩ := arc0 j hj
  obtain ⟨m, hm⟩ : ∃ m : Nat, aT f j = (m : Int) := ⟨(aT f j).toNat, by omega⟩
  rw [hm] at h1 h2
  rcases wt h1 h2 with e | ⟨e, h3⟩
  . exact opc_zero hopc hj (by omega) (by rw [hf]; exact hw) (by rw [hm, e])
  . have := ((H.leg j hj (by omega) (by rw [hm]; exact h3)).1 (by omega)).1
    rw [hf, hw] at this
    cases this
 have eaI : ∀ {j : Nat}, j < (Flow.Arcs f).length -> rd EA (aT f j) <= rd EA' (aT f j) := fun {j} hj => by
  obtain ⟨a1, a2, a3, a4, a5, a6⟩ := arc0 j hj
  obtain ⟨m, hm⟩ : ∃ m : Nat, aT f j = (m : Int) := ⟨(aT f j).toNat, by omega⟩
  rw [hm]
  exact hP.up m (by omega)
 have cb : ∀ x, CB f WT ST x (Flow.Insts f).toNat <= CB f (WT.set i false) (ST.set i t) x (Flow.Insts f).toNat := fun x => CB_place hiW hiS hw _
 have c1' : ∀ v : Nat, (v : Int) < Flow.N f + 2 -> rd EA' (v : Int) <= p v + CB f (WT.set i false) (ST.set i t) (rd EA' (v : Int)) (Flow.Insts f).toNat := by
  intro v hv
  rcases hP.at' v (by omega) with e | ⟨a, ha, e1, e2⟩
  . rw [e]
    have := H.c1 v hv
    have := cb (rd EA (v : Int))
    omega
  . obtain ⟨j, hj, e3, e4⟩ := mem_nxl.1 ha
    obtain ⟨a1, a2, a3, a4, a5, a6⟩ := arc0 j hj
    have hs := hp.arc j hj
    rw [e4] at hs
    subst e3
    rw [show aT f j = (v : Int) from e1] at hs
    rw [e2]
    have h1 := cb t
    have h2 := CB_mono (f := f) (WT := WT.set i false) (ST := ST.set i t) (x := t) (y := t + aL f j) (by omega) (Flow.Insts f).toNat
    show t + aL f j <= _ + CB f _ _ (t + aL f j) _
    omega
 have opn' : ∀ v : Nat, (v : Int) < Flow.N f + 2 -> rd OP' (v : Int) = (opc f (WT.set i false) v : Int) := by
  intro v hv
  rw [hP.op v (by omega), H.opn v hv]
  have := cp_place (I := Flow.Insts f) hiW hi hw (v : Int) (Flow.Arcs f) fun a ha => by
   obtain ⟨j, hj, e⟩ := mem_rd ha
   subst e
   exact (arc0 j hj).1
  unfold opc nxl
  omega
 refine ⟨by rw [List.length_set]; exact l1, by rw [List.length_set]; exact l2, ?_, by rw [hP.lo]; exact l4, by rw [hP.le]; exact l5, ?_, ?_, t0, opn', ?_, ?_, ?_, ?_, ?_, ?_, ?_, ?_, c1', ?_, ?_⟩
 . rcases hU with ⟨_, rfl, _⟩ | ⟨_, u, _, _, rfl, _⟩
   . exact l3
   . rw [List.length_set]; exact l3
 . rcases hU with ⟨_, _, rfl⟩ | ⟨_, u, _, _, _, rfl⟩
   . exact H.lf
   . rw [List.length_set]; exact H.lf
 . intro r hr
   rcases hU with ⟨_, _, rfl⟩ | ⟨h0, u, _, _, _, rfl⟩
   . exact H.lfr r hr
   . have := H.lf
     rw [rd_set (by omega)]
     split
     . rename_i e
       rw [List.length_set]
       have := H.lfr r hr
       rw [show rsI f i = (r : Int) by omega]
       exact this
     . exact H.lfr r hr
 . intro v hv
   have h1 := H.ea v hv
   have h2 := hP.up v (by omega)
   refine ⟨by omega, ?_⟩
   rcases hP.at' v (by omega) with e | ⟨a, ha, e1, e2⟩
   . rw [e]; exact h1.2
   . obtain ⟨j, hj, e3, e4⟩ := mem_nxl.1 ha
     obtain ⟨a1, a2, a3, a4, a5, a6⟩ := arc0 j hj
     subst e3
     have : Arc.Lat (rd (Flow.Arcs f) (j : Int)) <= 4096 := a6
     omega
 . intro j hj
   obtain ⟨a1, a2, a3, a4, a5, a6⟩ := arc0 j hj
   have h1 := H.eaf j hj
   have h2 := eaI hj
   refine ⟨fun q1 q2 => ?_, fun q => Int.le_trans (h1.2 q) h2⟩
   by_cases e : aF f j = (i : Int)
   . rw [e, rd_set_eq hiS]
     exact hP.ge _ (mem_nxl.2 ⟨j, hj, rfl, e⟩)
   . obtain ⟨e1, e2⟩ := wtI a1 e
     rw [e1] at q2
     rw [e2]
     exact Int.le_trans (h1.1 q1 q2) h2
 . intro k hk hkw
   rcases wt hk hkw with e | ⟨e, h3⟩
   . subst e
     rw [rd_set_eq hiS]
     omega
   . rw [rd_set_ne (Ne.symm e)]
     exact H.st k hk h3
 . intro j hj h1 h2
   obtain ⟨a1, a2, a3, a4, a5, a6⟩ := arc0 j hj
   have hne : aF f j ≠ (i : Int) := fun e => noarc j hj e ⟨h1, h2⟩
   obtain ⟨e1, e2⟩ := wtI a1 hne
   by_cases e : aT f j = (i : Int)
   . -- arcs to the instruction
     refine ⟨fun q => ?_, fun q => ?_⟩
     . have hw' : rd WT (aF f j) = false := by
        cases hb : rd WT (aF f j)
        . rfl
        . exact absurd e (opc_zero hopc hj q hb)
       refine ⟨by rw [e1]; exact hw', ?_⟩
       rw [e2, e, rd_set_eq hiS]
       have := (H.eaf j hj).1 q hw'
       rw [e] at this
       omega
     . rw [e, rd_set_eq hiS]
       have := (H.eaf j hj).2 q
       rw [e] at this
       omega
   . obtain ⟨e3, e4⟩ := wtI a3 e
     rw [e3] at h2
     have := H.leg j hj h1 h2
     rw [e1, e2, e4]
     exact this
 . intro k hk hk0
   rcases hU with ⟨_, rfl, _⟩ | ⟨h0, u, _, _, rfl, _⟩
   . exact H.un1 k hk hk0
   . have : i ≠ k := fun e => by subst e; omega
     rw [rd_set_ne this]
     exact H.un1 k hk hk0
 . intro k hk hkw hk0
   rcases wt hk hkw with e | ⟨e, h3⟩
   . subst e
     rcases hU with ⟨h, _⟩ | ⟨_, u, hu1, hu2, rfl, rfl⟩
     . omega
     . have hlf := H.lf
       have hl2 := H.lfr (rsI f k).toNat (by omega)
       rw [show (((rsI f k).toNat : Nat) : Int) = rsI f k by omega] at hl2
       rw [rd_set_eq hiS, rd_set_eq (by omega)]
       refine ⟨by omega, hu1, ?_⟩
       have e4 : rd (FR.set (rsI f k).toNat ((rd FR (rsI f k)).set u (t + bsI f k))) (rsI f k) = (rd FR (rsI f k)).set u (t + bsI f k) := by
        have := rd_set_eq (xs := FR) (i := (rsI f k).toNat) (v := (rd FR (rsI f k)).set u (t + bsI f k)) (by omega)
        rwa [show (((rsI f k).toNat : Nat) : Int) = rsI f k by omega] at this
       rw [e4, rd_set_eq (by omega)]
       omega
   . have hh := H.un2 k hk h3 hk0
     rw [rd_set_ne (Ne.symm e)]
     rcases hU with ⟨_, rfl, rfl⟩ | ⟨h0, u, hu1, hu2, rfl, rfl⟩
     . exact hh
     . rw [rd_set_ne (Ne.symm e)]
       have hlf := H.lf
       refine ⟨hh.1, hh.2.1, ?_⟩
       by_cases er : rsI f k = rsI f i
       . have hl2 := H.lfr (rsI f i).toNat (by omega)
         rw [show (((rsI f i).toNat : Nat) : Int) = rsI f i by omega] at hl2
         have e4 : rd (FR.set (rsI f i).toNat ((rd FR (rsI f i)).set u (t + bsI f i))) (rsI f k) = (rd FR (rsI f i)).set u (t + bsI f i) := by
          rw [er]
          have := rd_set_eq (xs := FR) (i := (rsI f i).toNat) (v := (rd FR (rsI f i)).set u (t + bsI f i)) (by omega)
          rwa [show (((rsI f i).toNat : Nat) : Int) = rsI f i by omega] at this
         rw [e4]
         obtain ⟨m, hm⟩ : ∃ m : Nat, rd UN (k : Int) = (m : Int) := ⟨(rd UN (k : Int)).toNat, by omega⟩
         rw [hm]
         by_cases em : u = m
         . subst em
           rw [rd_set_eq (by omega)]
           have := hh.2.2
           rw [er, hm] at this
           have hst := H.st k hk h3
           omega
         . rw [rd_set_ne em, <- hm, <- er]
           exact hh.2.2
       . have e4 : rd (FR.set (rsI f i).toNat ((rd FR (rsI f i)).set u (t + bsI f i))) (rsI f k) = rd FR (rsI f k) := by
          obtain ⟨m, hm⟩ : ∃ m : Nat, rsI f k = (m : Int) := ⟨(rsI f k).toNat, by omega⟩
          rw [hm]
          exact rd_set_ne (by omega)
         rw [e4]
         exact hh.2.2
 . -- no two on one unit at the same time
   have one : ∀ k : Nat, (k : Int) < Flow.Insts f -> k ≠ i -> rd WT (k : Int) = false -> 0 <= rsI f i -> rsI f i = rsI f k -> rd UN' (i : Int) = rd UN' (k : Int) -> rd ST (k : Int) + bsI f k <= t := by
    intro k hk hne hkw h0 hrr huu
    rcases hU with ⟨h, _⟩ | ⟨_, u, hu1, hu2, rfl, rfl⟩
    . omega
    . rw [rd_set_eq (by omega), rd_set_ne (Ne.symm hne)] at huu
      have := (H.un2 k hk hkw (by omega)).2.2
      rw [<- huu, <- hrr] at this
      omega
   intro a b ha hb hab haw hbw h0 hrr huu
   rcases wt ha haw with e | ⟨e, h3⟩
   . subst e
     rcases wt hb hbw with e2 | ⟨e2, h4⟩
     . exact absurd e2.symm hab
     . rw [rd_set_eq hiS, rd_set_ne (Ne.symm e2)]
       exact .inr (one b hb e2 h4 h0 hrr huu)
   . rcases wt hb hbw with e2 | ⟨e2, h4⟩
     . subst e2
       rw [rd_set_eq hiS, rd_set_ne (Ne.symm e)]
       exact .inl (one a ha e h3 (by omega) hrr.symm huu.symm)
     . rw [rd_set_ne (Ne.symm e), rd_set_ne (Ne.symm e2)]
       refine H.fre a b ha hb hab h3 h4 h0 hrr ?_
       rcases hU with ⟨_, rfl, _⟩ | ⟨_, u, _, _, rfl, _⟩
       . exact huu
       . rwa [rd_set_ne (Ne.symm e), rd_set_ne (Ne.symm e2)] at huu
 . intro r hr u' hu'
   have keep : ∀ {x : Int}, x = 0 \/ (∃ k : Nat, (k : Int) < Flow.Insts f /\ rd WT (k : Int) = false /\ rsI f k = r /\ rd UN (k : Int) = u' /\ x = rd ST (k : Int) + bsI f k) -> (∀ k : Nat, k ≠ i -> rd UN' (k : Int) = rd UN (k : Int)) ->
    x = 0 \/ (∃ k : Nat, (k : Int) < Flow.Insts f /\ rd (WT.set i false) (k : Int) = false /\ rsI f k = r /\ rd UN' (k : Int) = u' /\ x = rd (ST.set i t) (k : Int) + bsI f k) := by
    rintro x (e | ⟨k, q1, q2, q3, q4, q5⟩) hUN
    . exact .inl e
    . have hki : k ≠ i := fun e => by subst e; rw [hw] at q2; cases q2
      exact .inr ⟨k, q1, by rw [rd_set_ne (Ne.symm hki)]; exact q2, q3, by rw [hUN k hki]; exact q4, by rw [rd_set_ne (Ne.symm hki)]; exact q5⟩
   have hold := H.frk r hr u' hu'
   rcases hU with ⟨_, rfl, rfl⟩ | ⟨h0, u, hu1, hu2, rfl, rfl⟩
   . exact keep hold fun _ _ => rfl
   . have hUN : ∀ k : Nat, k ≠ i -> rd (UN.set i (u : Int)) (k : Int) = rd UN (k : Int) := fun k hk => rd_set_ne (Ne.symm hk)
     have hlf := H.lf
     rw [rd_set (by omega)]
     split
     . rename_i er
       have er : rsI f i = (r : Int) := by omega
       have hl2 := H.lfr r hr
       rw [er]
       by_cases eu : u = u'
       . subst eu
         rw [rd_set_eq (by omega)]
         exact .inr ⟨i, hi, rd_set_eq hiW, er, rd_set_eq (by omega), by rw [rd_set_eq hiS]⟩
       . rw [rd_set_ne eu]
         exact keep hold hUN
     . exact keep hold hUN
 . -- those that are ready
   intro k hk
   obtain ⟨k1, k2, k3, k4⟩ := hk
   have hki : k ≠ i := fun e => by subst e; rw [rd_set_eq hiW] at k2; cases k2
   rw [rd_set_ne (Ne.symm hki)] at k2
   have hcb := cb t
   by_cases e : ∃ j : Nat, j < (Flow.Arcs f).length /\ aF f j = (i : Int) /\ aT f j = (k : Int)
   . obtain ⟨j, hj, e1, e2⟩ := e
     have hge := hP.ge _ (mem_nxl.2 ⟨j, hj, rfl, e1⟩)
     have hge : t + aL f j <= rd EA' (aT f j) := hge
     rw [e2] at hge
     have := (arc0 j hj).2.2.2.2.1
     have h1 := c1' k (by omega)
     rw [show rd EA' (k : Int) = t by omega] at h1
     exact h1
   . have hz : (nxl f i).countP (fun a => decide (Arc.To a = (k : Int))) = 0 := by
      rw [List.countP_eq_zero]
      intro a ha q
      obtain ⟨j, hj, e3, e4⟩ := mem_nxl.1 ha
      subst e3
      exact e ⟨j, hj, e4, of_decide_eq_true q⟩
     have h2 := hP.op k (by omega)
     rw [hz] at h2
     have hE : rd EA' (k : Int) = rd EA (k : Int) := by
      rcases hP.at' k (by omega) with h | ⟨a, ha, q1, q2⟩
      . exact h
      . obtain ⟨j, hj, e3, e4⟩ := mem_nxl.1 ha
        subst e3
        exact absurd ⟨j, hj, e4, q1⟩ e
     have := H.c2 k ⟨k1, k2, by omega, by omega⟩
     omega
 . intro k hk hkw
   rcases wt hk hkw with e | ⟨e, h3⟩
   . subst e
     rw [rd_set_eq hiS]
     have := cb t
     omega
   . rw [rd_set_ne (Ne.symm e)]
     have := H.c3 k hk h3
     have := cb (rd ST (k : Int))
     omega
end
end Go.Proofs.YtjddmekfeckphaaGreatV
namespace Go.Proofs.YtjddmekfeckphaaGreatV
open Go Go.Vm
theorem cntN_nodup (l : List Need) (r : Int) : ∀ (m : Nat) (L : List Nat), L.Nodup -> (∀ x ∈ L, x < m /\ Need.Res (rd l (x : Int)) = r) -> L.length <= cntN l r m
 | 0, L, _, h => by
   cases L with
   | nil => exact Nat.le_refl _
   | cons x L => have := (h x (by simp)).1; omega
 | m + 1, L, hn, h => by
   rw [cntN_succ]
   by_cases hm : m ∈ L
   . have e : Need.Res (rd l (m : Int)) = r := (h m hm).2
     rw [if_pos e]
     have ih := cntN_nodup l r m (L.erase m) (hn.erase m) fun x hx => by
      have hx2 := (hn.mem_erase_iff).1 hx
      have := h x hx2.2
      exact ⟨by have := hx2.1; omega, this.2⟩
     rw [List.length_erase_of_mem hm] at ih
     omega
   . have ih := cntN_nodup l r m L hn fun x hx => by
      have := h x hx
      refine ⟨?_, this.2⟩
      by_cases e : x = m
      . rw [e] at hx; exact absurd hx hm
      . omega
     omega
section
variable {f : Flow} {p : Int -> Int} {t : Int} {WT : List Bool} {ST UN OP EA : List Int} {FR : List (List Int)}
theorem RI.cont (V : VALID f) (H : RI f p t WT ST UN OP EA FR) {i : Nat} (hi : (i : Int) < Flow.Insts f) (hw : rd WT (i : Int) = true) (h0 : 0 <= rsI f i) (hall : ∀ u : Nat, (u : Int) < cnt f (rsI f i) -> 0 < rd (rd FR (rsI f i)) (u : Int)) {k : Nat} (hk : rsI f k = rsI f i) : CONT f k := by
 have hnl := V.needs
 have hres : -1 <= rsI f i /\ rsI f i < ((Flow.Res f).length : Int) := need_at V (i := i) (by omega)
 obtain ⟨r, hr⟩ : ∃ r : Nat, rsI f i = (r : Int) := ⟨(rsI f i).toNat, by omega⟩
 have hrl : r < (Flow.Res f).length := by omega
 have hc : 0 <= cnt f r := by have := H.lfr r hrl; omega
 have ex : ∀ u : Nat, ∃ k : Nat, u < (cnt f r).toNat -> (k : Int) < Flow.Insts f /\ rd WT (k : Int) = false /\ rsI f k = r /\ rd UN (k : Int) = u := fun u => by
  by_cases hu : u < (cnt f r).toNat
  . rcases H.frk r hrl u (by omega) with e | ⟨k, q1, q2, q3, q4, _⟩
    . have := hall u (by rw [hr]; omega)
      rw [hr, e] at this
      omega
    . exact ⟨k, fun _ => ⟨q1, q2, q3, q4⟩⟩
  . exact ⟨0, fun h => absurd h hu⟩
 have nd : (i :: (List.range (cnt f r).toNat).map fun u => Classical.choose (ex u)).Nodup := by
  rw [List.nodup_cons]
  refine ⟨fun hm => ?_, ?_⟩
  . obtain ⟨u, hu, e⟩ := List.mem_map.1 hm
    have := (Classical.choose_spec (ex u) (by simpa using hu)).2.1
    rw [e, hw] at this
    cases this
  . unfold List.Nodup
    rw [List.pairwise_map]
    refine List.Pairwise.imp_of_mem ?_ (List.pairwise_lt_range (n := (cnt f r).toNat))
    intro a b ha hb hab e
    have h1 := (Classical.choose_spec (ex a) (by simpa using ha)).2.2.2
    have h2 := (Classical.choose_spec (ex b) (by simpa using hb)).2.2.2
    rw [e, h2] at h1
    omega
 have hlen := cntN_nodup (Flow.Needs f) r (Flow.Needs f).length _ nd fun x hx => by
  rcases List.mem_cons.1 hx with e | hx
  . subst e; exact ⟨by omega, hr⟩
  . obtain ⟨u, hu, e⟩ := List.mem_map.1 hx
    have := Classical.choose_spec (ex u) (by simpa using hu)
    rw [e] at this
    exact ⟨by omega, this.2.2.1⟩
 rw [List.length_cons, List.length_map, List.length_range] at hlen
 refine ⟨by show 0 <= rsI f k; omega, ?_⟩
 show cnt f (rsI f k) < (cntN (Flow.Needs f) (rsI f k) (Flow.Needs f).length : Int)
 rw [hk, hr]
 omega
theorem RI.next (V : VALID f) (H : RI f p t WT ST UN OP EA FR) {t' : Int} (ht : t < t')
 (hrej : ∀ i : Nat, RDY f t WT OP EA i -> 0 <= rsI f i /\ ∀ u : Nat, (u : Int) < cnt f (rsI f i) -> t < rd (rd FR (rsI f i)) (u : Int))
 (hmin : ∀ i : Nat, (i : Int) < Flow.Insts f -> rd WT (i : Int) = true -> rd OP (i : Int) = 0 -> (rsI f i < 0 -> t' <= mx (t + 1) (rd EA (i : Int))) /\
  (0 <= rsI f i -> ∃ m : Int, (∀ u : Nat, (u : Int) < cnt f (rsI f i) -> m <= rd (rd FR (rsI f i)) (u : Int)) /\ t' <= mx (mx (t + 1) (rd EA (i : Int))) m)) : RI f p t' WT ST UN OP EA FR := by
 have hnl := V.needs
 have t0 := H.t0
 have hN : Flow.N f = Flow.Insts f + Flow.Params f := rfl
 have p0 := V.p0
 refine ⟨H.lw, H.ls, H.lu, H.lo, H.le, H.lf, H.lfr, by omega, H.opn, fun v hv => by have := H.ea v hv; omega, H.eaf, fun i hi hw => by have := H.st i hi hw; omega, H.leg, H.un1, H.un2, H.fre, H.frk, H.c1, ?_, H.c3⟩
 rintro i ⟨hi, hw, ho, he⟩
 have h1 := H.c1 i (by omega)
 obtain ⟨m1, m2⟩ := hmin i hi hw ho
 by_cases e : rd EA (i : Int) = t'
 . rw [e] at h1; exact h1
 by_cases h0 : rsI f i < 0
 . have := m1 h0
   by_cases q : rd EA (i : Int) <= t
   . have := (hrej i ⟨hi, hw, ho, q⟩).1
     omega
   . have : mx (t + 1) (rd EA (i : Int)) = rd EA (i : Int) := by unfold mx; split <;> omega
     omega
 . obtain ⟨m, hm, htm⟩ := m2 (by omega)
   have hres : -1 <= rsI f i /\ rsI f i < ((Flow.Res f).length : Int) := need_at V (i := i) (by omega)
   obtain ⟨r, hr⟩ : ∃ r : Nat, rsI f i = (r : Int) := ⟨(rsI f i).toNat, by omega⟩
   have hrl : r < (Flow.Res f).length := by omega
   have hc1 : 1 <= cnt f r := (V.res r hrl).2.2.1
   -- where the wait begins
   have hb : ∃ b : Int, b <= t' /\ t <= b /\ b <= p i + CB f WT ST b (Flow.Insts f).toNat := by
    by_cases q : rd EA (i : Int) <= t
    . exact ⟨t, by omega, Int.le_refl _, H.c2 i ⟨hi, hw, ho, q⟩⟩
    . exact ⟨rd EA (i : Int), he, by omega, h1⟩
   have hall : ∀ u : Nat, (u : Int) < cnt f (rsI f i) -> t' <= rd (rd FR (rsI f i)) (u : Int) := by
    intro u hu
    have h2 := hm u hu
    by_cases q : rd EA (i : Int) <= t
    . have h3 := (hrej i ⟨hi, hw, ho, q⟩).2 u hu
      have : mx (mx (t + 1) (rd EA (i : Int))) m <= rd (rd FR (rsI f i)) (u : Int) := by rw [mx_le, mx_le]; omega
      omega
    . have : mx (mx (t + 1) (rd EA (i : Int))) m = mx (rd EA (i : Int)) m := by unfold mx; repeat' split <;> omega
      rw [this] at htm
      unfold mx at htm
      split at htm <;> omega
   obtain ⟨b, b1, b2, b3⟩ := hb
   have hu0 := hall 0 (by rw [hr]; omega)
   have hcont : ∀ k : Nat, rsI f k = rsI f i -> CONT f k := fun k hk => H.cont V hi hw (by omega) (fun u hu => by have := hall u hu; omega) hk
   rw [hr] at hu0
   rcases H.frk r hrl 0 (by omega) with e2 | ⟨k, q1, q2, q3, q4, q5⟩
   . omega
   . have hk := H.st k q1 q2
     have := CB_cover (f := f) (WT := WT) (ST := ST) (x := b) (y := t') q2 (hcont k (by rw [q3, hr])) (by omega) b1 (by omega) (Flow.Insts f).toNat (by omega)
     omega
theorem RI.limit (V : VALID f) (H : RI f p t WT ST UN OP EA FR) (ht : 4096 < t) {i : Nat} (hi : (i : Int) < Flow.Insts f) (hw : rd WT (i : Int) = true) (ho : rd OP (i : Int) = 0) : 4096 < p i + KSUM f (Flow.Insts f).toNat := by
 have p0 := V.p0
 have hN : Flow.N f = Flow.Insts f + Flow.Params f := rfl
 have hb : ∀ i : Nat, 0 <= bsI f i \/ ¬ CONT f i := fun i => by
  by_cases h : i < (Flow.Needs f).length
  . left
    rcases V.need i h with ⟨_, a⟩ | ⟨_, _, a, b⟩ <;> (show 0 <= Need.Busy _) <;> omega
  . left
    have : rd (Flow.Needs f) (i : Int) = default := by simp [rd, List.getElem?_eq_none (Nat.le_of_not_lt h)]
    show 0 <= Need.Busy (rd (Flow.Needs f) (i : Int))
    rw [this]
    exact Int.le_refl _
 by_cases q : rd EA (i : Int) <= t
 . have h1 := H.c2 i ⟨hi, hw, ho, q⟩
   have h2 := CB_sum (f := f) (WT := WT) (ST := ST) (x := t) hb (Flow.Insts f).toNat
   omega
 . have h1 := H.c1 i (by omega)
   have h2 := CB_sum (f := f) (WT := WT) (ST := ST) (x := rd EA (i : Int)) hb (Flow.Insts f).toNat
   omega
theorem RI.depth (V : VALID f) (H : RI f p t WT ST UN OP EA FR) : rd EA (Flow.N f + 1) <= p (Flow.N f + 1) + KSUM f (Flow.Insts f).toNat := by
 have p0 := V.p0
 have i0 := V.i0
 have hN : Flow.N f = Flow.Insts f + Flow.Params f := rfl
 obtain ⟨v, hv⟩ : ∃ v : Nat, Flow.N f + 1 = (v : Int) := ⟨(Flow.N f + 1).toNat, by omega⟩
 have hb : ∀ i : Nat, 0 <= bsI f i \/ ¬ CONT f i := fun i => by
  by_cases h : i < (Flow.Needs f).length
  . left
    rcases V.need i h with ⟨_, a⟩ | ⟨_, _, a, b⟩ <;> (show 0 <= Need.Busy _) <;> omega
  . left
    have : rd (Flow.Needs f) (i : Int) = default := by simp [rd, List.getElem?_eq_none (Nat.le_of_not_lt h)]
    show 0 <= Need.Busy (rd (Flow.Needs f) (i : Int))
    rw [this]
    exact Int.le_refl _
 rw [hv]
 have h1 := H.c1 v (by omega)
 have h2 := CB_sum (f := f) (WT := WT) (ST := ST) (x := rd EA (v : Int)) hb (Flow.Insts f).toNat
 omega
end
end Go.Proofs.YtjddmekfeckphaaGreatV
