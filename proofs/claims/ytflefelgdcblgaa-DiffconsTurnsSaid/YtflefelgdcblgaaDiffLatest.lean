/- Latest of the program: After of the turned system. No condition beyond the sizes that are named. -/
import Derived.Test.YtflefelgdcblgaaDiff
import Derived.Test.YtflefelgdcblgaaQx10
namespace Go.Proofs.Ytflefelgdcblgaa.Diff
open Go.RowKit Go.Proofs.YtflefelgdcblgaaW.PrintWords Go.Proofs.YtflefelgdcblgaaW.PrintMore Go.Proofs.Ytflefelgdcblgaa.Lib Go.Proofs.Ytflefelgdcblgaa.Q

def turn (a : Arc) : Arc := ⟨a.f1, a.f0, a.f2, a.f3⟩
theorem turn_wt (a : Arc) (ii : Int) : wt (turn a) ii = wt a ii := rfl
theorem turn_inn (n : Int) (a : Arc) : Inn n (turn a) ↔ Inn n a := by unfold Inn turn; dsimp only; omega
theorem rdT_map {l : List Arc} {i : Int} (h0 : 0 ≤ i) (h1 : i < l.length) : rd_T28 (l.map turn) i = turn (rd_T28 l i) := getD_map h0 h1
theorem rdT_set {xs : List Arc} {i j : Int} {v : Arc} (hi : 0 ≤ i) (hil : i < xs.length) (hj : 0 ≤ j) : rd_T28 (xs.set i.toNat v) j = if j = i then v else rd_T28 xs j := getD_set hi hil hj
theorem nod_nod (n : Int) : nod (nod n) = nod n := by unfold nod mn mx; omega

/-- What Latest makes of After's answer. -/
def negrev (a : List Int × List Int) : List Int × List Int := (a.1.map fun x => wrap64 (-x), a.2.reverse)

theorem latest_l2 (c : List Int) (hc : c.length ≤ 1000000000) (xs : List Int) (hxs : xs.length ≤ 8192) : ∀ (d : Nat) (i : Int) (ys : List Int), 0 ≤ i → i + d = xs.length → ys.length = xs.length → (∀ v, 0 ≤ v → v < i → rd ys v = wrap64 (-(rd xs v))) → (∀ v, i ≤ v → v < xs.length → rd ys v = rd xs v) →
    EvP (fun k => diffcons_Latest.l2 k ys c xs.length i) (fun r => r = negrev (xs, c)) := by
  intro d
  induction d with
  | zero =>
    intro i ys h0 hd hl hx hy
    have e : ys = xs.map fun x => wrap64 (-x) := rd_ext (by simp [hl]) (fun v a b => by rw [hx v a (by omega), rd_map (f := fun x => wrap64 (-x)) a (by omega)])
    subst e
    refine EvP.step (f := fun k => (slices_Reverse_int_int.f k c).bind fun t208 => some ((xs.map fun x => wrap64 (-x)), t208)) (fun k => ?_) (EvP.bind (reverse_f c hc) (fun a ha => EvP.ret _ (fun _ => rfl) (by rw [ha]; rfl)))
    simp only [diffcons_Latest.l2]; rw [if_neg (by omega)]
  | succ d ih =>
    intro i ys h0 hd hl hx hy
    refine EvP.step (fun k => ?_) (ih (i + 1) (ys.set i.toNat (wrap64 (-(rd ys i)))) (by omega) (by omega) (by simp [hl]) ?_ ?_)
    · simp only [diffcons_Latest.l2]
      rw [if_pos (by omega), if_pos h0, if_pos (by omega), wrap_id (n := i + 1) (by omega) (by omega)]
    · intro v a b
      rw [rd_set h0 (by omega) a]
      split
      · rename_i e; subst e; rw [hy v (by omega) (by omega)]
      · exact hx v a (by omega)
    · intro v a b
      rw [rd_set h0 (by omega) (by omega), if_neg (by omega)]
      exact hy v (by omega) b

/-- The lower bounds of the turned system. -/
def lower0 (n : Int) (upper : List Int) : List Int := (List.range n.toNat).map fun v : Nat => -(bnd upper v)
theorem latest_l1 {n ii : Int} {upper : List Int} {t : List Arc} {Q : List Int × List Int → Prop} (hn0 : 0 ≤ n) (hn : n ≤ 8192) (hA : EvP (fun k => diffcons_After.f k n t ii (lower0 n upper)) Q) (hQ : ∀ a, Q a → a.1.length ≤ 8192 ∧ a.2.length ≤ 1000000000) :
    ∀ (d : Nat) (i : Int) (ys : List Int), 0 ≤ i → i + d = n → (ys.length : Int) = n → (∀ v, 0 ≤ v → v < i → rd ys v = -(bnd upper v)) →
    EvP (fun k => diffcons_Latest.l1 k n ii upper t ys n i) (fun r => ∃ a, Q a ∧ r = negrev a) := by
  intro d
  induction d with
  | zero =>
    intro i ys h0 hd hl hx
    have e : ys = lower0 n upper := rd_ext (by simp [lower0]; omega) (fun v a b => by rw [hx v a (by omega), lower0, rd_range (f := fun v => -(bnd upper v)) a (by omega)])
    subst e
    refine EvP.step (f := fun k => (diffcons_After.f k n t ii (lower0 n upper)).bind fun bt200 => (diffcons_Latest.l2 k bt200.1 bt200.2 (bt200.1.length : Int) 0)) (fun k => ?_) (EvP.bind hA (fun a ha => ?_))
    · simp only [diffcons_Latest.l1]; rw [if_neg (by omega)]
    · obtain ⟨q1, q2⟩ := hQ a ha
      exact (latest_l2 a.2 q2 a.1 q1 a.1.length 0 a.1 (by omega) (by omega) rfl (fun v a b => by omega) (fun v a b => rfl)).mono (fun r hr => ⟨a, ha, hr⟩)
  | succ d ih =>
    intro i ys h0 hd hl hx
    have hb := bnd_le upper i
    refine EvP.step (fun k => ?_) (ih (i + 1) (ys.set i.toNat (-(bnd upper i))) (by omega) (by omega) (by simpa using hl) ?_)
    · simp only [diffcons_Latest.l1]
      rw [if_pos (by omega), bound_f h0]
      simp only [Option.bind_some]
      rw [if_pos h0, if_pos (by omega), wrap_id (n := i + 1) (by omega) (by omega), wrap_id (by omega) (by omega)]
    · intro v a b
      rw [rd_set h0 (by omega) a]
      split
      · rename_i e; subst e; rfl
      · exact hx v a (by omega)
theorem latest_l0 {n ii : Int} {upper : List Int} {l : List Arc} {Q : List Int × List Int → Prop} (hn0 : 0 ≤ n) (hn : n ≤ 8192) (hll : l.length ≤ 1000000) (hA : EvP (fun k => diffcons_After.f k n (l.map turn) ii (lower0 n upper)) Q) (hQ : ∀ a, Q a → a.1.length ≤ 8192 ∧ a.2.length ≤ 1000000000) :
    ∀ (d : Nat) (i : Int) (ys : List Arc), 0 ≤ i → i + d = l.length → ys.length = l.length → (∀ v, 0 ≤ v → v < i → rd_T28 ys v = turn (rd_T28 l v)) →
    EvP (fun k => diffcons_Latest.l0 k n ii upper ys l l.length i) (fun r => ∃ a, Q a ∧ r = negrev a) := by
  intro d
  induction d with
  | zero =>
    intro i ys h0 hd hl hx
    have e : ys = l.map turn := getD_ext (d := z28) (by simp [hl]) (fun v a b => (hx v a (by omega)).trans (rdT_map a (by omega)).symm)
    subst e
    refine EvP.step (f := fun k => diffcons_Latest.l1 k n ii upper (l.map turn) (List.replicate n.toNat 0) n 0) (fun k => ?_) (latest_l1 hn0 hn hA hQ n.toNat 0 _ (by omega) (by omega) (by simp; omega) (fun v a b => by omega))
    simp only [diffcons_Latest.l0]
    rw [if_neg (by omega), if_pos hn0, if_pos (by omega)]
    simp only [Option.bind_some]
    rw [show ((List.replicate n.toNat (0 : Int)).length : Int) = n by simp; omega]
  | succ d ih =>
    intro i ys h0 hd hl hx
    refine EvP.step (fun k => ?_) (ih (i + 1) (ys.set i.toNat (turn (rd_T28 l i))) (by omega) (by omega) (by simp [hl]) ?_)
    · simp only [diffcons_Latest.l0]
      rw [if_pos (by omega), if_pos h0, if_pos (by omega), if_pos (by omega), wrap_id (n := i + 1) (by omega) (by omega)]
      rfl
    · intro v a b
      rw [rdT_set h0 (by omega) a]
      split
      · rename_i e; subst e; rfl
      · exact hx v a (by omega)
/-- LATEST. -/
theorem latest_of {n0 ii : Int} {upper : List Int} {l : List Arc} {Q : List Int × List Int → Prop} (hll : l.length ≤ 1000000) (hA : EvP (fun k => diffcons_After.f k (nod n0) (l.map turn) ii (lower0 (nod n0) upper)) Q) (hQ : ∀ a, Q a → a.1.length ≤ 8192 ∧ a.2.length ≤ 1000000000) :
    EvP (fun k => diffcons_Latest.f k n0 l ii upper) (fun r => ∃ a, Q a ∧ r = negrev a) := by
  obtain ⟨h0, h1⟩ := nod_le n0
  refine EvP.congr (fun k => ?_) (latest_l0 h0 h1 hll hA hQ l.length 0 (List.replicate l.length z28) (by omega) (by omega) (by simp) (fun v a b => by omega))
  unfold diffcons_Latest.f
  rw [nodes_f]
  simp only [Option.bind_some]
  rw [if_pos (by omega), if_pos (by omega)]
  rfl
theorem answer_len {n : Int} {arcs : List Arc} {ii : Int} {lo : Int → Int} (hn0 : 0 ≤ n) (hn : n ≤ 8192) {r : List Int × List Int} (h : Answer n arcs ii lo r) : r.1.length ≤ 8192 ∧ r.2.length ≤ 1000000000 := by
  rcases h with ⟨h1, h2, _⟩ | ⟨h1, h2⟩
  · rw [h1]; simp; omega
  · rw [h1]
    have := h2.length_le hn0
    simp; omega
theorem bnd_lower0 {n : Int} {upper : List Int} {v : Int} (h0 : 0 ≤ v) (h1 : v < n) : bnd (lower0 n upper) v = -(bnd upper v) := by
  have hb := bnd_le upper v
  have hl : ((lower0 n upper).length : Int) = n := by simp [lower0]; omega
  have e : rd (lower0 n upper) v = -(bnd upper v) := by rw [lower0, rd_range (f := fun v => -(bnd upper v)) h0 (by omega)]
  conv => lhs; unfold bnd
  rw [if_neg (by omega), e]
  unfold mn mx; omega
end Go.Proofs.Ytflefelgdcblgaa.Diff
