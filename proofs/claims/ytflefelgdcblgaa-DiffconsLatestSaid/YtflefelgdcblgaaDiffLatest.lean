/- Latest of the program: After of the turned system. No condition beyond the sizes that are named. -/
import Derived.Test.YtflefelgdcblgaaDiff
import Derived.Test.YtflefelgdcblgaaQx14
namespace Go.Proofs.Ytflefelgdcblgaa.Diff
set_option linter.unusedVariables false
set_option linter.unusedSimpArgs false
open Go.RowKit Go.Proofs.YtflefelgdcblgaaW.PrintWords Go.Proofs.YtflefelgdcblgaaW.PrintMore Go.Proofs.Ytflefelgdcblgaa.Lib Go.Proofs.Ytflefelgdcblgaa.Q
def turn (a : Arc) : Arc := ⟨a.f1, a.f0, a.f2, a.f3⟩
theorem turn_wt (a : Arc) (ii : Int) : wt (turn a) ii = wt a ii := rfl
theorem turn_inn (n : Int) (a : Arc) : Inn n (turn a) ↔ Inn n a := by unfold Inn turn; dsimp only; omega
theorem rdT_map {l : List Arc} {i : Int} (h0 : 0 ≤ i) (h1 : i < l.length) : rd_T28 (l.map turn) i = turn (rd_T28 l i) := getD_map h0 h1
theorem rdT_set {xs : List Arc} {i j : Int} {v : Arc} (hi : 0 ≤ i) (hil : i < xs.length) (hj : 0 ≤ j) : rd_T28 (xs.set i.toNat v) j = if j = i then v else rd_T28 xs j := getD_set hi hil hj
theorem nod_nod (n : Int) : nod (nod n) = nod n := by unfold nod mn mx; omega
def negrev (a : List Int × List Int) : List Int × List Int := (a.1.map fun x => wrap64 (-x), a.2.reverse)
theorem latest_l2 (c : List Int) (hc : c.length ≤ 1000000000) (xs : List Int) (hxs : xs.length ≤ 8192) : ∀ (d : Nat) (i : Int) (ys : List Int), 0 ≤ i → i + d = xs.length → ys.length = xs.length → (∀ v, 0 ≤ v → v < i → rd ys v = wrap64 (-(rd xs v))) → (∀ v, i ≤ v → v < xs.length → rd ys v = rd xs v) →
    EvP (fun k => diffcons_Latest.l2 k ys c xs.length i) (fun r => r = negrev (xs, c)) := by
  intro d
  induction d with
  | zero =>
    intro i ys h0 hd hl hx hy
    have e : ys = xs.map fun x => wrap64 (-x) := rd_ext (by simp [hl]) (fun v a b => by rw [hx v a (by omega), rd_map (f := fun x => wrap64 (-x)) a (by omega)])
    subst e
    refine EvP.step (f := fun k => (slices_Reverse_int_int.f k c).bind fun t208 => some ((xs.map fun x => wrap64 (-x)), t208)) (fun k => ?_) (EvP.bind (reverse_f c hc) (fun a ha => EvP.ret _ (fun _ => rfl) (by rw [ha]; rfl)))
    simp only [diffcons_Latest.l2]; rw [if_neg (by omega)]
  | succ d ih =>
    intro i ys h0 hd hl hx hy
    refine EvP.step (fun k => ?_) (ih (i + 1) (ys.set i.toNat (wrap64 (-(rd ys i)))) (by omega) (by omega) (by simp [hl]) ?_ ?_)
    · simp only [diffcons_Latest.l2]
      rw [if_pos (by omega), if_pos h0, if_pos (by omega), wrap_id (n := i + 1) (by omega) (by omega)]
    · intro v a b
      rw [rd_set h0 (by omega) a]
      split
      · rename_i e; subst e; rw [hy v (by omega) (by omega)]
      · exact hx v a (by omega)
    · intro v a b
      rw [rd_set h0 (by omega) (by omega), if_neg (by omega)]
      exact hy v (by omega) b
def lower0 (n : Int) (upper : List Int) : List Int := (List.range n.toNat).map fun v : Nat => -(bnd upper v)
theorem latest_l1 {n ii : Int} {upper : List Int} {t : List Arc} {Q : List Int × List Int → Prop} (hn0 : 0 ≤ n) (hn : n ≤ 8192) (hA : EvP (fun k => diffcons_After.f k n t ii (lower0 n upper)) Q) (hQ : ∀ a, Q a → a.1.length ≤ 8192 ∧ a.2.length ≤ 1000000000) :
    ∀ (d : Nat) (i : Int) (ys : List Int), 0 ≤ i → i + d = n → (ys.length : Int) = n → (∀ v, 0 ≤ v → v < i → rd ys v = -(bnd upper v)) →
    EvP (fun k => diffcons_Latest.l1 k n ii upper t ys n i) (fun r => ∃ a, Q a ∧ r = negrev a) := by
  intro d
  induction d with
  | zero =>
    intro i ys h0 hd hl hx
    have e : ys = lower0 n upper := rd_ext (by simp [lower0]; omega) (fun v a b => by rw [hx v a (by omega), lower0, rd_range (f := fun v => -(bnd upper v)) a (by omega)])
    subst e
    refine EvP.step (f := fun k => (diffcons_After.f k n t ii (lower0 n upper)).bind fun bt200 => (diffcons_Latest.l2 k bt200.1 bt200.2 (bt200.1.length : Int) 0)) (fun k => ?_) (EvP.bind hA (fun a ha => ?_))
    · simp only [diffcons_Latest.l1]; rw [if_neg (by omega)]
    · obtain ⟨q1, q2⟩ := hQ a ha
      exact (latest_l2 a.2 q2 a.1 q1 a.1.length 0 a.1 (by omega) (by omega) rfl (fun v a b => by omega) (fun v a b => rfl)).mono (fun r hr => ⟨a, ha, hr⟩)
  | succ d ih =>
    intro i ys h0 hd hl hx
    have hb := bnd_le upper i
    refine EvP.step (fun k => ?_) (ih (i + 1) (ys.set i.toNat (-(bnd upper i))) (by omega) (by omega) (by simpa using hl) ?_)
    · simp only [diffcons_Latest.l1]
      rw [if_pos (by omega), bound_f h0]
      simp only [Option.bind_some]
      rw [if_pos h0, if_pos (by omega), wrap_id (n := i + 1) (by omega) (by omega), wrap_id (by omega) (by omega)]
    · intro v a b
      rw [rd_set h0 (by omega) a]
      split
      · rename_i e; subst e; rfl
      · exact hx v a (by omega)
theorem latest_l0 {n ii : Int} {upper : List Int} {l : List Arc} {Q : List Int × List Int → Prop} (hn0 : 0 ≤ n) (hn : n ≤ 8192) (hll : l.length ≤ 1000000) (hA : EvP (fun k => diffcons_After.f k n (l.map turn) ii (lower0 n upper)) Q) (hQ : ∀ a, Q a → a.1.length ≤ 8192 ∧ a.2.length ≤ 1000000000) :
    ∀ (d : Nat) (i : Int) (ys : List Arc), 0 ≤ i → i + d = l.length → ys.length = l.length → (∀ v, 0 ≤ v → v < i → rd_T28 ys v = turn (rd_T28 l v)) →
    EvP (fun k => diffcons_Latest.l0 k n ii upper ys l l.length i) (fun r => ∃ a, Q a ∧ r = negrev a) := by
  intro d
  induction d with
  | zero =>
    intro i ys h0 hd hl hx
    have e : ys = l.map turn := getD_ext (d := z28) (by simp [hl]) (fun v a b => (hx v a (by omega)).trans (rdT_map a (by omega)).symm)
    subst e
    refine EvP.step (f := fun k => diffcons_Latest.l1 k n ii upper (l.map turn) (List.replicate n.toNat 0) n 0) (fun k => ?_) (latest_l1 hn0 hn hA hQ n.toNat 0 _ (by omega) (by omega) (by simp; omega) (fun v a b => by omega))
    simp only [diffcons_Latest.l0]
    rw [if_neg (by omega), if_pos hn0, if_pos (by omega)]
    simp only [Option.bind_some]
    rw [show ((List.replicate n.toNat (0 : Int)).length : Int) = n by simp; omega]
  | succ d ih =>
    intro i ys h0 hd hl hx
    refine EvP.step (fun k => ?_) (ih (i + 1) (ys.set i.toNat (turn (rd_T28 l i))) (by omega) (by omega) (by simp [hl]) ?_)
    · simp only [diffcons_Latest.l0]
      rw [if_pos (by omega), if_pos h0, if_pos (by omega), if_pos (by omega), wrap_id (n := i + 1) (by omega) (by omega)]
      rfl
    · intro v a b
      rw [rdT_set h0 (by omega) a]
      split
      · rename_i e; subst e; rfl
      · exact hx v a (by omega)
theorem latest_of {n0 ii : Int} {upper : List Int} {l : List Arc} {Q : List Int × List Int → Prop} (hll : l.length ≤ 1000000) (hA : EvP (fun k => diffcons_After.f k (nod n0) (l.map turn) ii (lower0 (nod n0) upper)) Q) (hQ : ∀ a, Q a → a.1.length ≤ 8192 ∧ a.2.length ≤ 1000000000) :
    EvP (fun k => diffcons_Latest.f k n0 l ii upper) (fun r => ∃ a, Q a ∧ r = negrev a) := by
  obtain ⟨h0, h1⟩ := nod_le n0
  refine EvP.congr (fun k => ?_) (latest_l0 h0 h1 hll hA hQ l.length 0 (List.replicate l.length z28) (by omega) (by omega) (by simp) (fun v a b => by omega))
  unfold diffcons_Latest.f
  rw [nodes_f]
  simp only [Option.bind_some]
  rw [if_pos (by omega), if_pos (by omega)]
  rfl
theorem answer_len {n : Int} {arcs : List Arc} {ii : Int} {lo : Int → Int} (hn0 : 0 ≤ n) (hn : n ≤ 8192) {r : List Int × List Int} (h : Answer n arcs ii lo r) : r.1.length ≤ 8192 ∧ r.2.length ≤ 1000000000 := by
  rcases h with ⟨h1, h2, _⟩ | ⟨h1, h2⟩
  · rw [h1]; simp; omega
  · rw [h1]
    have := h2.length_le hn0
    simp; omega
theorem bnd_lower0 {n : Int} {upper : List Int} {v : Int} (h0 : 0 ≤ v) (h1 : v < n) : bnd (lower0 n upper) v = -(bnd upper v) := by
  have hb := bnd_le upper v
  have hl : ((lower0 n upper).length : Int) = n := by simp [lower0]; omega
  have e : rd (lower0 n upper) v = -(bnd upper v) := by rw [lower0, rd_range (f := fun v => -(bnd upper v)) h0 (by omega)]
  conv => lhs; unfold bnd
  rw [if_neg (by omega), e]
  unfold mn mx; omega
def AnswerU (n : Int) (arcs : List Arc) (ii : Int) (hi : Int → Int) (r : List Int × List Int) : Prop :=
  (r.2 = [] ∧ (r.1.length : Int) = n ∧ (∀ v, 0 ≤ v → v < n → rd r.1 v ≤ hi v ∧ -4000000000000000000 ≤ rd r.1 v) ∧ Feas n arcs ii (rd r.1) ∧ ∀ p : Int → Int, Feas n arcs ii p → (∀ v, 0 ≤ v → v < n → p v ≤ hi v) → ∀ v, 0 ≤ v → v < n → p v ≤ rd r.1 v) ∨
  (r.1 = [] ∧ Cyc n arcs ii r.2)
theorem path_turn {n : Int} {l : List Arc} : ∀ {c : List Int} {u v : Int}, Path n (l.map turn) c u v → Path n l c.reverse v u
  | [], u, v, h => by cases h; rfl
  | i :: c, u, v, ⟨h0, h1, h2, h3, h4⟩ => by
    have hl : i < l.length := by simpa using h1
    rw [rdT_map h0 hl] at h2 h3 h4
    rw [List.reverse_cons]
    exact (path_turn h4).append ⟨h0, hl, (turn_inn n _).1 h2, rfl, h3⟩
theorem sumw_turn {ii : Int} {l : List Arc} : ∀ {c : List Int}, (∀ i ∈ c, 0 ≤ i ∧ i < l.length) → sumw (l.map turn) ii c = sumw l ii c
  | [], _ => rfl
  | i :: c, h => by
    obtain ⟨h0, h1⟩ := h i List.mem_cons_self
    simp only [sumw]
    rw [rdT_map h0 h1, turn_wt, sumw_turn (fun j hj => h j (List.mem_cons_of_mem _ hj))]
theorem path_ends {n : Int} {arcs : List Arc} : ∀ {c : List Int} {u v : Int}, Path n arcs c u v → (c.map fun i => (rd_T28 arcs i).f0) ++ [v] = u :: c.map fun i => (rd_T28 arcs i).f1
  | [], u, v, h => by cases h; rfl
  | i :: c, u, v, ⟨h0, h1, h2, h3, h4⟩ => by
    have := path_ends h4
    simp only [List.map_cons, List.cons_append, this, h3]
theorem cyc_turn {n ii : Int} {l : List Arc} {c : List Int} (h : Cyc n (l.map turn) ii c) : Cyc n l ii c.reverse := by
  obtain ⟨h1, ⟨u, hu⟩, h3, h4⟩ := h
  have hm : ∀ i ∈ c, 0 ≤ i ∧ i < l.length := fun i hi => by
    obtain ⟨a, b, _⟩ := hu.mem i hi
    exact ⟨a, by simpa using b⟩
  refine ⟨by simpa using h1, ⟨u, path_turn hu⟩, ?_, ?_⟩
  · have he := path_ends hu
    have hp : (c.map fun i => (rd_T28 (l.map turn) i).f0).Perm (c.map fun i => (rd_T28 (l.map turn) i).f1) := by
      have : (u :: c.map fun i => (rd_T28 (l.map turn) i).f0).Perm (u :: c.map fun i => (rd_T28 (l.map turn) i).f1) := by
        rw [← he]; exact (List.perm_append_singleton u _).symm
      exact (List.perm_cons u).1 this
    have hd := hp.nodup_iff.1 h3
    rw [List.map_reverse]
    refine (List.reverse_perm _).nodup_iff.2 ?_
    have e : (c.map fun i => (rd_T28 (l.map turn) i).f1) = c.map fun i => (rd_T28 l i).f0 := List.map_congr_left (fun i hi => by rw [rdT_map (hm i hi).1 (hm i hi).2]; rfl)
    rw [e] at hd
    exact hd
  · rw [sumw_reverse, ← sumw_turn hm]; exact h4
theorem feas_turn {n ii : Int} {l : List Arc} {p : Int → Int} : Feas n (l.map turn) ii p ↔ Feas n l ii (fun v => -(p v)) := by
  constructor
  · intro h i i0 i1 hi
    have := h i i0 (by simpa using i1) (by rw [rdT_map i0 i1]; exact (turn_inn n _).2 hi)
    rw [rdT_map i0 i1] at this
    have e : p (rd_T28 l i).f1 + wt (rd_T28 l i) ii ≤ p (rd_T28 l i).f0 := this
    show -(p (rd_T28 l i).f0) + wt (rd_T28 l i) ii ≤ -(p (rd_T28 l i).f1)
    omega
  · intro h i i0 i1 hi
    have i1' : i < l.length := by simpa using i1
    rw [rdT_map i0 i1'] at hi ⊢
    have e : -(p (rd_T28 l i).f0) + wt (rd_T28 l i) ii ≤ -(p (rd_T28 l i).f1) := h i i0 i1' ((turn_inn n _).1 hi)
    show p (rd_T28 l i).f1 + wt (rd_T28 l i) ii ≤ p (rd_T28 l i).f0
    omega
theorem latest_answer {n0 ii : Int} {upper : List Int} {l : List Arc} (hlen : (nod n0 + 2) * l.length ≤ 10000000000) (hll : l.length ≤ 1000000) : EvP (fun k => diffcons_Latest.f k n0 l ii upper) (AnswerU (nod n0) l ii (bnd upper)) := by
  have h0 := nod_le n0
  have hA := after_f (n0 := nod n0) (arcs := l.map turn) (ii := ii) (lower := lower0 (nod n0) upper) (by rw [nod_nod, List.length_map]; exact hlen)
  rw [nod_nod] at hA
  refine (latest_of hll hA (fun a ha => answer_len h0.1 h0.2 ha)).mono ?_
  rintro r ⟨a, ha, rfl⟩
  rcases ha with ⟨a1, a2, a3, a4, a5⟩ | ⟨a1, a2⟩
  · have hneg : ∀ v, 0 ≤ v → v < nod n0 → rd (negrev a).1 v = -(rd a.1 v) := fun v v0 v1 => by
      have b := a3 v v0 v1
      rw [List.length_map] at b
      have bb := bnd_le (lower0 (nod n0) upper) v
      show rd (a.1.map fun x => wrap64 (-x)) v = _
      rw [rd_map (f := fun x => wrap64 (-x)) v0 (by omega), wrap_id (by omega) (by omega)]
    have hf : Feas (nod n0) l ii (rd (negrev a).1) := by
      have hf := feas_turn.1 a4
      intro i i0 i1 hi
      have := hf i i0 i1 hi
      rw [hneg _ hi.1 hi.2.1, hneg _ hi.2.2.1 hi.2.2.2]
      exact this
    refine Or.inl ⟨by show a.2.reverse = []; rw [a1]; rfl, by show ((a.1.map fun x => wrap64 (-x)).length : Int) = _; rw [List.length_map]; exact a2, fun v v0 v1 => ?_, hf, fun p hp hl v v0 v1 => ?_⟩
    · have b := a3 v v0 v1
      rw [bnd_lower0 v0 v1, List.length_map] at b
      rw [hneg v v0 v1]
      omega
    · rw [hneg v v0 v1]
      have := a5 (fun w => -(p w)) (feas_turn.2 (by simpa using hp)) (fun w w0 w1 => by rw [bnd_lower0 w0 w1]; have := hl w w0 w1; omega) v v0 v1
      omega
  · refine Or.inr ⟨by show a.1.map _ = []; rw [a1]; rfl, cyc_turn a2⟩
end Go.Proofs.Ytflefelgdcblgaa.Diff
