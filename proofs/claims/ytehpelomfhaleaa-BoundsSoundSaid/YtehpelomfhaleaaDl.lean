/- Latest of the program: After of the turned system. -/
import Derived.Test.YtehpelomfhaleaaDs
set_option linter.unusedVariables false
set_option linter.unusedSimpArgs false
namespace Go.Proofs.YtehpelomfhaleaaV.Diff
open Go Go.Vm

theorem reverse1_f (xs : List Int) (hlen : xs.length ≤ 1000000000) : Ev (fun k => slices_Reverse_int_int_i1.f k xs) ((), xs.reverse, ()) := by
  have hrev : ∀ t : Int, 0 ≤ t → t < xs.length → rd xs.reverse t = rd xs ((xs.length : Int) - 1 - t) := by
    intro t h0 h1
    rw [rd_eq (j := t.toNat) (by omega) (by rw [List.length_reverse]; omega), rd_eq (j := xs.length - 1 - t.toNat) (by omega) (by omega), List.getElem_reverse]
  have hend : ∀ (ys : List Int) (i j : Int), i + j = (xs.length : Int) - 1 → j ≤ i → ys.length = xs.length →
    (∀ t : Int, 0 ≤ t → t < xs.length → rd ys t = if i ≤ t ∧ t ≤ j then rd xs t else rd xs ((xs.length : Int) - 1 - t)) → ys = xs.reverse := by
    intro ys i j hs hji hl hx
    refine rd_ext (by simp [hl]) (fun t h0 h1 => ?_)
    rw [hx t h0 (by omega), hrev t h0 (by omega)]
    split
    · congr 1; omega
    · rfl
  have loop : ∀ (d : Nat) (ys : List Int) (i j : Int), 0 ≤ i → i + j = (xs.length : Int) - 1 → j - i < 2 * d → ys.length = xs.length →
      (∀ t : Int, 0 ≤ t → t < xs.length → rd ys t = if i ≤ t ∧ t ≤ j then rd xs t else rd xs ((xs.length : Int) - 1 - t)) → Ev (fun k => slices_Reverse_int_int_i1.c1 k i j ys) ((), xs.reverse, ()) := by
    intro d
    induction d with
    | zero =>
      intro ys i j h0 hs hd hl hx
      refine .succ ?_
      simp (disch := omega) only [slices_Reverse_int_int_i1.c1, ↓cdF]
      rw [hend ys i j hs (by omega) hl hx]
      exact .ret _
    | succ d ih =>
      intro ys i j h0 hs hd hl hx
      refine .succ ?_
      by_cases hij : i < j
      · simp (disch := first | omega | (simp only [List.length_set]; omega)) only [slices_Reverse_int_int_i1.c1, ↓cdT, ↓if_pos, w64_id]
        refine ih _ _ _ (by omega) (by omega) (by omega) (by simp [hl]) fun t ht0 ht1 => ?_
        rw [rd_set (by omega) (by rw [List.length_set]; omega) ht0, rd_set h0 (by omega) ht0]
        have e1 := hx i h0 (by omega)
        have e2 := hx j (by omega) (by omega)
        rw [if_pos (by omega)] at e1 e2
        by_cases c1 : t = j
        · rw [if_pos c1, if_neg (by omega), e1]; congr 1; omega
        · rw [if_neg c1]
          by_cases c2 : t = i
          · rw [if_pos c2, if_neg (by omega), e2]; congr 1; omega
          · rw [if_neg c2, hx t ht0 ht1]
            by_cases c3 : i ≤ t ∧ t ≤ j
            · rw [if_pos c3, if_pos (by omega)]
            · rw [if_neg c3, if_neg (by omega)]
      · simp (disch := omega) only [slices_Reverse_int_int_i1.c1, ↓cdF]
        rw [hend ys i j hs (by omega) hl hx]
        exact .ret _
  simp only [slices_Reverse_int_int_i1.f]
  rw [w64_id (by omega) (by omega)]
  exact loop xs.length xs 0 _ (by omega) (by omega) (by omega) rfl (fun t h0 h1 => by rw [if_pos (by omega)])

def turn (a : Arc) : Arc := (Arc.To a, Arc.From a, Arc.Lat a, Arc.Dist a, ())
theorem turn_wt (a : Arc) (ii : Int) : wt (turn a) ii = wt a ii := rfl
theorem turn_inn (n : Int) (a : Arc) : Inn n (turn a) ↔ Inn n a := by unfold Inn turn; simp only [Arc.From, Arc.To]; omega
theorem rdT_map {l : List Arc} {i : Int} (h0 : 0 ≤ i) (h1 : i < l.length) : rd (l.map turn) i = turn (rd l i) := rd_map h0 h1
theorem nod_nod (n : Int) : nod (nod n) = nod n := by
  unfold nod mn mx
  repeat' split
  all_goals omega

/-- The lower bounds of the turned system. -/
def lower0 (n : Int) (upper : List Int) : List Int := (List.range n.toNat).map fun v : Nat => -(bnd upper v)
theorem bnd_lower0 {n : Int} {upper : List Int} {v : Int} (h0 : 0 ≤ v) (h1 : v < n) : bnd (lower0 n upper) v = -(bnd upper v) := by
  have hb := bnd_le upper v
  have hl : ((lower0 n upper).length : Int) = n := by simp [lower0]; omega
  have e : rd (lower0 n upper) v = -(bnd upper v) := by rw [lower0, rd_range (f := fun v => -(bnd upper v)) h0 (by omega)]
  conv => lhs; unfold bnd
  rw [if_neg (by omega), e]
  unfold mn mx; repeat' split
  all_goals omega

theorem path_turn {n : Int} {l : List Arc} : ∀ {c : List Int} {u v : Int}, Path n (l.map turn) c u v → Path n l c.reverse v u
  | [], u, v, h => by cases h; rfl
  | i :: c, u, v, ⟨h0, h1, h2, h3, h4⟩ => by
    have hl : i < l.length := by simpa using h1
    rw [rdT_map h0 hl] at h2 h3 h4
    rw [List.reverse_cons]
    exact (path_turn h4).append ⟨h0, hl, (turn_inn n _).1 h2, rfl, h3⟩
theorem sumw_turn {ii : Int} {l : List Arc} : ∀ {c : List Int}, (∀ i ∈ c, 0 ≤ i ∧ i < l.length) → sumw (l.map turn) ii c = sumw l ii c
  | [], _ => rfl
  | i :: c, h => by
    obtain ⟨h0, h1⟩ := h i List.mem_cons_self
    simp only [sumw]
    rw [rdT_map h0 h1, turn_wt, sumw_turn (fun j hj => h j (List.mem_cons_of_mem _ hj))]
theorem path_ends {n : Int} {arcs : List Arc} : ∀ {c : List Int} {u v : Int}, Path n arcs c u v → (c.map fun i => (Arc.From (rd arcs i))) ++ [v] = u :: c.map fun i => (Arc.To (rd arcs i))
  | [], u, v, h => by cases h; rfl
  | i :: c, u, v, ⟨h0, h1, h2, h3, h4⟩ => by
    have := path_ends h4
    simp only [List.map_cons, List.cons_append, this, h3]
theorem cyc_turn {n ii : Int} {l : List Arc} {c : List Int} (h : Cyc n (l.map turn) ii c) : Cyc n l ii c.reverse := by
  obtain ⟨h1, ⟨u, hu⟩, h3, h4⟩ := h
  have hm : ∀ i ∈ c, 0 ≤ i ∧ i < l.length := fun i hi => by
    obtain ⟨a, b, _⟩ := hu.mem i hi
    exact ⟨a, by simpa using b⟩
  refine ⟨by simpa using h1, ⟨u, path_turn hu⟩, ?_, ?_⟩
  · have he := path_ends hu
    have hp : (c.map fun i => (Arc.From (rd (l.map turn) i))).Perm (c.map fun i => (Arc.To (rd (l.map turn) i))) := by
      have : (u :: c.map fun i => (Arc.From (rd (l.map turn) i))).Perm (u :: c.map fun i => (Arc.To (rd (l.map turn) i))) := by
        rw [← he]; exact (List.perm_append_singleton u _).symm
      exact (List.perm_cons u).1 this
    have hd := hp.nodup_iff.1 h3
    rw [List.map_reverse]
    refine (List.reverse_perm _).nodup_iff.2 ?_
    have e : (c.map fun i => (Arc.To (rd (l.map turn) i))) = c.map fun i => (Arc.From (rd l i)) := List.map_congr_left (fun i hi => by rw [rdT_map (hm i hi).1 (hm i hi).2]; rfl)
    rw [e] at hd
    exact hd
  · rw [sumw_reverse, ← sumw_turn hm]; exact h4
theorem feas_turn {n ii : Int} {l : List Arc} {p : Int → Int} : Feas n (l.map turn) ii p ↔ Feas n l ii (fun v => -(p v)) := by
  constructor
  · intro h i i0 i1 hi
    have := h i i0 (by simpa using i1) (by rw [rdT_map i0 i1]; exact (turn_inn n _).2 hi)
    rw [rdT_map i0 i1] at this
    have e : p (Arc.To (rd l i)) + wt (rd l i) ii ≤ p (Arc.From (rd l i)) := this
    show -(p (Arc.From (rd l i))) + wt (rd l i) ii ≤ -(p (Arc.To (rd l i)))
    omega
  · intro h i i0 i1 hi
    have i1' : i < l.length := by simpa using i1
    rw [rdT_map i0 i1'] at hi ⊢
    have e : -(p (Arc.From (rd l i))) + wt (rd l i) ii ≤ -(p (Arc.To (rd l i))) := h i i0 i1' ((turn_inn n _).1 hi)
    show p (Arc.To (rd l i)) + wt (rd l i) ii ≤ p (Arc.From (rd l i))
    omega
/-- What Latest answers: the greatest solution below the bounds, or a cycle. -/
def AnswerU (n : Int) (arcs : List Arc) (ii : Int) (hi : Int → Int) (r : List Int × List Int × Unit) : Prop :=
  (r.2.1 = [] ∧ (r.1.length : Int) = n ∧ (∀ v, 0 ≤ v → v < n → rd r.1 v ≤ hi v ∧ -4000000000000000000 ≤ rd r.1 v) ∧ Feas n arcs ii (rd r.1) ∧ ∀ p : Int → Int, Feas n arcs ii p → (∀ v, 0 ≤ v → v < n → p v ≤ hi v) → ∀ v, 0 ≤ v → v < n → p v ≤ rd r.1 v) ∨
  (r.1 = [] ∧ Cyc n arcs ii r.2.1)
theorem latest_c16 (c : List Int) (hc : c.length ≤ 1000000000) (xs : List Int) (hxs : xs.length ≤ 8192) : ∀ (d : Nat) (i : Int) (ys : List Int), 0 ≤ i → i + d = xs.length → ys.length = xs.length → (∀ v, 0 ≤ v → v < i → rd ys v = w64 (0 - (rd xs v))) → (∀ v, i ≤ v → v < xs.length → rd ys v = rd xs v) →
    Ev (fun k => diffcons_Latest.c16 k xs.length i ys c) (xs.map (fun x => w64 (0 - x)), c.reverse, ()) := by
  intro d
  induction d with
  | zero =>
    intro i ys h0 hd hl hx hy
    have e : ys = xs.map fun x => w64 (0 - x) := rd_ext (by simp [hl]) (fun v a b => by rw [hx v a (by omega), rd_map (f := fun x => w64 (0 - x)) a (by omega)])
    subst e
    refine .succ ?_
    simp (disch := omega) only [diffcons_Latest.c16, ↓cdF]
    exact .bind (reverse1_f c hc) (.ret _)
  | succ d ih =>
    intro i ys h0 hd hl hx hy
    refine .succ ?_
    simp (disch := omega) only [diffcons_Latest.c16, ↓cdT, ↓if_pos, w64_id (n := i + 1)]
    refine ih (i + 1) (ys.set i.toNat (w64 (0 - (rd ys i)))) (by omega) (by omega) (by simp [hl]) ?_ ?_
    · intro v a b
      rw [rd_set h0 (by omega) a]
      split
      · rename_i e; subst e; rw [hy v (by omega) (by omega)]
      · exact hx v a (by omega)
    · intro v a b
      rw [rd_set h0 (by omega) (by omega), if_neg (by omega)]
      exact hy v (by omega) b
/-- LATEST. -/
theorem latest_f {n0 ii : Int} {upper : List Int} {l : List Arc} (hlen : (nod n0 + 2) * l.length ≤ 10000000000) (hll : l.length ≤ 1000000) : W (fun k => diffcons_Latest.f k n0 l ii upper) (AnswerU (nod n0) l ii (bnd upper)) := by
  have hA := after_f (n0 := nod n0) (arcs := l.map turn) (ii := ii) (lower := lower0 (nod n0) upper) (by rw [nod_nod, List.length_map]; exact hlen)
  rw [nod_nod] at hA
  obtain ⟨hn0, hn⟩ := nod_le n0
  have hnn := nod_nod n0
  simp (disch := omega) only [diffcons_Latest.f, nodes_f, Option.bind_some, ↓if_pos]
  generalize nod n0 = n at *
  -- behind After
  have fin : W (fun k => (diffcons_After.f k n (l.map turn) ii (lower0 n upper)).bind fun y61 => bif (Option.isSome y61.2.1) then diffcons_Latest.c16 k (y61.1.length : Int) 0 y61.1 (Option.getD y61.2.1 []) else diffcons_Latest.c16 k (y61.1.length : Int) 0 y61.1 []) (AnswerU n l ii (bnd upper)) := by
    refine W.bind hA fun a ha => ?_
    rcases ha with ⟨a1, a2, a3, a4, a5⟩ | ⟨a1, c, a2, a3⟩
    · simp only [a1, Option.isSome_none, cond_false]
      refine (latest_c16 [] (by simp) a.1 (by omega) a.1.length 0 a.1 (by omega) (by omega) rfl (fun v a b => by omega) (fun v a b => rfl)).w ?_
      have hneg : ∀ v, 0 ≤ v → v < n → rd (a.1.map fun x => w64 (0 - x)) v = -(rd a.1 v) := fun v v0 v1 => by
        have b := a3 v v0 v1
        rw [List.length_map] at b
        have bb := bnd_le (lower0 n upper) v
        rw [rd_map (f := fun x => w64 (0 - x)) v0 (by omega), wrap_id (by omega) (by omega)]
        omega
      have hf : Feas n l ii (rd (a.1.map fun x => w64 (0 - x))) := by
        have hf := feas_turn.1 a4
        intro i i0 i1 hi
        have := hf i i0 i1 hi
        rw [hneg _ hi.1 hi.2.1, hneg _ hi.2.2.1 hi.2.2.2]
        exact this
      refine Or.inl ⟨rfl, by show ((a.1.map fun x => w64 (0 - x)).length : Int) = _; rw [List.length_map]; exact a2, fun v v0 v1 => ?_, hf, fun p hp hl v v0 v1 => ?_⟩
      · have b := a3 v v0 v1
        rw [bnd_lower0 v0 v1, List.length_map] at b
        show rd (a.1.map fun x => w64 (0 - x)) v ≤ _ ∧ _ ≤ rd (a.1.map fun x => w64 (0 - x)) v
        rw [hneg v v0 v1]
        omega
      · show p v ≤ rd (a.1.map fun x => w64 (0 - x)) v
        rw [hneg v v0 v1]
        have := a5 (fun w => -(p w)) (feas_turn.2 (by simpa using hp)) (fun w w0 w1 => by rw [bnd_lower0 w0 w1]; have := hl w w0 w1; omega) v v0 v1
        omega
    · simp only [a2, Option.isSome_some, cond_true, Option.getD_some]
      have hcl := a3.length_le hn0
      refine (latest_c16 c (by omega) a.1 (by rw [a1]; simp) a.1.length 0 a.1 (by omega) (by omega) rfl (fun v a b => by omega) (fun v a b => rfl)).w (Or.inr ⟨by show a.1.map _ = []; rw [a1]; rfl, cyc_turn a3⟩)
  -- the lower bounds
  have low : ∀ (d : Nat) (i : Int) (ys : List Int), 0 ≤ i → i + d = n → (ys.length : Int) = n → (∀ v, 0 ≤ v → v < i → rd ys v = -(bnd upper v)) →
      W (fun k => diffcons_Latest.c10 k n ii upper n i (l.map turn) ys) (AnswerU n l ii (bnd upper)) := by
    intro d
    induction d with
    | zero =>
      intro i ys h0 hd hl hx
      have e : ys = lower0 n upper := rd_ext (by simp [lower0]; omega) (fun v a b => by rw [hx v a (by omega), lower0, rd_range (f := fun v => -(bnd upper v)) a (by omega)])
      subst e
      refine .succ ?_
      simp (disch := omega) only [diffcons_Latest.c10, ↓cdF]
      exact fin
    | succ d ih =>
      intro i ys h0 hd hl hx
      have hb := bnd_le upper i
      refine .succ ?_
      simp (disch := omega) only [diffcons_Latest.c10, ↓cdT, bound_f, Option.bind_some, ↓if_pos, w64_id]
      refine ih (i + 1) (ys.set i.toNat (0 - (bnd upper i))) (by omega) (by omega) (by simpa using hl) ?_
      intro v a b
      rw [rd_set h0 (by omega) a]
      split
      · rename_i e; subst e; omega
      · exact hx v a (by omega)
  -- the turned arcs
  have trn : ∀ (d : Nat) (i : Int) (ys : List Arc), 0 ≤ i → i + d = l.length → ys.length = l.length → (∀ v, 0 ≤ v → v < i → rd ys v = turn (rd l v)) →
      W (fun k => diffcons_Latest.c4 k n ii upper l l.length i ys) (AnswerU n l ii (bnd upper)) := by
    intro d
    induction d with
    | zero =>
      intro i ys h0 hd hl hx
      have e : ys = l.map turn := rd_ext (by simp [hl]) (fun v a b => (hx v a (by omega)).trans (rdT_map a (by omega)).symm)
      subst e
      refine .succ ?_
      simp (disch := omega) only [diffcons_Latest.c4, ↓cdF, ↓if_pos]
      rw [show ((List.replicate n.toNat (0 : Int)).length : Int) = n by simp; omega]
      exact low n.toNat 0 _ (by omega) (by omega) (by simp; omega) (fun v a b => by omega)
    | succ d ih =>
      intro i ys h0 hd hl hx
      refine .succ ?_
      simp (disch := omega) only [diffcons_Latest.c4, ↓cdT, ↓if_pos, w64_id]
      refine ih (i + 1) (ys.set i.toNat (turn (rd l i))) (by omega) (by omega) (by simp [hl]) ?_
      intro v a b
      rw [rd_set h0 (by omega) a]
      split
      · rename_i e; subst e; rfl
      · exact hx v a (by omega)
  exact trn l.length 0 _ (by omega) (by omega) (by simp) (fun v a b => by omega)
end Go.Proofs.YtehpelomfhaleaaV.Diff
