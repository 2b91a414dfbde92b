/- Chapter 02: the greatest weights of paths, and the law GraphLongest. -/
import Derived.Test.YtebekmcoeacdeaaG02h
import Derived.Test.YtebekmcoeacdeaaG02k
set_option linter.unusedVariables false
set_option linter.unusedSimpArgs false
namespace Go.Proofs.YtebekmcoeacdeaaV
open Go Go.Vm

/-- the weight of a node -/
def wt (ws : List Int) (v : Nat) : Int := if (ws.length : Int) ≤ (v : Int) then 0 else mn (mx (rd ws (v : Int)) (-1073741824)) 1073741824
theorem wt_b (ws : List Int) (v : Nat) : -1073741824 ≤ wt ws v ∧ wt ws v ≤ 1073741824 := by
  unfold wt
  split
  · omega
  · have := mn_le_r (mx (rd ws (v : Int)) (-1073741824)) 1073741824
    have := le_mx_r (rd ws (v : Int)) (-1073741824)
    have := le_mn (a := mx (rd ws (v : Int)) (-1073741824)) (b := 1073741824) (c := -1073741824)
    omega
theorem weight_ev (ws : List Int) (v : Nat) : graph_weight.f ws (v : Int) = some (wt ws v) := by
  unfold graph_weight.f wt
  by_cases h : (ws.length : Int) ≤ (v : Int)
  · rw [cdT h, if_pos h]
  · rw [cdF h, if_neg h, if_pos (by omega)]
theorem weight_ref (ws : List Int) (v : Nat) : jacquardref02_Weight.f ws (v : Int) = some (wt ws v) := by
  unfold jacquardref02_Weight.f wt
  by_cases h : (ws.length : Int) ≤ (v : Int)
  · rw [cdT h, if_pos h]
  · rw [cdF h, if_neg h, if_pos (by omega)]

/-- the greatest weight of a path to each of the nodes that P tells -/
def LONG (g : Graph) (ws : List Int) (F : Nat → Int) (v : Nat) : Prop := wt ws v ≤ F v ∧ (∀ p, adj g p v = true → F p + wt ws v ≤ F v) ∧ (F v = wt ws v ∨ ∃ p, adj g p v = true ∧ F v = F p + wt ws v)

/-- the order: each node has its place, behind those before it -/
theorem order_at {g : Graph} {out : List Int} (h : GOOD g out) {i : Nat} (hi : i < out.length) : ∃ v : Nat, rd out (i : Int) = (v : Int) ∧ v < gN g ∧ (v : Int) ∉ out.take i ∧ ∀ p, adj g p v = true → (p : Int) ∈ out.take i := by
  obtain ⟨v, e, hf, _⟩ := h i hi
  exact ⟨v, e, hf.1, hf.2.1, hf.2.2⟩
theorem mem_take_rd {l : List Int} {i : Nat} {x : Int} (h : x ∈ l.take i) : ∃ j : Nat, j < i ∧ j < l.length ∧ rd l (j : Int) = x := by
  obtain ⟨j, hj, e⟩ := mem_rd h
  have : j < i ∧ j < l.length := by simp at hj; omega
  refine ⟨j, this.1, this.2, ?_⟩
  rw [rd_eq hj, List.getElem_take] at e
  rw [rd_eq this.2]; exact e

theorem LONG_unique {g : Graph} {ws : List Int} {out : List Int} (hg : GOOD g out) (hl : out.length = gN g) {F G : Nat → Int} (hF : ∀ v, v < gN g → LONG g ws F v) (hG : ∀ v, v < gN g → LONG g ws G v) : ∀ v, v < gN g → F v = G v := by
  have key : ∀ i : Nat, i < out.length → ∀ v : Nat, rd out (i : Int) = (v : Int) → F v = G v := by
    intro i
    induction i using Nat.strongRecOn with
    | _ i ih =>
      intro hi v hv
      obtain ⟨v', e, hvn, _, hp⟩ := order_at hg hi
      have : v' = v := by omega
      subst this
      have pre : ∀ p, adj g p v' = true → F p = G p := fun p ha => by
        obtain ⟨j, h1, h2, h3⟩ := mem_take_rd (hp p ha)
        exact ih j h1 h2 p h3
      obtain ⟨f1, f2, f3⟩ := hF v' hvn
      obtain ⟨k1, k2, k3⟩ := hG v' hvn
      have a : F v' ≤ G v' := by
        rcases f3 with e | ⟨p, ha, e⟩
        · omega
        · have := k2 p ha; have := pre p ha; omega
      have b : G v' ≤ F v' := by
        rcases k3 with e | ⟨p, ha, e⟩
        · omega
        · have := f2 p ha; have := pre p ha; omega
      omega
  intro v hv
  obtain ⟨i, hi, e⟩ := mem_rd (GOOD_all hg hl v hv)
  exact key i hi v e

/-! ### the reference -/
def LANS (g : Graph) (ws : List Int) (r : List Int × Bool × Unit) : Prop := ∃ out, DONE g out ∧ ((out.length ≠ gN g ∧ r = ([], false, ())) ∨ (out.length = gN g ∧ ∃ F, (∀ v, v < gN g → LONG g ws F v) ∧ r = (tb (gN g) F, true, ())))
theorem LANS_unique {g : Graph} {ws : List Int} {r s : List Int × Bool × Unit} (h : LANS g ws r) (h' : LANS g ws s) : r = s := by
  obtain ⟨a, h1, h2⟩ := h
  obtain ⟨b, h3, h4⟩ := h'
  have e := DONE_unique h1 h3
  subst e
  rcases h2 with ⟨n1, rfl⟩ | ⟨n1, F, hF, rfl⟩
  · rcases h4 with ⟨n2, rfl⟩ | ⟨n2, _⟩
    · rfl
    · exact absurd n2 n1
  · rcases h4 with ⟨n2, rfl⟩ | ⟨n2, G, hG, rfl⟩
    · exact absurd n1 n2
    · rw [tb_congr (LONG_unique h1.1 n1 hF hG)]

theorem Longest_ref (g : Graph) (ws : List Int) (hn : gN g ≤ 1000) (hl : g.2.1.length ≤ 1000000) : W (fun k => jacquardref02_Longest.f k g ws) (LANS g ws) := by
  simp only [jacquardref02_Longest.f]
  refine .bind (Topo_ref g hl) fun r hr => ?_
  obtain ⟨out, hd, rfl⟩ := hr
  by_cases hlen : out.length = gN g
  rotate_left
  · rw [if_neg hlen]
    simp only [Bool.not_false, cond_true]
    exact .ret ⟨out, hd, .inl ⟨hlen, rfl⟩⟩
  rw [if_pos hlen]
  simp only [Bool.not_true, cond_false]
  refine .bindEv (Matrix_ref g hl) ?_
  simp (disch := first | omega | (rw [MAT_len]; omega)) only [↓if_pos, MAT_len, Int.toNat_natCast]
  have hg := hd.1
  have main : ∀ (d i : Nat), i + d = out.length → ∀ F : Nat → Int, (∀ v, -((i : Int) * 1073741824) ≤ F v ∧ F v ≤ (i : Int) * 1073741824) → (∀ v : Nat, (v : Int) ∈ out.take i → LONG g ws F v) →
      W (fun k => jacquardref02_Longest.c7 k ws (out.length : Int) (i : Int) out (MAT g) (tb (gN g) F)) (LANS g ws) := by
    intro d
    induction d with
    | zero =>
      intro i hi F hb hF
      refine .succ ?_
      simp (disch := omega) only [jacquardref02_Longest.c7, ↓cdF]
      refine .ret ⟨out, hd, .inr ⟨hlen, F, fun v hv => hF v ?_, rfl⟩⟩
      rw [List.take_of_length_le (by omega)]
      exact GOOD_all hg hlen v hv
    | succ d ih =>
      intro i hi F hb hF
      have hil : i < out.length := by omega
      obtain ⟨v, hv, hvn, hnot, hpre⟩ := order_at hg hil
      refine .succ ?_
      simp (disch := omega) only [jacquardref02_Longest.c7, ↓cdT, ↓if_pos, hv, MAT_len]
      have htk : ∀ x, x ∈ out.take (i + 1) ↔ x ∈ out.take i ∨ (v : Int) = x := fun x => by rw [take_mem_succ hil, hv]
      have hib : (i : Int) * 1073741824 ≤ 1000 * 1073741824 := by omega
      have loop : ∀ (e j : Nat), j + e = gN g → ∀ b : Int, 0 ≤ b → b ≤ (i : Int) * 1073741824 → (∀ p, p < j → adj g p v = true → F p ≤ b) → (b = 0 ∨ ∃ p, adj g p v = true ∧ b = F p) →
          W (fun k => jacquardref02_Longest.c12 k ws (v : Int) b (out.length : Int) (i : Int) (gN g : Int) (j : Int) out (MAT g) (tb (gN g) F)) (LANS g ws) := by
        intro e
        induction e with
        | zero =>
          intro j hj b hb0 hbm hmax hex
          have hw := wt_b ws v
          refine .succ ?_
          simp (disch := first | omega | (rw [tb_len]; omega)) only [jacquardref02_Longest.c12, ↓cdF, weight_ref, Option.bind_some, ↓if_pos, Int.toNat_natCast, tb_set, w64_id]
          have upd : ∀ p, adj g p v = true → (if p = v then b + wt ws v else F p) = F p := fun p hp => by
            rw [if_neg]
            intro e
            subst e
            exact hnot (hpre p hp)
          refine ih (i + 1) (by omega) (fun d => if d = v then b + wt ws v else F d) (fun u => ?_) fun u hu => ?_
          · have := hb u
            show _ ≤ (if u = v then b + wt ws v else F u) ∧ (if u = v then b + wt ws v else F u) ≤ _
            split <;> omega
          · by_cases e : u = v
            · subst e
              refine ⟨?_, fun p hp => ?_, ?_⟩
              · show wt ws u ≤ (if u = u then b + wt ws u else F u)
                rw [if_pos rfl]; omega
              · show (if p = u then b + wt ws u else F p) + wt ws u ≤ (if u = u then b + wt ws u else F u)
                rw [upd p hp, if_pos rfl]
                have := hmax p (by have := adj_l hp; omega) hp
                omega
              · show (if u = u then b + wt ws u else F u) = wt ws u ∨ ∃ p, adj g p u = true ∧ (if u = u then b + wt ws u else F u) = (if p = u then b + wt ws u else F p) + wt ws u
                rw [if_pos rfl]
                rcases hex with h | ⟨p, hp, h⟩
                · left; omega
                · right; exact ⟨p, hp, by rw [upd p hp]; omega⟩
            · have hu' : (u : Int) ∈ out.take i := ((htk _).1 hu).resolve_right (by omega)
              obtain ⟨k1, k2, k3⟩ := hF u hu'
              have upd2 : ∀ p, adj g p u = true → (if p = v then b + wt ws v else F p) = F p := fun p hp => by
                rw [if_neg]
                intro e2
                subst e2
                exact hnot (GOOD_closed (GOOD_take hg i) hu' hp)
              have hFu : (if u = v then b + wt ws v else F u) = F u := if_neg e
              refine ⟨?_, fun p hp => ?_, ?_⟩
              · show wt ws u ≤ (if u = v then b + wt ws v else F u)
                rw [hFu]; exact k1
              · show (if p = v then b + wt ws v else F p) + wt ws u ≤ (if u = v then b + wt ws v else F u)
                rw [upd2 p hp, hFu]; exact k2 p hp
              · show (if u = v then b + wt ws v else F u) = wt ws u ∨ ∃ p, adj g p u = true ∧ (if u = v then b + wt ws v else F u) = (if p = v then b + wt ws v else F p) + wt ws u
                rw [hFu]
                rcases k3 with h | ⟨p, hp, h⟩
                · exact .inl h
                · exact .inr ⟨p, hp, by rw [upd2 p hp]; exact h⟩
        | succ e ihe =>
          intro j hj b hb0 hbm hmax hex
          have hjn : j < gN g := by omega
          refine .succ ?_
          simp (disch := first | omega | (rw [MAT_len]; omega) | (rw [MAT_row hjn]; omega) | (rw [tb_len]; omega)) only [jacquardref02_Longest.c12, ↓cdT, ↓if_pos, MAT_rd hjn hvn, tb_rd hjn, w64_id]
          have hFj := hb j
          refine .cond (fun h => ?_) fun h => ?_
          · refine ihe (j + 1) (by omega) (mx b (F j)) (by have := le_mx_l b (F j); omega) (by rcases mx_eq b (F j) with e | e <;> rw [e] <;> omega) (fun p hp ha => ?_) ?_
            · by_cases e : p = j
              · subst e; exact le_mx_r _ _
              · have := hmax p (by omega) ha; have := le_mx_l b (F j); omega
            · rcases mx_eq b (F j) with e | e
              · rw [e]; exact hex
              · rw [e]; exact .inr ⟨j, h, rfl⟩
          · refine ihe (j + 1) (by omega) b hb0 hbm (fun p hp ha => ?_) hex
            by_cases e : p = j
            · subst e; rw [h] at ha; cases ha
            · exact hmax p (by omega) ha
      exact loop (gN g) 0 (by omega) 0 (by omega) (by omega) (fun p hp => absurd hp (Nat.not_lt_zero _)) (.inl rfl)
  have := main out.length 0 (by omega) (fun _ => 0) (fun v => by simp) (fun v hv => by simp at hv)
  rw [← tb_rep] at this
  exact this

/-! ### the program -/
/-- what the program knows: the weights, and the nodes before -/
structure KNOW (g : Graph) (ws : List Int) (S : Nat → Prop) (F R : Nat → Int) : Prop where
  ge : ∀ w, w < gN g → wt ws w ≤ F w
  up : ∀ w p, adj g p w = true → S p → F p + wt ws w ≤ F w
  fr : ∀ w, w < gN g → (R w = -1 ∧ F w = wt ws w) ∨ ∃ p, adj g p w = true ∧ S p ∧ R w = (p : Int) ∧ F w = F p + wt ws w

def PANS (g : Graph) (ws : List Int) (r : List Int × List Int × Bool × Unit) : Prop := ∃ out, DONE g out ∧ ((out.length ≠ gN g ∧ r = ([], [], false, ())) ∨ (out.length = gN g ∧ ∃ F R, KNOW g ws (fun p => (p : Int) ∈ out) F R ∧ r = (tb (gN g) F, tb (gN g) R, true, ()) ∧ ∀ v, -(1001 * 1073741824) ≤ F v ∧ F v ≤ 1001 * 1073741824))

theorem longest_prog (g : Graph) (ws : List Int) (hn : gN g ≤ 1000) (hl : g.2.1.length ≤ 1000000) : W (fun k => graph_longest.f k g ws) (PANS g ws) := by
  simp only [graph_longest.f]
  refine .bind (Topo_prog g hn hl) fun r hr => ?_
  obtain ⟨out, hd, rfl⟩ := hr
  by_cases hlen : out.length = gN g
  rotate_left
  · rw [if_neg hlen]
    simp only [Bool.not_false, cond_true]
    exact .ret ⟨out, hd, .inl ⟨hlen, rfl⟩⟩
  rw [if_pos hlen]
  simp only [Bool.not_true, cond_false]
  refine .bindEv (Next_prog g hl) ?_
  simp (disch := first | omega | (rw [NEXT_len]; omega)) only [↓if_pos, NEXT_len, Int.toNat_natCast]
  have hg := hd.1
  have main : ∀ (d i : Nat), i + d = out.length → ∀ F R : Nat → Int, (∀ v, -(((i : Int) + 1) * 1073741824) ≤ F v ∧ F v ≤ ((i : Int) + 1) * 1073741824) → KNOW g ws (fun p => (p : Int) ∈ out.take i) F R →
      W (fun k => graph_longest.c14 k ws (NEXT g) (out.length : Int) (i : Int) (tb (gN g) F) (tb (gN g) R) out) (PANS g ws) := by
    intro d
    induction d with
    | zero =>
      intro i hi F R hb hK
      refine .succ ?_
      simp (disch := omega) only [graph_longest.c14, ↓cdF]
      refine .ret ⟨out, hd, .inr ⟨hlen, F, R, ?_, rfl, fun v => ?_⟩⟩
      · rw [List.take_of_length_le (by omega)] at hK; exact hK
      · have := hb v
        omega
    | succ d ih =>
      intro i hi F R hb hK
      have hil : i < out.length := by omega
      obtain ⟨v, hv, hvn, hnot, hpre⟩ := order_at hg hil
      have hsl := succs_len g v
      have htk : ∀ x, x ∈ out.take (i + 1) ↔ x ∈ out.take i ∨ (v : Int) = x := fun x => by rw [take_mem_succ hil, hv]
      refine .succ ?_
      simp (disch := first | omega | (rw [NEXT_len]; omega)) only [graph_longest.c14, ↓cdT, ↓if_pos, hv, NEXT_rd hvn]
      have hFv := hb v
      have loop : ∀ (e j : Nat), j + e = (succs g v).length → ∀ F' R' : Nat → Int, F' v = F v → (∀ u, -(((i : Int) + 2) * 1073741824) ≤ F' u ∧ F' u ≤ ((i : Int) + 2) * 1073741824) →
          (∀ w, w < gN g → wt ws w ≤ F' w) → (∀ w p, adj g p w = true → (p : Int) ∈ out.take i ∨ (p = v ∧ (w : Int) ∈ (succs g v).take j) → F' p + wt ws w ≤ F' w) →
          (∀ w, w < gN g → (R' w = -1 ∧ F' w = wt ws w) ∨ ∃ p, adj g p w = true ∧ (p : Int) ∈ out.take (i + 1) ∧ R' w = (p : Int) ∧ F' w = F' p + wt ws w) →
          W (fun k => graph_longest.c17 k ws (NEXT g) (v : Int) (out.length : Int) (i : Int) (succs g v) ((succs g v).length : Int) (j : Int) (tb (gN g) F') (tb (gN g) R') out) (PANS g ws) := by
        intro e
        induction e with
        | zero =>
          intro j hj F' R' hF'v hb' h1 h2 h3
          refine .succ ?_
          simp (disch := omega) only [graph_longest.c17, ↓cdF, w64_id]
          refine ih (i + 1) (by omega) F' R' (fun u => by have := hb' u; omega) ⟨h1, fun w p hp hS => ?_, h3⟩
          refine h2 w p hp ?_
          rcases (htk _).1 hS with h | h
          · exact .inl h
          · refine .inr ⟨by omega, ?_⟩
            rw [List.take_of_length_le (by omega)]
            exact mem_succs.2 ⟨w, rfl, by rwa [show v = p by omega]⟩
        | succ e ihe =>
          intro j hj F' R' hF'v hb' h1 h2 h3
          obtain ⟨w, hw, haw, hwn⟩ := succs_rd (g := g) (a := v) (j := j) (by omega)
          have hjt : ∀ x, x ∈ (succs g v).take (j + 1) ↔ x ∈ (succs g v).take j ∨ (w : Int) = x := fun x => by rw [take_mem_succ (by omega), hw]
          -- the successor lies behind
          have hwo : (w : Int) ∉ out.take (i + 1) := by
            intro hm
            rcases (htk _).1 hm with h | h
            · exact hnot (GOOD_closed (GOOD_take hg i) h haw)
            · have : v = w := by omega
              subst this
              exact hnot (hpre v haw)
          have hwi : (w : Int) ∉ out.take i := fun h => hwo ((htk _).2 (.inl h))
          have hwv : w ≠ v := fun e => hwo ((htk _).2 (.inr (by omega)))
          have hww := wt_b ws w
          have hbw := hb' w
          refine .succ ?_
          simp (disch := first | omega | (rw [tb_len]; omega)) only [graph_longest.c17, ↓cdT, ↓if_pos, hw, weight_ev, Option.bind_some, tb_rd hvn, tb_rd hwn, w64_id, Int.toNat_natCast, tb_set]
          refine .dec (fun h => ?_) fun h => ?_
          · have upd : ∀ p : Nat, (p : Int) ∈ out.take (i + 1) → (if p = w then F' v + wt ws w else F' p) = F' p := fun p hp => by
              rw [if_neg]; intro e; subst e; exact hwo hp
            refine ihe (j + 1) (by omega) (fun d => if d = w then F' v + wt ws w else F' d) (fun d => if d = w then (v : Int) else R' d) ?_ (fun u => ?_) (fun u hu => ?_) (fun u p hp hS => ?_) fun u hu => ?_
            · show (if v = w then F' v + wt ws w else F' v) = F v
              rw [if_neg (Ne.symm hwv), hF'v]
            · show _ ≤ (if u = w then F' v + wt ws w else F' u) ∧ (if u = w then F' v + wt ws w else F' u) ≤ _
              have := hb' u
              split <;> omega
            · show wt ws u ≤ (if u = w then F' v + wt ws w else F' u)
              have := h1 u hu
              split
              · rename_i e; subst e; omega
              · exact this
            · show (if p = w then F' v + wt ws w else F' p) + wt ws u ≤ (if u = w then F' v + wt ws w else F' u)
              have hpS : (p : Int) ∈ out.take (i + 1) := by
                rcases hS with h | ⟨h, _⟩
                · exact (htk _).2 (.inl h)
                · exact (htk _).2 (.inr (by omega))
              rw [upd p hpS]
              by_cases e : u = w
              · subst e
                rw [if_pos rfl]
                rcases hS with h4 | ⟨h4, _⟩
                · have := h2 u p hp (.inl h4); omega
                · subst h4; exact Int.le_refl _
              · rw [if_neg e]
                refine h2 u p hp ?_
                rcases hS with h4 | ⟨h4, h5⟩
                · exact .inl h4
                · exact .inr ⟨h4, ((hjt _).1 h5).resolve_right (by omega)⟩
            · show ((if u = w then (v : Int) else R' u) = -1 ∧ (if u = w then F' v + wt ws w else F' u) = wt ws u) ∨ ∃ p, adj g p u = true ∧ (p : Int) ∈ out.take (i + 1) ∧ (if u = w then (v : Int) else R' u) = (p : Int) ∧ (if u = w then F' v + wt ws w else F' u) = (if p = w then F' v + wt ws w else F' p) + wt ws u
              by_cases e : u = w
              · subst e
                right
                have hvS : (v : Int) ∈ out.take (i + 1) := (htk _).2 (.inr rfl)
                exact ⟨v, haw, hvS, by rw [if_pos rfl], by rw [if_pos rfl, upd v hvS]⟩
              · rw [if_neg e, if_neg e]
                rcases h3 u hu with h4 | ⟨p, k1, k2, k3, k4⟩
                · exact .inl h4
                · exact .inr ⟨p, k1, k2, k3, by rw [upd p k2]; exact k4⟩
          · refine ihe (j + 1) (by omega) F' R' hF'v hb' h1 (fun u p hp hS => ?_) h3
            rcases hS with h4 | ⟨h4, h5⟩
            · exact h2 u p hp (.inl h4)
            · rcases (hjt _).1 h5 with h6 | h6
              · exact h2 u p hp (.inr ⟨h4, h6⟩)
              · subst h4
                have : u = w := by omega
                subst this
                omega
      refine loop (succs g v).length 0 (by omega) F R rfl (fun u => by have := hb u; omega) hK.ge (fun w p hp hS => ?_) fun w hw => ?_
      · rcases hS with h | ⟨_, h⟩
        · exact hK.up w p hp h
        · simp at h
      · rcases hK.fr w hw with h | ⟨p, k1, k2, k3⟩
        · exact .inl h
        · exact .inr ⟨p, k1, (htk _).2 (.inl k2), k3⟩
  -- at the start
  have e0 : List.replicate (gN g) (0 : Int) = tb (gN g) fun v => if v < 0 then wt ws v else 0 := by rw [tb_rep]; exact tb_congr fun c hc => by simp
  have e1 : List.replicate (gN g) (0 : Int) = tb (gN g) fun v => if v < 0 then -1 else 0 := by rw [tb_rep]; exact tb_congr fun c hc => by simp
  have init : ∀ (d i : Nat), i + d = gN g → W (fun k => graph_longest.c8 k ws (gN g : Int) (i : Int) (tb (gN g) fun v => if v < i then wt ws v else 0) (tb (gN g) fun v => if v < i then -1 else 0) out (NEXT g)) (PANS g ws) := by
    intro d
    induction d with
    | zero =>
      intro i hi
      refine .succ ?_
      simp (disch := omega) only [graph_longest.c8, ↓cdF]
      have := main out.length 0 (by omega) (wt ws) (fun _ => -1) (fun v => by have := wt_b ws v; omega) ⟨fun w _ => Int.le_refl _, fun w p _ h => by simp at h, fun w _ => .inl ⟨rfl, rfl⟩⟩
      have a1 : (tb (gN g) fun v => if v < i then wt ws v else 0) = tb (gN g) (wt ws) := tb_congr fun c hc => by rw [if_pos (by omega)]
      have a2 : (tb (gN g) fun v => if v < i then (-1 : Int) else 0) = tb (gN g) fun _ => -1 := tb_congr fun c hc => by rw [if_pos (by omega)]
      rw [a1, a2]
      exact this
    | succ d ih =>
      intro i hi
      refine .succ ?_
      simp (disch := first | omega | (rw [tb_len]; omega)) only [graph_longest.c8, ↓cdT, weight_ev, Option.bind_some, ↓if_pos, Int.toNat_natCast, tb_set, w64_id]
      have a1 : (tb (gN g) fun d => if d = i then wt ws i else if d < i then wt ws d else 0) = tb (gN g) fun v => if v < i + 1 then wt ws v else 0 := tb_congr fun c hc => by
        by_cases e : c = i
        · subst e; rw [if_pos rfl, if_pos (by omega)]
        · rw [if_neg e]
          by_cases e2 : c < i
          · rw [if_pos e2, if_pos (by omega)]
          · rw [if_neg e2, if_neg (by omega)]
      have a2 : (tb (gN g) fun d => if d = i then (-1 : Int) else if d < i then -1 else 0) = tb (gN g) fun v => if v < i + 1 then -1 else 0 := tb_congr fun c hc => by
        by_cases e : c = i
        · subst e; rw [if_pos rfl, if_pos (by omega)]
        · rw [if_neg e]
          by_cases e2 : c < i
          · rw [if_pos e2, if_pos (by omega)]
          · rw [if_neg e2, if_neg (by omega)]
      rw [a1, a2]
      exact ih (i + 1) (by omega)
  have := init (gN g) 0 (by omega)
  rw [← e0, ← e1] at this
  exact this

theorem KNOW_long {g : Graph} {ws : List Int} {out : List Int} {F R : Nat → Int} (hall : ∀ v : Nat, v < gN g → (v : Int) ∈ out) (h : KNOW g ws (fun p => (p : Int) ∈ out) F R) : ∀ v, v < gN g → LONG g ws F v := by
  intro v hv
  refine ⟨h.ge v hv, fun p hp => h.up v p hp (hall p (adj_l hp)), ?_⟩
  rcases h.fr v hv with h1 | ⟨p, k1, _, _, k4⟩
  · exact .inl h1.2
  · exact .inr ⟨p, k1, k4⟩
theorem PANS_lans {g : Graph} {ws : List Int} {r : List Int × List Int × Bool × Unit} (h : PANS g ws r) : LANS g ws (r.1, r.2.2.1, ()) := by
  obtain ⟨out, hd, h⟩ := h
  refine ⟨out, hd, ?_⟩
  rcases h with ⟨h1, rfl⟩ | ⟨h1, F, R, hK, rfl, _⟩
  · exact .inl ⟨h1, rfl⟩
  · exact .inr ⟨h1, F, KNOW_long (GOOD_all hd.1 h1) hK, rfl⟩

theorem PureGraphLongest (g : Graph) (ws : List Int) (h0 : Ty.good Graph.T g) (h1 : Ty.good (.sl (.int .i64)) ws) : ∃ k, jacquardlaw02_GraphLongest.f k g ws = some true := by
  refine Ev.ex (f := fun k => jacquardlaw02_GraphLongest.f k g ws) ?_
  simp only [jacquardlaw02_GraphLongest.f]
  have hend : Ev (fun k => (jacquardlaw02_awake.f k).bind fun y16 => some y16) true := Ev.bind awake_ev (.ret true)
  refine Ev.bind awake_ev ?_
  simp only [Bool.not_true, cond_false]
  obtain ⟨bf, e1, e2⟩ := few_ev g
  rw [e1]
  simp only [Option.bind_some]
  refine Ev.cond (fun _ => hend) fun hb => ?_
  obtain ⟨hn, hl⟩ := e2.1 (by simpa using hb)
  refine Ev.dec (fun _ => hend) fun _ => ?_
  obtain ⟨r, r1, r2⟩ := longest_prog g ws (by omega) (by omega)
  obtain ⟨s, s1, s2⟩ := Longest_ref g ws (by omega) (by omega)
  have hrs := LANS_unique (PANS_lans r2) s2
  refine .bind (x := (r.1, r.2.2.1, ())) ?_ (.bind s1 ?_)
  · simp only [graph_Longest.f]
    exact .bind r1 (.ret _)
  · rw [← hrs]
    simp only [beq_self_eq_true, cond_true]
    have hlen : r.1.length ≤ 1000000 := by
      obtain ⟨out, _, h⟩ := r2
      rcases h with ⟨_, rfl⟩ | ⟨_, F, R, _, rfl, _⟩
      · simp
      · rw [tb_len]; omega
    exact .bind ((same_ev _ _ hlen).true rfl) (.ret true)
end Go.Proofs.YtebekmcoeacdeaaV
