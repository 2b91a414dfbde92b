/- Chapter 02: a path of the greatest weight, and the law GraphCritical. -/
import Derived.Test.YtebekmcoeacdeaaG02l
set_option linter.unusedVariables false
set_option linter.unusedSimpArgs false
namespace Go.Proofs.YtebekmcoeacdeaaV
open Go Go.Vm

/-- the weight of a list of nodes -/
def sm (ws : List Int) (l : List Int) : Int := (l.map fun x => wt ws x.toNat).sum
theorem sm_app (ws : List Int) (l m : List Int) : sm ws (l ++ m) = sm ws l + sm ws m := by simp [sm]
theorem sm_one (ws : List Int) (v : Nat) : sm ws [(v : Int)] = wt ws v := by simp [sm]
theorem sm_rev (ws : List Int) : ∀ l : List Int, sm ws l.reverse = sm ws l
  | [] => rfl
  | x :: l => by
    rw [List.reverse_cons, sm_app, sm_rev ws l]
    simp [sm]; omega
theorem sm_b (ws : List Int) : ∀ l : List Int, -((l.length : Int) * 1073741824) ≤ sm ws l ∧ sm ws l ≤ (l.length : Int) * 1073741824
  | [] => by simp [sm]
  | x :: l => by
    have := sm_b ws l
    have h := wt_b ws x.toNat
    have e : sm ws (x :: l) = wt ws x.toNat + sm ws l := by simp [sm]
    rw [e]
    simp only [List.length_cons]
    omega

/-- nodes, each of which has a link to the next one -/
def PT (g : Graph) (l : List Int) : Prop := (∀ i : Nat, i < l.length → ∃ a : Nat, rd l (i : Int) = (a : Int) ∧ a < gN g) ∧ ∀ i : Nat, i + 1 < l.length → ∃ a b : Nat, rd l (i : Int) = (a : Int) ∧ rd l ((i + 1 : Nat) : Int) = (b : Int) ∧ adj g a b = true
/-- the same, against the links -/
def TP (g : Graph) (l : List Int) : Prop := (∀ i : Nat, i < l.length → ∃ a : Nat, rd l (i : Int) = (a : Int) ∧ a < gN g) ∧ ∀ i : Nat, i + 1 < l.length → ∃ a b : Nat, rd l (i : Int) = (a : Int) ∧ rd l ((i + 1 : Nat) : Int) = (b : Int) ∧ adj g b a = true
theorem rd_rev {l : List Int} {i : Nat} (hi : i < l.length) : rd l.reverse (i : Int) = rd l ((l.length - 1 - i : Nat) : Int) := by
  rw [rd_eq (by simpa using hi), rd_eq (by omega), List.getElem_reverse]
theorem PT_rev {g : Graph} {l : List Int} (h : TP g l) : PT g l.reverse := by
  refine ⟨fun i hi => ?_, fun i hi => ?_⟩
  · rw [List.length_reverse] at hi
    rw [rd_rev hi]
    exact h.1 _ (by omega)
  · rw [List.length_reverse] at hi
    rw [rd_rev (by omega), rd_rev hi]
    obtain ⟨a, b, h1, h2, h3⟩ := h.2 (l.length - 1 - (i + 1)) (by omega)
    refine ⟨b, a, ?_, h1, h3⟩
    rw [← h2]
    congr 2
    omega

def CRIT (g : Graph) (ws : List Int) (m : Int) (r : List Int × Int × Bool × Unit) : Prop := PT g r.1 ∧ r.1 ≠ [] ∧ sm ws r.1 = m ∧ r.2.1 = m ∧ r.2.2.1 = true ∧ r.1.length ≤ gN g

theorem Critical_loop (g : Graph) (ws : List Int) (hn : gN g ≤ 1000) {out : List Int} (hd : DONE g out) (hlen : out.length = gN g) {F R : Nat → Int} (hK : KNOW g ws (fun p => (p : Int) ∈ out) F R) (m : Int) :
    ∀ (d : Nat) (P : List Int) (x : Int), P.length + d ≤ gN g → TP g P → sm ws P + (if 0 ≤ x then F x.toNat else 0) = m →
      ((x = -1 ∧ P ≠ []) ∨ ∃ (u j : Nat), x = (u : Int) ∧ j < d ∧ j < out.length ∧ rd out (j : Int) = (u : Int) ∧ (P ≠ [] → ∃ b : Nat, rd P ((P.length - 1 : Nat) : Int) = (b : Int) ∧ adj g u b = true)) →
      W (fun k => graph_Critical.c8 k m x P (tb (gN g) R)) (CRIT g ws m) := by
  have fin : ∀ (P : List Int), P.length ≤ gN g → TP g P → sm ws P = m → P ≠ [] → W (fun k => graph_Critical.c8 k m (-1) P (tb (gN g) R)) (CRIT g ws m) := by
    intro P hP hT hs hne
    refine .succ ?_
    simp (disch := omega) only [graph_Critical.c8, ↓cdF]
    refine .bindEv (reverse_ev P (by omega)) (.ret ⟨PT_rev hT, by simpa using hne, by rw [sm_rev]; exact hs, rfl, rfl, by simpa using hP⟩)
  intro d
  induction d with
  | zero =>
    intro P x hP hT hs hx
    rcases hx with ⟨rfl, hne⟩ | ⟨u, j, _, h, _⟩
    · exact fin P (by omega) hT (by simpa using hs) hne
    · omega
  | succ d ih =>
    intro P x hP hT hs hx
    rcases hx with ⟨rfl, hne⟩ | ⟨u, j, rfl, hjd, hjl, hju, hlast⟩
    · exact fin P (by omega) hT (by simpa using hs) hne
    · obtain ⟨u', e, hun, _, hpre⟩ := order_at hd.1 hjl
      have : u' = u := by omega
      subst this
      refine .succ ?_
      simp (disch := first | omega | (rw [tb_len]; omega) | (simp only [List.length_cons, List.length_nil]; omega)) only [graph_Critical.c8, ↓cdT, ↓bleT, ↓if_pos, tb_rd hun]
      have hT' : TP g (P ++ [(u' : Int)]) := by
        refine ⟨fun i hi => ?_, fun i hi => ?_⟩
        · by_cases e : i < P.length
          · rw [rd_app_l e]; exact hT.1 i e
          · have : i = P.length := by simp at hi; omega
            subst this
            rw [rd_app_at]
            exact ⟨u', rfl, hun⟩
        · have hi' : i < P.length := by simp at hi; omega
          rw [rd_app_l hi']
          by_cases e : i + 1 < P.length
          · rw [rd_app_l e]; exact hT.2 i e
          · have : i + 1 = P.length := by simp at hi; omega
            rw [this, rd_app_at]
            obtain ⟨b, h1, h2⟩ := hlast (by intro h; rw [h] at hi'; simp at hi')
            exact ⟨b, u', by rw [← h1]; congr 2; omega, rfl, h2⟩
      have hs' : sm ws P + F u' = m := by simpa using hs
      have hlast' : rd (P ++ [(u' : Int)]) (((P ++ [(u' : Int)]).length - 1 : Nat) : Int) = (u' : Int) := by
        rw [show (P ++ [(u' : Int)]).length - 1 = P.length by simp]; exact rd_app_at
      rcases hK.fr u' hun with ⟨h1, h2⟩ | ⟨p, h1, _, h3, h4⟩
      · refine ih (P ++ [(u' : Int)]) (R u') (by simp; omega) hT' ?_ (.inl ⟨h1, by simp⟩)
        rw [h1, sm_app, sm_one]
        simp
        omega
      · obtain ⟨j', k1, k2, k3⟩ := mem_take_rd (hpre p h1)
        refine ih (P ++ [(u' : Int)]) (R u') (by simp; omega) hT' ?_ (.inr ⟨p, j', h3, by omega, k2, k3, fun _ => ⟨u', hlast', h1⟩⟩)
        rw [h3, sm_app, sm_one, if_pos (by omega), Int.toNat_natCast]
        omega

theorem Critical_check (g : Graph) (ws : List Int) (hn : gN g ≤ 1000) (Q : List Int) (m : Int) (hQ : PT g Q) (hne : Q ≠ []) (hs : sm ws Q = m) (hl : Q.length ≤ gN g) :
    Ev (fun k => jacquardlaw02_GraphCritical.c16 k ws m true m 0 (Q.length : Int) 0 Q (MAT g)) true := by
  have hpos : 0 < Q.length := List.length_pos_iff.2 hne
  have loop : ∀ (d i : Nat), i + d = Q.length → Ev (fun k => jacquardlaw02_GraphCritical.c16 k ws m true m (sm ws (Q.take i)) (Q.length : Int) (i : Int) Q (MAT g)) true := by
    intro d
    induction d with
    | zero =>
      intro i hi
      refine .succ ?_
      rw [List.take_of_length_le (by omega), hs]
      simp (disch := omega) only [jacquardlaw02_GraphCritical.c16, ↓cdF, cond_true, ↓cdT, decide_true]
      exact .ret _
    | succ d ih =>
      intro i hi
      have hil : i < Q.length := by omega
      obtain ⟨a, ha, han⟩ := hQ.1 i hil
      have hb := sm_b ws (Q.take i)
      have hw := wt_b ws a
      have htl : ((Q.take i).length : Int) ≤ 1000 := by simp; omega
      have hnx := ih (i + 1) (by omega)
      rw [List.take_add_one, List.getElem?_eq_getElem hil, ← rd_eq hil, ha] at hnx
      simp only [Option.toList_some, sm_app, sm_one, natC] at hnx
      refine .succ ?_
      simp (disch := first | omega | (rw [MAT_len]; omega)) only [jacquardlaw02_GraphCritical.c16, ↓cdT, ↓if_pos, ha, ↓cdF, MAT_len, weight_ref, Option.bind_some, w64_id]
      refine .dec (fun h => ?_) fun h => hnx
      obtain ⟨p, q, h1, h2, h3⟩ := hQ.2 (i - 1) (by omega)
      have e1 : (i : Int) - 1 = ((i - 1 : Nat) : Int) := by omega
      rw [show i - 1 + 1 = i by omega, ha] at h2
      have : q = a := by omega
      subst this
      have hpn := adj_l h3
      rw [e1]
      simp (disch := first | omega | (rw [MAT_row hpn]; omega)) only [h1, ↓if_pos, MAT_rd hpn han, h3, Bool.not_true, cond_false]
      exact hnx
  have := loop Q.length 0 (by omega)
  simpa [sm] using this

theorem most_ev (g : Graph) (ws : List Int) (w m : Int) (ok : Bool) (P : List Int) (l : List Int) (hl : l.length ≤ 1000000) (hmax : ∀ i : Nat, i < l.length → rd l (i : Int) ≤ m) (hex : ∃ i : Nat, i < l.length ∧ m = rd l (i : Int)) {y : Bool}
    (hgl : g.2.1.length ≤ 1000000) (hy : Ev (fun k => jacquardlaw02_GraphCritical.c16 k ws w ok m 0 (P.length : Int) 0 P (MAT g)) y) : Ev (fun k => jacquardlaw02_GraphCritical.c9 k ws w ok (rd l 0) (l.length : Int) 0 g P l) y := by
  obtain ⟨t, ht, hm⟩ := hex
  have loop : ∀ (d i : Nat), i + d = l.length → ∀ x : Int, x ≤ m → (t < i → x = m) → (∃ j : Nat, j < l.length ∧ x = rd l (j : Int)) → Ev (fun k => jacquardlaw02_GraphCritical.c9 k ws w ok x (l.length : Int) (i : Int) g P l) y := by
    intro d
    induction d with
    | zero =>
      intro i hi x h1 h2 h3
      refine .succ ?_
      simp (disch := omega) only [jacquardlaw02_GraphCritical.c9, ↓cdF]
      rw [h2 (by omega)]
      exact .bind (Matrix_ref g hgl) hy
    | succ d ih =>
      intro i hi x h1 h2 h3
      refine .succ ?_
      simp (disch := omega) only [jacquardlaw02_GraphCritical.c9, ↓cdT, ↓if_pos, w64_id]
      have hi' := hmax i (by omega)
      refine ih (i + 1) (by omega) (mx x (rd l (i : Int))) (by rcases mx_eq x (rd l (i : Int)) with e | e <;> rw [e] <;> omega) (fun h => ?_) ?_
      · have a1 := le_mx_l x (rd l (i : Int))
        have a2 := le_mx_r x (rd l (i : Int))
        have a3 : mx x (rd l (i : Int)) ≤ m := by rcases mx_eq x (rd l (i : Int)) with e | e <;> rw [e] <;> omega
        by_cases e : t = i
        · subst e; omega
        · have := h2 (by omega); omega
      · rcases mx_eq x (rd l (i : Int)) with e | e
        · rw [e]; exact h3
        · rw [e]; exact ⟨i, by omega, rfl⟩
  exact loop l.length 0 (by omega) _ (by have := hmax 0 (by omega); exact this) (fun h => absurd h (Nat.not_lt_zero _)) ⟨0, by omega, rfl⟩

theorem PureGraphCritical (g : Graph) (ws : List Int) (h0 : Ty.good Graph.T g) (h1 : Ty.good (.sl (.int .i64)) ws) : ∃ k, jacquardlaw02_GraphCritical.f k g ws = some true := by
  refine Ev.ex (f := fun k => jacquardlaw02_GraphCritical.f k g ws) ?_
  simp only [jacquardlaw02_GraphCritical.f]
  have hend : Ev (fun k => (jacquardlaw02_awake.f k).bind fun y16 => some y16) true := Ev.bind awake_ev (.ret true)
  refine Ev.bind awake_ev ?_
  simp only [Bool.not_true, cond_false]
  obtain ⟨bf, e1, e2⟩ := few_ev g
  rw [e1]
  simp only [Option.bind_some]
  refine Ev.cond (fun _ => hend) fun hb => ?_
  obtain ⟨hn, hl⟩ := e2.1 (by simpa using hb)
  refine Ev.dec (fun _ => hend) fun _ => ?_
  obtain ⟨r, r1, r2⟩ := longest_prog g ws (by omega) (by omega)
  obtain ⟨s, s1, s2⟩ := Longest_ref g ws (by omega) (by omega)
  have hrs := LANS_unique (PANS_lans r2) s2
  subst hrs
  obtain ⟨out, hd, hcase⟩ := r2
  rcases hcase with ⟨hne, rfl⟩ | ⟨hlen, F, R, hK, rfl, hFb⟩
  · refine .bind (x := ([], 0, false, ())) ?_ (.bind s1 ?_)
    · simp only [graph_Critical.f]
      refine .bind r1 ?_
      simp only [Bool.not_false, cond_true]
      exact .ret _
    · simp
      exact .ret _
  · by_cases hz : gN g = 0
    · refine .bind (x := ([], 0, true, ())) ?_ (.bind s1 ?_)
      · simp only [graph_Critical.f]
        refine .bind r1 ?_
        simp only [Bool.not_true, cond_false, tb_len, hz]
        exact .ret _
      · simp only [Bool.not_true, cond_false, tb_len, hz]
        exact .ret _
    · obtain ⟨m, m1, m2, m3⟩ := max_ev (tb (gN g) F) (by rw [tb_len]; omega) (by rw [tb_len]; omega)
      obtain ⟨v0, hv0, hmv⟩ := m3
      obtain ⟨ix, i1, v, hv, rfl, hvm⟩ := index_ev (tb (gN g) F) m (by rw [tb_len]; omega) ⟨v0, hv0, hmv.symm⟩
      rw [tb_len] at hv
      rw [tb_rd hv] at hvm
      obtain ⟨j, hj, hjv⟩ := mem_rd (GOOD_all hd.1 hlen v hv)
      obtain ⟨c, c1, c2⟩ := Critical_loop g ws (by omega) hd hlen hK m (gN g) [] (v : Int) (by simp) ⟨fun i hi => absurd hi (Nat.not_lt_zero _), fun i hi => absurd hi (Nat.not_lt_zero _)⟩ (by simp [sm]; exact hvm) (.inr ⟨v, j, rfl, by omega, hj, hjv, fun h => absurd rfl h⟩)
      refine .bind (x := c) ?_ (.bind s1 ?_)
      · simp only [graph_Critical.f]
        refine .bind r1 ?_
        simp (disch := (rw [tb_len]; omega)) only [Bool.not_true, cond_false, ↓cdF]
        exact .bind m1 (.bind i1 c1)
      · obtain ⟨q1, q2, q3, q4, q5, q6⟩ := c2
        simp (disch := (rw [tb_len]; omega)) only [Bool.not_true, cond_false, ↓cdF, ↓if_pos]
        rw [q4, q5]
        exact most_ev g ws m m true c.1 (tb (gN g) F) (by rw [tb_len]; omega) m2 ⟨v0, hv0, hmv⟩ (by omega) (Critical_check g ws (by omega) c.1 m q1 q2 q3 q6)
end Go.Proofs.YtebekmcoeacdeaaV
