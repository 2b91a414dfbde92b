/- Chapter 31: the least interval: Recurrence of the program and of the reference. -/
import Derived.Test.YtehpelomfhaleaaV31d
import Derived.Test.YtehpelomfhaleaaDy
set_option linter.unusedVariables false
set_option linter.unusedSimpArgs false
namespace Go.Proofs.YtehpelomfhaleaaV
open Go Go.Vm Diff

theorem half31 {i j : Nat} (h : i + j < 4611686018427387904) : w64 (shrW .u64 (IntKind.wrap .u64 (w64 ((i : Int) + (j : Int)))) 1) = (((i + j) / 2 : Nat) : Int) := by
  rw [w64_id (n := (i : Int) + j) (by omega) (by omega), ← Int.natCast_add]
  have e : IntKind.wrap .u64 ((i + j : Nat) : Int) = ((i + j : Nat) : Int) := by
    unfold IntKind.wrap
    simp [IntKind.signed, IntKind.bits]
    omega
  have e2 : shrW .u64 ((i + j : Nat) : Int) 1 = (((i + j) / 2 : Nat) : Int) := by
    unfold shrW
    simp [IntKind.bits]
    rw [Int.fdiv_eq_ediv_of_nonneg _ (by omega)]
  rw [e, e2, w64_id (by omega) (by omega)]

namespace Diff
/-- paths give a solution -/
theorem best_ex {n : Int} {arcs : List Arc} {ii : Int} {m : Int → Int → Int} {lo : Int → Int} (hlo : ∀ v, lo v = 0) (hF : FW n arcs ii n 288230376151711744 m) {b : Int} (b0 : 0 ≤ b) (b1 : b < n) : ∀ c : Nat, (c : Int) ≤ n → ∃ v, Best n lo m b c v
  | 0, _ => ⟨0, by have := hlo b; omega, by omega, fun a h0 h1 => by omega, fun x hx _ => by have := hlo b; omega⟩
  | c + 1, hc => by
    obtain ⟨v, h1, h2, h3, h4⟩ := best_ex hlo hF b0 b1 c (by omega)
    have g := hF.bd c b (by omega) (by omega) b0 b1
    have hb := hlo b
    have hcc := hlo c
    by_cases hm : m c b > -1152921504606846976
    · refine ⟨mx v (m c b), ?_, ?_, ?_, ?_⟩
      · have := le_mx_l v (m c b); omega
      · rcases mx_eq v (m c b) with e | e <;> omega
      · intro a a0 a1 hgt
        by_cases e : a = c
        · subst e; have := le_mx_r v (m (c : Int) b); omega
        · have := h3 a a0 (by omega) hgt
          have := le_mx_l v (m c b)
          omega
      · intro x hx hall
        have e1 := h4 x hx (fun a a0 a1 hgt => hall a a0 (by omega) hgt)
        have e2 := hall c (by omega) (by omega) hm
        rcases mx_eq v (m c b) with e | e <;> omega
    · refine ⟨v, h1, h2, fun a a0 a1 hgt => ?_, fun x hx hall => h4 x hx (fun a a0 a1 hgt => hall a a0 (by omega) hgt)⟩
      by_cases e : a = c
      · subst e; exact absurd hgt hm
      · exact h3 a a0 (by omega) hgt
theorem fw_feas {n : Int} {arcs : List Arc} {ii : Int} {m : Int → Int → Int} (hF : FW n arcs ii n 288230376151711744 m) (hn : 0 ≤ n) : ∃ p, Feas n arcs ii p := by
  have h : ∀ b : Int, ∃ v, 0 ≤ b → b < n → Best n (fun _ => 0) m b n v := fun b => by
    by_cases hb : 0 ≤ b ∧ b < n
    · obtain ⟨v, hv⟩ := best_ex (lo := fun _ => 0) (fun _ => rfl) hF hb.1 hb.2 n.toNat (by omega)
      rw [show ((n.toNat : Nat) : Int) = n by omega] at hv
      exact ⟨v, fun _ _ => hv⟩
    · exact ⟨0, fun h0 h1 => absurd ⟨h0, h1⟩ hb⟩
  exact ⟨fun b => Classical.choose (h b), (best_feas hF (fun b h0 h1 => Classical.choose_spec (h b) h0 h1)).1⟩
end Diff

/-- the arcs have a solution for an interval -/
def FS (f : Flow) (ii : Int) : Prop := ∃ p, Feas (Flow.N f + 2) (Flow.Arcs f) ii p

section
variable {f : Flow}
theorem FS.mono (V : VALID f) {a b : Int} (h0 : 0 ≤ a) (hab : a ≤ b) (hb : b ≤ 256) (h : FS f a) : FS f b := by
  obtain ⟨p, hp⟩ := h
  refine ⟨p, fun i i0 i1 hi => ?_⟩
  obtain ⟨j, rfl⟩ : ∃ j : Nat, i = (j : Int) := ⟨i.toNat, by omega⟩
  have e := hp j i0 i1 hi
  rw [wt_valid V (by omega) (by omega) (by omega)] at e ⊢
  obtain ⟨_, _, _, _, l0, l1, d0, d1, _⟩ := V.arcs j (by omega)
  have := Int.mul_le_mul_of_nonneg_right hab d0
  omega
theorem cyc_no {ii : Int} {c : List Int} (h : Cyc (Flow.N f + 2) (Flow.Arcs f) ii c) : ¬ FS f ii := fun ⟨p, hp⟩ => h.not_feas hp

theorem loop_prog (V : VALID f) (h : FEW f) (hl : Flow.Loop f = true) : Ev (fun k => bounds_loop.f k f) 0 := by
  simp only [bounds_loop.f]
  refine Ev.bind ((valid_prog (sizes_of h)).true V) ?_
  simp only [hl, Bool.not_true, cond_false]
  exact .ret _

theorem rec1 (V : VALID f) (h : FEW f) (x : Int) : W (fun k => bounds_Recurrence_1.f k x f) (fun r => (r.1 = none ∧ FS f x) ∨ ∃ c, r.1 = some c ∧ Cyc (Flow.N f + 2) (Flow.Arcs f) x c) := by
  simp only [bounds_Recurrence_1.f, nodes_eq V, Option.bind_some]
  have hE := earliest_f (n0 := Flow.N f + 2) (arcs := Flow.Arcs f) (ii := x) (arcs_le V h)
  rw [nod_of V] at hE
  refine W.bind hE fun a ha => ?_
  rcases ha with ⟨a1, _, _, a4, _⟩ | ⟨_, c, a2, a3⟩
  · simp only [a1, Option.isSome_none, cond_false]
    exact .ret (.inl ⟨rfl, _, a4⟩)
  · simp only [a2, Option.isSome_some, cond_true, Option.getD_some]
    exact .ret (.inr ⟨c, rfl, a3⟩)

theorem rec2 (V : VALID f) (h : FEW f) (x : Nat) (hx : x ≤ 1000) : W (fun k => bounds_Recurrence_2.f k (x : Int) f) (fun r => r.1 = true ↔ FS f ((x : Int) + 1)) := by
  simp (disch := omega) only [bounds_Recurrence_2.f, w64_id]
  refine W.bind (rec1 V h ((x : Int) + 1)) fun r hr => ?_
  rcases hr with ⟨r1, r2⟩ | ⟨c, r1, r2⟩
  · simp only [r1, Option.isSome_none, cond_false]
    exact .ret ⟨fun _ => r2, fun _ => rfl⟩
  · simp only [r1, Option.isSome_some, cond_true]
    exact .ret ⟨(fun q => by cases q), fun q => absurd q (cyc_no r2)⟩

theorem search (V : VALID f) (h : FEW f) (h256 : FS f 256) : W (fun k => sort_Search.f k 255 f) (fun r => ∃ i : Nat, r.1 = (i : Int) ∧ i ≤ 255 ∧ FS f ((i : Int) + 1) ∧ ∀ t : Nat, t < i → ¬ FS f ((t : Int) + 1)) := by
  have loop : ∀ (m i j : Nat), j - i ≤ m → i ≤ j → j ≤ 255 → FS f ((j : Int) + 1) → (∀ t : Nat, t < i → ¬ FS f ((t : Int) + 1)) →
      W (fun k => sort_Search.c2 k (i : Int) (j : Int) f) (fun r => ∃ i : Nat, r.1 = (i : Int) ∧ i ≤ 255 ∧ FS f ((i : Int) + 1) ∧ ∀ t : Nat, t < i → ¬ FS f ((t : Int) + 1)) := by
    intro m
    induction m with
    | zero =>
      intro i j hm hij hj hF hN
      obtain rfl : i = j := by omega
      refine .succ ?_
      simp (disch := omega) only [sort_Search.c2, ↓cdF]
      exact .ret ⟨i, rfl, hj, hF, hN⟩
    | succ m ih =>
      intro i j hm hij hj hF hN
      refine .succ ?_
      simp only [sort_Search.c2, half31 (show i + j < 4611686018427387904 by omega)]
      refine .dec (fun c1 => ?_) fun c1 => ?_
      · refine W.bind (rec2 V h ((i + j) / 2) (by omega)) fun r hr => ?_
        cases hb : r.1 with
        | false =>
          simp only [Bool.not_false, cond_true]
          rw [hb] at hr
          have hno : ¬ FS f ((((i + j) / 2 : Nat) : Int) + 1) := fun q => by have := hr.2 q; cases this
          have e : w64 ((((i + j) / 2 : Nat) : Int) + 1) = (((i + j) / 2 + 1 : Nat) : Int) := by rw [w64_id (by omega) (by omega)]; omega
          rw [e]
          refine ih ((i + j) / 2 + 1) j (by omega) (by omega) hj hF (fun t ht q => hno (FS.mono V (by omega) (by omega) (by omega) q))
        | true =>
          simp only [Bool.not_true, cond_false]
          exact ih i ((i + j) / 2) (by omega) (by omega) (by omega) (hr.1 hb) hN
      · obtain rfl : i = j := by omega
        exact .ret ⟨i, rfl, hj, hF, hN⟩
  simp only [sort_Search.f]
  exact loop 255 0 255 (by omega) (by omega) (by omega) h256 (fun t ht => by omega)

/-- what Recurrence answers of a loop -/
def RECP (f : Flow) (r : Bound × Int × Unit) : Prop :=
  (r = ((0, 0, [], 0, ()), 14, ()) ∧ ¬ FS f 256) ∨ (r = ((1, 1, [], 0, ()), 0, ()) ∧ FS f 1) ∨
  ∃ (R : Int) (c : List Int), 2 ≤ R ∧ R ≤ 256 ∧ FS f R ∧ (∀ x, 1 ≤ x → x < R → ¬ FS f x) ∧ Cyc (Flow.N f + 2) (Flow.Arcs f) (R - 1) c ∧ r = ((2, R, c, 0, ()), 0, ())

theorem rec_prog (V : VALID f) (h : FEW f) (hl : Flow.Loop f = true) : W (fun k => bounds_Recurrence.f k f) (RECP f) := by
  simp only [bounds_Recurrence.f]
  refine W.bindEv (loop_prog V h hl) ?_
  simp only [decide_true, Bool.not_true, cond_false]
  refine W.bind (rec1 V h 256) fun r hr => ?_
  rcases hr with ⟨r1, r2⟩ | ⟨c, r1, r2⟩
  · simp only [r1, Option.isSome_none, cond_false]
    refine W.bind (search V h r2) fun y hy => ?_
    obtain ⟨i, y1, y2, y3, y4⟩ := hy
    rw [y1]
    simp (disch := omega) only [w64_id]
    refine .dec (fun c1 => ?_) fun c1 => ?_
    · refine .ret (.inr (.inl ⟨rfl, ?_⟩))
      rw [show (1 : Int) = (i : Int) + 1 by omega]
      exact y3
    · have hno : ¬ FS f (1 + (i : Int) - 1) := by
        have := y4 (i - 1) (by omega)
        rw [show ((i - 1 : Nat) : Int) + 1 = 1 + (i : Int) - 1 by omega] at this
        exact this
      refine W.bind (rec1 V h (1 + (i : Int) - 1)) fun q hq => ?_
      rcases hq with ⟨_, q2⟩ | ⟨c, q1, q2⟩
      · exact absurd q2 hno
      · simp only [q1, Option.isSome_some, cond_true, Option.getD_some]
        refine .ret (.inr (.inr ⟨1 + (i : Int), c, by omega, by omega, ?_, fun x x0 x1 q => ?_, q2, rfl⟩))
        · rw [show (1 : Int) + i = (i : Int) + 1 by omega]; exact y3
        · refine y4 (x - 1).toNat (by omega) ?_
          rw [show (((x - 1).toNat : Nat) : Int) + 1 = x by omega]
          exact q
  · simp only [r1, Option.isSome_some, cond_true]
    exact .ret (.inl ⟨rfl, cyc_no r2⟩)

/-! ### the reference -/
theorem feasible_ref (V : VALID f) (h : FEW f) (x : Int) : EvP (fun k => jacquardref31_Feasible.f k f x) (FS f x) := by
  have hi0 := V.i0; have hp0 := V.p0; have hi1 := h.1.insts; have hp1 := h.1.params
  have hN : Flow.N f = Flow.Insts f + Flow.Params f := rfl
  simp (disch := omega) only [jacquardref31_Feasible.f, end_ref V, Option.bind_some, w64_id]
  rw [show Flow.N f + 1 + 1 = Flow.N f + 2 by omega]
  have hA := walks_f (n0 := Flow.N f + 2) (arcs := Flow.Arcs f) (ii := x) (by rw [nod_of V]; omega) (by have := h.1.arcs; omega)
  rw [nod_of V] at hA
  refine W.p (W.bind hA fun r hr => ?_)
  rcases hr with ⟨r1, _, r3⟩ | ⟨r1, _, r3⟩
  · exact .ret ⟨fun _ => fw_feas r3 (by omega), fun _ => r1⟩
  · exact .ret ⟨(fun q => by rw [r1] at q; cases q), fun ⟨p, hp⟩ => absurd hp (r3 p)⟩

def RECR (f : Flow) (R : Int) : Prop := (R = 0 ∧ ¬ FS f 256) ∨ (1 ≤ R ∧ R ≤ 256 ∧ FS f R ∧ ∀ x, 1 ≤ x → x < R → ¬ FS f x)

theorem rec_ref (V : VALID f) (h : FEW f) : W (fun k => jacquardref31_Recurrence.f k f) (RECR f) := by
  simp only [jacquardref31_Recurrence.f]
  obtain ⟨b, hb, hb'⟩ := feasible_ref V h 256
  refine W.bindEv hb ?_
  cases b with
  | false =>
    simp only [Bool.not_false, cond_true]
    exact .ret (.inl ⟨rfl, fun q => by have := hb'.2 q; cases this⟩)
  | true =>
    simp only [Bool.not_true, cond_false]
    have h256 := hb'.1 rfl
    have loop : ∀ (d x : Nat), x + d = 256 → 1 ≤ x → (∀ t : Int, 1 ≤ t → t < x → ¬ FS f t) → W (fun k => jacquardref31_Recurrence.c4 k (x : Int) f) (RECR f) := by
      intro d
      induction d with
      | zero =>
        intro x hx h1 hN
        refine .succ ?_
        simp (disch := omega) only [jacquardref31_Recurrence.c4, ↓cdF]
        exact .ret (.inr ⟨by omega, by omega, h256, fun t t0 t1 => hN t t0 (by omega)⟩)
      | succ d ih =>
        intro x hx h1 hN
        refine .succ ?_
        simp (disch := omega) only [jacquardref31_Recurrence.c4, ↓cdT, w64_id]
        obtain ⟨b, hb, hb'⟩ := feasible_ref V h x
        refine W.bindEv hb ?_
        cases b with
        | true =>
          simp only [cond_true]
          exact .ret (.inr ⟨by omega, by omega, hb'.1 rfl, hN⟩)
        | false =>
          simp only [cond_false]
          refine ih (x + 1) (by omega) (by omega) (fun t t0 t1 q => ?_)
          by_cases e : t = x
          · subst e; have := hb'.2 q; cases this
          · exact hN t t0 (by omega) q
    exact loop 255 1 (by omega) (by omega) (fun t t0 t1 => by omega)
end
end Go.Proofs.YtehpelomfhaleaaV
