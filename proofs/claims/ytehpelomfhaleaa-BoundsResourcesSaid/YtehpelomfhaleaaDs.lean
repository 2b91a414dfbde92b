/- The reference's After and Latest. -/
import Derived.Test.YtehpelomfhaleaaDr
set_option linter.unusedVariables false
set_option linter.unusedSimpArgs false
namespace Go.Proofs.YtehpelomfhaleaaV.Diff
open Go Go.Vm

/-- v is the least number that is not below the bounds that lead to b. -/
def Best (n : Int) (lo : Int → Int) (m : Int → Int → Int) (b c v : Int) : Prop :=
  lo b ≤ v ∧ v ≤ 600000000000000000 ∧ (∀ a, 0 ≤ a → a < c → m a b > -1152921504606846976 → lo a + m a b ≤ v) ∧ ∀ x, lo b ≤ x → (∀ a, 0 ≤ a → a < c → m a b > -1152921504606846976 → lo a + m a b ≤ x) → v ≤ x
/-- What the reference's After answers. -/
def AnswerR (n : Int) (arcs : List Arc) (ii : Int) (lo : Int → Int) (r : List Int × Bool × Unit) : Prop :=
  (r.2.1 = true ∧ (r.1.length : Int) = n ∧ (∀ v, 0 ≤ v → v < n → lo v ≤ rd r.1 v ∧ rd r.1 v ≤ 600000000000000000) ∧ Feas n arcs ii (rd r.1) ∧ ∀ p : Int → Int, Feas n arcs ii p → (∀ v, 0 ≤ v → v < n → lo v ≤ p v) → ∀ v, 0 ≤ v → v < n → rd r.1 v ≤ p v) ∨
  (r.2.1 = false ∧ r.1 = [] ∧ ∀ p, ¬ Feas n arcs ii p)
section
variable {n : Int} {arcs : List Arc} {ii : Int}
theorem best_feas {lo : Int → Int} {m : Int → Int → Int} (hF : FW n arcs ii n 288230376151711744 m) {out : Int → Int} (hb : ∀ b, 0 ≤ b → b < n → Best n lo m b n (out b)) :
    Feas n arcs ii out ∧ ∀ p : Int → Int, Feas n arcs ii p → (∀ v, 0 ≤ v → v < n → lo v ≤ p v) → ∀ v, 0 ≤ v → v < n → out v ≤ p v := by
  constructor
  · intro i i0 i1 hi
    obtain ⟨u0, u1, v0, v1⟩ := id hi
    have hw := wt_le (rd arcs i) ii
    have ha := hF.ar i i0 i1 hi
    have bu := hb _ u0 u1
    have bv := hb _ v0 v1
    have := bu.2.2.2 (out (Arc.To (rd arcs i)) - wt (rd arcs i) ii) (by have := bv.2.2.1 _ u0 u1 (by omega); omega) (fun a a0 a1 hgt => by
      have e1 := hF.cl a _ _ a0 a1 v0 v1 u0 u1 hgt (by omega)
      have g1 := hF.bd a _ a0 a1 u0 u1
      have e2 := bv.2.2.1 a a0 a1 (by omega)
      omega)
    omega
  · intro p hp hl v v0 v1
    refine (hb v v0 v1).2.2.2 (p v) (hl v v0 v1) (fun a a0 a1 hgt => ?_)
    have := hF.snd p hp a v a0 a1 v0 v1 hgt
    have := hl a a0 a1
    omega
theorem after_ref_c10 (hn0 : 0 ≤ n) (hn : n ≤ 8192) {lower : List Int} {d : List (List Int)} (hS : Sq n d) (hF : FW n arcs ii n 288230376151711744 (At d)) {b : Int} (b0 : 0 ≤ b) (b1 : b < n) {out : List Int} (hout : out.length ≤ 8192) {Q : List Int × Bool × Unit → Prop}
    (hk : ∀ v, Best n (bnd lower) (At d) b n v → W (fun q => jacquardref30_After.c6 q lower n (b + 1) d (out ++ [v])) Q) :
    ∀ (c : Nat) (a v : Int), 0 ≤ a → a + c = n → Best n (bnd lower) (At d) b a v → W (fun q => jacquardref30_After.c10 q lower b v n b n a d out) Q := by
  intro c
  induction c with
  | zero =>
    intro a v a0 hac hB
    obtain rfl : a = n := by omega
    refine .succ ?_
    simp (disch := first | omega | (simp only [List.length_singleton]; omega)) only [jacquardref30_After.c10, ↓cdF, ↓bleT, w64_id]
    exact hk v hB
  | succ c ih =>
    intro a v a0 hac hB
    have hla := hS.2 a a0 (by omega)
    have hld := hS.1
    have g := hF.bd a b a0 (by omega) b0 b1
    have hbl := bnd_le lower a
    refine .succ ?_
    simp (disch := omega) only [jacquardref30_After.c10, ↓cdT, ↓if_pos, bound_ref, Option.bind_some, w64_id (n := a + 1)]
    refine .dec (fun c1 => ?_) fun c1 => ?_
    · change At d a b > -1152921504606846976 at c1
      have hB1 := hB.1
      have hB2 := hB.2.1
      have e0 : w64 (bnd lower a + rd (rd d a) b) = bnd lower a + At d a b := by unfold At at *; exact w64_id (by omega) (by omega)
      rw [e0]
      refine ih (a + 1) (mx v (bnd lower a + At d a b)) (by omega) (by omega) ⟨?_, ?_, ?_, ?_⟩
      · unfold mx; split <;> omega
      · unfold mx; split <;> omega
      · intro a' h0 h1 hgt
        by_cases e : a' = a
        · subst e; unfold mx; split <;> omega
        · have := hB.2.2.1 a' h0 (by omega) hgt
          unfold mx; split <;> omega
      · intro x hx hall
        have e1 := hB.2.2.2 x hx (fun a' h0 h1 hgt => hall a' h0 (by omega) hgt)
        have e2 := hall a a0 (by omega) c1
        unfold mx; split <;> omega
    · refine ih (a + 1) v (by omega) (by omega) ⟨hB.1, hB.2.1, fun a' h0 h1 hgt => ?_, fun x hx hall => hB.2.2.2 x hx (fun a' h0 h1 hgt => hall a' h0 (by omega) hgt)⟩
      by_cases e : a' = a
      · subst e; exact absurd hgt c1
      · exact hB.2.2.1 a' h0 (by omega) hgt
theorem after_ref_c6 (hn0 : 0 ≤ n) (hn : n ≤ 8192) {lower : List Int} {d : List (List Int)} (hS : Sq n d) (hF : FW n arcs ii n 288230376151711744 (At d)) :
    ∀ (c : Nat) (b : Int) (out : List Int), 0 ≤ b → b + c = n → (out.length : Int) = b → (∀ v, 0 ≤ v → v < b → Best n (bnd lower) (At d) v n (rd out v)) → W (fun q => jacquardref30_After.c6 q lower n b d out) (AnswerR n arcs ii (bnd lower)) := by
  intro c
  induction c with
  | zero =>
    intro b out b0 hbc hl hx
    obtain rfl : b = n := by omega
    have hf := best_feas (out := rd out) hF hx
    refine .succ ?_
    simp (disch := omega) only [jacquardref30_After.c6, ↓cdF]
    exact .ret (Or.inl ⟨rfl, hl, fun v v0 v1 => ⟨(hx v v0 v1).1, (hx v v0 v1).2.1⟩, hf.1, hf.2⟩)
  | succ c ih =>
    intro b out b0 hbc hl hx
    have hbl := bnd_le lower b
    refine .succ ?_
    simp (disch := omega) only [jacquardref30_After.c6, ↓cdT, bound_ref, Option.bind_some]
    rw [hS.1]
    refine after_ref_c10 hn0 hn (lower := lower) hS hF b0 (by omega) (out := out) (by omega) (fun v hv => ih (b + 1) (out ++ [v]) (by omega) (by omega) (by simp; omega) (fun w w0 w1 => ?_)) n.toNat 0 (bnd lower b) (by omega) (by omega) ⟨by omega, by omega, fun a h0 h1 => by omega, fun x hx _ => hx⟩
    by_cases e : w = b
    · rw [rd_append_right (by omega), e]; exact hv
    · rw [rd_append_left (by omega)]; exact hx w w0 (by omega)
end
theorem after_ref_f {n0 : Int} {arcs : List Arc} {ii : Int} {lower : List Int} (hn : nod n0 ≤ 20) (hlen : arcs.length ≤ 1000000) : W (fun q => jacquardref30_After.f q n0 arcs ii lower) (AnswerR (nod n0) arcs ii (bnd lower)) := by
  have h0 := nod_le n0
  simp only [jacquardref30_After.f]
  refine W.bind (walks_f hn hlen) (fun r hr => ?_)
  rcases hr with ⟨h1, h2, h3⟩ | ⟨h1, h2, h3⟩
  · simp only [h1, Bool.not_true, cond_false]
    rw [h2.1]
    exact after_ref_c6 h0.1 h0.2 h2 h3 (nod n0).toNat 0 [] (by omega) (by omega) rfl (fun v a b => by omega)
  · simp only [h1, Bool.not_false, cond_true]
    exact .ret (Or.inr ⟨rfl, rfl, h3⟩)

/-! ### Latest: the greatest solution below bounds -/
def BestL (n : Int) (hi : Int → Int) (m : Int → Int → Int) (a c v : Int) : Prop :=
  v ≤ hi a ∧ -600000000000000000 ≤ v ∧ (∀ b, 0 ≤ b → b < c → m a b > -1152921504606846976 → v ≤ hi b - m a b) ∧ ∀ x, x ≤ hi a → (∀ b, 0 ≤ b → b < c → m a b > -1152921504606846976 → x ≤ hi b - m a b) → x ≤ v
def AnswerL (n : Int) (arcs : List Arc) (ii : Int) (hi : Int → Int) (r : List Int × Bool × Unit) : Prop :=
  (r.2.1 = true ∧ (r.1.length : Int) = n ∧ (∀ v, 0 ≤ v → v < n → rd r.1 v ≤ hi v ∧ -600000000000000000 ≤ rd r.1 v) ∧ Feas n arcs ii (rd r.1) ∧ ∀ p : Int → Int, Feas n arcs ii p → (∀ v, 0 ≤ v → v < n → p v ≤ hi v) → ∀ v, 0 ≤ v → v < n → p v ≤ rd r.1 v) ∨
  (r.2.1 = false ∧ r.1 = [] ∧ ∀ p, ¬ Feas n arcs ii p)
section
variable {n : Int} {arcs : List Arc} {ii : Int}
theorem bestL_feas {hi : Int → Int} {m : Int → Int → Int} (hF : FW n arcs ii n 288230376151711744 m) {out : Int → Int} (hb : ∀ b, 0 ≤ b → b < n → BestL n hi m b n (out b)) :
    Feas n arcs ii out ∧ ∀ p : Int → Int, Feas n arcs ii p → (∀ v, 0 ≤ v → v < n → p v ≤ hi v) → ∀ v, 0 ≤ v → v < n → p v ≤ out v := by
  constructor
  · intro i i0 i1 hin
    obtain ⟨u0, u1, v0, v1⟩ := id hin
    have hw := wt_le (rd arcs i) ii
    have ha := hF.ar i i0 i1 hin
    have bu := hb _ u0 u1
    have bv := hb _ v0 v1
    have := bv.2.2.2 (out (Arc.From (rd arcs i)) + wt (rd arcs i) ii) (by have := bu.2.2.1 _ v0 v1 (by omega); omega) (fun b b0 b1 hgt => by
      have e1 := hF.cl _ b _ u0 u1 b0 b1 v0 v1 (by omega) hgt
      have g1 := hF.bd _ b v0 v1 b0 b1
      have e2 := bu.2.2.1 b b0 b1 (by omega)
      omega)
    omega
  · intro p hp hl v v0 v1
    refine (hb v v0 v1).2.2.2 (p v) (hl v v0 v1) (fun b b0 b1 hgt => ?_)
    have := hF.snd p hp v b v0 v1 b0 b1 hgt
    have := hl b b0 b1
    omega
theorem latest_ref_c10 (hn0 : 0 ≤ n) (hn : n ≤ 8192) {upper : List Int} {d : List (List Int)} (hS : Sq n d) (hF : FW n arcs ii n 288230376151711744 (At d)) {a : Int} (a0 : 0 ≤ a) (a1 : a < n) {out : List Int} (hout : out.length ≤ 8192) {Q : List Int × Bool × Unit → Prop}
    (hk : ∀ v, BestL n (bnd upper) (At d) a n v → W (fun q => jacquardref30_Latest.c6 q upper n (a + 1) d (out ++ [v])) Q) :
    ∀ (c : Nat) (b v : Int), 0 ≤ b → b + c = n → BestL n (bnd upper) (At d) a b v → W (fun q => jacquardref30_Latest.c10 q upper a v n a n b d out) Q := by
  intro c
  induction c with
  | zero =>
    intro b v b0 hbc hB
    obtain rfl : b = n := by omega
    refine .succ ?_
    simp (disch := first | omega | (simp only [List.length_singleton]; omega)) only [jacquardref30_Latest.c10, ↓cdF, ↓bleT, w64_id]
    exact hk v hB
  | succ c ih =>
    intro b v b0 hbc hB
    have hla := hS.2 a a0 (by omega)
    have hld := hS.1
    have g := hF.bd a b a0 (by omega) b0 (by omega)
    have hbl := bnd_le upper b
    refine .succ ?_
    simp (disch := omega) only [jacquardref30_Latest.c10, ↓cdT, ↓if_pos, bound_ref, Option.bind_some, w64_id (n := b + 1)]
    refine .dec (fun c1 => ?_) fun c1 => ?_
    · change At d a b > -1152921504606846976 at c1
      have hB1 := hB.1
      have hB2 := hB.2.1
      have e0 : w64 (bnd upper b - rd (rd d a) b) = bnd upper b - At d a b := by unfold At at *; exact w64_id (by omega) (by omega)
      rw [e0]
      refine ih (b + 1) (mn v (bnd upper b - At d a b)) (by omega) (by omega) ⟨?_, ?_, ?_, ?_⟩
      · unfold mn; split <;> omega
      · unfold mn; split <;> omega
      · intro b' h0 h1 hgt
        by_cases e : b' = b
        · subst e; unfold mn; split <;> omega
        · have := hB.2.2.1 b' h0 (by omega) hgt
          unfold mn; split <;> omega
      · intro x hx hall
        have e1 := hB.2.2.2 x hx (fun b' h0 h1 hgt => hall b' h0 (by omega) hgt)
        have e2 := hall b b0 (by omega) c1
        unfold mn; split <;> omega
    · refine ih (b + 1) v (by omega) (by omega) ⟨hB.1, hB.2.1, fun b' h0 h1 hgt => ?_, fun x hx hall => hB.2.2.2 x hx (fun b' h0 h1 hgt => hall b' h0 (by omega) hgt)⟩
      by_cases e : b' = b
      · subst e; exact absurd hgt c1
      · exact hB.2.2.1 b' h0 (by omega) hgt
theorem latest_ref_c6 (hn0 : 0 ≤ n) (hn : n ≤ 8192) {upper : List Int} {d : List (List Int)} (hS : Sq n d) (hF : FW n arcs ii n 288230376151711744 (At d)) :
    ∀ (c : Nat) (b : Int) (out : List Int), 0 ≤ b → b + c = n → (out.length : Int) = b → (∀ v, 0 ≤ v → v < b → BestL n (bnd upper) (At d) v n (rd out v)) → W (fun q => jacquardref30_Latest.c6 q upper n b d out) (AnswerL n arcs ii (bnd upper)) := by
  intro c
  induction c with
  | zero =>
    intro b out b0 hbc hl hx
    obtain rfl : b = n := by omega
    have hf := bestL_feas (out := rd out) hF hx
    refine .succ ?_
    simp (disch := omega) only [jacquardref30_Latest.c6, ↓cdF]
    exact .ret (Or.inl ⟨rfl, hl, fun v v0 v1 => ⟨(hx v v0 v1).1, (hx v v0 v1).2.1⟩, hf.1, hf.2⟩)
  | succ c ih =>
    intro b out b0 hbc hl hx
    have hbl := bnd_le upper b
    refine .succ ?_
    simp (disch := omega) only [jacquardref30_Latest.c6, ↓cdT, bound_ref, Option.bind_some]
    rw [hS.1]
    refine latest_ref_c10 hn0 hn (upper := upper) hS hF b0 (by omega) (out := out) (by omega) (fun v hv => ih (b + 1) (out ++ [v]) (by omega) (by omega) (by simp; omega) (fun w w0 w1 => ?_)) n.toNat 0 (bnd upper b) (by omega) (by omega) ⟨by omega, by omega, fun a h0 h1 => by omega, fun x hx _ => hx⟩
    by_cases e : w = b
    · rw [rd_append_right (by omega), e]; exact hv
    · rw [rd_append_left (by omega)]; exact hx w w0 (by omega)
end
theorem latest_ref_f {n0 : Int} {arcs : List Arc} {ii : Int} {upper : List Int} (hn : nod n0 ≤ 20) (hlen : arcs.length ≤ 1000000) : W (fun q => jacquardref30_Latest.f q n0 arcs ii upper) (AnswerL (nod n0) arcs ii (bnd upper)) := by
  have h0 := nod_le n0
  simp only [jacquardref30_Latest.f]
  refine W.bind (walks_f hn hlen) (fun r hr => ?_)
  rcases hr with ⟨h1, h2, h3⟩ | ⟨h1, h2, h3⟩
  · simp only [h1, Bool.not_true, cond_false]
    rw [h2.1]
    exact latest_ref_c6 h0.1 h0.2 h2 h3 (nod n0).toNat 0 [] (by omega) (by omega) rfl (fun v a b => by omega)
  · simp only [h1, Bool.not_false, cond_true]
    exact .ret (Or.inr ⟨rfl, rfl, h3⟩)

end Go.Proofs.YtehpelomfhaleaaV.Diff
