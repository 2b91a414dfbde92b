/- The reference's After: the least solution above bounds. No condition beyond the sizes that are named. -/
import Derived.Test.YtflefelgdcblgaaRef30
import Derived.Test.YtflefelgdcblgaaQx8
namespace Go.Proofs.Ytflefelgdcblgaa.Diff
set_option linter.unusedVariables false
set_option linter.unusedSimpArgs false
open Go.RowKit Go.Proofs.YtflefelgdcblgaaW.PrintWords Go.Proofs.YtflefelgdcblgaaW.PrintMore Go.Proofs.Ytflefelgdcblgaa.Lib Go.Proofs.Ytflefelgdcblgaa.Q
def Best (n : Int) (lo : Int → Int) (m : Int → Int → Int) (b c v : Int) : Prop :=
  lo b ≤ v ∧ v ≤ 600000000000000000 ∧ (∀ a, 0 ≤ a → a < c → m a b > -1152921504606846976 → lo a + m a b ≤ v) ∧ ∀ x, lo b ≤ x → (∀ a, 0 ≤ a → a < c → m a b > -1152921504606846976 → lo a + m a b ≤ x) → v ≤ x
def AnswerR (n : Int) (arcs : List Arc) (ii : Int) (lo : Int → Int) (r : List Int × Bool) : Prop :=
  (r.2 = true ∧ (r.1.length : Int) = n ∧ (∀ v, 0 ≤ v → v < n → lo v ≤ rd r.1 v ∧ rd r.1 v ≤ 600000000000000000) ∧ Feas n arcs ii (rd r.1) ∧ ∀ p : Int → Int, Feas n arcs ii p → (∀ v, 0 ≤ v → v < n → lo v ≤ p v) → ∀ v, 0 ≤ v → v < n → rd r.1 v ≤ p v) ∨
  (r.2 = false ∧ r.1 = [] ∧ ∀ p, ¬ Feas n arcs ii p)
section
variable {n : Int} {arcs : List Arc} {ii : Int}
theorem best_feas {lo : Int → Int} {m : Int → Int → Int} (hF : FW n arcs ii n 288230376151711744 m) {out : Int → Int} (hb : ∀ b, 0 ≤ b → b < n → Best n lo m b n (out b)) :
    Feas n arcs ii out ∧ ∀ p : Int → Int, Feas n arcs ii p → (∀ v, 0 ≤ v → v < n → lo v ≤ p v) → ∀ v, 0 ≤ v → v < n → out v ≤ p v := by
  constructor
  · intro i i0 i1 hi
    obtain ⟨u0, u1, v0, v1⟩ := id hi
    have hw := wt_le (rd_T28 arcs i) ii
    have ha := hF.ar i i0 i1 hi
    have bu := hb _ u0 u1
    have bv := hb _ v0 v1
    have := bu.2.2.2 (out (rd_T28 arcs i).f1 - wt (rd_T28 arcs i) ii) (by have := bv.2.2.1 _ u0 u1 (by omega); omega) (fun a a0 a1 hgt => by
      have e1 := hF.cl a _ _ a0 a1 v0 v1 u0 u1 hgt (by omega)
      have g1 := hF.bd a _ a0 a1 u0 u1
      have e2 := bv.2.2.1 a a0 a1 (by omega)
      omega)
    omega
  · intro p hp hl v v0 v1
    refine (hb v v0 v1).2.2.2 (p v) (hl v v0 v1) (fun a a0 a1 hgt => ?_)
    have := hF.snd p hp a v a0 a1 v0 v1 hgt
    have := hl a a0 a1
    omega
theorem after_ref_l1 (hn0 : 0 ≤ n) (hn : n ≤ 8192) {lower : List Int} {d : List (List Int)} (hS : Sq n d) (hF : FW n arcs ii n 288230376151711744 (At d)) {b : Int} (b0 : 0 ≤ b) (b1 : b < n) {out : List Int} (hout : out.length ≤ 8192) {Q : List Int × Bool → Prop}
    (hk : ∀ v, Best n (bnd lower) (At d) b n v → EvP (fun q => jacquardref30_After.l0 q lower d (out ++ [v]) n (b + 1)) Q) :
    ∀ (c : Nat) (a v : Int), 0 ≤ a → a + c = n → Best n (bnd lower) (At d) b a v → EvP (fun q => jacquardref30_After.l1 q lower d out b v n b n a) Q := by
  intro c
  induction c with
  | zero =>
    intro a v a0 hac hB
    obtain rfl : a = n := by omega
    refine EvP.step (fun q => ?_) (hk v hB)
    simp only [jacquardref30_After.l1]
    rw [if_neg (by omega), if_pos (by omega), wrap_id (by omega) (by omega)]
  | succ c ih =>
    intro a v a0 hac hB
    have hla := hS.2 a a0 (by omega)
    have hld := hS.1
    have g := hF.bd a b a0 (by omega) b0 b1
    have hbl := bnd_le lower a
    by_cases c1 : At d a b > -1152921504606846976
    · refine EvP.step (fun q => ?_) (ih (a + 1) (mx v (bnd lower a + At d a b)) (by omega) (by omega) ⟨?_, ?_, ?_, ?_⟩)
      · simp only [jacquardref30_After.l1]
        rw [if_pos (by omega), if_pos a0, if_pos (by omega), if_pos b0, if_pos (by omega), if_pos (show rd (rd_L2 d a) b > -1152921504606846976 from c1), bound_ref a0]
        simp only [Option.bind_some]
        rw [wrap_id (n := a + 1) (by omega) (by omega)]
        unfold At at c1 g ⊢
        rw [wrap_id (by omega) (by omega)]
      · have := hB.1; unfold mx; split <;> omega
      · have := hB.2.1; unfold mx; split <;> omega
      · intro a' h0 h1 hgt
        by_cases e : a' = a
        · subst e; unfold mx; split <;> omega
        · have := hB.2.2.1 a' h0 (by omega) hgt
          unfold mx; split <;> omega
      · intro x hx hall
        have e1 := hB.2.2.2 x hx (fun a' h0 h1 hgt => hall a' h0 (by omega) hgt)
        have e2 := hall a a0 (by omega) c1
        unfold mx; split <;> omega
    · refine EvP.step (fun q => ?_) (ih (a + 1) v (by omega) (by omega) ⟨hB.1, hB.2.1, fun a' h0 h1 hgt => ?_, fun x hx hall => hB.2.2.2 x hx (fun a' h0 h1 hgt => hall a' h0 (by omega) hgt)⟩)
      · simp only [jacquardref30_After.l1]
        rw [if_pos (by omega), if_pos a0, if_pos (by omega), if_pos b0, if_pos (by omega), if_neg (show ¬ rd (rd_L2 d a) b > -1152921504606846976 from c1), wrap_id (n := a + 1) (by omega) (by omega)]
      · by_cases e : a' = a
        · subst e; exact absurd hgt c1
        · exact hB.2.2.1 a' h0 (by omega) hgt
theorem after_ref_l0 (hn0 : 0 ≤ n) (hn : n ≤ 8192) {lower : List Int} {d : List (List Int)} (hS : Sq n d) (hF : FW n arcs ii n 288230376151711744 (At d)) :
    ∀ (c : Nat) (b : Int) (out : List Int), 0 ≤ b → b + c = n → (out.length : Int) = b → (∀ v, 0 ≤ v → v < b → Best n (bnd lower) (At d) v n (rd out v)) → EvP (fun q => jacquardref30_After.l0 q lower d out n b) (AnswerR n arcs ii (bnd lower)) := by
  intro c
  induction c with
  | zero =>
    intro b out b0 hbc hl hx
    obtain rfl : b = n := by omega
    have hf := best_feas (out := rd out) hF hx
    refine EvP.ret1 (out, true) (fun q => ?_) (Or.inl ⟨rfl, hl, fun v v0 v1 => ⟨(hx v v0 v1).1, (hx v v0 v1).2.1⟩, hf.1, hf.2⟩)
    simp only [jacquardref30_After.l0]; rw [if_neg (by omega)]
  | succ c ih =>
    intro b out b0 hbc hl hx
    have hbl := bnd_le lower b
    refine EvP.step (fun q => ?_) (after_ref_l1 hn0 hn (lower := lower) hS hF b0 (by omega) (out := out) (by omega) (fun v hv => ih (b + 1) (out ++ [v]) (by omega) (by omega) (by simp; omega) (fun w w0 w1 => ?_)) n.toNat 0 (bnd lower b) (by omega) (by omega) ⟨by omega, by omega, fun a h0 h1 => by omega, fun x hx _ => hx⟩)
    · simp only [jacquardref30_After.l0]
      rw [if_pos (by omega), bound_ref b0]
      simp only [Option.bind_some]
      rw [hS.1]
    · by_cases e : w = b
      · rw [rd_append_right (by omega), e]; exact hv
      · rw [rd_append_left (by omega)]; exact hx w w0 (by omega)
end
theorem after_ref_f {n0 : Int} {arcs : List Arc} {ii : Int} {lower : List Int} (hn : nod n0 ≤ 20) (hlen : arcs.length ≤ 1000000) : EvP (fun q => jacquardref30_After.f q n0 arcs ii lower) (AnswerR (nod n0) arcs ii (bnd lower)) := by
  have h0 := nod_le n0
  unfold jacquardref30_After.f
  refine EvP.bind (walks_f hn hlen) (fun r hr => ?_)
  rcases hr with ⟨h1, h2, h3⟩ | ⟨h1, h2, h3⟩
  · simp only [h1, if_true]
    rw [h2.1]
    exact after_ref_l0 h0.1 h0.2 h2 h3 (nod n0).toNat 0 [] (by omega) (by omega) rfl (fun v a b => by omega)
  · simp only [h1, Bool.false_eq_true, if_false]
    exact EvP.ret _ (fun _ => rfl) (Or.inr ⟨rfl, rfl, h3⟩)
end Go.Proofs.Ytflefelgdcblgaa.Diff
