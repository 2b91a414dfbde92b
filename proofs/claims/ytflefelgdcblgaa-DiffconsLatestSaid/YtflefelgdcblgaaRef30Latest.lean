/- The reference's Latest: the greatest solution below bounds. No condition beyond the sizes that are named. -/
import Derived.Test.YtflefelgdcblgaaRef30
import Derived.Test.YtflefelgdcblgaaQx18
namespace Go.Proofs.Ytflefelgdcblgaa.Diff
set_option linter.unusedVariables false
set_option linter.unusedSimpArgs false
open Go.RowKit Go.Proofs.YtflefelgdcblgaaW.PrintWords Go.Proofs.YtflefelgdcblgaaW.PrintMore Go.Proofs.Ytflefelgdcblgaa.Lib Go.Proofs.Ytflefelgdcblgaa.Q
def BestL (n : Int) (hi : Int → Int) (m : Int → Int → Int) (a c v : Int) : Prop :=
  v ≤ hi a ∧ -600000000000000000 ≤ v ∧ (∀ b, 0 ≤ b → b < c → m a b > -1152921504606846976 → v ≤ hi b - m a b) ∧ ∀ x, x ≤ hi a → (∀ b, 0 ≤ b → b < c → m a b > -1152921504606846976 → x ≤ hi b - m a b) → x ≤ v
def AnswerL (n : Int) (arcs : List Arc) (ii : Int) (hi : Int → Int) (r : List Int × Bool) : Prop :=
  (r.2 = true ∧ (r.1.length : Int) = n ∧ (∀ v, 0 ≤ v → v < n → rd r.1 v ≤ hi v ∧ -600000000000000000 ≤ rd r.1 v) ∧ Feas n arcs ii (rd r.1) ∧ ∀ p : Int → Int, Feas n arcs ii p → (∀ v, 0 ≤ v → v < n → p v ≤ hi v) → ∀ v, 0 ≤ v → v < n → p v ≤ rd r.1 v) ∨
  (r.2 = false ∧ r.1 = [] ∧ ∀ p, ¬ Feas n arcs ii p)
section
variable {n : Int} {arcs : List Arc} {ii : Int}
theorem bestL_feas {hi : Int → Int} {m : Int → Int → Int} (hF : FW n arcs ii n 288230376151711744 m) {out : Int → Int} (hb : ∀ b, 0 ≤ b → b < n → BestL n hi m b n (out b)) :
    Feas n arcs ii out ∧ ∀ p : Int → Int, Feas n arcs ii p → (∀ v, 0 ≤ v → v < n → p v ≤ hi v) → ∀ v, 0 ≤ v → v < n → p v ≤ out v := by
  constructor
  · intro i i0 i1 hin
    obtain ⟨u0, u1, v0, v1⟩ := id hin
    have hw := wt_le (rd_T28 arcs i) ii
    have ha := hF.ar i i0 i1 hin
    have bu := hb _ u0 u1
    have bv := hb _ v0 v1
    have := bv.2.2.2 (out (rd_T28 arcs i).f0 + wt (rd_T28 arcs i) ii) (by have := bu.2.2.1 _ v0 v1 (by omega); omega) (fun b b0 b1 hgt => by
      have e1 := hF.cl _ b _ u0 u1 b0 b1 v0 v1 (by omega) hgt
      have g1 := hF.bd _ b v0 v1 b0 b1
      have e2 := bu.2.2.1 b b0 b1 (by omega)
      omega)
    omega
  · intro p hp hl v v0 v1
    refine (hb v v0 v1).2.2.2 (p v) (hl v v0 v1) (fun b b0 b1 hgt => ?_)
    have := hF.snd p hp v b v0 v1 b0 b1 hgt
    have := hl b b0 b1
    omega
theorem latest_ref_l1 (hn0 : 0 ≤ n) (hn : n ≤ 8192) {upper : List Int} {d : List (List Int)} (hS : Sq n d) (hF : FW n arcs ii n 288230376151711744 (At d)) {a : Int} (a0 : 0 ≤ a) (a1 : a < n) {out : List Int} (hout : out.length ≤ 8192) {Q : List Int × Bool → Prop}
    (hk : ∀ v, BestL n (bnd upper) (At d) a n v → EvP (fun q => jacquardref30_Latest.l0 q upper d (out ++ [v]) n (a + 1)) Q) :
    ∀ (c : Nat) (b v : Int), 0 ≤ b → b + c = n → BestL n (bnd upper) (At d) a b v → EvP (fun q => jacquardref30_Latest.l1 q upper d out a v n a n b) Q := by
  intro c
  induction c with
  | zero =>
    intro b v b0 hbc hB
    obtain rfl : b = n := by omega
    refine EvP.step (fun q => ?_) (hk v hB)
    simp only [jacquardref30_Latest.l1]
    rw [if_neg (by omega), if_pos (by omega), wrap_id (by omega) (by omega)]
  | succ c ih =>
    intro b v b0 hbc hB
    have hla := hS.2 a a0 a1
    have hld := hS.1
    have g := hF.bd a b a0 a1 b0 (by omega)
    have hbl := bnd_le upper b
    by_cases c1 : At d a b > -1152921504606846976
    · refine EvP.step (fun q => ?_) (ih (b + 1) (mn v (bnd upper b - At d a b)) (by omega) (by omega) ⟨?_, ?_, ?_, ?_⟩)
      · simp only [jacquardref30_Latest.l1]
        rw [if_pos (by omega), if_pos a0, if_pos (by omega), if_pos b0, if_pos (by omega), if_pos (show rd (rd_L2 d a) b > -1152921504606846976 from c1), bound_ref b0]
        simp only [Option.bind_some]
        rw [wrap_id (n := b + 1) (by omega) (by omega)]
        unfold At at c1 g ⊢
        rw [wrap_id (by omega) (by omega)]
      · have := hB.1; unfold mn; split <;> omega
      · have := hB.2.1; unfold mn; split <;> omega
      · intro b' h0 h1 hgt
        by_cases e : b' = b
        · subst e; unfold mn; split <;> omega
        · have := hB.2.2.1 b' h0 (by omega) hgt
          unfold mn; split <;> omega
      · intro x hx hall
        have e1 := hB.2.2.2 x hx (fun b' h0 h1 hgt => hall b' h0 (by omega) hgt)
        have e2 := hall b b0 (by omega) c1
        unfold mn; split <;> omega
    · refine EvP.step (fun q => ?_) (ih (b + 1) v (by omega) (by omega) ⟨hB.1, hB.2.1, fun b' h0 h1 hgt => ?_, fun x hx hall => hB.2.2.2 x hx (fun b' h0 h1 hgt => hall b' h0 (by omega) hgt)⟩)
      · simp only [jacquardref30_Latest.l1]
        rw [if_pos (by omega), if_pos a0, if_pos (by omega), if_pos b0, if_pos (by omega), if_neg (show ¬ rd (rd_L2 d a) b > -1152921504606846976 from c1), wrap_id (n := b + 1) (by omega) (by omega)]
      · by_cases e : b' = b
        · subst e; exact absurd hgt c1
        · exact hB.2.2.1 b' h0 (by omega) hgt
theorem latest_ref_l0 (hn0 : 0 ≤ n) (hn : n ≤ 8192) {upper : List Int} {d : List (List Int)} (hS : Sq n d) (hF : FW n arcs ii n 288230376151711744 (At d)) :
    ∀ (c : Nat) (b : Int) (out : List Int), 0 ≤ b → b + c = n → (out.length : Int) = b → (∀ v, 0 ≤ v → v < b → BestL n (bnd upper) (At d) v n (rd out v)) → EvP (fun q => jacquardref30_Latest.l0 q upper d out n b) (AnswerL n arcs ii (bnd upper)) := by
  intro c
  induction c with
  | zero =>
    intro b out b0 hbc hl hx
    obtain rfl : b = n := by omega
    have hf := bestL_feas (out := rd out) hF hx
    refine EvP.ret1 (out, true) (fun q => ?_) (Or.inl ⟨rfl, hl, fun v v0 v1 => ⟨(hx v v0 v1).1, (hx v v0 v1).2.1⟩, hf.1, hf.2⟩)
    simp only [jacquardref30_Latest.l0]; rw [if_neg (by omega)]
  | succ c ih =>
    intro b out b0 hbc hl hx
    have hbl := bnd_le upper b
    refine EvP.step (fun q => ?_) (latest_ref_l1 hn0 hn (upper := upper) hS hF b0 (by omega) (out := out) (by omega) (fun v hv => ih (b + 1) (out ++ [v]) (by omega) (by omega) (by simp; omega) (fun w w0 w1 => ?_)) n.toNat 0 (bnd upper b) (by omega) (by omega) ⟨by omega, by omega, fun a h0 h1 => by omega, fun x hx _ => hx⟩)
    · simp only [jacquardref30_Latest.l0]
      rw [if_pos (by omega), bound_ref b0]
      simp only [Option.bind_some]
      rw [hS.1]
    · by_cases e : w = b
      · rw [rd_append_right (by omega), e]; exact hv
      · rw [rd_append_left (by omega)]; exact hx w w0 (by omega)
end
theorem latest_ref_f {n0 : Int} {arcs : List Arc} {ii : Int} {upper : List Int} (hn : nod n0 ≤ 20) (hlen : arcs.length ≤ 1000000) : EvP (fun q => jacquardref30_Latest.f q n0 arcs ii upper) (AnswerL (nod n0) arcs ii (bnd upper)) := by
  have h0 := nod_le n0
  unfold jacquardref30_Latest.f
  refine EvP.bind (walks_f hn hlen) (fun r hr => ?_)
  rcases hr with ⟨h1, h2, h3⟩ | ⟨h1, h2, h3⟩
  · simp only [h1, if_true]
    rw [h2.1]
    exact latest_ref_l0 h0.1 h0.2 h2 h3 (nod n0).toNat 0 [] (by omega) (by omega) rfl (fun v a b => by omega)
  · simp only [h1, Bool.false_eq_true, if_false]
    exact EvP.ret _ (fun _ => rfl) (Or.inr ⟨rfl, rfl, h3⟩)
end Go.Proofs.Ytflefelgdcblgaa.Diff
