/- Chapter 02: what can be reached: the reference's closure, the program's search; the law GraphReach. -/
import Derived.Test.YtebekmcoeacdeaaG02e
set_option linter.unusedVariables false
set_option linter.unusedSimpArgs false
namespace Go.Vm
open Go
/-- a truth as a Bool -/
noncomputable def dec (p : Prop) : Bool := @decide p (Classical.propDecidable p)
theorem dec_iff {p : Prop} : dec p = true ↔ p := by unfold dec; exact @decide_eq_true_iff p (Classical.propDecidable p)
theorem dec_false {p : Prop} : dec p = false ↔ ¬ p := by
  constructor
  · intro h hp
    rw [dec_iff.2 hp] at h
    cases h
  · intro h
    cases e : dec p
    · rfl
    · exact absurd (dec_iff.1 e) h
theorem dec_congr {p q : Prop} (h : p ↔ q) : dec p = dec q := by rw [propext h]
theorem dec_true {p : Prop} (h : p) : dec p = true := dec_iff.2 h
theorem dec_bool {b : Bool} {p : Prop} (h : b = true ↔ p) : b = dec p := by
  cases b
  · exact (dec_false.2 fun hp => by cases h.2 hp).symm
  · exact (dec_iff.2 (h.1 rfl)).symm

/-- one step or more -/
inductive TC (r : Nat → Nat → Prop) : Nat → Nat → Prop where
  | one {a b : Nat} : r a b → TC r a b
  | step {a b c : Nat} : r a b → TC r b c → TC r a c
theorem TC.trans {r : Nat → Nat → Prop} {a b c : Nat} (h : TC r a b) (h' : TC r b c) : TC r a c := by
  induction h with
  | one h => exact .step h h'
  | step h _ ih => exact .step h (ih h')
theorem TC.snoc {r : Nat → Nat → Prop} {a b c : Nat} (h : TC r a b) (h' : r b c) : TC r a c := h.trans (.one h')
theorem TC.last {r : Nat → Nat → Prop} {a c : Nat} (h : TC r a c) : ∃ b, r b c ∧ (b = a ∨ TC r a b) := by
  induction h with
  | one h => exact ⟨_, h, .inl rfl⟩
  | step h _ ih =>
    obtain ⟨b, h1, h2⟩ := ih
    refine ⟨b, h1, .inr ?_⟩
    rcases h2 with rfl | h2
    · exact .one h
    · exact .step h h2
/-- .. with all nodes in between below k -/
inductive PK (r : Nat → Nat → Prop) (k : Nat) : Nat → Nat → Prop where
  | one {a b : Nat} : r a b → PK r k a b
  | join {a b c : Nat} : PK r k a b → b < k → PK r k b c → PK r k a c
theorem PK_zero {r : Nat → Nat → Prop} {a b : Nat} : PK r 0 a b ↔ r a b :=
  ⟨fun h => by cases h with
    | one h => exact h
    | join _ h _ => omega, .one⟩
theorem PK_mono {r : Nat → Nat → Prop} {k l : Nat} (hkl : k ≤ l) {a b : Nat} (h : PK r k a b) : PK r l a b := by
  induction h with
  | one h => exact .one h
  | join _ h _ ih1 ih2 => exact .join ih1 (by omega) ih2
theorem PK_succ {r : Nat → Nat → Prop} {k a b : Nat} : PK r (k + 1) a b ↔ PK r k a b ∨ (PK r k a k ∧ PK r k k b) := by
  constructor
  · intro h
    induction h with
    | one h => exact .inl (.one h)
    | @join a c b _ hc _ ih1 ih2 =>
      by_cases e : c = k
      · subst e
        refine .inr ⟨?_, ?_⟩
        · rcases ih1 with h | h
          · exact h
          · exact h.1
        · rcases ih2 with h | h
          · exact h
          · exact h.2
      · have hck : c < k := by omega
        rcases ih1 with h1 | ⟨h1, h2⟩
        · rcases ih2 with h3 | ⟨h3, h4⟩
          · exact .inl (.join h1 hck h3)
          · exact .inr ⟨.join h1 hck h3, h4⟩
        · rcases ih2 with h3 | ⟨h3, h4⟩
          · exact .inr ⟨h1, .join h2 hck h3⟩
          · exact .inr ⟨h1, h4⟩
  · rintro (h | ⟨h1, h2⟩)
    · exact PK_mono (by omega) h
    · exact .join (PK_mono (by omega) h1) (by omega) (PK_mono (by omega) h2)
theorem PK_col {r : Nat → Nat → Prop} {k a : Nat} : PK r (k + 1) a k ↔ PK r k a k := by
  rw [PK_succ]
  exact ⟨fun h => h.elim id fun h => h.1, .inl⟩
theorem PK_row {r : Nat → Nat → Prop} {k b : Nat} : PK r (k + 1) k b ↔ PK r k k b := by
  rw [PK_succ]
  exact ⟨fun h => h.elim id fun h => h.2, .inl⟩
theorem PK_TC {r : Nat → Nat → Prop} {n a b : Nat} (hr : ∀ a b, r a b → b < n) : PK r n a b ↔ TC r a b := by
  constructor
  · intro h
    induction h with
    | one h => exact .one h
    | join _ _ _ ih1 ih2 => exact ih1.trans ih2
  · intro h
    induction h with
    | one h => exact .one h
    | step h _ ih => exact .join (.one h) (hr _ _ h) ih
end Go.Vm
namespace Go.Proofs.YtebekmcoeacdeaaV
open Go Go.Vm

/-- a link that does not touch a node -/
def adjW (g : Graph) (wo : Int) (a b : Nat) : Prop := adj g a b = true ∧ (a : Int) ≠ wo ∧ (b : Int) ≠ wo
noncomputable def CLO (g : Graph) (wo : Int) : List (List Bool) := tb (gN g) fun a => tb (gN g) fun b => dec (TC (adjW g wo) a b)

/-- in the round of i: the rows before p are done, of row p the part before q -/
def WK (r : Nat → Nat → Prop) (i p q a b : Nat) : Prop := if a < p ∨ a = p ∧ b < q then PK r (i + 1) a b else PK r i a b
theorem WK_at {r : Nat → Nat → Prop} {i p q a b : Nat} : WK r i p q a b ↔ if a < p ∨ a = p ∧ b < q then PK r (i + 1) a b else PK r i a b := Iff.rfl
theorem WK_col {r : Nat → Nat → Prop} {i p q : Nat} : WK r i p q p i ↔ PK r i p i := by rw [WK_at]; split <;> simp [PK_col]
theorem WK_row {r : Nat → Nat → Prop} {i p q : Nat} : WK r i p q i q ↔ PK r i i q := by rw [WK_at]; split <;> simp [PK_row]
theorem WK_other {r : Nat → Nat → Prop} {i p q a b : Nat} (h : ¬ (a = p ∧ b = q)) : WK r i p (q + 1) a b ↔ WK r i p q a b := by
  rw [WK_at, WK_at]
  have : (a < p ∨ a = p ∧ b < q + 1) ↔ (a < p ∨ a = p ∧ b < q) := by omega
  simp only [this]
theorem WK_new {r : Nat → Nat → Prop} {i p q : Nat} : WK r i p (q + 1) p q ↔ PK r (i + 1) p q := by rw [WK_at, if_pos (by omega)]
theorem WK_old {r : Nat → Nat → Prop} {i p q : Nat} : WK r i p q p q ↔ PK r i p q := by rw [WK_at, if_neg (by omega)]
/-- the copy of row i, of which the part before q is told -/
noncomputable def CP (g : Graph) (wo : Int) (i q a b : Nat) : Bool := if a = i ∧ ¬ b < q then adj g a b else dec (adjW g wo a b)

theorem Closure_ref (g : Graph) (wo : Int) : Ev (fun k => jacquardref02_Closure.f k (MAT g) wo) (CLO g wo) := by
  have hn := gN_le g
  simp only [jacquardref02_Closure.f, MAT_len]
  -- the copy
  refine Ev.up (c := fun k i => jacquardref02_Closure.c3 k (MAT g) wo (gN g : Int) (i : Int) (tb i fun a => tb (gN g) fun b => dec (adjW g wo a b))) (n := gN g) ?_ ?_ 0 (Nat.zero_le _)
  · refine .succ ?_
    simp (disch := omega) only [jacquardref02_Closure.c3, ↓cdF, tb_len]
    -- Warshall
    have e0 : (tb (gN g) fun a => tb (gN g) fun b => dec (adjW g wo a b)) = tb (gN g) fun a => tb (gN g) fun b => dec (PK (adjW g wo) 0 a b) := tb_congr fun c hc => tb_congr fun d hd => dec_congr PK_zero.symm
    rw [e0]
    refine Ev.up (c := fun k i => jacquardref02_Closure.c14 k (gN g : Int) (i : Int) (tb (gN g) fun a => tb (gN g) fun b => dec (PK (adjW g wo) i a b))) (n := gN g) ?_ ?_ 0 (Nat.zero_le _)
    · refine .succ ?_
      simp (disch := omega) only [jacquardref02_Closure.c14, ↓cdF]
      refine (Ev.ret _).congr fun k => ?_
      congr 1
      exact tb_congr fun c hc => tb_congr fun d hd => dec_congr (PK_TC fun a b h => adj_r h.1)
    · intro i hi hnext
      refine .succ ?_
      simp only [natC] at hnext
      simp (disch := omega) only [jacquardref02_Closure.c14, ↓cdT, tb_len]
      have e1 : (tb (gN g) fun a => tb (gN g) fun b => dec (PK (adjW g wo) i a b)) = tb (gN g) fun a => tb (gN g) fun b => dec (WK (adjW g wo) i 0 0 a b) := tb_congr fun c hc => tb_congr fun d hd => dec_congr (by rw [WK_at, if_neg (by omega)])
      rw [e1]
      refine Ev.up (c := fun k p => jacquardref02_Closure.c17 k (i : Int) (gN g : Int) (i : Int) (gN g : Int) (p : Int) (tb (gN g) fun a => tb (gN g) fun b => dec (WK (adjW g wo) i p 0 a b))) (n := gN g) ?_ ?_ 0 (Nat.zero_le _)
      · refine .succ ?_
        simp (disch := omega) only [jacquardref02_Closure.c17, ↓cdF, w64_id]
        refine hnext.congr fun k => ?_
        congr 1
        exact tb_congr fun c hc => tb_congr fun d hd => dec_congr (by rw [WK_at, if_pos (by omega)])
      · intro p hp h2
        refine .succ ?_
        simp only [natC] at h2
        simp (disch := omega) only [jacquardref02_Closure.c17, ↓cdT, tb_len]
        refine Ev.up (c := fun k q => jacquardref02_Closure.c20 k (i : Int) (p : Int) (gN g : Int) (i : Int) (gN g : Int) (p : Int) (gN g : Int) (q : Int) (tb (gN g) fun a => tb (gN g) fun b => dec (WK (adjW g wo) i p q a b))) (n := gN g) ?_ ?_ 0 (Nat.zero_le _)
        · refine .succ ?_
          simp (disch := omega) only [jacquardref02_Closure.c20, ↓cdF, w64_id]
          refine h2.congr fun k => ?_
          congr 1
          exact tb_congr fun c hc => tb_congr fun d hd => by
            refine dec_congr ?_
            rw [WK_at, WK_at]
            have : (c < p ∨ c = p ∧ d < gN g) ↔ (c < p + 1 ∨ c = p + 1 ∧ d < 0) := by omega
            simp only [this]
        · intro q hq h3
          refine .succ ?_
          simp only [natC] at h3
          simp (disch := first | omega | (simp only [tb_len]; omega)) only [jacquardref02_Closure.c20, ↓cdT, ↓if_pos, tb_len, tb_rd hp, tb_rd hi, tb_rd hq, w64_id, Int.toNat_natCast, tb_set, dec_congr WK_col, dec_congr WK_row]
          have keep : ¬ (PK (adjW g wo) i p i ∧ PK (adjW g wo) i i q) → (tb (gN g) fun a => tb (gN g) fun b => dec (WK (adjW g wo) i p q a b)) = tb (gN g) fun a => tb (gN g) fun b => dec (WK (adjW g wo) i p (q + 1) a b) := fun h => tb_congr fun c hc => tb_congr fun d hd => dec_congr (by
            by_cases e : c = p ∧ d = q
            · obtain ⟨rfl, rfl⟩ := e
              rw [WK_old, WK_new, PK_succ]
              exact ⟨.inl, fun h2 => h2.resolve_right h⟩
            · rw [WK_other e])
          refine .cond (fun h4 => ?_) fun h4 => ?_
          · refine .cond (fun h5 => ?_) fun h5 => ?_
            · refine h3.congr fun k => ?_
              congr 1
              exact tb_congr fun c hc => by
                by_cases e : c = p
                · subst e
                  rw [if_pos rfl]
                  exact tb_congr fun d hd => by
                    by_cases e2 : d = q
                    · subst e2
                      rw [if_pos rfl]
                      exact (dec_true (WK_new.2 (PK_succ.2 (.inr ⟨dec_iff.1 h4, dec_iff.1 h5⟩)))).symm
                    · rw [if_neg e2]
                      exact dec_congr (WK_other fun h => e2 h.2).symm
                · rw [if_neg e]
                  exact tb_congr fun d hd => dec_congr (WK_other fun h => e h.1).symm
            · rw [keep (fun h => dec_false.1 h5 h.2)]
              exact h3
          · rw [keep (fun h => dec_false.1 h4 h.1)]
            exact h3
  · intro i hi hnext
    refine .succ ?_
    simp only [natC] at hnext
    have hrow : rd (MAT g) (i : Int) = tb (gN g) (adj g i) := by unfold MAT; rw [tb_rd hi]
    simp (disch := first | omega | (rw [MAT_len]; omega) | (simp only [List.length_cons, List.length_nil, tb_len]; omega)) only [jacquardref02_Closure.c3, ↓cdT, ↓if_pos, ↓bleT, hrow, List.nil_append, MAT_len]
    have e0 : (tb i fun a => tb (gN g) fun b => dec (adjW g wo a b)) ++ [tb (gN g) (adj g i)] = tb (i + 1) fun a => tb (gN g) (CP g wo i 0 a) := by
      rw [← tb_app]
      congr 1
      · exact tb_congr fun c hc => tb_congr fun d hd => by unfold CP; rw [if_neg (by omega)]
      · congr 1
        exact tb_congr fun d hd => by unfold CP; rw [if_pos (by omega)]
    rw [e0]
    refine Ev.up (c := fun k q => jacquardref02_Closure.c7 k (MAT g) wo (i : Int) (gN g : Int) (i : Int) (gN g : Int) (q : Int) (tb (i + 1) fun a => tb (gN g) (CP g wo i q a))) (n := gN g) ?_ ?_ 0 (Nat.zero_le _)
    · refine .succ ?_
      simp (disch := omega) only [jacquardref02_Closure.c7, ↓cdF, w64_id]
      refine hnext.congr fun k => ?_
      congr 1
      exact tb_congr fun c hc => tb_congr fun d hd => by unfold CP; rw [if_neg (by omega)]
    · intro q hq h2
      refine .succ ?_
      simp only [natC] at h2
      have hii : i < i + 1 := by omega
      have other : ∀ c d, ¬ (c = i ∧ d = q) → CP g wo i (q + 1) c d = CP g wo i q c d := fun c d h => by
        unfold CP
        have : (c = i ∧ ¬ d < q + 1) ↔ (c = i ∧ ¬ d < q) := by omega
        simp only [this]
      have new : CP g wo i (q + 1) i q = dec (adjW g wo i q) := by unfold CP; rw [if_neg (by omega)]
      have old : CP g wo i q i q = adj g i q := by unfold CP; rw [if_pos (by omega)]
      simp (disch := first | omega | (simp only [tb_len]; omega)) only [jacquardref02_Closure.c7, ↓cdT, ↓if_pos, tb_rd hii, w64_id, Int.toNat_natCast, tb_set]
      have wr : (i : Int) = wo ∨ (q : Int) = wo → Ev (fun k => jacquardref02_Closure.c7 k (MAT g) wo (i : Int) (gN g : Int) (i : Int) (gN g : Int) ((q : Int) + 1) (tb (i + 1) fun a => if a = i then tb (gN g) (fun b => if b = q then false else CP g wo i q i b) else tb (gN g) (CP g wo i q a))) (CLO g wo) := fun h => by
        refine h2.congr fun k => ?_
        congr 1
        refine tb_congr fun c hc => ?_
        by_cases e : c = i
        · subst e
          rw [if_pos rfl]
          refine tb_congr fun d hd => ?_
          by_cases e2 : d = q
          · subst e2
            rw [if_pos rfl, new]
            exact (dec_false.2 fun h3 => h.elim (fun h => h3.2.1 h) (fun h => h3.2.2 h)).symm
          · rw [if_neg e2]
            exact (other _ _ fun h => e2 h.2).symm
        · rw [if_neg e]
          exact tb_congr fun d hd => (other _ _ fun h => e h.1).symm
      refine .dec (fun h3 => wr (.inl h3)) fun h3 => .dec (fun h4 => wr (.inr h4)) fun h4 => ?_
      refine h2.congr fun k => ?_
      congr 1
      refine tb_congr fun c hc => tb_congr fun d hd => ?_
      by_cases e : c = i ∧ d = q
      · obtain ⟨rfl, rfl⟩ := e
        rw [new, old]
        exact dec_bool ⟨fun h => ⟨h, h3, h4⟩, fun h => h.1⟩
      · exact (other _ _ e).symm
end Go.Proofs.YtebekmcoeacdeaaV
