/- Chapter 02: a round of the search for components. -/
import Derived.Test.YtebekmcoeacdeaaG02w
set_option linter.unusedVariables false
set_option linter.unusedSimpArgs false
namespace Go.Proofs.YtebekmcoeacdeaaV
open Go Go.Vm

theorem mn_l (a b : Int) : mn a b ≤ a := by unfold mn; split <;> omega
theorem mn_r (a b : Int) : mn a b ≤ b := by unfold mn; split <;> omega
theorem mn_or (a b : Int) : mn a b = a ∨ mn a b = b := by unfold mn; split <;> simp
theorem min_ev (xs : List Int) (h0 : 0 < xs.length) (hl : xs.length ≤ 1000000) : W (fun k => slices_Min_int_int.f k xs) (fun r => (∀ i : Nat, i < xs.length → r ≤ rd xs (i : Int)) ∧ ∃ i : Nat, i < xs.length ∧ r = rd xs (i : Int)) := by
  simp (disch := omega) only [slices_Min_int_int.f, ↓cdF]
  refine .succ ?_
  simp (disch := omega) only [slices_Min_int_int.c3, ↓if_pos]
  have loop : ∀ (d i : Nat) (v : Int), i + d = xs.length → (∀ j : Nat, j < i → v ≤ rd xs (j : Int)) → (∃ j : Nat, j < xs.length ∧ v = rd xs (j : Int)) → W (fun k => slices_Min_int_int.c5 k xs v (i : Int)) (fun r => (∀ i : Nat, i < xs.length → r ≤ rd xs (i : Int)) ∧ ∃ i : Nat, i < xs.length ∧ r = rd xs (i : Int)) := by
    intro d
    induction d with
    | zero =>
      intro i v hi h1 h2
      refine .succ ?_
      simp (disch := omega) only [slices_Min_int_int.c5, ↓cdF]
      exact .ret ⟨fun j hj => h1 j (by omega), h2⟩
    | succ d ih =>
      intro i v hi h1 h2
      refine .succ ?_
      simp (disch := omega) only [slices_Min_int_int.c5, ↓cdT, ↓if_pos, w64_id]
      refine ih (i + 1) _ (by omega) (fun j hj => ?_) ?_
      · by_cases e : j = i
        · subst e; exact mn_r _ _
        · have := h1 j (by omega); have := mn_l v (rd xs (i : Int)); omega
      · rcases mn_or v (rd xs (i : Int)) with e | e
        · rw [e]; exact h2
        · rw [e]; exact ⟨i, by omega, rfl⟩
  exact loop (xs.length - 1) 1 _ (by omega) (fun j hj => by rw [show j = 0 by omega]; exact Int.le_refl _) ⟨0, h0, rfl⟩

/-! ### components -/
def Same (g : Graph) (a b : Nat) : Prop := RT (ADJ g) a b ∧ RT (ADJ g) b a
theorem Same.refl {g : Graph} (a : Nat) : Same g a a := ⟨.refl _, .refl _⟩
theorem Same.symm {g : Graph} {a b : Nat} (h : Same g a b) : Same g b a := ⟨h.2, h.1⟩
theorem Same.trans {g : Graph} {a b c : Nat} (h : Same g a b) (k : Same g b c) : Same g a c := ⟨h.1.trans k.1, k.2.trans h.2⟩
theorem cmp_ex (g : Graph) (v : Nat) : ∃ w, Same g v w ∧ ∀ u, Same g v u → w ≤ u := by
  have key : ∀ n w : Nat, w ≤ n → Same g v w → ∃ w, Same g v w ∧ ∀ u, Same g v u → w ≤ u := by
    intro n
    induction n with
    | zero => intro w hw h; exact ⟨w, h, fun u _ => by omega⟩
    | succ n ih =>
      intro w hw h
      by_cases e : ∃ u, Same g v u ∧ u < w
      · obtain ⟨u, h1, h2⟩ := e
        exact ih u (by omega) h1
      · exact ⟨w, h, fun u hu => by
          rcases Nat.lt_or_ge u w with h2 | h2
          · exact absurd ⟨u, hu, h2⟩ e
          · exact h2⟩
  exact key v v (Nat.le_refl _) (.refl _)
/-- the least node of a component -/
noncomputable def cmp (g : Graph) (v : Nat) : Nat := Classical.choose (cmp_ex g v)
theorem cmp_same (g : Graph) (v : Nat) : Same g v (cmp g v) := (Classical.choose_spec (cmp_ex g v)).1
theorem cmp_le {g : Graph} {v u : Nat} (h : Same g v u) : cmp g v ≤ u := (Classical.choose_spec (cmp_ex g v)).2 u h
theorem cmp_eq {g : Graph} {v w : Nat} (h : Same g v w) : cmp g v = cmp g w := by
  have h1 := cmp_le (h.trans (cmp_same g w))
  have h2 := cmp_le (h.symm.trans (cmp_same g v))
  omega
theorem cmp_is {g : Graph} {v w : Nat} (h : Same g v w) (hl : ∀ u, Same g v u → w ≤ u) : cmp g v = w := by
  have h1 := cmp_le h
  have h2 := hl _ (cmp_same g v)
  omega
noncomputable def COMPS (g : Graph) : List Int := tb (gN g) fun v => (cmp g v : Int)

/-- nodes whose component has an element at this place or behind it -/
def PAST (g : Graph) (F : List Int) (j v : Nat) : Prop := ∃ i b : Nat, j ≤ i ∧ i < F.length ∧ rd F (i : Int) = (b : Int) ∧ Same g v b
noncomputable def NUM (g : Graph) (F : List Int) (j v : Nat) : Int := @ite _ (PAST g F j v) (Classical.propDecidable _) (cmp g v : Int) (-1)
theorem NUM_pos {g : Graph} {F : List Int} {j v : Nat} (h : PAST g F j v) : NUM g F j v = (cmp g v : Int) := by unfold NUM; rw [if_pos h]
theorem NUM_neg {g : Graph} {F : List Int} {j v : Nat} (h : ¬ PAST g F j v) : NUM g F j v = -1 := by unfold NUM; rw [if_neg h]
theorem NUM_iff {g : Graph} {F : List Int} {j v : Nat} : 0 ≤ NUM g F j v ↔ PAST g F j v := by
  by_cases h : PAST g F j v
  · rw [NUM_pos h]; exact ⟨fun _ => h, fun _ => by omega⟩
  · rw [NUM_neg h]; exact ⟨fun h => by omega, fun h' => absurd h' h⟩
theorem PAST_same {g : Graph} {F : List Int} {j v w : Nat} (h : Same g v w) (hw : PAST g F j w) : PAST g F j v := by
  obtain ⟨i, b, h1, h2, h3, h4⟩ := hw
  exact ⟨i, b, h1, h2, h3, h.trans h4⟩
theorem PAST_at {g : Graph} {F : List Int} {j r : Nat} (hj : j < F.length) (hr : rd F (j : Int) = (r : Int)) (v : Nat) : PAST g F j v ↔ Same g v r ∨ PAST g F (j + 1) v := by
  constructor
  · rintro ⟨i, b, h1, h2, h3, h4⟩
    by_cases e : i = j
    · subst e
      rw [show r = b by omega]
      exact .inl h4
    · exact .inr ⟨i, b, by omega, h2, h3, h4⟩
  · rintro (h | ⟨i, b, h1, h2, h3, h4⟩)
    · exact ⟨j, r, Nat.le_refl _, hj, hr, h⟩
    · exact ⟨i, b, by omega, h2, h3, h4⟩

/-- the list of those that reach the root -/
structure CL (g : Graph) (F : List Int) (j r : Nat) (l : List Int) : Prop where
  nd : l.Nodup
  mem : ∀ x ∈ l, ∃ v : Nat, x = (v : Int) ∧ v < gN g ∧ ¬ PAST g F (j + 1) v ∧ RT (ADJ g) v r
  st : (r : Int) ∈ l
theorem CL.len {g : Graph} {F : List Int} {j r : Nat} {l : List Int} (h : CL g F j r l) : l.length ≤ gN g := (pigeon (gN g) _ h.nd fun x hx => by
  obtain ⟨v, rfl, hv, _⟩ := h.mem x hx
  omega).1
/-- all links to the first i ones come from within, or from what is past -/
def CSH (g : Graph) (F : List Int) (j : Nat) (l : List Int) (i : Nat) : Prop := ∀ p : Nat, p < i → p < l.length → ∀ v w : Nat, rd l (p : Int) = (v : Int) → adj g w v = true → (w : Int) ∈ l ∨ PAST g F (j + 1) w
theorem CL.app {g : Graph} {F : List Int} {j r v w : Nat} {l : List Int} (h : CL g F j r l) (hv : (v : Int) ∈ l) (hw : adj g w v = true) (hp : ¬ PAST g F (j + 1) w) (hn : (w : Int) ∉ l) : CL g F j r (l ++ [(w : Int)]) := by
  refine ⟨?_, fun x hx => ?_, List.mem_append_left _ h.st⟩
  · rw [List.nodup_append]
    refine ⟨h.nd, by simp, fun a ha b hb e => ?_⟩
    simp at hb
    subst hb; subst e
    exact hn ha
  · rcases List.mem_append.1 hx with hx | hx
    · exact h.mem x hx
    · simp at hx
      obtain ⟨v', e, h1, h2, h3⟩ := h.mem _ hv
      rw [← show v = v' by omega] at h3
      exact ⟨w, hx, adj_l hw, hp, (RT.one hw).trans h3⟩
theorem CL.end {g : Graph} {F : List Int} {j r : Nat} {l : List Int} (hF : FINI g F) (h : CL g F j r l) (hs : CSH g F j l l.length) (hj : j < F.length) (hr : rd F (j : Int) = (r : Int)) (hp : ¬ PAST g F (j + 1) r) (v : Nat) : (v : Int) ∈ l ↔ Same g v r := by
  constructor
  · intro hv
    obtain ⟨v', e, hvn, hvp, h3⟩ := h.mem _ hv
    rw [← show v = v' by omega] at hvn hvp h3
    refine ⟨h3, kosaraju hF.nd hF.all (fun a b hab => adj_r hab) hF.t2 hj hr hvn h3 fun i hi hil b hb hsame => ?_⟩
    exact hvp ⟨i, b, by omega, hil, hb, hsame⟩
  · have key : ∀ a b, TC (ADJ g) a b → b = r → RT (ADJ g) r a → (a : Int) ∈ l := by
      intro a b hab
      induction hab with
      | @one a b h1 =>
        rintro rfl hra
        obtain ⟨p, hp1, e⟩ := mem_rd h.st
        rcases hs p hp1 hp1 _ _ e h1 with h2 | h2
        · exact h2
        · exact absurd (PAST_same ⟨hra, .one h1⟩ h2) hp
      | @step a b c h1 h2 ih =>
        rintro rfl hra
        obtain ⟨p, hp1, e⟩ := mem_rd (ih rfl (hra.trans (.one h1)))
        rcases hs p hp1 hp1 _ _ e h1 with h3 | h3
        · exact h3
        · exact absurd (PAST_same ⟨hra, .inr (.step h1 h2)⟩ h3) hp
    rintro ⟨h1, h2⟩
    rcases h1 with rfl | h1
    · exact h.st
    · exact key _ _ h1 rfl h2
end Go.Proofs.YtebekmcoeacdeaaV
