/- Chapter 38: spans on a line get the least free colors. -/
import Derived.Test.YtihkfliabchcmaaSrt38b
set_option linter.unusedVariables false
set_option linter.unusedSimpArgs false
namespace Go.Proofs.YtihkfliabchcmaaV
open Go Go.Vm

theorem indexFunc_ev (s : Span) (xs : List Int) (hl : xs.length ≤ 1000000) :
    W (fun k => slices_IndexFunc_int_int.f k xs s) (fun r => (r.1 = -1 ∧ ∀ i : Nat, i < xs.length → Span.Start s < rd xs (i : Int)) ∨ (∃ i : Nat, i < xs.length ∧ r.1 = (i : Int) ∧ rd xs (i : Int) ≤ Span.Start s)) := by
  simp only [slices_IndexFunc_int_int.f]
  have loop : ∀ (d i : Nat), i + d = xs.length → (∀ j : Nat, j < i → Span.Start s < rd xs (j : Int)) → W (fun k => slices_IndexFunc_int_int.c2 k xs (xs.length : Int) (i : Int) s) (fun r => (r.1 = -1 ∧ ∀ i : Nat, i < xs.length → Span.Start s < rd xs (i : Int)) ∨ (∃ i : Nat, i < xs.length ∧ r.1 = (i : Int) ∧ rd xs (i : Int) ≤ Span.Start s)) := by
    intro d
    induction d with
    | zero =>
      intro i hi hb
      refine .succ ?_
      simp (disch := omega) only [slices_IndexFunc_int_int.c2, ↓cdF]
      exact .ret (.inl ⟨rfl, fun j hj => hb j (by omega)⟩)
    | succ d ih =>
      intro i hi hb
      refine .succ ?_
      simp (disch := omega) only [slices_IndexFunc_int_int.c2, ↓cdT, ↓if_pos, color_paint_2.f, Option.bind_some, w64_id]
      refine .dec (fun h => .ret (.inr ⟨i, by omega, rfl, h⟩)) fun h => ?_
      refine ih (i + 1) (by omega) fun j hj => ?_
      by_cases e : j = i
      · subst e; omega
      · exact hb j (by omega)
  exact loop xs.length 0 (by omega) (fun j hj => absurd hj (Nat.not_lt_zero _))

def st (line : List Span) (x : Int) : Int := Span.Start (rd line x)
def en (line : List Span) (x : Int) : Int := Span.Start (rd line x) + Span.Len (rd line x)

/-- the colors behind the first p spans -/
structure PINV (line : List Span) (ord out0 : List Int) (first : Int) (M p : Nat) (out free : List Int) : Prop where
  len : out.length = out0.length
  a : ∀ q : Nat, q < p → first ≤ rd out (rd ord (q : Int)) ∧ rd out (rd ord (q : Int)) < first + free.length
  b : ∀ q k : Nat, q < p → k < free.length → rd out (rd ord (q : Int)) = first + k → en line (rd ord (q : Int)) ≤ rd free (k : Int)
  c : ∀ q q' : Nat, q < q' → q' < p → rd out (rd ord (q : Int)) = rd out (rd ord (q' : Int)) → en line (rd ord (q : Int)) ≤ st line (rd ord (q' : Int))
  d : ∀ k : Nat, k < free.length → ∃ q : Nat, q < p ∧ rd out (rd ord (q : Int)) = first + k ∧ en line (rd ord (q : Int)) = rd free (k : Int)
  e : ∀ x : Nat, (∀ q : Nat, q < p → rd ord (q : Int) ≠ (x : Int)) → rd out (x : Int) = rd out0 (x : Int)
  f : free.length ≤ M

/-- no more than M spans of the line contain the start of one of them -/
def ATMOST (line : List Span) (ord : List Int) (M : Nat) : Prop := ∀ x ∈ ord, ∀ (K : Nat) (g : Nat → Int), (∀ j, j < K → g j ∈ ord ∧ st line (g j) ≤ st line x ∧ st line x < en line (g j)) → (∀ i j, i < K → j < K → g i = g j → i = j) → K ≤ M

/-- what painting answers -/
structure PAINTED (line : List Span) (ord out0 : List Int) (first : Int) (M : Nat) (out : List Int) : Prop where
  len : out.length = out0.length
  old : ∀ x : Nat, (x : Int) ∉ ord → rd out (x : Int) = rd out0 (x : Int)
  rng : ∀ x ∈ ord, first ≤ rd out x ∧ rd out x < first + M
  apart : ∀ x ∈ ord, ∀ y ∈ ord, x ≠ y → rd out x = rd out y → en line x ≤ st line y ∨ en line y ≤ st line x

theorem rd_inj {xs : List Int} (h : xs.Nodup) {p q : Nat} (hp : p < xs.length) (hq : q < xs.length) (e : rd xs (p : Int) = rd xs (q : Int)) : p = q := by
  rw [rd_eq hp, rd_eq hq] at e
  exact (List.getElem_inj h).1 e

theorem paint_ev (line : List Span) (first : Int) (M : Nat) (ord0 out0 : List Int) (hb : BD line ord0) (hlen : line.length = out0.length) (hl : out0.length ≤ 30) (hol : ord0.length ≤ 30) (hn : ord0.Nodup) (hf : 0 ≤ first ∧ first ≤ 1000)
    (hs : ∀ x ∈ ord0, -1073741824 ≤ st line x ∧ st line x ≤ 1073741824 ∧ 0 < Span.Len (rd line x) ∧ Span.Len (rd line x) ≤ 1048576) (hM : ATMOST line ord0 M) :
    W (fun k => color_paint_i2.f k line first ord0 out0) (fun r => PAINTED line ord0 out0 first M r.2.2.1) := by
  simp only [color_paint_i2.f]
  refine W.bind (stable_ev (line := line) ord0 hb hol) fun r hr => ?_
  obtain ⟨rp, so⟩ := hr
  generalize r.2.1 = ord at rp so ⊢
  have hbo : BD line ord := hb.rp rp
  have hno : ord.Nodup := rp.perm.nodup_iff.2 hn
  have hmem : ∀ x, x ∈ ord ↔ x ∈ ord0 := fun x => rp.perm.mem_iff
  have hl2 : ord.length = ord0.length := rp.len
  have hso : ∀ p q : Nat, p < q → q < ord.length → st line (rd ord (p : Int)) ≤ st line (rd ord (q : Int)) := fun p q h1 h2 => by
    have := so p q (Nat.zero_le _) h1 (by omega)
    unfold LESS at this
    unfold st
    omega
  have loop : ∀ (d p : Nat), p + d = ord.length → ∀ out free : List Int, PINV line ord out0 first M p out free → W (fun k => color_paint_i2.c4 k first (ord.length : Int) (p : Int) ord out line free) (fun r => PAINTED line ord0 out0 first M r.2.2.1) := by
    intro d
    induction d with
    | zero =>
      intro p hp out free I
      refine .succ ?_
      simp (disch := omega) only [color_paint_i2.c4, ↓cdF]
      have get : ∀ x ∈ ord0, ∃ q : Nat, q < p ∧ rd ord (q : Int) = x := fun x hx => by
        obtain ⟨q, hq, e⟩ := mem_rd ((hmem x).2 hx)
        exact ⟨q, by omega, e⟩
      refine .ret ⟨I.len, fun x hx => I.e x fun q hq e => hx ((hmem _).1 (by rw [← e]; exact rd_mem (by omega) (by omega))), fun x hx => ?_, fun x hx y hy hxy he => ?_⟩
      · obtain ⟨q, hq, rfl⟩ := get x hx
        have := I.a q hq
        have := I.f
        exact ⟨by show first ≤ rd out _; omega, by show rd out _ < _; omega⟩
      · obtain ⟨q, hq, rfl⟩ := get x hx
        obtain ⟨q', hq', rfl⟩ := get y hy
        rcases Nat.lt_trichotomy q q' with h | h | h
        · exact .inl (I.c q q' h hq' he)
        · subst h; exact absurd rfl hxy
        · exact .inr (I.c q' q h hq he.symm)
    | succ d ih =>
      intro p hp out free I
      have hx := hbo.rd (i := p) (by omega)
      have hxm : rd ord (p : Int) ∈ ord := rd_mem (by omega) (by omega)
      have hxs := hs _ ((hmem _).1 hxm)
      have hfl := I.f
      have hM30 : free.length ≤ ord.length := by
        -- each color has a span
        have : ∀ k : Nat, ∃ q : Nat, k < free.length → (q < p ∧ rd out (rd ord (q : Int)) = first + k) := fun k => by
          by_cases h : k < free.length
          · obtain ⟨q, h1, h2, _⟩ := I.d k h; exact ⟨q, fun _ => ⟨h1, h2⟩⟩
          · exact ⟨0, fun q => absurd q h⟩
        let g : Nat → Nat := fun k => Classical.choose (this k)
        have hg : ∀ k, k < free.length → g k < p ∧ rd out (rd ord (g k : Int)) = first + k := fun k h => Classical.choose_spec (this k) h
        -- an injection into the first p
        have inj : ∀ (m K : Nat) (g : Nat → Nat), (∀ j, j < K → g j < m) → (∀ i j, i < K → j < K → g i = g j → i = j) → K ≤ m := by
          intro m
          induction m with
          | zero => intro K g h _; rcases Nat.eq_zero_or_pos K with e | e; omega; exact absurd (h 0 e) (Nat.not_lt_zero _)
          | succ m ihm =>
            intro K g h hi
            rcases Nat.eq_zero_or_pos K with e | e
            · omega
            have := ihm (K - 1) (fun j => if g j = m then g (K - 1) else g j) (fun j hj => by
              have h1 := h j (by omega)
              have h2 := h (K - 1) (by omega)
              show (if g j = m then g (K - 1) else g j) < m
              by_cases c : g j = m
              · rw [if_pos c]
                have : g (K - 1) ≠ m := fun c' => by have := hi j (K - 1) (by omega) (by omega) (by omega); omega
                omega
              · rw [if_neg c]; omega) (fun i j hi1 hj1 => by
              show (if g i = m then g (K - 1) else g i) = (if g j = m then g (K - 1) else g j) → i = j
              by_cases c1 : g i = m <;> by_cases c2 : g j = m
              · intro _; exact hi i j (by omega) (by omega) (by omega)
              · rw [if_pos c1, if_neg c2]; intro q; have := hi (K - 1) j (by omega) (by omega) q; omega
              · rw [if_neg c1, if_pos c2]; intro q; have := hi i (K - 1) (by omega) (by omega) q; omega
              · rw [if_neg c1, if_neg c2]; exact hi i j (by omega) (by omega))
            omega
        have := inj p free.length g (fun j hj => (hg j hj).1) (fun i j h1 h2 e => by
          have e1 := (hg i h1).2
          have e2 := (hg j h2).2
          rw [e] at e1
          omega)
        omega
      obtain ⟨x, hx'⟩ : ∃ x : Nat, rd ord (p : Int) = (x : Int) := ⟨(rd ord (p : Int)).toNat, by omega⟩
      have hxl : x < out.length := by have := I.len; omega
      -- one step, whichever color
      have step : ∀ (k : Nat) (fr2 : List Int), k < fr2.length → fr2.length ≤ M → fr2.length ≤ 1000 → (∀ j : Nat, j < fr2.length → j ≠ k → j < free.length ∧ rd fr2 (j : Int) = rd free (j : Int)) → free.length ≤ fr2.length →
          (k < free.length → rd free (k : Int) ≤ st line (x : Int)) →
          W (fun k' => color_paint_i2.c11 k' first (x : Int) (k : Int) (ord.length : Int) (p : Int) ord out line fr2 (rd line (x : Int))) (fun r => PAINTED line ord0 out0 first M r.2.2.1) := by
        intro k fr2 hk hkM hk1 hsame hle hfit
        have hIl := I.len
        rw [hx'] at hxs
        refine .succ ?_
        simp (disch := omega) only [color_paint_i2.c11, ↓if_pos, Int.toNat_natCast]
        unfold st at hxs
        rw [w64_id (by omega) (by omega), w64_id (by omega) (by omega), w64_id (by omega) (by omega)]
        have hother : ∀ q : Nat, q < p → rd (List.set out x (first + (k : Int))) (rd ord (q : Int)) = rd out (rd ord (q : Int)) := fun q hq => by
          have hb1 := hbo.rd (i := q) (by omega)
          obtain ⟨y, hy⟩ : ∃ y : Nat, rd ord (q : Int) = (y : Int) := ⟨(rd ord (q : Int)).toNat, by omega⟩
          have hne : x ≠ y := fun e => by
            have := rd_inj hno (p := p) (q := q) (by omega) (by omega) (by rw [hx', hy, e])
            omega
          rw [hy, rd_set_ne hne]
        have hself : rd (List.set out x (first + (k : Int))) (rd ord (p : Int)) = first + k := by rw [hx', rd_set_eq hxl]
        have henx : en line (x : Int) = Span.Start (rd line (x : Int)) + Span.Len (rd line (x : Int)) := rfl
        refine ih (p + 1) (by omega) (List.set out x (first + (k : Int))) (List.set fr2 k (Span.Start (rd line (x : Int)) + Span.Len (rd line (x : Int)))) ⟨by simpa using I.len, ?_, ?_, ?_, ?_, ?_, by simpa using hkM⟩
        · intro q hq
          rw [List.length_set]
          by_cases e : q = p
          · rw [e, hself]; exact ⟨by omega, by omega⟩
          · rw [hother q (by omega)]
            have := I.a q (by omega)
            exact ⟨by omega, by omega⟩
        · intro q j hq hj he
          rw [List.length_set] at hj
          rw [rd_set hk]
          by_cases e : q = p
          · rw [e, hself] at he
            rw [e, hx', if_pos (by omega)]; exact Int.le_refl _
          · rw [hother q (by omega)] at he
            have ha := I.a q (by omega)
            by_cases ej : k = j
            · subst ej
              rw [if_pos rfl]
              have h1 : k < free.length := by omega
              have := I.b q k (by omega) h1 he
              have := hfit h1
              unfold st at this
              omega
            · rw [if_neg ej, (hsame j hj (Ne.symm ej)).2]
              exact I.b q j (by omega) (hsame j hj (Ne.symm ej)).1 he
        · intro q q' hqq hq' he
          by_cases e : q' = p
          · rw [e, hself, hother q (by omega)] at he
            rw [e, hx']
            have ha := I.a q (by omega)
            have h1 : k < free.length := by omega
            have := I.b q k (by omega) h1 he
            have := hfit h1
            omega
          · rw [hother q (by omega), hother q' (by omega)] at he
            exact I.c q q' hqq (by omega) he
        · intro j hj
          rw [List.length_set] at hj
          rw [rd_set hk]
          by_cases ej : k = j
          · subst ej
            exact ⟨p, by omega, hself, by rw [if_pos rfl, hx']; rfl⟩
          · obtain ⟨q, q1, q2, q3⟩ := I.d j (hsame j hj (Ne.symm ej)).1
            exact ⟨q, by omega, by rw [hother q q1]; exact q2, by rw [if_neg ej, (hsame j hj (Ne.symm ej)).2]; exact q3⟩
        · intro y hy
          have hne : x ≠ y := fun e => hy p (by omega) (by rw [hx', e])
          rw [rd_set_ne hne]
          exact I.e y fun q hq => hy q (by omega)
      refine .succ ?_
      simp (disch := omega) only [color_paint_i2.c4, ↓cdT, ↓if_pos, hx']
      refine W.bind (indexFunc_ev (rd line (x : Int)) free (by omega)) fun r hr => ?_
      rcases hr with ⟨h1, h2⟩ | ⟨k, h1, h2, h3⟩
      · simp (disch := first | omega | (simp only [List.length_singleton]; omega)) only [↓cdT, ↓bleT]
        have hnew : free.length + 1 ≤ M := by
          have : ∀ k : Nat, ∃ q : Nat, k < free.length → (q < p ∧ rd out (rd ord (q : Int)) = first + k ∧ en line (rd ord (q : Int)) = rd free (k : Int)) := fun k => by
            by_cases h : k < free.length
            · obtain ⟨q, h⟩ := I.d k h; exact ⟨q, fun _ => h⟩
            · exact ⟨0, fun q => absurd q h⟩
          let g : Nat → Nat := fun k => Classical.choose (this k)
          have hg : ∀ k, k < free.length → g k < p ∧ rd out (rd ord (g k : Int)) = first + k ∧ en line (rd ord (g k : Int)) = rd free (k : Int) := fun k h => Classical.choose_spec (this k) h
          refine hM (x : Int) (by rw [← hx']; exact (hmem _).1 hxm) (free.length + 1) (fun k => if k < free.length then rd ord (g k : Int) else (x : Int)) (fun j hj => ?_) (fun i j hi hj => ?_)
          · by_cases c : j < free.length
            · simp only [c, if_true]
              obtain ⟨g1, g2, g3⟩ := hg j c
              refine ⟨(hmem _).1 (rd_mem (by omega) (by omega)), ?_, ?_⟩
              · rw [← hx']; exact hso (g j) p g1 (by omega)
              · rw [g3]; exact h2 j c
            · simp only [c, if_false]
              rw [hx'] at hxs
              refine ⟨by rw [← hx']; exact (hmem _).1 hxm, Int.le_refl _, ?_⟩
              unfold st en; omega
          · by_cases c1 : i < free.length <;> by_cases c2 : j < free.length
            · simp only [c1, c2, if_true]
              intro e
              have e1 := (hg i c1).2.1
              have e2 := (hg j c2).2.1
              rw [e] at e1
              omega
            · simp only [c1, c2, if_true, if_false]
              intro e
              have := rd_inj hno (p := g i) (q := p) (by have := (hg i c1).1; omega) (by omega) (by rw [e, hx'])
              have := (hg i c1).1
              omega
            · simp only [c1, c2, if_true, if_false]
              intro e
              have := rd_inj hno (p := g j) (q := p) (by have := (hg j c2).1; omega) (by omega) (by rw [← e, hx'])
              have := (hg j c2).1
              omega
            · intro _; omega
        refine step free.length (free ++ [0]) (by simp) (by simpa using hnew) (by simp; omega) (fun j hj hne => ?_) (by simp) (fun q => absurd q (Nat.lt_irrefl _))
        simp only [List.length_append, List.length_singleton] at hj
        exact ⟨by omega, rd_app_l (by omega)⟩
      · simp (disch := omega) only [h2, ↓cdF]
        exact step k free h1 hfl (by omega) (fun j hj _ => ⟨hj, rfl⟩) (Nat.le_refl _) (fun _ => h3)
  exact loop ord.length 0 (by omega) out0 [] ⟨rfl, fun q hq => absurd hq (Nat.not_lt_zero _), fun q k hq => absurd hq (Nat.not_lt_zero _), fun q q' _ hq => absurd hq (Nat.not_lt_zero _), fun k hk => absurd hk (Nat.not_lt_zero _), fun _ _ => rfl, Nat.zero_le _⟩
end Go.Proofs.YtihkfliabchcmaaV
