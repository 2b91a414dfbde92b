/- Chapter 38: the stable sort. -/
import Derived.Test.YtihkfliabchcmaaSrt
import Derived.Test.YtihkfliabchcmaaL38e
set_option linter.unusedVariables false
set_option linter.unusedSimpArgs false
namespace Go.Proofs.YtihkfliabchcmaaV
open Go Go.Vm

/-- the order of the spans on a line -/
def LESS (line : List Span) (x y : Int) : Prop := Span.Start (rd line x) < Span.Start (rd line y) ∨ (Span.Start (rd line x) = Span.Start (rd line y) ∧ x < y)
theorem LESS_ord (line : List Span) : ORD (LESS line) := by
  constructor
  · intro x y; unfold LESS; omega
  · intro x y z; unfold LESS; omega
def BD (line : List Span) (xs : List Int) : Prop := ∀ x ∈ xs, 0 ≤ x ∧ x < (line.length : Int)
theorem BD.rd {line : List Span} {xs : List Int} (h : BD line xs) {i : Nat} (hi : i < xs.length) : 0 ≤ rd xs (i : Int) ∧ rd xs (i : Int) < (line.length : Int) := h _ (rd_mem (by omega) (by omega))
theorem BD.rp {line : List Span} {xs ys : List Int} {a b : Nat} (h : BD line xs) (r : RP xs ys a b) : BD line ys := fun x hx => h x (r.perm.mem_iff.1 hx)

theorem compare_eq (a b : Int) : cmp_Compare_int.f a b = some (if a < b then -1 else if b < a then 1 else 0) := by
  unfold cmp_Compare_int.f cmp_isNaN_int.f
  simp only [decide_true, Bool.not_true, Option.bind_some, cond_false]
  by_cases h : a < b
  · simp [h]
  · by_cases h2 : b < a <;> simp [h, h2]
theorem or2 (a b : Int) : Ev (fun k => cmp_Or_int.f k [a, b]) (if a = 0 then b else a) := by
  simp only [cmp_Or_int.f]
  refine .succ ?_
  simp only [cmp_Or_int.c3]
  simp (disch := first | omega | simp) only [↓cdT, ↓if_pos]
  by_cases h : a = 0
  · subst h
    rw [if_pos rfl]
    simp only [show rd [(0 : Int), b] 0 = 0 from rfl, decide_true, Bool.not_true, cond_false]
    refine .succ ?_
    simp only [cmp_Or_int.c3]
    rw [w64_id (by omega) (by omega)]
    simp (disch := first | omega | simp) only [↓cdT, ↓if_pos]
    by_cases h2 : b = 0
    · subst h2
      simp only [show rd [(0 : Int), 0] (0 + 1) = 0 from rfl, decide_true, Bool.not_true, cond_false]
      refine .succ ?_
      simp only [cmp_Or_int.c3]
      rw [w64_id (by omega) (by omega)]
      simp (disch := first | omega | simp) only [↓cdF]
      exact .ret _
    · simp only [show rd [(0 : Int), b] (0 + 1) = b from rfl, h2, decide_false, Bool.not_false, cond_true]
      exact .ret _
  · rw [if_neg h]
    simp only [show rd [a, b] 0 = a from rfl, h, decide_false, Bool.not_false, cond_true]
    exact .ret _

theorem cmp_ev {line : List Span} {x y : Int} (hx : 0 ≤ x ∧ x < (line.length : Int)) (hy : 0 ≤ y ∧ y < (line.length : Int)) : W (fun k => color_paint_1.f k x y line) (fun r => r.1 < 0 ↔ LESS line x y) := by
  simp only [color_paint_1.f, if_pos hx, if_pos hy, compare_eq, Option.bind_some]
  refine W.bindEv (or2 _ _) (.ret ?_)
  unfold LESS
  simp only
  repeat' split
  all_goals omega

/-- what a range is behind a step: a range of it exchanged in itself -/
theorem insert_ev {line : List Span} (a b : Nat) : ∀ xs : List Int, BD line xs → a ≤ b → b ≤ xs.length → xs.length ≤ 1000000 →
    W (fun k => slices_insertionSortCmpFunc_int_i1.f k (a : Int) (b : Int) xs line) (fun r => RP xs r.2.1 a b ∧ SO (LESS line) r.2.1 a b) := by
  have O := LESS_ord line
  -- the inner loop
  have inner : ∀ (i : Nat) (Q : Unit × List Int × Unit → Prop) (xs : List Int), i < xs.length → xs.length ≤ 1000000 → a ≤ i → BD line xs →
      (∀ ys, RP xs ys a (i + 1) → SO (LESS line) ys a (i + 1) → W (fun k => slices_insertionSortCmpFunc_int_i1.c1 k (a : Int) (b : Int) ((i : Int) + 1) ys line) Q) →
      ∀ (d j : Nat), j = a + d → j ≤ i → ∀ ys, RP xs ys a (i + 1) → (∀ p q : Nat, a ≤ p → p < q → q < i + 1 → q ≠ j → ¬ LESS line (rd ys (q : Int)) (rd ys (p : Int))) →
      W (fun k => slices_insertionSortCmpFunc_int_i1.c4 k (a : Int) (b : Int) (i : Int) (j : Int) ys line) Q := by
    intro i Q xs hi hl hai hb hend d
    induction d with
    | zero =>
      intro j hj hji ys hr hs
      refine .succ ?_
      simp (disch := omega) only [slices_insertionSortCmpFunc_int_i1.c4, ↓cdF, w64_id]
      exact hend ys hr fun p q h1 h2 h3 => hs p q h1 h2 h3 (by omega)
    | succ d ih =>
      intro j hj hji ys hr hs
      have hlen := hr.len
      have hbd := hb.rp hr
      refine .succ ?_
      simp (disch := omega) only [slices_insertionSortCmpFunc_int_i1.c4, ↓cdT, ↓if_pos, w64_id]
      rw [show (j : Int) - 1 = ((j - 1 : Nat) : Int) by omega]
      refine W.bind (cmp_ev (hbd.rd (by omega)) (hbd.rd (by omega))) fun r hc => ?_
      refine .dec (fun h => ?_) fun h => ?_
      · have hL := hc.1 h
        simp (disch := first | omega | (simp only [List.length_set]; omega)) only [↓if_pos, Int.toNat_natCast]
        have hsw : RP ys (swp ys j (j - 1)) a (i + 1) := RP.swp (by omega) (by omega) (by omega) (by omega) (by omega)
        refine ih (j - 1) (by omega) (by omega) (swp ys j (j - 1)) (hr.trans hsw) fun p q h1 h2 h3 h4 => ?_
        rw [rd_swp (by omega) (by omega), rd_swp (by omega) (by omega), if_neg h4]
        by_cases e1 : q = j
        · rw [if_pos e1]
          by_cases e2 : p = j - 1
          · rw [if_pos e2]; exact O.asymm _ _ hL
          · rw [if_neg e2, if_neg (by omega)]
            exact hs p (j - 1) h1 (by omega) (by omega) (by omega)
        · rw [if_neg e1]
          by_cases e2 : p = j - 1
          · rw [if_pos e2]; exact hs j q (by omega) (by omega) h3 (by omega)
          · rw [if_neg e2]
            by_cases e3 : p = j
            · rw [if_pos e3]; exact hs (j - 1) q (by omega) (by omega) h3 (by omega)
            · rw [if_neg e3]; exact hs p q h1 h2 h3 e1
      · have hL : ¬ LESS line (rd ys (j : Int)) (rd ys ((j - 1 : Nat) : Int)) := fun q => h (hc.2 q)
        refine hend ys hr fun p q h1 h2 h3 => ?_
        by_cases e1 : q = j
        · subst e1
          by_cases e2 : p = q - 1
          · subst e2; exact hL
          · exact O.trans _ (rd ys ((q - 1 : Nat) : Int)) _ (hs p (q - 1) h1 (by omega) (by omega) (by omega)) hL
        · exact hs p q h1 h2 h3 e1
  intro xs hb hab hbl hl
  simp only [slices_insertionSortCmpFunc_int_i1.f]
  rw [w64_id (by omega) (by omega)]
  have outer : ∀ (d i : Nat), a < i → b ≤ i + d → (i ≤ b ∨ i = a + 1) → ∀ ys, RP xs ys a b → SO (LESS line) ys a i → W (fun k => slices_insertionSortCmpFunc_int_i1.c1 k (a : Int) (b : Int) (i : Int) ys line) (fun r => RP xs r.2.1 a b ∧ SO (LESS line) r.2.1 a b) := by
    intro d
    induction d with
    | zero =>
      intro i hi hd hib ys hr hs
      refine .succ ?_
      simp (disch := omega) only [slices_insertionSortCmpFunc_int_i1.c1, ↓cdF]
      exact .ret ⟨hr, hs.sub (Nat.le_refl _) (by omega)⟩
    | succ d ih =>
      intro i hi hd hib ys hr hs
      have hlen := hr.len
      refine .succ ?_
      by_cases h : i < b
      · simp (disch := omega) only [slices_insertionSortCmpFunc_int_i1.c1, ↓cdT]
        refine inner i _ ys (by omega) (by omega) (by omega) (hb.rp hr) (fun zs hz hsz => ?_) (i - a) i (by omega) (Nat.le_refl _) ys (RP.refl _ _ _) (fun p q h1 h2 h3 h4 => hs p q h1 h2 (by omega))
        exact ih (i + 1) (by omega) (by omega) (by omega) zs (hr.trans (hz.mono (Nat.le_refl _) (by omega))) hsz
      · simp (disch := omega) only [slices_insertionSortCmpFunc_int_i1.c1, ↓cdF]
        exact .ret ⟨hr, hs.sub (Nat.le_refl _) (by omega)⟩
  exact outer b (a + 1) (by omega) (by omega) (by omega) xs (RP.refl _ _ _) (fun p q h1 h2 h3 => by omega)

/-- two blocks exchanged -/
def blk (xs : List Int) (a b n : Nat) (p : Nat) : Int := if a ≤ p ∧ p < a + n then rd xs ((p - a + b : Nat) : Int) else if b ≤ p ∧ p < b + n then rd xs ((p - b + a : Nat) : Int) else rd xs (p : Int)
theorem swapRange_ev {line : List Span} (a b n : Nat) (xs : List Int) (hab : a + n ≤ b) (hbl : b + n ≤ xs.length) (hl : xs.length ≤ 1000000) :
    W (fun k => slices_swapRangeCmpFunc_int_i1.f k (a : Int) (b : Int) (n : Int) xs line) (fun r => RP xs r.2.1 a (b + n) ∧ ∀ p : Nat, rd r.2.1 (p : Int) = blk xs a b n p) := by
  simp only [slices_swapRangeCmpFunc_int_i1.f]
  have loop : ∀ (d i : Nat), i + d = n → ∀ ys, RP xs ys a (b + n) → (∀ p : Nat, rd ys (p : Int) = blk xs a b i p) → W (fun k => slices_swapRangeCmpFunc_int_i1.c1 k (a : Int) (b : Int) (n : Int) (i : Int) ys) (fun r => RP xs r.2.1 a (b + n) ∧ ∀ p : Nat, rd r.2.1 (p : Int) = blk xs a b n p) := by
    intro d
    induction d with
    | zero =>
      intro i hi ys hr hf
      refine .succ ?_
      simp (disch := omega) only [slices_swapRangeCmpFunc_int_i1.c1, ↓cdF]
      exact .ret ⟨hr, by rw [show n = i by omega]; exact hf⟩
    | succ d ih =>
      intro i hi ys hr hf
      have hlen := hr.len
      refine .succ ?_
      simp (disch := first | omega | (simp only [List.length_set]; omega)) only [slices_swapRangeCmpFunc_int_i1.c1, ↓cdT, ↓if_pos, w64_id]
      rw [show (a : Int) + i = ((a + i : Nat) : Int) by omega, show (b : Int) + i = ((b + i : Nat) : Int) by omega, Int.toNat_natCast, Int.toNat_natCast]
      have hsw : RP ys (swp ys (a + i) (b + i)) a (b + n) := RP.swp (by omega) (by omega) (by omega) (by omega) (by omega)
      refine ih (i + 1) (by omega) (swp ys (a + i) (b + i)) (hr.trans hsw) fun p => ?_
      rw [rd_swp (by omega) (by omega), hf, hf, hf]
      unfold blk
      repeat' split
      all_goals first | rfl | (exfalso; omega) | (congr 1; omega)
  exact loop n 0 (by omega) xs (RP.refl _ _ _) (fun p => by unfold blk; rw [if_neg (by omega), if_neg (by omega)])

/-- a range turned: the first i behind the next j -/
def rot (xs : List Int) (a i j : Nat) (p : Nat) : Int := if a ≤ p ∧ p < a + j then rd xs ((p + i : Nat) : Int) else if a + j ≤ p ∧ p < a + i + j then rd xs ((p - j : Nat) : Int) else rd xs (p : Int)
theorem rotate_ev {line : List Span} (a m b : Nat) (xs : List Int) (ham : a < m) (hmb : m < b) (hbl : b ≤ xs.length) (hl : xs.length ≤ 1000000) :
    W (fun k => slices_rotateCmpFunc_int_i1.f k (a : Int) (m : Int) (b : Int) xs line) (fun r => RP xs r.2.1 a b ∧ ∀ p : Nat, rd r.2.1 (p : Int) = rot xs a (m - a) (b - m) p) := by
  simp only [slices_rotateCmpFunc_int_i1.f]
  rw [w64_id (by omega) (by omega), w64_id (by omega) (by omega), show (m : Int) - a = ((m - a : Nat) : Int) by omega, show (b : Int) - m = ((b - m : Nat) : Int) by omega]
  have loop : ∀ (d i j : Nat), i + j ≤ d → 0 < i → 0 < j → i ≤ m → m + j ≤ xs.length → ∀ ys : List Int, ys.length = xs.length →
      W (fun k => slices_rotateCmpFunc_int_i1.c2 k (m : Int) (i : Int) (j : Int) ys line) (fun r => RP ys r.2.1 (m - i) (m + j) ∧ ∀ p : Nat, rd r.2.1 (p : Int) = rot ys (m - i) i j p) := by
    intro d
    induction d with
    | zero => intro i j h1 h2; omega
    | succ d ih =>
      intro i j hd hi hj him hmj ys hlen
      refine .succ ?_
      simp (disch := omega) only [slices_rotateCmpFunc_int_i1.c2, w64_id]
      by_cases e : i = j
      · simp (disch := omega) only [↓cnF]
        rw [show (m : Int) - i = ((m - i : Nat) : Int) by omega]
        refine W.bind (swapRange_ev (m - i) m i ys (by omega) (by omega) (by omega)) fun r hr => .ret ⟨?_, fun p => ?_⟩
        · have := hr.1; rwa [e] at this ⊢
        · show rd r.2.1 (p : Int) = _
          rw [hr.2]
          unfold blk rot
          repeat' split
          all_goals first | rfl | (exfalso; omega) | (congr 1; omega)
      · simp (disch := omega) only [↓cnT]
        refine .dec (fun h => ?_) fun h => ?_
        · rw [show (m : Int) - i = ((m - i : Nat) : Int) by omega, show (i : Int) - j = ((i - j : Nat) : Int) by omega]
          refine W.bind (swapRange_ev (m - i) m j ys (by omega) (by omega) (by omega)) fun r hr => ?_
          have hrl := hr.1.len
          refine (ih (i - j) j (by omega) (by omega) hj (by omega) hmj r.2.1 (by omega)).mono fun z hz => ⟨hr.1.trans (hz.1.mono (by omega) (by omega)), fun p => ?_⟩
          rw [hz.2]
          unfold rot
          rw [hr.2, hr.2, hr.2]
          unfold blk
          repeat' split
          all_goals first | rfl | (exfalso; omega) | (congr 1; omega)
        · rw [show (m : Int) - i = ((m - i : Nat) : Int) by omega, show (m : Int) + j - i = ((m + j - i : Nat) : Int) by omega, show (j : Int) - i = ((j - i : Nat) : Int) by omega]
          refine W.bind (swapRange_ev (m - i) (m + j - i) i ys (by omega) (by omega) (by omega)) fun r hr => ?_
          have hrl := hr.1.len
          refine (ih i (j - i) (by omega) hi (by omega) him (by omega) r.2.1 (by omega)).mono fun z hz => ⟨(hr.1.mono (Nat.le_refl _) (by omega)).trans (hz.1.mono (by omega) (by omega)), fun p => ?_⟩
          rw [hz.2]
          unfold rot
          rw [hr.2, hr.2, hr.2]
          unfold blk
          repeat' split
          all_goals first | rfl | (exfalso; omega) | (congr 1; omega)
  refine (loop (b - a) (m - a) (b - m) (by omega) (by omega) (by omega) (by omega) (by omega) xs rfl).mono fun r hr => ?_
  rw [show m - (m - a) = a by omega, show m + (b - m) = b by omega] at hr
  exact hr
end Go.Proofs.YtihkfliabchcmaaV
