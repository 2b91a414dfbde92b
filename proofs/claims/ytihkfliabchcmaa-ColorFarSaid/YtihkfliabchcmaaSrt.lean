/- Plain lemmas: lists whose places are exchanged, ranges in order. -/
import Derived.Test.YtihkfliabchcmaaWp
set_option linter.unusedVariables false
set_option linter.unusedSimpArgs false
namespace Go.Vm
open Go

def swp {α : Type} [Inhabited α] (xs : List α) (i j : Nat) : List α := (xs.set i (rd xs (j : Int))).set j (rd xs (i : Int))
theorem swp_len {α : Type} [Inhabited α] (xs : List α) (i j : Nat) : (swp xs i j).length = xs.length := by simp [swp]
theorem rd_swp {α : Type} [Inhabited α] {xs : List α} {i j : Nat} (hi : i < xs.length) (hj : j < xs.length) (p : Nat) : rd (swp xs i j) (p : Int) = if p = j then rd xs (i : Int) else if p = i then rd xs (j : Int) else rd xs (p : Int) := by
  unfold swp
  rw [rd_set (by simpa using hj), rd_set hi]
  by_cases h1 : p = j
  · rw [if_pos h1.symm, if_pos h1]
  · rw [if_neg (Ne.symm h1), if_neg h1]
    by_cases h2 : p = i
    · rw [if_pos h2.symm, if_pos h2]
    · rw [if_neg (Ne.symm h2), if_neg h2]
theorem swp_perm {α : Type} [Inhabited α] {xs : List α} {i j : Nat} (hi : i < xs.length) (hj : j < xs.length) : (swp xs i j).Perm xs := by
  unfold swp
  rw [rd_eq hi, rd_eq hj]
  exact List.set_set_perm hi hj

/-- a list that is another one's with a range exchanged in itself -/
structure RP {α : Type} [Inhabited α] (xs ys : List α) (a b : Nat) : Prop where
  len : ys.length = xs.length
  perm : ys.Perm xs
  out : ∀ p : Nat, (p < a ∨ b ≤ p) → rd ys (p : Int) = rd xs (p : Int)
  ins : ∀ p : Nat, a ≤ p → p < b → ∃ q : Nat, a ≤ q ∧ q < b ∧ rd ys (p : Int) = rd xs (q : Int)
theorem RP.refl {α : Type} [Inhabited α] (xs : List α) (a b : Nat) : RP xs xs a b := ⟨rfl, .refl _, fun _ _ => rfl, fun p h1 h2 => ⟨p, h1, h2, rfl⟩⟩
theorem RP.trans {α : Type} [Inhabited α] {xs ys zs : List α} {a b : Nat} (h : RP xs ys a b) (h' : RP ys zs a b) : RP xs zs a b :=
  ⟨h'.len.trans h.len, h'.perm.trans h.perm, fun p hp => (h'.out p hp).trans (h.out p hp), fun p h1 h2 => by
    obtain ⟨q, q1, q2, e⟩ := h'.ins p h1 h2
    obtain ⟨r, r1, r2, e'⟩ := h.ins q q1 q2
    exact ⟨r, r1, r2, e.trans e'⟩⟩
theorem RP.mono {α : Type} [Inhabited α] {xs ys : List α} {a b a' b' : Nat} (h : RP xs ys a b) (ha : a' ≤ a) (hb : b ≤ b') : RP xs ys a' b' :=
  ⟨h.len, h.perm, fun p hp => h.out p (by omega), fun p h1 h2 => by
    by_cases hp : a ≤ p ∧ p < b
    · obtain ⟨q, q1, q2, e⟩ := h.ins p hp.1 hp.2
      exact ⟨q, by omega, by omega, e⟩
    · exact ⟨p, h1, h2, h.out p (by omega)⟩⟩
theorem RP.swp {α : Type} [Inhabited α] {xs : List α} {a b i j : Nat} (h1 : a ≤ i) (h2 : i < b) (h3 : a ≤ j) (h4 : j < b) (hb : b ≤ xs.length) : RP xs (swp xs i j) a b :=
  ⟨swp_len _ _ _, swp_perm (by omega) (by omega), fun p hp => by rw [rd_swp (by omega) (by omega), if_neg (by omega), if_neg (by omega)], fun p p1 p2 => by
    rw [rd_swp (by omega) (by omega)]
    by_cases e : p = j
    · exact ⟨i, h1, h2, by rw [if_pos e]⟩
    · by_cases e' : p = i
      · exact ⟨j, h3, h4, by rw [if_neg e, if_pos e']⟩
      · exact ⟨p, p1, p2, by rw [if_neg e, if_neg e']⟩⟩

/-- a range in order: none is less than one before it -/
def SO {α : Type} [Inhabited α] (L : α → α → Prop) (xs : List α) (a b : Nat) : Prop := ∀ p q : Nat, a ≤ p → p < q → q < b → ¬ L (rd xs (q : Int)) (rd xs (p : Int))
/-- an order: what sorting needs -/
structure ORD {α : Type} (L : α → α → Prop) : Prop where
  asymm : ∀ x y, L x y → ¬ L y x
  trans : ∀ x y z, ¬ L y x → ¬ L z y → ¬ L z x
theorem SO.sub {α : Type} [Inhabited α] {L : α → α → Prop} {xs : List α} {a b a' b' : Nat} (h : SO L xs a b) (ha : a ≤ a') (hb : b' ≤ b) : SO L xs a' b' :=
  fun p q h1 h2 h3 => h p q (by omega) h2 (by omega)
theorem SO.congr {α : Type} [Inhabited α] {L : α → α → Prop} {xs ys : List α} {a b : Nat} (h : SO L xs a b) (e : ∀ p : Nat, a ≤ p → p < b → rd ys (p : Int) = rd xs (p : Int)) : SO L ys a b :=
  fun p q h1 h2 h3 => by rw [e p h1 (by omega), e q (by omega) h3]; exact h p q h1 h2 h3
theorem SO.shift {α : Type} [Inhabited α] {L : α → α → Prop} {xs ys : List α} {a b c : Nat} (n : Nat) (h : SO L xs c (c + n)) (e : ∀ p : Nat, p < n → rd ys ((a + p : Nat) : Int) = rd xs ((c + p : Nat) : Int)) (hb : b ≤ a + n) : SO L ys a b :=
  fun p q h1 h2 h3 => by
    have e1 := e (p - a) (by omega)
    have e2 := e (q - a) (by omega)
    rw [show a + (p - a) = p by omega] at e1
    rw [show a + (q - a) = q by omega] at e2
    rw [e1, e2]
    exact h _ _ (by omega) (by omega) (by omega)
/-- two ranges in order, all of the one before all of the other -/
theorem SO.join {α : Type} [Inhabited α] {L : α → α → Prop} {xs : List α} {a m b : Nat} (h1 : SO L xs a m) (h2 : SO L xs m b) (h : ∀ p q : Nat, a ≤ p → p < m → m ≤ q → q < b → ¬ L (rd xs (q : Int)) (rd xs (p : Int))) : SO L xs a b :=
  fun p q p1 pq qb => by
    by_cases hq : q < m
    · exact h1 p q p1 pq hq
    · by_cases hp : p < m
      · exact h p q p1 hp (by omega) qb
      · exact h2 p q (by omega) pq qb
/-- what a half's order is when it is exchanged in itself -/
theorem RP.le {α : Type} [Inhabited α] {L : α → α → Prop} {xs ys : List α} {a m b : Nat} (h : RP xs ys a m) (hx : ∀ p q : Nat, a ≤ p → p < m → m ≤ q → q < b → ¬ L (rd xs (q : Int)) (rd xs (p : Int))) : ∀ p q : Nat, a ≤ p → p < m → m ≤ q → q < b → ¬ L (rd ys (q : Int)) (rd ys (p : Int)) :=
  fun p q h1 h2 h3 h4 => by
    obtain ⟨r, r1, r2, e⟩ := h.ins p h1 h2
    rw [e, h.out q (by omega)]
    exact hx r q r1 r2 h3 h4
theorem RP.le' {α : Type} [Inhabited α] {L : α → α → Prop} {xs ys : List α} {a m b : Nat} (h : RP xs ys m b) (hx : ∀ p q : Nat, a ≤ p → p < m → m ≤ q → q < b → ¬ L (rd xs (q : Int)) (rd xs (p : Int))) : ∀ p q : Nat, a ≤ p → p < m → m ≤ q → q < b → ¬ L (rd ys (q : Int)) (rd ys (p : Int)) :=
  fun p q h1 h2 h3 h4 => by
    obtain ⟨r, r1, r2, e⟩ := h.ins q h3 h4
    rw [e, h.out p (by omega)]
    exact hx p r h1 h2 r1 r2

theorem half_eq {n : Nat} (h : n < 4611686018427387904) : w64 (shrW .u64 (IntKind.wrap .u64 (n : Int)) 1) = ((n / 2 : Nat) : Int) := by
  have e : IntKind.wrap .u64 (n : Int) = (n : Int) := by
    unfold IntKind.wrap
    simp [IntKind.signed, IntKind.bits]
    omega
  have e2 : shrW .u64 (n : Int) 1 = ((n / 2 : Nat) : Int) := by
    unfold shrW
    simp [IntKind.bits]
    rw [Int.fdiv_eq_ediv_of_nonneg _ (by omega)]
  rw [e, e2, w64_id (by omega) (by omega)]
end Go.Vm
