/- Plain lemmas on lists, whole numbers and rounds, used by the pure proofs of this seat. No condition. -/
import Derived.Test.YtflefelgdcblgaaWWords
import Derived.Test.YtflefelgdcblgaaWMore
namespace Go.Proofs.Ytflefelgdcblgaa.Lib
set_option linter.unusedVariables false
set_option linter.unusedSimpArgs false
open Go.RowKit Go.Proofs.YtflefelgdcblgaaW.PrintWords Go.Proofs.YtflefelgdcblgaaW.PrintMore
theorem wrap_id {n : Int} (h0 : -9223372036854775808 ≤ n) (h1 : n ≤ 9223372036854775807) : wrap64 n = n := by unfold wrap64; omega
theorem rd_eq {xs : List Int} {i : Int} {j : Nat} (h : i = j) (hl : j < xs.length) : rd xs i = xs[j] := by
  subst h; unfold rd; simp [List.getD, hl]
theorem rd_set {xs : List Int} {i j v : Int} (hi : 0 ≤ i) (hil : i < xs.length) (hj : 0 ≤ j) : rd (xs.set i.toNat v) j = if j = i then v else rd xs j := by
  unfold rd
  by_cases h : j = i
  · subst h
    rw [if_pos rfl]
    simp only [List.getD, List.getElem?_set_self (show j.toNat < xs.length by omega), Option.getD_some]
  · rw [if_neg h]
    simp only [List.getD, List.getElem?_set_ne (show i.toNat ≠ j.toNat by omega)]
theorem rd_replicate {n : Nat} {v i : Int} (h0 : 0 ≤ i) (h1 : i < n) : rd (List.replicate n v) i = v := by
  unfold rd
  rw [List.getD_eq_getElem?_getD, List.getElem?_replicate, if_pos (by omega)]; rfl
theorem rd_append_left {xs ys : List Int} {i : Int} (h1 : i.toNat < xs.length) : rd (xs ++ ys) i = rd xs i := by
  unfold rd; simp only [List.getD, List.getElem?_append_left h1]
theorem rd_append_right {xs : List Int} {v i : Int} (h : i = xs.length) : rd (xs ++ [v]) i = v := by
  unfold rd; subst h; simp [List.getD]
theorem rd_ext {xs ys : List Int} (hl : xs.length = ys.length) (h : ∀ i : Int, 0 ≤ i → i < xs.length → rd xs i = rd ys i) : xs = ys := by
  apply List.ext_getElem hl
  intro i h1 h2
  have := h i (by omega) (by omega)
  rw [rd_eq (j := i) rfl h1, rd_eq (j := i) rfl h2] at this
  exact this
theorem getD_set {α : Type} {d v : α} {xs : List α} {i j : Int} (hi : 0 ≤ i) (hil : i < xs.length) (hj : 0 ≤ j) : (xs.set i.toNat v).getD j.toNat d = if j = i then v else xs.getD j.toNat d := by
  by_cases h : j = i
  · subst h
    rw [if_pos rfl]
    simp only [List.getD, List.getElem?_set_self (show j.toNat < xs.length by omega), Option.getD_some]
  · rw [if_neg h]
    simp only [List.getD, List.getElem?_set_ne (show i.toNat ≠ j.toNat by omega)]
theorem getD_ext {α : Type} {d : α} {xs ys : List α} (hl : xs.length = ys.length) (h : ∀ i : Int, 0 ≤ i → i < xs.length → xs.getD i.toNat d = ys.getD i.toNat d) : xs = ys := by
  apply List.ext_getElem hl
  intro i h1 h2
  have := h i (by omega) (by omega)
  simpa [List.getD, h1, h2] using this
theorem getD_map {α β : Type} {d : α} {e : β} {f : α → β} {xs : List α} {i : Int} (h0 : 0 ≤ i) (h1 : i < xs.length) : (xs.map f).getD i.toNat e = f (xs.getD i.toNat d) := by
  have h : i.toNat < xs.length := by omega
  simp [List.getD, h]
theorem rd_map {f : Int → Int} {xs : List Int} {i : Int} (h0 : 0 ≤ i) (h1 : i < xs.length) : rd (xs.map f) i = f (rd xs i) := getD_map h0 h1
theorem rd_range {n : Nat} {f : Int → Int} {v : Int} (h0 : 0 ≤ v) (h1 : v < n) : rd ((List.range n).map fun i : Nat => f i) v = f v := by
  rw [rd_eq (j := v.toNat) (by omega) (by simp; omega)]
  simp
  rw [show max v 0 = v by omega]
theorem nodup_le : ∀ (n : Nat) (l : List Int), l.Nodup → (∀ x ∈ l, 0 ≤ x ∧ x < n) → l.length ≤ n
  | 0, l, _, h => by
    cases l with
    | nil => simp
    | cons a r => have := h a List.mem_cons_self; omega
  | n + 1, l, hd, h => by
    have h1 := nodup_le n (l.erase (n : Int)) (hd.erase _) (fun x hx => by
      have hm := List.mem_of_mem_erase hx
      have hne : x ≠ n := fun e => by subst e; exact (List.Nodup.not_mem_erase hd) hx
      have := h x hm
      omega)
    have h2 : l.length ≤ (l.erase (n : Int)).length + 1 := by
      rw [List.length_erase]; split <;> omega
    omega
theorem pigeon (n : Nat) (f : Nat → Int) (h : ∀ i, i ≤ n → 0 ≤ f i ∧ f i < n) : ∃ i j, i < j ∧ j ≤ n ∧ f i = f j := by
  apply Classical.byContradiction
  intro hc
  have hd : ((List.range (n + 1)).map f).Nodup := by
    rw [List.Nodup, List.pairwise_map]
    refine List.Pairwise.imp_of_mem (R := fun a b => a < b) ?_ List.pairwise_lt_range
    intro a b ha hb hab he
    exact hc ⟨a, b, hab, by have := List.mem_range.1 hb; omega, he⟩
  have := nodup_le n _ hd (fun x hx => by
    obtain ⟨i, hi, rfl⟩ := List.mem_map.1 hx
    exact h i (by have := List.mem_range.1 hi; omega))
  simp at this
  omega
def EvP {α : Type} (g : Nat → Option α) (Q : α → Prop) : Prop := ∃ r, Ev g r ∧ Q r
theorem EvP.ret {α : Type} {g : Nat → Option α} {Q : α → Prop} (r : α) (h : ∀ k, g k = some r) (q : Q r) : EvP g Q := ⟨r, ⟨0, fun k _ => h k⟩, q⟩
theorem EvP.ret1 {α : Type} {g : Nat → Option α} {Q : α → Prop} (r : α) (h : ∀ k, g (k + 1) = some r) (q : Q r) : EvP g Q :=
  ⟨r, ⟨1, fun k hk => by obtain ⟨m, rfl⟩ : ∃ m, k = m + 1 := ⟨k - 1, by omega⟩; exact h m⟩, q⟩
theorem EvP.step {α : Type} {g f : Nat → Option α} {Q : α → Prop} (h : ∀ k, g (k + 1) = f k) (e : EvP f Q) : EvP g Q := by
  obtain ⟨r, he, hq⟩ := e
  exact ⟨r, Ev.step h he, hq⟩
theorem EvP.congr {α : Type} {g f : Nat → Option α} {Q : α → Prop} (h : ∀ k, g k = f k) (e : EvP f Q) : EvP g Q := by
  obtain ⟨r, he, hq⟩ := e
  exact ⟨r, Ev.congr h he, hq⟩
theorem EvP.mono {α : Type} {g : Nat → Option α} {Q Q' : α → Prop} (e : EvP g Q) (h : ∀ r, Q r → Q' r) : EvP g Q' := by
  obtain ⟨r, he, hq⟩ := e
  exact ⟨r, he, h r hq⟩
theorem EvP.bind {α β : Type} {g : Nat → Option α} {f : Nat → α → Option β} {Q : α → Prop} {R : β → Prop} (h : EvP g Q) (k : ∀ a, Q a → EvP (fun n => f n a) R) : EvP (fun n => (g n).bind (f n)) R := by
  obtain ⟨a, ha, hq⟩ := h
  obtain ⟨b, hb, hr⟩ := k a hq
  exact ⟨b, Ev.bind ha hb, hr⟩
theorem EvP.ev {α : Type} {g : Nat → Option α} {r : α} (e : EvP g (fun x => x = r)) : Ev g r := by
  obtain ⟨x, he, rfl⟩ := e
  exact he
theorem EvP.rounds {α : Type} {g : Nat → Option α} {r : α} (e : EvP g (fun x => x = r)) : ∃ k, g k = some r := Ev.rounds (EvP.ev e)
theorem Ev.unique {α : Type} {g : Nat → Option α} {r r' : α} (h : Ev g r) (h' : Ev g r') : r = r' := by
  obtain ⟨K, hk⟩ := h
  obtain ⟨K', hk'⟩ := h'
  have a := hk (max K K') (Nat.le_max_left _ _)
  have b := hk' (max K K') (Nat.le_max_right _ _)
  rw [a] at b
  exact Option.some.inj b
theorem wf64 {n : Int} (h : (Lit.int .i64 n).wf = true) : -9223372036854775808 ≤ n ∧ n ≤ 9223372036854775807 := by
  simp only [Lit.wf, Bool.and_eq_true, decide_eq_true_eq] at h
  rw [show IntKind.i64.min = -9223372036854775808 by decide, show IntKind.i64.max = 9223372036854775807 by decide] at h
  exact h
theorem wfu8 {n : Int} (h : (Lit.int .u8 n).wf = true) : 0 ≤ n ∧ n ≤ 255 := by
  simp only [Lit.wf, Bool.and_eq_true, decide_eq_true_eq] at h
  rw [show IntKind.u8.min = 0 by decide, show IntKind.u8.max = 255 by decide] at h
  exact h
end Go.Proofs.Ytflefelgdcblgaa.Lib
