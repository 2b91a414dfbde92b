/- Plain lemmas about functions with fuel: what they come to. -/
import Derived.Test.YtjddmekfeckphaaGreatVm0
set_option linter.unusedVariables false
set_option linter.unusedSimpArgs false
namespace Go.Vm
open Go

/-- from some fuel on the result is y -/
def Ev {α : Type} (f : Nat → Option α) (y : α) : Prop := ∃ N, ∀ k, N ≤ k → f k = some y

theorem Ev.ret {α : Type} (y : α) : Ev (fun _ => some y) y := ⟨0, fun _ _ => rfl⟩
theorem Ev.bind {α β : Type} {f : Nat → Option α} {g : Nat → α → Option β} {x : α} {y : β} (h : Ev f x) (h' : Ev (fun k => g k x) y) : Ev (fun k => (f k).bind (g k)) y := by
  obtain ⟨N, h⟩ := h
  obtain ⟨M, h'⟩ := h'
  exact ⟨max N M, fun k hk => by
    show (f k).bind (g k) = some y
    rw [h k (by omega), Option.bind_some]
    exact h' k (by omega)⟩
theorem Ev.succ {α : Type} {f : Nat → Option α} {y : α} (h : Ev (fun k => f (k + 1)) y) : Ev f y := by
  obtain ⟨N, h⟩ := h
  refine ⟨N + 1, fun k hk => ?_⟩
  obtain ⟨j, rfl⟩ : ∃ j, k = j + 1 := ⟨k - 1, by omega⟩
  exact h j (by omega)
theorem Ev.congr {α : Type} {f g : Nat → Option α} {y : α} (h : Ev g y) (e : ∀ k, f k = g k) : Ev f y := by
  obtain ⟨N, h⟩ := h
  exact ⟨N, fun k hk => by rw [e]; exact h k hk⟩
theorem Ev.step {α : Type} {f g : Nat → Option α} {y : α} (h : Ev g y) (e : ∀ k, f (k + 1) = g k) : Ev f y := .succ (.congr h e)
theorem Ev.ite {α : Type} {c : Prop} [Decidable c] {f g : Nat → Option α} {y : α} (h : c → Ev f y) (h' : ¬ c → Ev g y) : Ev (fun k => if c then f k else g k) y := by
  by_cases hc : c
  · simp only [if_pos hc]; exact h hc
  · simp only [if_neg hc]; exact h' hc
theorem Ev.pos {α : Type} {c : Prop} [Decidable c] {f g : Nat → Option α} {y : α} (hc : c) (h : Ev f y) : Ev (fun k => if c then f k else g k) y := by
  simp only [if_pos hc]; exact h
theorem Ev.neg {α : Type} {c : Prop} [Decidable c] {f g : Nat → Option α} {y : α} (hc : ¬ c) (h : Ev g y) : Ev (fun k => if c then f k else g k) y := by
  simp only [if_neg hc]; exact h
theorem Ev.cond {α : Type} {b : Bool} {f g : Nat → Option α} {y : α} (h : b = true → Ev f y) (h' : b = false → Ev g y) : Ev (fun k => bif b then f k else g k) y := by
  cases b
  · exact h' rfl
  · exact h rfl
theorem Ev.unique {α : Type} {f : Nat → Option α} {x y : α} (h : Ev f x) (h' : Ev f y) : x = y := by
  obtain ⟨N, h⟩ := h
  obtain ⟨M, h'⟩ := h'
  have := (h (max N M) (by omega)).symm.trans (h' (max N M) (by omega))
  exact Option.some.inj this
theorem Ev.ex {α : Type} {f : Nat → Option α} {y : α} (h : Ev f y) : ∃ k, f k = some y := by
  obtain ⟨N, h⟩ := h
  exact ⟨N, h N (Nat.le_refl _)⟩

/-- counting up: what holds at the end holds at the start -/
theorem Ev.up {α : Type} {c : Nat → Nat → Option α} {n : Nat} {y : α} (hn : Ev (fun k => c k n) y) (h : ∀ i, i < n → Ev (fun k => c k (i + 1)) y → Ev (fun k => c k i) y) : ∀ j, j ≤ n → Ev (fun k => c k j) y := by
  have key : ∀ m, m ≤ n → Ev (fun k => c k (n - m)) y := by
    intro m
    induction m with
    | zero => exact fun _ => hn
    | succ m ih =>
      intro hm
      have := ih (by omega)
      rw [show n - m = n - (m + 1) + 1 by omega] at this
      exact h _ (by omega) this
  intro j hj
  have := key (n - j) (by omega)
  rwa [show n - (n - j) = j by omega] at this

/-- a test: it comes to true or false -/
def EvP (f : Nat → Option Bool) (Q : Prop) : Prop := ∃ b, Ev f b ∧ (b = true ↔ Q)

theorem EvP.ret {b : Bool} {Q : Prop} (h : b = true ↔ Q) : EvP (fun _ => some b) Q := ⟨b, .ret b, h⟩
theorem EvP.iff {f : Nat → Option Bool} {Q Q' : Prop} (h : EvP f Q) (e : Q ↔ Q') : EvP f Q' := by
  obtain ⟨b, h1, h2⟩ := h
  exact ⟨b, h1, h2.trans e⟩
theorem EvP.tt {Q : Prop} (h : Q) : EvP (fun _ => some true) Q := .ret (by simp [h])
theorem EvP.ff {Q : Prop} (h : ¬ Q) : EvP (fun _ => some false) Q := .ret (by simp [h])
theorem EvP.dec {p : Prop} [Decidable p] {Q : Prop} (h : p ↔ Q) : EvP (fun _ => some (decide p)) Q := .ret (by simp [h])
theorem EvP.congr {f g : Nat → Option Bool} {Q : Prop} (h : EvP g Q) (e : ∀ k, f k = g k) : EvP f Q := by
  obtain ⟨b, h1, h2⟩ := h
  exact ⟨b, h1.congr e, h2⟩
theorem EvP.step {f g : Nat → Option Bool} {Q : Prop} (h : EvP g Q) (e : ∀ k, f (k + 1) = g k) : EvP f Q := by
  obtain ⟨b, h1, h2⟩ := h
  exact ⟨b, h1.step e, h2⟩
theorem EvP.cond {b : Bool} {f g : Nat → Option Bool} {Q : Prop} (h : b = true → EvP f Q) (h' : b = false → EvP g Q) : EvP (fun k => bif b then f k else g k) Q := by
  cases b
  · exact h' rfl
  · exact h rfl
theorem EvP.ite {c : Prop} [Decidable c] {f g : Nat → Option Bool} {Q : Prop} (h : c → EvP f Q) (h' : ¬ c → EvP g Q) : EvP (fun k => if c then f k else g k) Q := by
  by_cases hc : c
  · simp only [if_pos hc]; exact h hc
  · simp only [if_neg hc]; exact h' hc
theorem EvP.bind {α : Type} {f : Nat → Option α} {g : Nat → α → Option Bool} {x : α} {Q : Prop} (h : Ev f x) (h' : EvP (fun k => g k x) Q) : EvP (fun k => (f k).bind (g k)) Q := by
  obtain ⟨b, h1, h2⟩ := h'
  exact ⟨b, .bind h h1, h2⟩
/-- behind a test -/
theorem EvP.test {f : Nat → Option Bool} {P : Prop} {g : Nat → Bool → Option Bool} {Q : Prop} (h : EvP f P) (ht : P → EvP (fun k => g k true) Q) (hf : ¬ P → EvP (fun k => g k false) Q) : EvP (fun k => (f k).bind (g k)) Q := by
  obtain ⟨b, h1, h2⟩ := h
  cases b
  · exact .bind h1 (hf (fun h => by cases h2.2 h))
  · exact .bind h1 (ht (h2.1 rfl))
theorem Ev.test {α : Type} {f : Nat → Option Bool} {P : Prop} {g : Nat → Bool → Option α} {y : α} (h : EvP f P) (ht : P → Ev (fun k => g k true) y) (hf : ¬ P → Ev (fun k => g k false) y) : Ev (fun k => (f k).bind (g k)) y := by
  obtain ⟨b, h1, h2⟩ := h
  cases b
  · exact .bind h1 (hf (fun h => by cases h2.2 h))
  · exact .bind h1 (ht (h2.1 rfl))
theorem EvP.true {f : Nat → Option Bool} {Q : Prop} (h : EvP f Q) (q : Q) : Ev f true := by
  obtain ⟨b, h1, h2⟩ := h
  rw [h2.2 q] at h1
  exact h1
theorem EvP.false {f : Nat → Option Bool} {Q : Prop} (h : EvP f Q) (q : ¬ Q) : Ev f false := by
  obtain ⟨b, h1, h2⟩ := h
  cases b
  · exact h1
  · exact absurd (h2.1 rfl) q
theorem Ev.toP {f : Nat → Option Bool} {b : Bool} {Q : Prop} (h : Ev f b) (e : b = Bool.true ↔ Q) : EvP f Q := ⟨b, h, e⟩

/-- a loop that ends with false at the first i without P -/
theorem EvP.all {c : Nat → Nat → Option Bool} {n : Nat} {Q : Prop} (P : Nat → Prop) (hQ : Q → ∀ i, i < n → P i) (h : ∀ i, i < n → P i → ∀ b, Ev (fun k => c k (i + 1)) b → Ev (fun k => c k i) b) (h0 : ∀ i, i < n → ¬ P i → Ev (fun k => c k i) Bool.false)
    (hn : (∀ i, i < n → P i) → EvP (fun k => c k n) Q) : EvP (fun k => c k 0) Q := by
  by_cases hall : ∀ i, i < n → P i
  · obtain ⟨b, h1, h2⟩ := hn hall
    exact ⟨b, Ev.up h1 (fun i hi => h i hi (hall i hi) b) 0 (Nat.zero_le _), h2⟩
  · have hnq : ¬ Q := fun q => hall (hQ q)
    -- the first one
    have key : ∀ m, m ≤ n → (∀ i, i < m → P i) → (∃ i, i < n ∧ ¬ P i) → ∃ j, j < n ∧ ¬ P j ∧ ∀ i, i < j → P i := by
      rintro m _ _ ⟨i, hi⟩
      induction i using Nat.strongRecOn with
      | _ i ih =>
        by_cases hex : ∃ j, j < i ∧ ¬ P j
        · obtain ⟨j, hj, hp⟩ := hex
          exact ih j hj ⟨by omega, hp⟩
        · exact ⟨i, hi.1, hi.2, fun j hj => Classical.byContradiction fun hp => hex ⟨j, hj, hp⟩⟩
    obtain ⟨j, hj, hp, hb⟩ := key 0 (Nat.zero_le _) (fun i hi => absurd hi (Nat.not_lt_zero _)) (by
      obtain ⟨i, hi⟩ := Classical.not_forall.1 hall
      obtain ⟨h1, h2⟩ := Classical.not_imp.1 hi
      exact ⟨i, h1, h2⟩)
    exact ⟨Bool.false, Ev.up (n := j) (h0 j hj hp) (fun i hi => h i (by omega) (hb i hi) _) 0 (Nat.zero_le _), by simp [hnq]⟩

/-- the same, where one step is told as an equation -/
theorem Ev.steps {α : Type} {f g : Nat → Option α} {y : α} (d : Nat) (h : Ev g y) (e : ∀ k, f (k + d) = g k) : Ev f y := by
  obtain ⟨N, h⟩ := h
  refine ⟨N + d, fun k hk => ?_⟩
  obtain ⟨j, rfl⟩ : ∃ j, k = j + d := ⟨k - d, by omega⟩
  rw [e]
  exact h j (by omega)
theorem EvP.all' {c : Nat → Nat → Option Bool} {n : Nat} {Q : Prop} (d : Nat) (P : Nat → Prop) (hQ : Q → ∀ i, i < n → P i) (h : ∀ i, i < n → ∀ k, (P i ∧ c (k + d) i = c k (i + 1)) ∨ (¬ P i ∧ c (k + d) i = some Bool.false))
    (hn : (∀ i, i < n → P i) → EvP (fun k => c k n) Q) : EvP (fun k => c k 0) Q := by
  refine EvP.all P hQ (fun i hi hp b hb => ?_) (fun i hi hp => ?_) hn
  · refine hb.steps d fun k => ?_
    rcases h i hi k with ⟨_, e⟩ | ⟨hn, _⟩
    · exact e
    · exact absurd hp hn
  · refine (Ev.ret Bool.false).steps d fun k => ?_
    rcases h i hi k with ⟨hy, _⟩ | ⟨_, e⟩
    · exact absurd hy hp
    · exact e

/-- a loop that ends with true at the first i with P -/
theorem EvP.any' {c : Nat → Nat → Option Bool} {n : Nat} {Q : Prop} (P : Nat → Prop) (hQ : ∀ i, i < n → P i → Q) (h : ∀ i, i < n → ¬ P i → ∀ b, Ev (fun k => c k (i + 1)) b → Ev (fun k => c k i) b) (h0 : ∀ i, i < n → P i → Ev (fun k => c k i) Bool.true)
    (hn : (∀ i, i < n → ¬ P i) → EvP (fun k => c k n) Q) : EvP (fun k => c k 0) Q := by
  by_cases hall : ∀ i, i < n → ¬ P i
  · obtain ⟨b, h1, h2⟩ := hn hall
    exact ⟨b, Ev.up h1 (fun i hi => h i hi (hall i hi) b) 0 (Nat.zero_le _), h2⟩
  · have hex : ∃ i, i < n ∧ P i := Classical.byContradiction fun hne => hall fun i hi hp => hne ⟨i, hi, hp⟩
    have key : ∃ j, j < n ∧ P j ∧ ∀ i, i < j → ¬ P i := by
      obtain ⟨i, hi⟩ := hex
      induction i using Nat.strongRecOn with
      | _ i ih =>
        by_cases hex : ∃ j, j < i ∧ P j
        · obtain ⟨j, hj, hp⟩ := hex
          exact ih j hj ⟨by omega, hp⟩
        · exact ⟨i, hi.1, hi.2, fun j hj hp => hex ⟨j, hj, hp⟩⟩
    obtain ⟨j, hj, hp, hb⟩ := key
    exact ⟨Bool.true, Ev.up (n := j) (h0 j hj hp) (fun i hi => h i (by omega) (hb i hi) _) 0 (Nat.zero_le _), by simp [hQ j hj hp]⟩

/-! ### numbers -/
theorem w64_id {n : Int} (h1 : -9223372036854775808 ≤ n) (h2 : n < 9223372036854775808) : w64 n = n := by
  unfold w64 IntKind.wrap
  simp [IntKind.signed, IntKind.bits]
  omega
theorem mx_le {a b c : Int} : mx a b ≤ c ↔ a ≤ c ∧ b ≤ c := by unfold mx; split <;> omega
theorem lt_mx {a b c : Int} : c < mx a b ↔ c < a ∨ c < b := by unfold mx; split <;> omega
theorem natC (i : Nat) : (((i + 1 : Nat) : Int)) = (i : Int) + 1 := by omega

theorem rd_app_l {α : Type} [Inhabited α] {xs ys : List α} {i : Nat} (h : i < xs.length) : rd (xs ++ ys) (i : Int) = rd xs (i : Int) := by
  simp [rd, List.getElem?_append_left h]
theorem rd_eq {α : Type} [Inhabited α] {xs : List α} {i : Nat} (h : i < xs.length) : rd xs (i : Int) = xs[i] := by
  simp [rd, h]
theorem rd_mem {α : Type} [Inhabited α] {xs : List α} {i : Int} (h0 : 0 ≤ i) (h : i < (xs.length : Int)) : rd xs i ∈ xs := by
  obtain ⟨n, rfl⟩ : ∃ n : Nat, i = (n : Int) := ⟨i.toNat, by omega⟩
  rw [rd_eq (by omega)]
  exact List.getElem_mem _
theorem mem_rd {α : Type} [Inhabited α] {xs : List α} {x : α} (h : x ∈ xs) : ∃ i : Nat, i < xs.length ∧ rd xs (i : Int) = x := by
  obtain ⟨i, hi, e⟩ := List.getElem_of_mem h
  exact ⟨i, hi, by rw [rd_eq hi, e]⟩
/-- the first ones of a filtered range -/
def pick {α : Type} (p : Nat → Bool) (f : Nat → α) (n : Nat) : List α := ((List.range n).filter p).map f
theorem pick_zero {α : Type} (p : Nat → Bool) (f : Nat → α) : pick p f 0 = [] := rfl
theorem pick_succ {α : Type} (p : Nat → Bool) (f : Nat → α) (n : Nat) : pick p f (n + 1) = if p n then pick p f n ++ [f n] else pick p f n := by
  unfold pick
  rw [List.range_succ, List.filter_append, List.map_append]
  by_cases h : p n <;> simp [h]
theorem pick_len {α : Type} (p : Nat → Bool) (f : Nat → α) (n : Nat) : (pick p f n).length ≤ n := by
  unfold pick
  rw [List.length_map]
  have := List.length_filter_le p (List.range n)
  rwa [List.length_range] at this
theorem pick_all {α : Type} (f : Nat → α) (n : Nat) : pick (fun _ => true) f n = (List.range n).map f := by
  unfold pick
  rw [List.filter_eq_self.2 (fun _ _ => rfl)]
theorem pick_nil {α : Type} {p : Nat → Bool} {f : Nat → α} {n : Nat} : pick p f n = [] ↔ ∀ i, i < n → p i = false := by
  unfold pick
  rw [List.map_eq_nil_iff, List.filter_eq_nil_iff]
  simp
theorem pick_congr {α : Type} {p q : Nat → Bool} {f g : Nat → α} {n : Nat} (h : ∀ i, i < n → p i = q i) (h' : ∀ i, i < n → f i = g i) : pick p f n = pick q g n := by
  unfold pick
  have e : (List.range n).filter p = (List.range n).filter q := List.filter_congr fun i hi => h i (List.mem_range.1 hi)
  rw [e]
  exact List.map_congr_left fun i hi => h' i (List.mem_range.1 (List.mem_filter.1 hi).1)
end Go.Vm
