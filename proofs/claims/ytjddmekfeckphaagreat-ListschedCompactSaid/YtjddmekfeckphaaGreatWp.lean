/- Plain lemmas: functions with fuel, results told by a property; the one-step rewrites. -/
import Derived.Test.YtjddmekfeckphaaGreatPl
set_option linter.unusedVariables false
set_option linter.unusedSimpArgs false
namespace Go.Vm
open Go

/-- from some fuel on there is one result, and it has a property -/
def W {α : Type} (f : Nat → Option α) (Q : α → Prop) : Prop := ∃ y, Ev f y ∧ Q y
theorem W.ret {α : Type} {y : α} {Q : α → Prop} (h : Q y) : W (fun _ => some y) Q := ⟨y, .ret y, h⟩
theorem W.bind {α β : Type} {f : Nat → Option α} {g : Nat → α → Option β} {P : α → Prop} {Q : β → Prop} (h : W f P) (h' : ∀ y, P y → W (fun k => g k y) Q) : W (fun k => (f k).bind (g k)) Q := by
  obtain ⟨y, h1, h2⟩ := h
  obtain ⟨z, h3, h4⟩ := h' y h2
  exact ⟨z, .bind h1 h3, h4⟩
theorem W.bindEv {α β : Type} {f : Nat → Option α} {g : Nat → α → Option β} {x : α} {Q : β → Prop} (h : Ev f x) (h' : W (fun k => g k x) Q) : W (fun k => (f k).bind (g k)) Q := by
  obtain ⟨z, h3, h4⟩ := h'
  exact ⟨z, .bind h h3, h4⟩
theorem W.succ {α : Type} {f : Nat → Option α} {Q : α → Prop} (h : W (fun k => f (k + 1)) Q) : W f Q := by
  obtain ⟨y, h1, h2⟩ := h
  exact ⟨y, .succ h1, h2⟩
theorem W.mono {α : Type} {f : Nat → Option α} {P Q : α → Prop} (h : W f P) (h' : ∀ y, P y → Q y) : W f Q := by
  obtain ⟨y, h1, h2⟩ := h
  exact ⟨y, h1, h' y h2⟩
theorem Ev.w {α : Type} {f : Nat → Option α} {y : α} {Q : α → Prop} (h : Ev f y) (q : Q y) : W f Q := ⟨y, h, q⟩
theorem W.ev {α : Type} {f : Nat → Option α} {y : α} (h : W f (fun z => z = y)) : Ev f y := by
  obtain ⟨_, h1, rfl⟩ := h
  exact h1
theorem W.cond {α : Type} {b : Bool} {f g : Nat → Option α} {Q : α → Prop} (h : b = true → W f Q) (h' : b = false → W g Q) : W (fun k => bif b then f k else g k) Q := by
  cases b
  · exact h' rfl
  · exact h rfl
theorem W.dec {α : Type} {p : Prop} [Decidable p] {f g : Nat → Option α} {Q : α → Prop} (h : p → W f Q) (h' : ¬ p → W g Q) : W (fun k => bif decide p then f k else g k) Q :=
  .cond (fun e => h (of_decide_eq_true e)) (fun e => h' (of_decide_eq_false e))
theorem Ev.dec {α : Type} {p : Prop} [Decidable p] {f g : Nat → Option α} {y : α} (h : p → Ev f y) (h' : ¬ p → Ev g y) : Ev (fun k => bif decide p then f k else g k) y :=
  .cond (fun e => h (of_decide_eq_true e)) (fun e => h' (of_decide_eq_false e))
/-- two runs to one property: tests -/
theorem EvP.w {f : Nat → Option Bool} {P : Prop} (h : EvP f P) : W f (fun b => b = Bool.true ↔ P) := h
theorem W.p {f : Nat → Option Bool} {P : Prop} (h : W f (fun b => b = Bool.true ↔ P)) : EvP f P := h
theorem Ev.down {α : Type} {c : Nat → Nat → Option α} {y : α} (h0 : Ev (fun k => c k 0) y) (h : ∀ i, Ev (fun k => c k i) y → Ev (fun k => c k (i + 1)) y) : ∀ j, Ev (fun k => c k j) y
  | 0 => h0
  | j + 1 => h j (Ev.down h0 h j)

theorem Ev.upFrom {α : Type} {c : Nat → Nat → Option α} {n : Nat} {y : α} (j : Nat) (hj : j ≤ n) (hn : Ev (fun k => c k n) y) (h : ∀ i, j ≤ i → i < n → Ev (fun k => c k (i + 1)) y → Ev (fun k => c k i) y) : Ev (fun k => c k j) y := by
  have := Ev.up (c := fun k i => c k (j + i)) (n := n - j) (y := y) (by rw [show j + (n - j) = n by omega]; exact hn) (fun i hi h' => h (j + i) (by omega) (by omega) h') 0 (Nat.zero_le _)
  exact this

theorem cdT {α : Type} {p : Prop} [Decidable p] {a b : α} (h : p) : cond (decide p) a b = a := by simp [h]
theorem cdF {α : Type} {p : Prop} [Decidable p] {a b : α} (h : ¬ p) : cond (decide p) a b = b := by simp [h]
theorem cnT {α : Type} {p : Prop} [Decidable p] {a b : α} (h : ¬ p) : cond (!decide p) a b = a := by simp [h]
theorem cnF {α : Type} {p : Prop} [Decidable p] {a b : α} (h : p) : cond (!decide p) a b = b := by simp [h]
theorem bleT {α : Type} {n m : Nat} {a b : α} (h : n ≤ m) : cond (Nat.ble n m) a b = a := by rw [Nat.ble_eq_true_of_le h, cond_true]

theorem rd_set_eq {α : Type} [Inhabited α] {xs : List α} {i : Nat} {v : α} (h : i < xs.length) : rd (xs.set i v) (i : Int) = v := by
  rw [rd_eq (by simpa using h)]
  simp
theorem rd_set_ne {α : Type} [Inhabited α] {xs : List α} {i j : Nat} {v : α} (h : i ≠ j) : rd (xs.set i v) (j : Int) = rd xs (j : Int) := by
  simp [rd, List.getElem?_set_ne h]
theorem rd_set {α : Type} [Inhabited α] {xs : List α} {i j : Nat} {v : α} (h : i < xs.length) : rd (xs.set i v) (j : Int) = if i = j then v else rd xs (j : Int) := by
  by_cases e : i = j
  · subst e; rw [if_pos rfl, rd_set_eq h]
  · rw [if_neg e, rd_set_ne e]
theorem rd_app_r {α : Type} [Inhabited α] {xs ys : List α} {i : Nat} (h : xs.length ≤ i) : rd (xs ++ ys) (i : Int) = rd ys ((i - xs.length : Nat) : Int) := by
  simp [rd, List.getElem?_append_right h]
theorem rd_app_at {α : Type} [Inhabited α] {xs : List α} {y : α} : rd (xs ++ [y]) (xs.length : Int) = y := by
  rw [rd_app_r (Nat.le_refl _)]; simp [rd]
theorem rd_replicate {α : Type} [Inhabited α] {n i : Nat} {v : α} (h : i < n) : rd (List.replicate n v) (i : Int) = v := by
  rw [rd_eq (by simpa using h)]; simp
theorem list_ext_rd {α : Type} [Inhabited α] {xs ys : List α} (hl : xs.length = ys.length) (h : ∀ i : Nat, i < xs.length → rd xs (i : Int) = rd ys (i : Int)) : xs = ys := by
  apply List.ext_getElem hl
  intro i h1 h2
  have := h i h1
  rwa [rd_eq h1, rd_eq h2] at this
theorem mn_le_l (a b : Int) : mn a b ≤ a := by unfold mn; split <;> omega
theorem mn_le_r (a b : Int) : mn a b ≤ b := by unfold mn; split <;> omega
theorem le_mx_l (a b : Int) : a ≤ mx a b := by unfold mx; split <;> omega
theorem le_mx_r (a b : Int) : b ≤ mx a b := by unfold mx; split <;> omega
theorem le_mn {a b c : Int} : c ≤ mn a b ↔ c ≤ a ∧ c ≤ b := by unfold mn; split <;> omega
theorem mn_eq (a b : Int) : mn a b = a ∨ mn a b = b := by unfold mn; split <;> omega
theorem mx_eq (a b : Int) : mx a b = a ∨ mx a b = b := by unfold mx; split <;> omega
end Go.Vm
