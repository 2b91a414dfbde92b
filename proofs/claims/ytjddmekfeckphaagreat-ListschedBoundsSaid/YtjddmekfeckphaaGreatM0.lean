/- Proofs about the functions, part 1 of 4. -/
import Derived.Test.YtjddmekfeckphaaGreatVm0
import Derived.Test.YtjddmekfeckphaaGreatF
import Derived.Test.YtjddmekfeckphaaGreatSo
import Derived.Test.YtjddmekfeckphaaGreatSo02
set_option linter.unusedVariables false
set_option linter.unusedSimpArgs false
namespace Go.Vm
open Go
def Ev {α : Type} (f : Nat -> Option α) (y : α) : Prop := ∃ N, ∀ k, N <= k -> f k = some y
theorem Ev.ret {α : Type} (y : α) : Ev (fun _ => some y) y := ⟨0, fun _ _ => rfl⟩
theorem Ev.bind {α β : Type} {f : Nat -> Option α} {g : Nat -> α -> Option β} {x : α} {y : β} (h : Ev f x) (h' : Ev (fun k => g k x) y) : Ev (fun k => (f k).bind (g k)) y := by
 obtain ⟨N, h⟩ := h
 obtain ⟨M, h'⟩ := h'
 exact ⟨max N M, fun k hk => by
  show (f k).bind (g k) = some y
  rw [h k (by omega), Option.bind_some]
  exact h' k (by omega)⟩
theorem Ev.succ {α : Type} {f : Nat -> Option α} {y : α} (h : Ev (fun k => f (k + 1)) y) : Ev f y := by
 obtain ⟨N, h⟩ := h
 refine ⟨N + 1, fun k hk => ?_⟩
 obtain ⟨j, rfl⟩ : ∃ j, k = j + 1 := ⟨k - 1, by omega⟩
 exact h j (by omega)
theorem Ev.congr {α : Type} {f g : Nat -> Option α} {y : α} (h : Ev g y) (e : ∀ k, f k = g k) : Ev f y := by
 obtain ⟨N, h⟩ := h
 exact ⟨N, fun k hk => by rw [e]; exact h k hk⟩
theorem Ev.step {α : Type} {f g : Nat -> Option α} {y : α} (h : Ev g y) (e : ∀ k, f (k + 1) = g k) : Ev f y := .succ (.congr h e)
theorem Ev.ite {α : Type} {c : Prop} [Decidable c] {f g : Nat -> Option α} {y : α} (h : c -> Ev f y) (h' : ¬ c -> Ev g y) : Ev (fun k => if c then f k else g k) y := by
 by_cases hc : c
 . simp only [if_pos hc]; exact h hc
 . simp only [if_neg hc]; exact h' hc
theorem Ev.pos {α : Type} {c : Prop} [Decidable c] {f g : Nat -> Option α} {y : α} (hc : c) (h : Ev f y) : Ev (fun k => if c then f k else g k) y := by
 simp only [if_pos hc]; exact h
theorem Ev.cond {α : Type} {b : Bool} {f g : Nat -> Option α} {y : α} (h : b = true -> Ev f y) (h' : b = false -> Ev g y) : Ev (fun k => bif b then f k else g k) y := by
 cases b
 . exact h' rfl
 . exact h rfl
theorem Ev.ex {α : Type} {f : Nat -> Option α} {y : α} (h : Ev f y) : ∃ k, f k = some y := by
 obtain ⟨N, h⟩ := h
 exact ⟨N, h N (Nat.le_refl _)⟩
theorem Ev.up {α : Type} {c : Nat -> Nat -> Option α} {n : Nat} {y : α} (hn : Ev (fun k => c k n) y) (h : ∀ i, i < n -> Ev (fun k => c k (i + 1)) y -> Ev (fun k => c k i) y) : ∀ j, j <= n -> Ev (fun k => c k j) y := by
 have key : ∀ m, m <= n -> Ev (fun k => c k (n - m)) y := by
  intro m
  induction m with
  | zero => exact fun _ => hn
  | succ m ih =>
    intro hm
    have := ih (by omega)
    rw [show n - m = n - (m + 1) + 1 by omega] at this
    exact h _ (by omega) this
 intro j hj
 have := key (n - j) (by omega)
 rwa [show n - (n - j) = j by omega] at this
def EvP (f : Nat -> Option Bool) (Q : Prop) : Prop := ∃ b, Ev f b /\ (b = true ↔ Q)
theorem EvP.ret {b : Bool} {Q : Prop} (h : b = true ↔ Q) : EvP (fun _ => some b) Q := ⟨b, .ret b, h⟩
theorem EvP.iff {f : Nat -> Option Bool} {Q Q' : Prop} (h : EvP f Q) (e : Q ↔ Q') : EvP f Q' := by
 obtain ⟨b, h1, h2⟩ := h
 exact ⟨b, h1, h2.trans e⟩
theorem EvP.tt {Q : Prop} (h : Q) : EvP (fun _ => some true) Q := .ret (by simp [h])
theorem EvP.ff {Q : Prop} (h : ¬ Q) : EvP (fun _ => some false) Q := .ret (by simp [h])
theorem EvP.dec {p : Prop} [Decidable p] {Q : Prop} (h : p ↔ Q) : EvP (fun _ => some (decide p)) Q := .ret (by simp [h])
theorem EvP.congr {f g : Nat -> Option Bool} {Q : Prop} (h : EvP g Q) (e : ∀ k, f k = g k) : EvP f Q := by
 obtain ⟨b, h1, h2⟩ := h
 exact ⟨b, h1.congr e, h2⟩
theorem EvP.step {f g : Nat -> Option Bool} {Q : Prop} (h : EvP g Q) (e : ∀ k, f (k + 1) = g k) : EvP f Q := by
 obtain ⟨b, h1, h2⟩ := h
 exact ⟨b, h1.step e, h2⟩
theorem EvP.cond {b : Bool} {f g : Nat -> Option Bool} {Q : Prop} (h : b = true -> EvP f Q) (h' : b = false -> EvP g Q) : EvP (fun k => bif b then f k else g k) Q := by
 cases b
 . exact h' rfl
 . exact h rfl
theorem EvP.ite {c : Prop} [Decidable c] {f g : Nat -> Option Bool} {Q : Prop} (h : c -> EvP f Q) (h' : ¬ c -> EvP g Q) : EvP (fun k => if c then f k else g k) Q := by
 by_cases hc : c
 . simp only [if_pos hc]; exact h hc
 . simp only [if_neg hc]; exact h' hc
theorem EvP.bind {α : Type} {f : Nat -> Option α} {g : Nat -> α -> Option Bool} {x : α} {Q : Prop} (h : Ev f x) (h' : EvP (fun k => g k x) Q) : EvP (fun k => (f k).bind (g k)) Q := by
 obtain ⟨b, h1, h2⟩ := h'
 exact ⟨b, .bind h h1, h2⟩
theorem EvP.test {f : Nat -> Option Bool} {P : Prop} {g : Nat -> Bool -> Option Bool} {Q : Prop} (h : EvP f P) (ht : P -> EvP (fun k => g k true) Q) (hf : ¬ P -> EvP (fun k => g k false) Q) : EvP (fun k => (f k).bind (g k)) Q := by
 obtain ⟨b, h1, h2⟩ := h
 cases b
 . exact .bind h1 (hf (fun h => by cases h2.2 h))
 . exact .bind h1 (ht (h2.1 rfl))
theorem Ev.test {α : Type} {f : Nat -> Option Bool} {P : Prop} {g : Nat -> Bool -> Option α} {y : α} (h : EvP f P) (ht : P -> Ev (fun k => g k true) y) (hf : ¬ P -> Ev (fun k => g k false) y) : Ev (fun k => (f k).bind (g k)) y := by
 obtain ⟨b, h1, h2⟩ := h
 cases b
 . exact .bind h1 (hf (fun h => by cases h2.2 h))
 . exact .bind h1 (ht (h2.1 rfl))
theorem EvP.true {f : Nat -> Option Bool} {Q : Prop} (h : EvP f Q) (q : Q) : Ev f true := by
 obtain ⟨b, h1, h2⟩ := h
 rw [h2.2 q] at h1
 exact h1
theorem EvP.false {f : Nat -> Option Bool} {Q : Prop} (h : EvP f Q) (q : ¬ Q) : Ev f false := by
 obtain ⟨b, h1, h2⟩ := h
 cases b
 . exact h1
 . exact absurd (h2.1 rfl) q
theorem EvP.all {c : Nat -> Nat -> Option Bool} {n : Nat} {Q : Prop} (P : Nat -> Prop) (hQ : Q -> ∀ i, i < n -> P i) (h : ∀ i, i < n -> P i -> ∀ b, Ev (fun k => c k (i + 1)) b -> Ev (fun k => c k i) b) (h0 : ∀ i, i < n -> ¬ P i -> Ev (fun k => c k i) Bool.false)
 (hn : (∀ i, i < n -> P i) -> EvP (fun k => c k n) Q) : EvP (fun k => c k 0) Q := by
 by_cases hall : ∀ i, i < n -> P i
 . obtain ⟨b, h1, h2⟩ := hn hall
   exact ⟨b, Ev.up h1 (fun i hi => h i hi (hall i hi) b) 0 (Nat.zero_le _), h2⟩
 . have hnq : ¬ Q := fun q => hall (hQ q)
   -- the first one
   have key : ∀ m, m <= n -> (∀ i, i < m -> P i) -> (∃ i, i < n /\ ¬ P i) -> ∃ j, j < n /\ ¬ P j /\ ∀ i, i < j -> P i := by
    rintro m _ _ ⟨i, hi⟩
    induction i using Nat.strongRecOn with
    | _ i ih =>
      by_cases hex : ∃ j, j < i /\ ¬ P j
      . obtain ⟨j, hj, hp⟩ := hex
        exact ih j hj ⟨by omega, hp⟩
      . exact ⟨i, hi.1, hi.2, fun j hj => Classical.byContradiction fun hp => hex ⟨j, hj, hp⟩⟩
   obtain ⟨j, hj, hp, hb⟩ := key 0 (Nat.zero_le _) (fun i hi => absurd hi (Nat.not_lt_zero _)) (by
    obtain ⟨i, hi⟩ := Classical.not_forall.1 hall
    obtain ⟨h1, h2⟩ := Classical.not_imp.1 hi
    exact ⟨i, h1, h2⟩)
   exact ⟨Bool.false, Ev.up (n := j) (h0 j hj hp) (fun i hi => h i (by omega) (hb i hi) _) 0 (Nat.zero_le _), by simp [hnq]⟩
theorem Ev.steps {α : Type} {f g : Nat -> Option α} {y : α} (d : Nat) (h : Ev g y) (e : ∀ k, f (k + d) = g k) : Ev f y := by
 obtain ⟨N, h⟩ := h
 refine ⟨N + d, fun k hk => ?_⟩
 obtain ⟨j, rfl⟩ : ∃ j, k = j + d := ⟨k - d, by omega⟩
 rw [e]
 exact h j (by omega)
theorem EvP.all' {c : Nat -> Nat -> Option Bool} {n : Nat} {Q : Prop} (d : Nat) (P : Nat -> Prop) (hQ : Q -> ∀ i, i < n -> P i) (h : ∀ i, i < n -> ∀ k, (P i /\ c (k + d) i = c k (i + 1)) \/ (¬ P i /\ c (k + d) i = some Bool.false))
 (hn : (∀ i, i < n -> P i) -> EvP (fun k => c k n) Q) : EvP (fun k => c k 0) Q := by
 refine EvP.all P hQ (fun i hi hp b hb => ?_) (fun i hi hp => ?_) hn
 . refine hb.steps d fun k => ?_
   rcases h i hi k with ⟨_, e⟩ | ⟨hn, _⟩
   . exact e
   . exact absurd hp hn
 . refine (Ev.ret Bool.false).steps d fun k => ?_
   rcases h i hi k with ⟨hy, _⟩ | ⟨_, e⟩
   . exact absurd hy hp
   . exact e
theorem w64_id {n : Int} (h1 : -9223372036854775808 <= n) (h2 : n < 9223372036854775808) : w64 n = n := by
 unfold w64 IntKind.wrap
 simp [IntKind.signed, IntKind.bits]
 omega
theorem mx_le {a b c : Int} : mx a b <= c ↔ a <= c /\ b <= c := by unfold mx; split <;> omega
theorem lt_mx {a b c : Int} : c < mx a b ↔ c < a \/ c < b := by unfold mx; split <;> omega
theorem natC (i : Nat) : (((i + 1 : Nat) : Int)) = (i : Int) + 1 := by omega
theorem rd_app_l {α : Type} [Inhabited α] {xs ys : List α} {i : Nat} (h : i < xs.length) : rd (xs ++ ys) (i : Int) = rd xs (i : Int) := by
 simp [rd, List.getElem?_append_left h]
theorem rd_eq {α : Type} [Inhabited α] {xs : List α} {i : Nat} (h : i < xs.length) : rd xs (i : Int) = xs[i] := by
 simp [rd, h]
theorem rd_mem {α : Type} [Inhabited α] {xs : List α} {i : Int} (h0 : 0 <= i) (h : i < (xs.length : Int)) : rd xs i ∈ xs := by
 obtain ⟨n, rfl⟩ : ∃ n : Nat, i = (n : Int) := ⟨i.toNat, by omega⟩
 rw [rd_eq (by omega)]
 exact List.getElem_mem _
theorem mem_rd {α : Type} [Inhabited α] {xs : List α} {x : α} (h : x ∈ xs) : ∃ i : Nat, i < xs.length /\ rd xs (i : Int) = x := by
 obtain ⟨i, hi, e⟩ := List.getElem_of_mem h
 exact ⟨i, hi, by rw [rd_eq hi, e]⟩
def pick {α : Type} (p : Nat -> Bool) (f : Nat -> α) (n : Nat) : List α := ((List.range n).filter p).map f
theorem pick_succ {α : Type} (p : Nat -> Bool) (f : Nat -> α) (n : Nat) : pick p f (n + 1) = if p n then pick p f n ++ [f n] else pick p f n := by
 unfold pick
 rw [List.range_succ, List.filter_append, List.map_append]
 by_cases h : p n <;> simp [h]
theorem pick_len {α : Type} (p : Nat -> Bool) (f : Nat -> α) (n : Nat) : (pick p f n).length <= n := by
 unfold pick
 rw [List.length_map]
 have := List.length_filter_le p (List.range n)
 rwa [List.length_range] at this
theorem pick_nil {α : Type} {p : Nat -> Bool} {f : Nat -> α} {n : Nat} : pick p f n = [] ↔ ∀ i, i < n -> p i = false := by
 unfold pick
 rw [List.map_eq_nil_iff, List.filter_eq_nil_iff]
 simp
end Go.Vm
namespace Go.Vm
open Go
def W {α : Type} (f : Nat -> Option α) (Q : α -> Prop) : Prop := ∃ y, Ev f y /\ Q y
theorem W.ret {α : Type} {y : α} {Q : α -> Prop} (h : Q y) : W (fun _ => some y) Q := ⟨y, .ret y, h⟩
theorem W.bind {α β : Type} {f : Nat -> Option α} {g : Nat -> α -> Option β} {P : α -> Prop} {Q : β -> Prop} (h : W f P) (h' : ∀ y, P y -> W (fun k => g k y) Q) : W (fun k => (f k).bind (g k)) Q := by
 obtain ⟨y, h1, h2⟩ := h
 obtain ⟨z, h3, h4⟩ := h' y h2
 exact ⟨z, .bind h1 h3, h4⟩
theorem W.bindEv {α β : Type} {f : Nat -> Option α} {g : Nat -> α -> Option β} {x : α} {Q : β -> Prop} (h : Ev f x) (h' : W (fun k => g k x) Q) : W (fun k => (f k).bind (g k)) Q := by
 obtain ⟨z, h3, h4⟩ := h'
 exact ⟨z, .bind h h3, h4⟩
theorem W.succ {α : Type} {f : Nat -> Option α} {Q : α -> Prop} (h : W (fun k => f (k + 1)) Q) : W f Q := by
 obtain ⟨y, h1, h2⟩ := h
 exact ⟨y, .succ h1, h2⟩
theorem W.mono {α : Type} {f : Nat -> Option α} {P Q : α -> Prop} (h : W f P) (h' : ∀ y, P y -> Q y) : W f Q := by
 obtain ⟨y, h1, h2⟩ := h
 exact ⟨y, h1, h' y h2⟩
theorem Ev.w {α : Type} {f : Nat -> Option α} {y : α} {Q : α -> Prop} (h : Ev f y) (q : Q y) : W f Q := ⟨y, h, q⟩
theorem W.ev {α : Type} {f : Nat -> Option α} {y : α} (h : W f (fun z => z = y)) : Ev f y := by
 obtain ⟨_, h1, rfl⟩ := h
 exact h1
theorem W.cond {α : Type} {b : Bool} {f g : Nat -> Option α} {Q : α -> Prop} (h : b = true -> W f Q) (h' : b = false -> W g Q) : W (fun k => bif b then f k else g k) Q := by
 cases b
 . exact h' rfl
 . exact h rfl
theorem W.dec {α : Type} {p : Prop} [Decidable p] {f g : Nat -> Option α} {Q : α -> Prop} (h : p -> W f Q) (h' : ¬ p -> W g Q) : W (fun k => bif decide p then f k else g k) Q :=
 .cond (fun e => h (of_decide_eq_true e)) (fun e => h' (of_decide_eq_false e))
theorem Ev.dec {α : Type} {p : Prop} [Decidable p] {f g : Nat -> Option α} {y : α} (h : p -> Ev f y) (h' : ¬ p -> Ev g y) : Ev (fun k => bif decide p then f k else g k) y :=
 .cond (fun e => h (of_decide_eq_true e)) (fun e => h' (of_decide_eq_false e))
theorem EvP.w {f : Nat -> Option Bool} {P : Prop} (h : EvP f P) : W f (fun b => b = Bool.true ↔ P) := h
theorem W.p {f : Nat -> Option Bool} {P : Prop} (h : W f (fun b => b = Bool.true ↔ P)) : EvP f P := h
theorem cdT {α : Type} {p : Prop} [Decidable p] {a b : α} (h : p) : cond (decide p) a b = a := by simp [h]
theorem cdF {α : Type} {p : Prop} [Decidable p] {a b : α} (h : ¬ p) : cond (decide p) a b = b := by simp [h]
theorem bleT {α : Type} {n m : Nat} {a b : α} (h : n <= m) : cond (Nat.ble n m) a b = a := by rw [Nat.ble_eq_true_of_le h, cond_true]
theorem rd_set_eq {α : Type} [Inhabited α] {xs : List α} {i : Nat} {v : α} (h : i < xs.length) : rd (xs.set i v) (i : Int) = v := by
 rw [rd_eq (by simpa using h)]
 simp
theorem rd_set_ne {α : Type} [Inhabited α] {xs : List α} {i j : Nat} {v : α} (h : i ≠ j) : rd (xs.set i v) (j : Int) = rd xs (j : Int) := by
 simp [rd, List.getElem?_set_ne h]
theorem rd_set {α : Type} [Inhabited α] {xs : List α} {i j : Nat} {v : α} (h : i < xs.length) : rd (xs.set i v) (j : Int) = if i = j then v else rd xs (j : Int) := by
 by_cases e : i = j
 . subst e; rw [if_pos rfl, rd_set_eq h]
 . rw [if_neg e, rd_set_ne e]
theorem rd_app_r {α : Type} [Inhabited α] {xs ys : List α} {i : Nat} (h : xs.length <= i) : rd (xs ++ ys) (i : Int) = rd ys ((i - xs.length : Nat) : Int) := by
 simp [rd, List.getElem?_append_right h]
theorem rd_app_at {α : Type} [Inhabited α] {xs : List α} {y : α} : rd (xs ++ [y]) (xs.length : Int) = y := by
 rw [rd_app_r (Nat.le_refl _)]; simp [rd]
theorem rd_replicate {α : Type} [Inhabited α] {n i : Nat} {v : α} (h : i < n) : rd (List.replicate n v) (i : Int) = v := by
 rw [rd_eq (by simpa using h)]; simp
theorem list_ext_rd {α : Type} [Inhabited α] {xs ys : List α} (hl : xs.length = ys.length) (h : ∀ i : Nat, i < xs.length -> rd xs (i : Int) = rd ys (i : Int)) : xs = ys := by
 apply List.ext_getElem hl
 intro i h1 h2
 have := h i h1
 rwa [rd_eq h1, rd_eq h2] at this
theorem mn_le_l (a b : Int) : mn a b <= a := by unfold mn; split <;> omega
theorem mn_le_r (a b : Int) : mn a b <= b := by unfold mn; split <;> omega
theorem le_mx_l (a b : Int) : a <= mx a b := by unfold mx; split <;> omega
theorem le_mx_r (a b : Int) : b <= mx a b := by unfold mx; split <;> omega
theorem le_mn {a b c : Int} : c <= mn a b ↔ c <= a /\ c <= b := by unfold mn; split <;> omega
theorem mx_eq (a b : Int) : mx a b = a \/ mx a b = b := by unfold mx; split <;> omega
end Go.Vm
namespace Go.Vm
open Go
def tb {α : Type} (n : Nat) (f : Nat -> α) : List α := (List.range n).map f
section
variable {α : Type}
theorem tb_len (n : Nat) (f : Nat -> α) : (tb n f).length = n := by simp [tb]
theorem tb_rd [Inhabited α] {n : Nat} {f : Nat -> α} {c : Nat} (h : c < n) : rd (tb n f) (c : Int) = f c := by
 rw [rd_eq (by rw [tb_len]; exact h)]
 simp [tb]
theorem tb_congr {n : Nat} {f g : Nat -> α} (h : ∀ c, c < n -> f c = g c) : tb n f = tb n g :=
 List.map_congr_left fun c hc => h c (by simpa using hc)
theorem tb_set {n : Nat} {f : Nat -> α} {c : Nat} {v : α} : (tb n f).set c v = tb n (fun d => if d = c then v else f d) := by
 apply List.ext_getElem
 . simp [tb]
 . intro d h1 h2
   simp only [List.getElem_set, tb, List.getElem_map, List.getElem_range]
   by_cases h : c = d
   . simp [h]
   . simp [h, Ne.symm h]
theorem tb_rep (n : Nat) (v : α) : List.replicate n v = tb n (fun _ => v) := by
 apply List.ext_getElem <;> simp [tb]
theorem tb_app (n : Nat) (f : Nat -> α) : tb n f ++ [f n] = tb (n + 1) f := by simp [tb, List.range_succ]
end
end Go.Vm
namespace Go.Proofs.YtjddmekfeckphaaGreatV
open Go Go.Vm
def gN (g : Graph) : Nat := (mn (mx g.1 0) 20000).toNat
theorem gN_int (g : Graph) : mn (mx g.1 0) 20000 = (gN g : Int) := by
 have := le_mn (a := mx g.1 0) (b := 20000) (c := 0)
 have h := le_mx_r g.1 0
 unfold gN
 omega
theorem gN_le (g : Graph) : gN g <= 20000 := by
 have := mn_le_r (mx g.1 0) 20000
 have h := gN_int g
 omega
theorem size_ev (g : Graph) : graph_size.f g = some (gN g : Int) := by
 simp only [graph_size.f]; rw [gN_int]
def adj (g : Graph) (a b : Nat) : Bool := decide (a < gN g) && (decide (b < gN g) && g.2.1.any fun l => decide (l.1 = (a : Int)) && decide (l.2.1 = (b : Int)))
theorem adj_l {g : Graph} {a b : Nat} (h : adj g a b = true) : a < gN g := by simp [adj] at h; exact h.1
theorem adj_r {g : Graph} {a b : Nat} (h : adj g a b = true) : b < gN g := by simp [adj] at h; exact h.2.1
theorem adj_iff {g : Graph} {a b : Nat} : adj g a b = true ↔ a < gN g /\ b < gN g /\ ∃ l ∈ g.2.1, l.1 = (a : Int) /\ l.2.1 = (b : Int) := by simp [adj]
def succs (g : Graph) (a : Nat) : List Int := pick (adj g a) (fun b => (b : Int)) (gN g)
def NEXT (g : Graph) : List (List Int) := tb (gN g) (succs g)
theorem succs_len (g : Graph) (a : Nat) : (succs g a).length <= gN g := pick_len _ _ _
theorem mem_succs {g : Graph} {a : Nat} {x : Int} : x ∈ succs g a ↔ ∃ b : Nat, x = (b : Int) /\ adj g a b = true := by
 unfold succs pick
 simp only [List.mem_map, List.mem_filter, List.mem_range]
 constructor
 . rintro ⟨b, ⟨_, h2⟩, rfl⟩; exact ⟨b, rfl, h2⟩
 . rintro ⟨b, rfl, h⟩; exact ⟨b, ⟨adj_r h, h⟩, rfl⟩
theorem succs_sorted (g : Graph) (a : Nat) : (succs g a).Pairwise (· < ·) := by
 unfold succs pick
 rw [List.pairwise_map]
 refine List.Pairwise.imp (fun h => by omega) ((List.pairwise_lt_range).filter _)
theorem asc_unique : ∀ {l m : List Int}, l.Pairwise (· < ·) -> m.Pairwise (· < ·) -> (∀ x, x ∈ l ↔ x ∈ m) -> l = m
 | [], [], _, _, _ => rfl
 | [], y :: m, _, _, h => by have := (h y).2 (by simp); cases this
 | x :: l, [], _, _, h => by have := (h x).1 (by simp); cases this
 | x :: l, y :: m, hl, hm, h => by
   obtain ⟨h1, h2⟩ := List.pairwise_cons.1 hl
   obtain ⟨h3, h4⟩ := List.pairwise_cons.1 hm
   have e : x = y := by
    rcases List.mem_cons.1 ((h x).1 (by simp)) with e | e
    . exact e
    . rcases List.mem_cons.1 ((h y).2 (by simp)) with e' | e'
      . exact e'.symm
      . have := h3 x e; have := h1 y e'; omega
   subst e
   rw [asc_unique h2 h4 fun z => ?_]
   constructor
   . intro hz
     rcases List.mem_cons.1 ((h z).1 (by simp [hz])) with e | e
     . have := h1 z hz; omega
     . exact e
   . intro hz
     rcases List.mem_cons.1 ((h z).2 (by simp [hz])) with e | e
     . have := h3 z hz; omega
     . exact e
end Go.Proofs.YtjddmekfeckphaaGreatV
namespace Go.Proofs.YtjddmekfeckphaaGreatV
open Go Go.Vm
theorem compactUpTo_mem (d : Array Int) : ∀ m, m <= d.size -> ∀ x, x ∈ Lib.compactUpTo d m ↔ ∃ j, j < m /\ d[j]! = x
 | 0, _, x => by simp [Lib.compactUpTo]
 | m + 1, hm, x => by
   rw [Lib.compactUpTo_succ, List.mem_append, compactUpTo_mem d m (by omega) x]
   constructor
   . rintro (⟨j, h1, h2⟩ | h)
     . exact ⟨j, by omega, h2⟩
     . split at h
       . simp at h; exact ⟨m, by omega, h.symm⟩
       . cases h
   . rintro ⟨j, h1, h2⟩
     by_cases e : j < m
     . exact .inl ⟨j, e, h2⟩
     . have : j = m := by omega
       subst this
       by_cases hk : Lib.keeps d j = true
       . right; rw [if_pos hk]; simp [h2]
       . left
         unfold Lib.keeps at hk
         simp at hk
         exact ⟨j - 1, by omega, by rw [<- hk.2, h2]⟩
theorem compactUpTo_asc (d : Array Int) (hd : ∀ i j, i < j -> j < d.size -> d[i]! <= d[j]!) : ∀ m, m <= d.size -> (Lib.compactUpTo d m).Pairwise (· < ·)
 | 0, _ => by simp [Lib.compactUpTo]
 | m + 1, hm => by
   rw [Lib.compactUpTo_succ, List.pairwise_append]
   refine ⟨compactUpTo_asc d hd m (by omega), by split <;> simp, fun x hx y hy => ?_⟩
   split at hy
   . rename_i hk
     simp at hy
     subst hy
     obtain ⟨j, h1, rfl⟩ := (compactUpTo_mem d m (by omega) x).1 hx
     unfold Lib.keeps at hk
     simp at hk
     have h3 : d[m - 1]! <= d[m]! := hd _ _ (by omega) (by omega)
     have h4 : d[j]! <= d[m - 1]! := by
      by_cases e : j = m - 1
      . rw [e]; exact Int.le_refl _
      . exact hd _ _ (by omega) (by omega)
     have h5 : d[m]! ≠ d[m - 1]! := by
      rcases hk with h | h
      . omega
      . exact h
     omega
   . cases hy
theorem sortI_asc (xs : List Int) : (sortI xs).Pairwise (· <= ·) := by
 have := List.pairwise_mergeSort (le := fun x y : Int => decide (x <= y)) (fun a b c h1 h2 => by simp at *; omega) (fun a b => by simp; omega) xs
 unfold sortI
 exact this.imp (fun h => by simpa using h)
theorem sortI_mem {xs : List Int} {x : Int} : x ∈ sortI xs ↔ x ∈ xs := by
 unfold sortI
 exact List.mem_mergeSort
theorem sortI_len (xs : List Int) : (sortI xs).length = xs.length := List.length_mergeSort ..
theorem compact_asc {xs : List Int} (h : xs.Pairwise (· <= ·)) : (compactI xs).Pairwise (· < ·) := by
 refine compactUpTo_asc xs.toArray (fun i j hij hj => ?_) xs.length (by simp)
 have hj : j < xs.length := by simpa using hj
 rw [getElem!_pos xs.toArray i (by simp; omega), getElem!_pos xs.toArray j (by simp; omega)]
 simpa using List.pairwise_iff_getElem.1 h i j (by omega) hj hij
theorem compact_mem {xs : List Int} {x : Int} : x ∈ compactI xs ↔ x ∈ xs := by
 have := compactUpTo_mem xs.toArray xs.length (by simp) x
 refine this.trans ?_
 constructor
 . rintro ⟨j, hj, rfl⟩
   rw [getElem!_pos xs.toArray j (by simpa using hj)]
   simp
 . intro h
   obtain ⟨j, hj, rfl⟩ := List.getElem_of_mem h
   exact ⟨j, hj, by rw [getElem!_pos xs.toArray j (by simpa using hj)]; simp⟩
def lok (g : Graph) (a : Nat) (l : Link) : Bool := decide (l.1 = (a : Int)) && (decide (0 <= l.2.1) && decide (l.2.1 < (gN g : Int)))
def raw (g : Graph) (i a : Nat) : List Int := ((g.2.1.take i).filter (lok g a)).map fun l => l.2.1
theorem raw_len (g : Graph) (i a : Nat) : (raw g i a).length <= i := by
 unfold raw
 rw [List.length_map]
 have := List.length_filter_le (lok g a) (g.2.1.take i)
 simp at this
 omega
theorem raw_succ {g : Graph} {i a : Nat} (h : i < g.2.1.length) : raw g (i + 1) a = if lok g a (rd g.2.1 (i : Int)) = true then raw g i a ++ [(rd g.2.1 (i : Int)).2.1] else raw g i a := by
 unfold raw
 rw [List.take_add_one, rd_eq h, List.getElem?_eq_getElem h]
 simp only [Option.toList_some, List.filter_append, List.map_append]
 by_cases hl : lok g a g.2.1[i] = true
 . rw [if_pos hl]; simp [hl]
 . rw [if_neg hl]; simp [hl]
theorem raw_row (g : Graph) {a : Nat} (ha : a < gN g) : compactI (sortI (raw g g.2.1.length a)) = succs g a := by
 refine asc_unique (compact_asc (sortI_asc _)) (succs_sorted g a) fun x => ?_
 rw [compact_mem, sortI_mem, mem_succs]
 unfold raw lok
 simp only [List.take_length, List.mem_map, List.mem_filter, Bool.and_eq_true, decide_eq_true_eq]
 constructor
 . rintro ⟨l, ⟨h1, h2, h3, h4⟩, rfl⟩
   exact ⟨l.2.1.toNat, by omega, adj_iff.2 ⟨ha, by omega, l, h1, h2, by omega⟩⟩
 . rintro ⟨b, rfl, hb⟩
   obtain ⟨_, h2, l, h3, h4, h5⟩ := adj_iff.1 hb
   exact ⟨l, ⟨h3, h4, by omega, by omega⟩, h5⟩
theorem Next_prog (g : Graph) (hl : g.2.1.length <= 1000000) : Ev (fun k => graph_Next.f k g) (NEXT g) := by
 have hn := gN_le g
 simp only [graph_Next.f, size_ev, Option.bind_some]
 simp (disch := omega) only [↓if_pos, Int.toNat_natCast]
 rw [tb_rep]
 have e0 : tb (gN g) (fun _ => ([] : List Int)) = tb (gN g) (raw g 0) := tb_congr fun c hc => by simp [raw]
 rw [e0]
 refine Ev.up (c := fun k i => graph_Next.c4 k (gN g : Int) g.2.1 (g.2.1.length : Int) (i : Int) (tb (gN g) (raw g i))) (n := g.2.1.length) ?_ ?_ 0 (Nat.zero_le _)
 . refine .succ ?_
   simp (disch := omega) only [graph_Next.c4, ↓cdF, tb_len]
   have e1 : tb (gN g) (raw g g.2.1.length) = tb (gN g) (fun a => if a < 0 then succs g a else raw g g.2.1.length a) := tb_congr fun c hc => by simp
   rw [e1]
   refine Ev.up (c := fun k j => graph_Next.c10 k (gN g : Int) (j : Int) (tb (gN g) (fun a => if a < j then succs g a else raw g g.2.1.length a))) (n := gN g) ?_ ?_ 0 (Nat.zero_le _)
   . refine .succ ?_
     simp (disch := omega) only [graph_Next.c10, ↓cdF]
     refine (Ev.ret _).congr fun k => ?_
     congr 1
     exact tb_congr fun c hc => by simp [hc]
   . intro j hj hnext
     refine .succ ?_
     have hb := raw_len g g.2.1.length j
     have hb2 := compact_le (sortI (raw g g.2.1.length j))
     rw [sortI_len] at hb2
     simp (disch := first | omega | (simp only [tb_len, tb_rd hj, List.length_set, Nat.lt_irrefl, if_false]; omega)) only [graph_Next.c10, ↓cdT, ↓if_pos, ↓bleT, tb_rd hj, Int.toNat_natCast, Nat.lt_irrefl, if_false, tb_set, compactH.f, ↓reduceIte]
     rw [sortI_len]
     simp (disch := omega) only [↓bleT, Option.bind_some, w64_id]
     simp only [natC] at hnext
     refine hnext.congr fun k => ?_
     congr 1
     exact tb_congr fun c hc => by
      by_cases e : c = j
      . subst e; simp [raw_row g hc]
      . by_cases e2 : c < j
        . simp [e, e2, show c < j + 1 by omega]
        . simp [e, e2, show ¬ c < j + 1 by omega]
 . intro i hi hnext
   refine .succ ?_
   have hb := raw_len g i
   simp (disch := omega) only [graph_Next.c4, ↓cdT, ↓if_pos, Link.From, Link.To, w64_id, tb_len]
   simp only [natC] at hnext
   have hno : ∀ a, lok g a (rd g.2.1 (i : Int)) = false -> True := fun _ _ => trivial
   have skip : (∀ a, a < gN g -> lok g a (rd g.2.1 (i : Int)) = false) -> Ev (fun k => graph_Next.c4 k (gN g : Int) g.2.1 (g.2.1.length : Int) ((i : Int) + 1) (tb (gN g) (raw g i))) (NEXT g) := fun h => by
    refine hnext.congr fun k => ?_
    congr 1
    exact tb_congr fun c hc => by rw [raw_succ hi, h c hc]; simp
   generalize hL : rd g.2.1 (i : Int) = l at *
   refine .dec (fun h1 => ?_) fun h1 => skip fun a ha => by simp [lok]; omega
   refine .dec (fun h2 => ?_) fun h2 => skip fun a ha => by simp [lok]; omega
   refine .dec (fun h3 => ?_) fun h3 => skip fun a ha => by simp [lok]; omega
   refine .dec (fun h4 => ?_) fun h4 => skip fun a ha => by simp [lok]; omega
   obtain ⟨a, ha⟩ : ∃ a : Nat, l.1 = (a : Int) := ⟨l.1.toNat, by omega⟩
   have han : a < gN g := by omega
   have hba := hb a
   simp (disch := first | omega | (simp only [List.length_cons, List.length_nil]; omega)) only [ha, tb_rd han, ↓if_pos, ↓bleT, Int.toNat_natCast, ↓reduceIte, tb_set]
   refine hnext.congr fun k => ?_
   congr 1
   exact tb_congr fun c hc => by
    rw [raw_succ hi, hL]
    by_cases e : c = a
    . subst e
      rw [if_pos rfl, if_pos (by simp [lok]; omega)]
    . rw [if_neg e, if_neg (by simp [lok]; omega)]
end Go.Proofs.YtjddmekfeckphaaGreatV
namespace Go.Proofs.YtjddmekfeckphaaGreatV
open Go Go.Vm
theorem NEXT_len (g : Graph) : (NEXT g).length = gN g := tb_len _ _
theorem NEXT_rd {g : Graph} {a : Nat} (ha : a < gN g) : rd (NEXT g) (a : Int) = succs g a := tb_rd ha
end Go.Proofs.YtjddmekfeckphaaGreatV
namespace Go.Proofs.YtjddmekfeckphaaGreatV
open Go Go.Vm
def LL (x y : Link) : Prop := x.1 < y.1 \/ x.1 = y.1 /\ x.2.1 < y.2.1
theorem LL_irrefl (x : Link) : ¬ LL x x := by unfold LL; omega
theorem LL_asymm {x y : Link} (h : LL x y) : ¬ LL y x := by unfold LL at *; omega
theorem link_unique : ∀ {l m : List Link}, l.Pairwise LL -> m.Pairwise LL -> (∀ x, x ∈ l ↔ x ∈ m) -> l = m
 | [], [], _, _, _ => rfl
 | [], y :: m, _, _, h => by have := (h y).2 (by simp); cases this
 | x :: l, [], _, _, h => by have := (h x).1 (by simp); cases this
 | x :: l, y :: m, hl, hm, h => by
   obtain ⟨h1, h2⟩ := List.pairwise_cons.1 hl
   obtain ⟨h3, h4⟩ := List.pairwise_cons.1 hm
   have e : x = y := by
    rcases List.mem_cons.1 ((h x).1 (by simp)) with e | e
    . exact e
    . rcases List.mem_cons.1 ((h y).2 (by simp)) with e' | e'
      . exact e'.symm
      . exact absurd (h1 y e') (LL_asymm (h3 x e))
   subst e
   rw [link_unique h2 h4 fun z => ?_]
   constructor
   . intro hz
     rcases List.mem_cons.1 ((h z).1 (by simp [hz])) with e | e
     . subst e; exact absurd (h1 z hz) (LL_irrefl z)
     . exact e
   . intro hz
     rcases List.mem_cons.1 ((h z).2 (by simp [hz])) with e | e
     . subst e; exact absurd (h3 z hz) (LL_irrefl z)
     . exact e
theorem sort_links {xs ys : List Link} (hn : xs.Nodup) (hy : ys.Pairwise LL) (h : ∀ x, x ∈ xs ↔ x ∈ ys) : sortgraph_Turn_1 xs = ys := by
 unfold sortgraph_Turn_1
 have hp := List.mergeSort_perm xs (fun x y : Link => !(Go.Proofs.ltOf cfTurn) y x)
 have hs := List.pairwise_mergeSort (le := fun x y : Link => !(Go.Proofs.ltOf cfTurn) y x) (fun a b c h1 h2 => by
  simp only [Bool.not_eq_true'] at *
  exact cfTurn_swo.ntrans c b a h2 h1) (fun a b => by
  simp only [Bool.or_eq_true, Bool.not_eq_true']
  rw [<- Bool.not_eq_true, <- Bool.not_eq_true, cfTurn_lt, cfTurn_lt]
  omega) xs
 refine link_unique ?_ hy (fun x => by rw [hp.mem_iff, h])
 refine (hs.and (hp.nodup_iff.2 hn)).imp ?_
 intro a b ⟨h1, h2⟩
 simp only [Bool.not_eq_true'] at h1
 rcases Classical.em (Go.Proofs.ltOf cfTurn a b = true) with h3 | h3
 . exact cfTurn_lt.1 h3
 . exact absurd (cfTurn_total a b (by simpa using h3) h1) h2
def col (g : Graph) (b m : Nat) : List Link := pick (fun a => adj g a b) (fun a => ((b : Int), (a : Int), ())) m
def LK (g : Graph) (b a : Nat) : List Link := (List.range b).flatMap (fun b => col g b (gN g)) ++ col g b a
def LINKS (g : Graph) : List Link := (List.range (gN g)).flatMap fun b => col g b (gN g)
def TURN (g : Graph) : Graph := ((gN g : Int), LINKS g, ())
theorem mem_col {g : Graph} {b m : Nat} {x : Link} : x ∈ col g b m ↔ ∃ a, a < m /\ adj g a b = true /\ x = ((b : Int), (a : Int), ()) := by
 unfold col pick
 simp only [List.mem_map, List.mem_filter, List.mem_range]
 constructor
 . rintro ⟨a, ⟨h1, h2⟩, rfl⟩; exact ⟨a, h1, h2, rfl⟩
 . rintro ⟨a, h1, h2, rfl⟩; exact ⟨a, ⟨h1, h2⟩, rfl⟩
theorem col_asc (g : Graph) (b m : Nat) : (col g b m).Pairwise LL := by
 unfold col pick
 rw [List.pairwise_map]
 refine List.Pairwise.imp (fun h => ?_) ((List.pairwise_lt_range).filter _)
 unfold LL
 right
 exact ⟨rfl, by simp only; omega⟩
theorem mem_LINKS {g : Graph} {x : Link} : x ∈ LINKS g ↔ ∃ b a, adj g a b = true /\ x = ((b : Int), (a : Int), ()) := by
 unfold LINKS
 simp only [List.mem_flatMap, List.mem_range, mem_col]
 constructor
 . rintro ⟨b, _, a, _, h, e⟩; exact ⟨b, a, h, e⟩
 . rintro ⟨b, a, h, e⟩; exact ⟨b, adj_r h, a, adj_l h, h, e⟩
theorem flat_asc (g : Graph) : ∀ m : Nat, ((List.range m).flatMap fun b => col g b (gN g)).Pairwise LL
 | 0 => by simp
 | m + 1 => by
   rw [List.range_succ, List.flatMap_append, List.pairwise_append]
   refine ⟨flat_asc g m, by simpa using col_asc g m _, fun x hx y hy => ?_⟩
   simp only [List.mem_flatMap, List.mem_range, mem_col] at hx
   simp only [List.flatMap_cons, List.flatMap_nil, List.append_nil, mem_col] at hy
   obtain ⟨b, hb, a, _, _, rfl⟩ := hx
   obtain ⟨a', _, _, rfl⟩ := hy
   left
   show (b : Int) < (m : Int)
   omega
def rowK (g : Graph) (v : Nat) (l : List Int) : List Link := l.map fun w => (w, (v : Int), ())
def LAID (g : Graph) (v : Nat) : List Link := (List.range v).flatMap fun v => rowK g v (succs g v)
theorem mem_LAID {g : Graph} {m : Nat} {x : Link} : x ∈ LAID g m ↔ ∃ b a, a < m /\ adj g a b = true /\ x = ((b : Int), (a : Int), ()) := by
 unfold LAID rowK
 simp only [List.mem_flatMap, List.mem_range, List.mem_map, mem_succs]
 constructor
 . rintro ⟨a, h1, w, ⟨b, rfl, h⟩, rfl⟩; exact ⟨b, a, h1, h, rfl⟩
 . rintro ⟨b, a, h1, h, rfl⟩; exact ⟨a, h1, _, ⟨b, rfl, h⟩, rfl⟩
theorem LAID_nodup (g : Graph) : ∀ m : Nat, (LAID g m).Nodup
 | 0 => by simp [LAID]
 | m + 1 => by
   unfold LAID
   rw [List.range_succ, List.flatMap_append, List.nodup_append]
   refine ⟨LAID_nodup g m, ?_, fun x hx y hy e => ?_⟩
   . simp only [List.flatMap_cons, List.flatMap_nil, List.append_nil, rowK]
     refine List.Pairwise.map _ ?_ (succs_sorted g m)
     intro a b h e
     have : a = b := congrArg Prod.fst e
     omega
   . obtain ⟨b, a, h1, _, rfl⟩ := mem_LAID.1 hx
     simp only [List.flatMap_cons, List.flatMap_nil, List.append_nil, rowK, List.mem_map] at hy
     obtain ⟨w, _, rfl⟩ := hy
     have : (a : Int) = (m : Int) := congrArg (fun z : Link => z.2.1) e
     omega
theorem LAID_succ (g : Graph) (m : Nat) : LAID g (m + 1) = LAID g m ++ rowK g m (succs g m) := by
 unfold LAID
 rw [List.range_succ, List.flatMap_append]
 simp
theorem LAID_len (g : Graph) : ∀ m, (LAID g m).length <= m * gN g
 | 0 => by simp [LAID]
 | m + 1 => by
   rw [LAID_succ, List.length_append, Nat.add_mul]
   have := LAID_len g m
   have := succs_len g m
   simp [rowK]; omega
theorem LAID_sorted (g : Graph) : sortgraph_Turn_1 (LAID g (gN g)) = LINKS g := by
 refine sort_links (LAID_nodup g _) (flat_asc g _) fun x => ?_
 rw [mem_LAID, mem_LINKS]
 exact ⟨fun ⟨b, a, _, h, e⟩ => ⟨b, a, h, e⟩, fun ⟨b, a, h, e⟩ => ⟨b, a, adj_l h, h, e⟩⟩
theorem Turn_prog (g : Graph) (hn : gN g <= 1000) (hl : g.2.1.length <= 1000000) : Ev (fun k => graph_Turn.f k g) (TURN g) := by
 have hsz : ∀ v, v <= gN g -> v * gN g <= 1000000 := fun v hv => Nat.le_trans (Nat.mul_le_mul hv hn) (by omega)
 simp only [graph_Turn.f, size_ev, Option.bind_some]
 refine .bind (Next_prog g hl) ?_
 simp only [NEXT_len]
 refine Ev.up (c := fun k v => graph_Turn.c3 k (NEXT g) (gN g : Int) (v : Int) 0 (gN g : Int) (LAID g v)) (n := gN g) ?_ ?_ 0 (Nat.zero_le _)
 . refine .succ ?_
   have := LAID_len g (gN g)
   have := hsz _ (Nat.le_refl _)
   simp (disch := omega) only [graph_Turn.c3, ↓cdF, ↓bleT, LAID_sorted]
   exact .ret _
 . intro v hv hnext
   refine .succ ?_
   simp only [natC] at hnext
   simp (disch := first | omega | (rw [NEXT_len]; omega)) only [graph_Turn.c3, ↓cdT, ↓if_pos, NEXT_rd hv]
   have h1 := LAID_len g v
   have h2 := hsz v (by omega)
   have h3 := succs_len g v
   refine Ev.up (c := fun k j => graph_Turn.c6 k (v : Int) (NEXT g) (gN g : Int) (v : Int) (succs g v) ((succs g v).length : Int) (j : Int) 0 (gN g : Int) (LAID g v ++ rowK g v ((succs g v).take j))) (n := (succs g v).length) ?_ ?_ 0 (Nat.zero_le _) |> fun h => by simpa [rowK] using h
   . refine .succ ?_
     simp (disch := omega) only [graph_Turn.c6, ↓cdF, w64_id]
     refine hnext.congr fun k => ?_
     rw [LAID_succ, List.take_length]
   . intro j hj h4
     refine .succ ?_
     simp only [natC] at h4
     have h5 : (rowK g v ((succs g v).take j)).length <= gN g := by simp [rowK]; omega
     simp (disch := first | omega | (simp only [List.length_append, List.length_cons, List.length_nil]; omega)) only [graph_Turn.c6, ↓cdT, ↓if_pos, ↓bleT, w64_id]
     refine h4.congr fun k => ?_
     rw [List.append_assoc]
     congr 2
     unfold rowK
     rw [List.take_add_one, List.map_append, rd_eq hj, List.getElem?_eq_getElem hj]
     rfl
end Go.Proofs.YtjddmekfeckphaaGreatV
namespace Go.Proofs.YtjddmekfeckphaaGreatV
open Go Go.Vm
def g0 : Graph := (2, [(1, 0, ())], ())
theorem take_mem_succ {l : List Int} {j : Nat} (hj : j < l.length) (x : Int) : x ∈ l.take (j + 1) ↔ x ∈ l.take j \/ rd l (j : Int) = x := by
 rw [List.take_add_one, List.getElem?_eq_getElem hj, rd_eq hj, List.mem_append]
 simp only [Option.toList_some, List.mem_singleton]
 exact or_congr Iff.rfl eq_comm
def found (g : Graph) (b a j : Nat) : Nat := (LK g b a).length + if (b : Int) ∈ (succs g a).take j then 1 else 0
theorem LINKS_len (g : Graph) : (LINKS g).length <= gN g * gN g := by
 rw [<- LAID_sorted]
 unfold sortgraph_Turn_1
 rw [List.length_mergeSort]
 exact LAID_len g _
end Go.Proofs.YtjddmekfeckphaaGreatV
namespace Go.Proofs.YtjddmekfeckphaaGreatV
open Go Go.Vm
end Go.Proofs.YtjddmekfeckphaaGreatV
namespace Go.Vm
open Go
def cn (f : Nat -> Bool) : Nat -> Nat
 | 0 => 0
 | m + 1 => cn f m + if f m = true then 1 else 0
theorem pigeon : ∀ (n : Nat) (l : List Int), l.Nodup -> (∀ x ∈ l, 0 <= x /\ x < (n : Int)) -> l.length <= n /\ (l.length = n -> ∀ v : Nat, v < n -> (v : Int) ∈ l)
 | 0, l, hn, h => by
   cases l with
   | nil => exact ⟨Nat.le_refl _, fun _ v hv => absurd hv (Nat.not_lt_zero _)⟩
   | cons x l => have := h x (by simp); omega
 | n + 1, l, hn, h => by
   by_cases hm : (n : Int) ∈ l
   . have h1 := pigeon n (l.erase (n : Int)) (hn.erase _) fun x hx => by
      have h2 := (List.Nodup.mem_erase_iff hn).1 hx
      have := h x h2.2
      have : x ≠ (n : Int) := h2.1
      omega
     have hlen := List.length_erase_of_mem hm
     have hpos : 0 < l.length := List.length_pos_of_mem hm
     refine ⟨by omega, fun hl v hv => ?_⟩
     by_cases e : v = n
     . rw [e]; exact hm
     . exact List.mem_of_mem_erase (h1.2 (by omega) v (by omega))
   . have h1 := pigeon n l hn fun x hx => by
      have := h x hx
      have : x ≠ (n : Int) := fun e => hm (e ▸ hx)
      omega
     exact ⟨by omega, fun hl => by omega⟩
end Go.Vm
namespace Go.Proofs.YtjddmekfeckphaaGreatV
open Go Go.Vm
end Go.Proofs.YtjddmekfeckphaaGreatV
namespace Go.Proofs.YtjddmekfeckphaaGreatV
open Go Go.Vm
theorem succs_rd {g : Graph} {a j : Nat} (hj : j < (succs g a).length) : ∃ w : Nat, rd (succs g a) (j : Int) = (w : Int) /\ adj g a w = true /\ w < gN g := by
 have : rd (succs g a) (j : Int) ∈ succs g a := rd_mem (by omega) (by omega)
 obtain ⟨w, e, h⟩ := mem_succs.1 this
 exact ⟨w, e, h, adj_r h⟩
end Go.Proofs.YtjddmekfeckphaaGreatV
namespace Go.Vm
open Go
noncomputable def dec (p : Prop) : Bool := @decide p (Classical.propDecidable p)
inductive TC (r : Nat -> Nat -> Prop) : Nat -> Nat -> Prop where
 | one {a b : Nat} : r a b -> TC r a b
 | step {a b c : Nat} : r a b -> TC r b c -> TC r a c
theorem TC.trans {r : Nat -> Nat -> Prop} {a b c : Nat} (h : TC r a b) (h' : TC r b c) : TC r a c := by
 induction h with
 | one h => exact .step h h'
 | step h _ ih => exact .step h (ih h')
theorem TC.snoc {r : Nat -> Nat -> Prop} {a b c : Nat} (h : TC r a b) (h' : r b c) : TC r a c := h.trans (.one h')
theorem TC.last {r : Nat -> Nat -> Prop} {a c : Nat} (h : TC r a c) : ∃ b, r b c /\ (b = a \/ TC r a b) := by
 induction h with
 | one h => exact ⟨_, h, .inl rfl⟩
 | step h _ ih =>
   obtain ⟨b, h1, h2⟩ := ih
   refine ⟨b, h1, .inr ?_⟩
   rcases h2 with rfl | h2
   . exact .one h
   . exact .step h h2
end Go.Vm
namespace Go.Proofs.YtjddmekfeckphaaGreatV
open Go Go.Vm
def adjW (g : Graph) (wo : Int) (a b : Nat) : Prop := adj g a b = true /\ (a : Int) ≠ wo /\ (b : Int) ≠ wo
end Go.Proofs.YtjddmekfeckphaaGreatV
namespace Go.Proofs.YtjddmekfeckphaaGreatV
open Go Go.Vm
structure BFS (g : Graph) (wo : Int) (s : Nat) (l : List Int) : Prop where
 nd : l.Nodup
 mem : ∀ x ∈ l, ∃ v : Nat, x = (v : Int) /\ v < gN g /\ (v : Int) ≠ wo /\ (v = s \/ TC (adjW g wo) s v)
 st : (s : Int) ∈ l
theorem BFS.len {g : Graph} {wo : Int} {s : Nat} {l : List Int} (h : BFS g wo s l) : l.length <= gN g := (pigeon' _ l h.nd fun x hx => by
 obtain ⟨v, rfl, hv, _⟩ := h.mem x hx
 omega)
where pigeon' : ∀ (n : Nat) (l : List Int), l.Nodup -> (∀ x ∈ l, 0 <= x /\ x < (n : Int)) -> l.length <= n
 | 0, l, hn, h => by
   cases l with
   | nil => exact Nat.le_refl _
   | cons x l => have := h x (by simp); omega
 | n + 1, l, hn, h => by
   by_cases hm : (n : Int) ∈ l
   . have h1 := pigeon' n (l.erase (n : Int)) (hn.erase _) fun x hx => by
      have h2 := (List.Nodup.mem_erase_iff hn).1 hx
      have := h x h2.2
      have : x ≠ (n : Int) := h2.1
      omega
     have hlen := List.length_erase_of_mem hm
     have hpos : 0 < l.length := List.length_pos_of_mem hm
     omega
   . have h1 := pigeon' n l hn fun x hx => by
      have := h x hx
      have : x ≠ (n : Int) := fun e => hm (e ▸ hx)
      omega
     omega
theorem BFS.app {g : Graph} {wo : Int} {s v w : Nat} {l : List Int} (h : BFS g wo s l) (hv : (v : Int) ∈ l) (hw : adj g v w = true) (hwo : (w : Int) ≠ wo) (hn : (w : Int) ∉ l) : BFS g wo s (l ++ [(w : Int)]) := by
 refine ⟨?_, fun x hx => ?_, List.mem_append_left _ h.st⟩
 . rw [List.nodup_append]
   refine ⟨h.nd, by simp, fun a ha b hb e => ?_⟩
   simp at hb
   subst hb; subst e
   exact hn ha
 . rcases List.mem_append.1 hx with hx | hx
   . exact h.mem x hx
   . simp at hx
     obtain ⟨v', e, h1, h2, h3⟩ := h.mem _ hv
     have : v = v' := by omega
     subst this
     refine ⟨w, hx, adj_r hw, hwo, .inr ?_⟩
     rcases h3 with rfl | h3
     . exact .one ⟨hw, h2, hwo⟩
     . exact h3.snoc ⟨hw, h2, hwo⟩
def SHUT (g : Graph) (wo : Int) (l : List Int) (i : Nat) : Prop := ∀ j : Nat, j < i -> j < l.length -> ∀ v w : Nat, rd l (j : Int) = (v : Int) -> adjW g wo v w -> (w : Int) ∈ l
theorem BFS.end {g : Graph} {wo : Int} {s : Nat} {l : List Int} (h : BFS g wo s l) (hs : SHUT g wo l l.length) (v : Nat) : (v : Int) ∈ l ↔ v = s \/ TC (adjW g wo) s v := by
 constructor
 . intro hv
   obtain ⟨v', e, _, _, h3⟩ := h.mem _ hv
   rw [show v = v' by omega]; exact h3
 . have key : ∀ a b, TC (adjW g wo) a b -> (a : Int) ∈ l -> (b : Int) ∈ l := by
    intro a b hab
    induction hab with
    | one h1 =>
      intro ha
      obtain ⟨j, hj, e⟩ := mem_rd ha
      exact hs j hj hj _ _ e h1
    | step h1 _ ih =>
      intro ha
      obtain ⟨j, hj, e⟩ := mem_rd ha
      exact ih (hs j hj hj _ _ e h1)
   rintro (rfl | h1)
   . exact h.st
   . exact key _ _ h1 h.st
end Go.Proofs.YtjddmekfeckphaaGreatV
namespace Go.Proofs.YtjddmekfeckphaaGreatV
open Go Go.Vm
end Go.Proofs.YtjddmekfeckphaaGreatV
namespace Go.Proofs.YtjddmekfeckphaaGreatV
open Go Go.Vm
def wt (ws : List Int) (v : Nat) : Int := if (ws.length : Int) <= (v : Int) then 0 else mn (mx (rd ws (v : Int)) (-1073741824)) 1073741824
end Go.Proofs.YtjddmekfeckphaaGreatV
namespace Go.Proofs.YtjddmekfeckphaaGreatV
open Go Go.Vm
def PT (g : Graph) (l : List Int) : Prop := (∀ i : Nat, i < l.length -> ∃ a : Nat, rd l (i : Int) = (a : Int) /\ a < gN g) /\ ∀ i : Nat, i + 1 < l.length -> ∃ a b : Nat, rd l (i : Int) = (a : Int) /\ rd l ((i + 1 : Nat) : Int) = (b : Int) /\ adj g a b = true
end Go.Proofs.YtjddmekfeckphaaGreatV
namespace Go.Vm
open Go
def sumN (f : Nat -> Nat) : Nat -> Nat
 | 0 => 0
 | m + 1 => sumN f m + f m
theorem sumN_le {f h : Nat -> Nat} : ∀ {m : Nat}, (∀ i, i < m -> f i <= h i) -> sumN f m <= sumN h m
 | 0, _ => Nat.le_refl _
 | m + 1, e => by have := sumN_le (m := m) fun i hi => e i (by omega); have := e m (by omega); simp only [sumN]; omega
theorem sumN_lt {f h : Nat -> Nat} {v : Nat} : ∀ {m : Nat}, (∀ i, i < m -> f i <= h i) -> v < m -> f v < h v -> sumN f m < sumN h m
 | 0, _, hv, _ => by omega
 | m + 1, e, hv, hlt => by
   simp only [sumN]
   by_cases em : v = m
   . subst em
     have := sumN_le (m := v) fun i hi => e i (by omega)
     omega
   . have := sumN_lt (m := m) (fun i hi => e i (by omega)) (by omega) hlt
     have := e m (by omega)
     omega
theorem nodup_idx {l : List Int} (h : l.Nodup) {i j : Nat} (hi : i < l.length) (hj : j < l.length) (e : rd l (i : Int) = rd l (j : Int)) : i = j := by
 rw [rd_eq hi, rd_eq hj] at e
 rw [List.nodup_iff_pairwise_ne, List.pairwise_iff_getElem] at h
 rcases Nat.lt_trichotomy i j with h1 | h1 | h1
 . exact absurd e (h i j hi hj h1)
 . exact h1
 . exact absurd e.symm (h j i hj hi h1)
theorem pigeon2 : ∀ (n : Nat) (l : List Int), l.Nodup -> (∀ v : Nat, v < n -> (v : Int) ∈ l) -> n <= l.length
 | 0, _, _, _ => Nat.zero_le _
 | n + 1, l, hn, h => by
   have hm := h n (by omega)
   have := pigeon2 n (l.erase (n : Int)) (hn.erase _) fun v hv => (List.Nodup.mem_erase_iff hn).2 ⟨by omega, h v (by omega)⟩
   have hlen := List.length_erase_of_mem hm
   have := List.length_pos_of_mem hm
   omega
end Go.Vm
namespace Go.Proofs.YtjddmekfeckphaaGreatV
open Go Go.Vm
def CYC (g : Graph) (c : List Int) : Prop := c.Nodup /\ PT g c /\ c ≠ [] /\ ∃ a b : Nat, rd c ((c.length - 1 : Nat) : Int) = (a : Int) /\ rd c 0 = (b : Int) /\ adj g a b = true
structure CI (g : Graph) (S A : Nat -> Int) (W FIN : List Int) : Prop where
 st : ∀ v, v < gN g -> S v = 0 \/ S v = 1 \/ S v = 2
 nd : W.Nodup
 way : ∀ x, x ∈ W ↔ ∃ v : Nat, x = (v : Int) /\ v < gN g /\ S v = 1
 fin : ∀ x, x ∈ FIN ↔ ∃ v : Nat, x = (v : Int) /\ v < gN g /\ S v = 2
 pt : PT g W
 ord : ∀ i : Nat, i < FIN.length -> ∀ a b : Nat, rd FIN (i : Int) = (a : Int) -> adj g a b = true -> (b : Int) ∈ FIN.take i
 at0 : ∀ v, v < gN g -> 0 <= A v /\ A v <= ((succs g v).length : Int) /\ (S v = 0 -> A v = 0)
 look : ∀ i : Nat, i < W.length -> ∀ v w : Nat, rd W (i : Int) = (v : Int) -> (w : Int) ∈ (succs g v).take (A v).toNat -> S w = 2 \/ (i + 1 < W.length /\ rd W ((i + 1 : Nat) : Int) = (w : Int))
def set1 (f : Nat -> Int) (v : Nat) (x : Int) : Nat -> Int := fun u => if u = v then x else f u
theorem set1_eq (f : Nat -> Int) (v : Nat) (x : Int) : set1 f v x v = x := by simp [set1]
theorem set1_ne {f : Nat -> Int} {v u : Nat} {x : Int} (h : u ≠ v) : set1 f v x u = f u := by simp [set1, h]
theorem tb_set1 {n : Nat} {f : Nat -> Int} {v : Nat} {x : Int} : (tb n f).set v x = tb n (set1 f v x) := tb_set
def left (g : Graph) (S A : Nat -> Int) : Nat := sumN (fun v => ((succs g v).length - (A v).toNat) + if S v = 2 then 0 else 1) (gN g)
theorem CI.len {g : Graph} {S A : Nat -> Int} {W FIN : List Int} (h : CI g S A W FIN) : W.length <= gN g := (pigeon _ _ h.nd fun x hx => by
 obtain ⟨v, rfl, hv, _⟩ := (h.way x).1 hx
 omega).1
theorem succs_mem_take {g : Graph} {v j : Nat} (hj : j < (succs g v).length) {w : Nat} (hw : rd (succs g v) (j : Int) = (w : Int)) (x : Nat) : (x : Int) ∈ (succs g v).take (j + 1) ↔ (x : Int) ∈ (succs g v).take j \/ w = x := by
 rw [take_mem_succ hj, hw]
 exact ⟨fun h => h.imp id (fun e => by omega), fun h => h.imp id (fun e => by omega)⟩
theorem CI.pop {g : Graph} {S A : Nat -> Int} {W FIN : List Int} {v : Nat} (h : CI g S A (W ++ [(v : Int)]) FIN) (hv : v < gN g) (ha : A v = ((succs g v).length : Int)) : CI g (set1 S v 2) A W (FIN ++ [(v : Int)]) := by
 have hnd := h.nd
 rw [List.nodup_append] at hnd
 have hvW : (v : Int) ∉ W := fun hm => hnd.2.2 _ hm _ (by simp) rfl
 have hS : S v = 1 := by
  obtain ⟨v', e, _, h1⟩ := (h.way (v : Int)).1 (by simp)
  rwa [show v = v' by omega]
 have hlast := h.look W.length (by simp) v
 refine ⟨fun u hu => ?_, hnd.1, fun x => ?_, fun x => ?_, ?_, fun i hi a b hra hab => ?_, fun u hu => ?_, fun i hi u w hru hw => ?_⟩
 . by_cases e : u = v
   . subst e; rw [set1_eq]; omega
   . rw [set1_ne e]; exact h.st u hu
 . constructor
   . intro hx
     obtain ⟨u, rfl, h1, h2⟩ := (h.way x).1 (List.mem_append_left _ hx)
     have e : u ≠ v := fun e => hvW (e ▸ hx)
     exact ⟨u, rfl, h1, by rw [set1_ne e]; exact h2⟩
   . rintro ⟨u, rfl, h1, h2⟩
     have e : u ≠ v := fun e => by subst e; rw [set1_eq] at h2; omega
     rw [set1_ne e] at h2
     rcases List.mem_append.1 ((h.way (u : Int)).2 ⟨u, rfl, h1, h2⟩) with h3 | h3
     . exact h3
     . simp at h3; omega
 . rw [List.mem_append, h.fin]
   constructor
   . rintro (⟨u, rfl, h1, h2⟩ | hx)
     . have e : u ≠ v := fun e => by subst e; omega
       exact ⟨u, rfl, h1, by rw [set1_ne e]; exact h2⟩
     . simp at hx
       exact ⟨v, hx, hv, set1_eq ..⟩
   . rintro ⟨u, rfl, h1, h2⟩
     by_cases e : u = v
     . subst e; exact .inr (by simp)
     . rw [set1_ne e] at h2; exact .inl ⟨u, rfl, h1, h2⟩
 . refine ⟨fun i hi => ?_, fun i hi => ?_⟩
   . have := h.pt.1 i (by simp; omega)
     rwa [rd_app_l hi] at this
   . have := h.pt.2 i (by simp; omega)
     rwa [rd_app_l (by omega), rd_app_l hi] at this
 . by_cases e : i < FIN.length
   . rw [rd_app_l e] at hra
     rw [List.take_append_of_le_length (by omega)]
     exact h.ord i e a b hra hab
   . have : i = FIN.length := by simp at hi; omega
     subst this
     rw [rd_app_at] at hra
     have e2 : v = a := by omega
     subst e2
     rw [List.take_append_of_le_length (Nat.le_refl _), List.take_length]
     have hb := hlast b rd_app_at (by
      rw [ha, Int.toNat_natCast, List.take_length]
      exact mem_succs.2 ⟨b, rfl, hab⟩)
     rcases hb with hb | ⟨hb, _⟩
     . exact (h.fin _).2 ⟨b, rfl, adj_r hab, hb⟩
     . simp at hb
 . refine ⟨(h.at0 u hu).1, (h.at0 u hu).2.1, fun h1 => ?_⟩
   by_cases e : u = v
   . subst e; rw [set1_eq] at h1; omega
   . rw [set1_ne e] at h1; exact (h.at0 u hu).2.2 h1
 . have h1 := h.look i (by simp; omega) u w (by rw [rd_app_l hi]; exact hru) hw
   rcases h1 with h1 | ⟨h1, h2⟩
   . left
     by_cases e : w = v
     . subst e; exact set1_eq ..
     . rw [set1_ne e]; exact h1
   . by_cases e : i + 1 < W.length
     . rw [rd_app_l e] at h2
       exact .inr ⟨e, h2⟩
     . have : i + 1 = W.length := by simp at h1; omega
       rw [this, rd_app_at] at h2
       left
       rw [show w = v by omega]; exact set1_eq ..
theorem CI.skip {g : Graph} {S A : Nat -> Int} {W FIN : List Int} {v w j : Nat} (h : CI g S A (W ++ [(v : Int)]) FIN) (hv : v < gN g) (ha : A v = (j : Int)) (hj : j < (succs g v).length) (hw : rd (succs g v) (j : Int) = (w : Int)) (hS : S w = 2) : CI g S (set1 A v ((j : Int) + 1)) (W ++ [(v : Int)]) FIN := by
 have hvS : S v = 1 := by
  obtain ⟨v', e, _, h1⟩ := (h.way (v : Int)).1 (by simp)
  rwa [show v = v' by omega]
 refine { h with at0 := fun u hu => ?_, look := fun i hi u x hru hx => ?_ }
 . by_cases e : u = v
   . subst e; rw [set1_eq]; exact ⟨by omega, by omega, fun h => by omega⟩
   . rw [set1_ne e]; exact h.at0 u hu
 . by_cases e : u = v
   . subst e
     rw [set1_eq, show ((j : Int) + 1).toNat = j + 1 by omega, succs_mem_take hj hw] at hx
     rcases hx with hx | rfl
     . exact h.look i hi u x hru (by rw [ha, Int.toNat_natCast]; exact hx)
     . exact .inl hS
   . rw [set1_ne e] at hx
     exact h.look i hi u x hru hx
theorem CI.push {g : Graph} {S A : Nat -> Int} {W FIN : List Int} {v w j : Nat} (h : CI g S A (W ++ [(v : Int)]) FIN) (hv : v < gN g) (ha : A v = (j : Int)) (hj : j < (succs g v).length) (hw : rd (succs g v) (j : Int) = (w : Int)) (hadj : adj g v w = true) (hS : S w = 0) : CI g (set1 S w 1) (set1 A v ((j : Int) + 1)) (W ++ [(v : Int)] ++ [(w : Int)]) FIN := by
 have hvS : S v = 1 := by
  obtain ⟨v', e, _, h1⟩ := (h.way (v : Int)).1 (by simp)
  rwa [show v = v' by omega]
 have hwn := adj_r hadj
 have hwv : w ≠ v := fun e => by subst e; omega
 have hwW : (w : Int) ∉ W ++ [(v : Int)] := fun hm => by
  obtain ⟨u, e, _, h1⟩ := (h.way _).1 hm
  rw [<- show w = u by omega] at h1; omega
 refine ⟨fun u hu => ?_, ?_, fun x => ?_, fun x => ?_, ?_, h.ord, fun u hu => ?_, fun i hi u x hru hx => ?_⟩
 . by_cases e : u = w
   . subst e; rw [set1_eq]; omega
   . rw [set1_ne e]; exact h.st u hu
 . rw [List.nodup_append]
   refine ⟨h.nd, by simp, fun a ha b hb e => ?_⟩
   simp at hb; subst hb; subst e
   exact hwW ha
 . rw [List.mem_append, h.way]
   constructor
   . rintro (⟨u, rfl, h1, h2⟩ | hx)
     . have e : u ≠ w := fun e => by subst e; omega
       exact ⟨u, rfl, h1, by rw [set1_ne e]; exact h2⟩
     . simp at hx
       exact ⟨w, hx, hwn, set1_eq ..⟩
   . rintro ⟨u, rfl, h1, h2⟩
     by_cases e : u = w
     . subst e; exact .inr (by simp)
     . rw [set1_ne e] at h2; exact .inl ⟨u, rfl, h1, h2⟩
 . rw [h.fin]
   constructor
   . rintro ⟨u, rfl, h1, h2⟩
     have e : u ≠ w := fun e => by subst e; omega
     exact ⟨u, rfl, h1, by rw [set1_ne e]; exact h2⟩
   . rintro ⟨u, rfl, h1, h2⟩
     have e : u ≠ w := fun e => by subst e; rw [set1_eq] at h2; omega
     rw [set1_ne e] at h2
     exact ⟨u, rfl, h1, h2⟩
 . refine ⟨fun i hi => ?_, fun i hi => ?_⟩
   . by_cases e : i < (W ++ [(v : Int)]).length
     . rw [rd_app_l e]; exact h.pt.1 i e
     . have : i = (W ++ [(v : Int)]).length := by simp at hi e ⊢; omega
       subst this
       rw [rd_app_at]
       exact ⟨w, rfl, hwn⟩
   . by_cases e : i + 1 < (W ++ [(v : Int)]).length
     . rw [rd_app_l (by omega), rd_app_l e]; exact h.pt.2 i e
     . have e2 : i = W.length := by simp at hi e; omega
       subst e2
       refine ⟨v, w, ?_, ?_, hadj⟩
       . rw [rd_app_l (by simp)]; exact rd_app_at
       . rw [show W.length + 1 = (W ++ [(v : Int)]).length by simp]; exact rd_app_at
 . by_cases e : u = v
   . subst e
     rw [set1_eq, set1_ne (Ne.symm hwv)]
     exact ⟨by omega, by omega, fun h => by omega⟩
   . rw [set1_ne e]
     refine ⟨(h.at0 u hu).1, (h.at0 u hu).2.1, fun h1 => ?_⟩
     by_cases e2 : u = w
     . subst e2; rw [set1_eq] at h1; omega
     . rw [set1_ne e2] at h1; exact (h.at0 u hu).2.2 h1
 . have keep : S x = 2 -> set1 S w 1 x = 2 := fun h2 => by
    rw [set1_ne (fun e => by subst e; omega)]; exact h2
   by_cases e : i < (W ++ [(v : Int)]).length
   . rw [rd_app_l e] at hru
     by_cases e2 : u = v
     . subst e2
       -- the last one before
       have hil : i = W.length := by
        have h1 : rd (W ++ [(u : Int)]) ((W.length : Nat) : Int) = (u : Int) := rd_app_at
        have h2 := h.nd
        exact nodup_idx h2 e (by simp) (hru.trans h1.symm)
       rw [set1_eq, show ((j : Int) + 1).toNat = j + 1 by omega, succs_mem_take hj hw] at hx
       rcases hx with hx | rfl
       . rcases h.look i e u x hru (by rw [ha, Int.toNat_natCast]; exact hx) with h3 | ⟨h3, _⟩
         . exact .inl (keep h3)
         . subst hil; simp at h3
       . right
         subst hil
         refine ⟨by simp, ?_⟩
         rw [show W.length + 1 = (W ++ [(u : Int)]).length by simp]; exact rd_app_at
     . rw [set1_ne e2] at hx
       rcases h.look i e u x hru hx with h3 | ⟨h3, h4⟩
       . exact .inl (keep h3)
       . exact .inr ⟨by simp at h3 ⊢; omega, by rw [rd_app_l h3]; exact h4⟩
   . have : i = (W ++ [(v : Int)]).length := by simp at hi e ⊢; omega
     subst this
     rw [rd_app_at] at hru
     have e2 : u = w := by omega
     subst e2
     rw [set1_ne hwv, (h.at0 u hwn).2.2 hS] at hx
     simp at hx
theorem CI.cyc {g : Graph} {S A : Nat -> Int} {W FIN : List Int} {v w y : Nat} (h : CI g S A (W ++ [(v : Int)]) FIN) (hy : y < (W ++ [(v : Int)]).length) (hw : rd (W ++ [(v : Int)]) (y : Int) = (w : Int)) (hadj : adj g v w = true) : CYC g ((W ++ [(v : Int)]).drop y) := by
 have hl : (W ++ [(v : Int)]).length = W.length + 1 := by simp
 have rdd : ∀ i : Nat, i + y < (W ++ [(v : Int)]).length -> rd ((W ++ [(v : Int)]).drop y) (i : Int) = rd (W ++ [(v : Int)]) ((i + y : Nat) : Int) := fun i hi => by
  rw [rd_eq (by simp; omega), rd_eq hi, List.getElem_drop]
  congr 1; omega
 refine ⟨h.nd.sublist (List.drop_sublist _ _), ⟨fun i hi => ?_, fun i hi => ?_⟩, fun e => ?_, v, w, ?_, ?_, hadj⟩
 . rw [List.length_drop] at hi
   rw [rdd i (by omega)]; exact h.pt.1 _ (by omega)
 . rw [List.length_drop] at hi
   rw [rdd i (by omega), rdd (i + 1) (by omega)]
   have := h.pt.2 (i + y) (by omega)
   rwa [show i + y + 1 = i + 1 + y by omega] at this
 . have := congrArg List.length e
   simp at this
   omega
 . rw [List.length_drop, rdd _ (by omega), show (W ++ [(v : Int)]).length - y - 1 + y = W.length by omega]
   exact rd_app_at
 . have := rdd 0 (by omega)
   rw [Nat.zero_add] at this
   rw [<- hw, <- this]; rfl
end Go.Proofs.YtjddmekfeckphaaGreatV
namespace Go.Proofs.YtjddmekfeckphaaGreatV
open Go Go.Vm
end Go.Proofs.YtjddmekfeckphaaGreatV
namespace Go.Vm
open Go
def it (O : Nat -> Nat) : Nat -> Nat -> Nat
 | 0, a => a
 | k + 1, a => it O k (O a)
def AN (O : Nat -> Nat) (a x : Nat) : Prop := ∃ k, it O k a = x
theorem AN.refl {O : Nat -> Nat} (a : Nat) : AN O a a := ⟨0, rfl⟩
theorem AN.up {O : Nat -> Nat} {a x : Nat} (h : AN O (O a) x) : AN O a x := by
 obtain ⟨k, h⟩ := h
 exact ⟨k + 1, h⟩
theorem it_add (O : Nat -> Nat) : ∀ (k l a : Nat), it O (k + l) a = it O l (it O k a)
 | 0, l, a => by simp [it]
 | k + 1, l, a => by
   rw [show k + 1 + l = (k + l) + 1 by omega]
   exact it_add O k l (O a)
theorem AN.trans {O : Nat -> Nat} {a b c : Nat} (h : AN O a b) (h' : AN O b c) : AN O a c := by
 obtain ⟨k, rfl⟩ := h
 obtain ⟨l, rfl⟩ := h'
 exact ⟨k + l, it_add O k l a⟩
theorem AN.cases {O : Nat -> Nat} {a x : Nat} (h : AN O a x) : x = a \/ AN O (O a) x := by
 obtain ⟨k, h⟩ := h
 cases k with
 | zero => exact .inl h.symm
 | succ k => exact .inr ⟨k, h⟩
theorem AN.lin {O : Nat -> Nat} {u a b : Nat} (h : AN O u a) (h' : AN O u b) : AN O a b \/ AN O b a := by
 obtain ⟨k, rfl⟩ := h
 obtain ⟨l, rfl⟩ := h'
 by_cases e : k <= l
 . exact .inl ⟨l - k, by rw [<- it_add, show k + (l - k) = l by omega]⟩
 . exact .inr ⟨k - l, by rw [<- it_add, show l + (k - l) = k by omega]⟩
structure TREE (root : Nat) (pl : Nat -> Nat) (O : Nat -> Nat) (P : Nat -> Prop) : Prop where
 p0 : P root
 o0 : O root = root
 dn : ∀ v, P v -> v ≠ root -> P (O v) /\ pl (O v) < pl v
section
variable {root : Nat} {pl O O' : Nat -> Nat} {P : Nat -> Prop}
theorem AN.top (o0 : O root = root) {x : Nat} (h : AN O root x) : x = root := by
 obtain ⟨k, h⟩ := h
 have : ∀ k, it O k root = root := by
  intro k
  induction k with
  | zero => rfl
  | succ k ih => show it O k (O root) = root; rw [o0]; exact ih
 rw [<- h, this]
theorem TREE.le (T : TREE root pl O P) : ∀ (k a : Nat), P a -> P (it O k a) /\ pl (it O k a) <= pl a /\ (it O k a = a \/ pl (it O k a) < pl a)
 | 0, a, h => ⟨h, Nat.le_refl _, .inl rfl⟩
 | k + 1, a, h => by
   show P (it O k (O a)) /\ pl (it O k (O a)) <= pl a /\ (it O k (O a) = a \/ pl (it O k (O a)) < pl a)
   by_cases e : a = root
   . have e2 : O a = a := by rw [e]; exact T.o0
     rw [e2]
     exact T.le k a h
   . obtain ⟨h1, h2⟩ := T.dn a h e
     obtain ⟨h3, h4, _⟩ := T.le k (O a) h1
     exact ⟨h3, by omega, .inr (by omega)⟩
theorem TREE.an (T : TREE root pl O P) {a x : Nat} (h : P a) (hx : AN O a x) : P x /\ pl x <= pl a /\ (x = a \/ pl x < pl a) := by
 obtain ⟨k, rfl⟩ := hx
 exact T.le k a h
theorem TREE.hi (T : TREE root pl O P) {y : Nat} (hy : y ≠ root) (he : ∀ u, u ≠ y -> O' u = O u) {u x : Nat} (hu : P u) (h : AN O u x) (hx : pl y <= pl x) : AN O' u x := by
 obtain ⟨k, h⟩ := h
 induction k generalizing u with
 | zero => exact ⟨0, h⟩
 | succ k ih =>
   have h' : it O k (O u) = x := h
   by_cases e : u = y
   . subst e
     obtain ⟨h1, h2⟩ := T.dn u hu hy
     have := T.le k (O u) h1
     rw [h'] at this
     omega
   . refine .up ?_
     rw [he u e]
     refine ih ?_ h'
     by_cases e2 : u = root
     . rw [e2, T.o0]; exact T.p0
     . exact (T.dn u hu e2).1
theorem AN.off {y : Nat} (he : ∀ u, u ≠ y -> O' u = O u) {u x : Nat} (hn : ¬ AN O u y) : AN O' u x ↔ AN O u x := by
 constructor
 . rintro ⟨k, h⟩
   induction k generalizing u with
   | zero => exact ⟨0, h⟩
   | succ k ih =>
     have e : u ≠ y := fun e => hn (e ▸ .refl _)
     have h' : it O' k (O' u) = x := h
     rw [he u e] at h'
     exact .up (ih (fun h2 => hn (.up h2)) h')
 . rintro ⟨k, h⟩
   induction k generalizing u with
   | zero => exact ⟨0, h⟩
   | succ k ih =>
     have e : u ≠ y := fun e => hn (e ▸ .refl _)
     have h' : it O k (O u) = x := h
     rw [<- he u e] at h'
     exact .up (by rw [he u e] at h' ⊢; exact ih (fun h2 => hn (.up h2)) h')
end
def AV (r : Nat -> Nat -> Prop) (root x v : Nat) : Prop := x ≠ root /\ x ≠ v /\ (v = root \/ TC (fun a b => r a b /\ a ≠ x /\ b ≠ x) root v)
theorem AV.step {r : Nat -> Nat -> Prop} {root x a b : Nat} (h : AV r root x a) (hr : r a b) (hb : x ≠ b) : AV r root x b := by
 refine ⟨h.1, hb, .inr ?_⟩
 rcases h.2.2 with rfl | h2
 . exact .one ⟨hr, Ne.symm h.1, Ne.symm hb⟩
 . exact h2.snoc ⟨hr, Ne.symm h.2.1, Ne.symm hb⟩
def GP (r : Nat -> Nat -> Prop) (pl : Nat -> Nat) (k a b : Nat) : Prop := TC (fun a b => r a b /\ k < pl b) a b
theorem GP.weak {r : Nat -> Nat -> Prop} {pl : Nat -> Nat} {k l a b : Nat} (hkl : k <= l) (h : GP r pl l a b) : GP r pl k a b := by
 induction h with
 | one h => exact .one ⟨h.1, by omega⟩
 | step h _ ih => exact .step ⟨h.1, by omega⟩ ih
theorem AV.way {r : Nat -> Nat -> Prop} {pl : Nat -> Nat} {root x k a b : Nat} (h : GP r pl k a b) (hx : pl x <= k) : AV r root x a -> AV r root x b := by
 induction h with
 | one h => exact fun ha => ha.step h.1 (fun e => by rw [<- e] at h; omega)
 | step h _ ih => exact fun ha => ih (ha.step h.1 (fun e => by rw [<- e] at h; omega))
structure DG (r : Nat -> Nat -> Prop) (R : Nat -> Prop) (root : Nat) (pl f : Nat -> Nat) : Prop where
 rt : R root
 cl : ∀ a b, R a -> r a b -> R b
 inj : ∀ a b, R a -> R b -> pl a = pl b -> a = b
 fwd : ∀ v, R v -> v ≠ root -> R (f v) /\ r (f v) v /\ pl (f v) < pl v
structure CK (r : Nat -> Nat -> Prop) (R : Nat -> Prop) (root : Nat) (pl f : Nat -> Nat) (O : Nat -> Nat) (P : Nat -> Prop) (cur : Nat) : Prop where
 tr : TREE root pl O P
 pr : ∀ v, P v -> R v
 pf : ∀ v, P v -> v ≠ root -> P (f v)
 gp : ∀ v, P v -> v ≠ root -> GP r pl (pl (O v)) (O v) v
 dom : ∀ v, P v -> ∀ x, ¬ AV r root x v -> AN O v x
 q2 : ∀ v, P v -> v ≠ root -> ∀ a, AN O (O v) a -> (pl v < cur \/ cur <= pl a) -> AN O (f v) a
 s5 : ∀ v, P v -> v ≠ root -> ∀ x, (∀ p, P p -> r p v -> AN O p x) -> AN O (O v) x
section
variable {r : Nat -> Nat -> Prop} {R : Nat -> Prop} {root : Nat} {pl f O : Nat -> Nat} {P : Nat -> Prop} {cur : Nat}
theorem CK.way (C : CK r R root pl f O P cur) {u x : Nat} (hu : P u) (h : AN O u x) : x = u \/ GP r pl (pl x) x u := by
 obtain ⟨k, h⟩ := h
 induction k generalizing u with
 | zero => exact .inl h.symm
 | succ k ih =>
   have h' : it O k (O u) = x := h
   by_cases e : u = root
   . subst e
     rw [C.tr.o0] at h'
     exact ih hu h'
   . obtain ⟨h1, h2⟩ := C.tr.dn u hu e
     have g := C.gp u hu e
     right
     rcases ih h1 h' with h3 | h3
     . rw [h3]; exact g
     . have hle := C.tr.le k (O u) h1
       rw [h'] at hle
       exact h3.trans (g.weak (by omega))
def upd (O : Nat -> Nat) (y d : Nat) : Nat -> Nat := fun u => if u = y then d else O u
theorem upd_eq (O : Nat -> Nat) (y d : Nat) : upd O y d y = d := by simp [upd]
theorem upd_ne {O : Nat -> Nat} {y d u : Nat} (h : u ≠ y) : upd O y d u = O u := by simp [upd, h]
def MEET (r : Nat -> Nat -> Prop) (O : Nat -> Nat) (P : Nat -> Prop) (y d : Nat) : Prop := ∀ x, AN O d x ↔ ∀ p, P p -> r p y -> AN O p x
theorem CK.step (D : DG r R root pl f) (C : CK r R root pl f O P cur) {y d : Nat} (hy : R y) (hyr : y ≠ root) (hcur : pl y = cur) (hf : P (f y)) (hm : MEET r O P y d) :
 CK r R root pl f (upd O y d) (fun v => P v \/ v = y) (cur + 1) /\ (P y -> AN O (O y) d) := by
 obtain ⟨f1, f2, f3⟩ := D.fwd y hy hyr
 have hfd : AN O (f y) d := (hm d).1 (.refl d) _ hf f2
 obtain ⟨hPd, hdle, _⟩ := C.tr.an hf hfd
 have hdy : pl d < pl y := by omega
 have he : ∀ u, u ≠ y -> upd O y d u = O u := fun u hu => upd_ne hu
 have he' : ∀ u, u ≠ y -> O u = upd O y d u := fun u hu => (upd_ne hu).symm
 have T' : TREE root pl (upd O y d) (fun v => P v \/ v = y) := by
  refine ⟨.inl C.tr.p0, by rw [upd_ne (Ne.symm hyr)]; exact C.tr.o0, fun v hv hvr => ?_⟩
  by_cases e : v = y
  . subst e; rw [upd_eq]; exact ⟨.inl hPd, hdy⟩
  . rw [upd_ne e]
    have hv' : P v := hv.resolve_right e
    obtain ⟨h1, h2⟩ := C.tr.dn v hv' hvr
    exact ⟨.inl h1, h2⟩
 -- chains below y
 have low : ∀ {u x : Nat}, P u -> pl u < pl y -> (AN (upd O y d) u x ↔ AN O u x) := fun {u x} hu hlt => AN.off he (fun h => by have := (C.tr.an hu h).2.1; omega)
 have hiF : ∀ {u x : Nat}, P u -> AN O u x -> pl y <= pl x -> AN (upd O y d) u x := fun hu h hx => C.tr.hi hyr he hu h hx
 have hiB : ∀ {u x : Nat}, P u -> AN (upd O y d) u x -> pl y <= pl x -> AN O u x := fun hu h hx => T'.hi hyr he' (.inl hu) h hx
 have thru : ∀ {u x : Nat}, P u -> AN O u y -> AN (upd O y d) u x -> pl x < pl y -> AN (upd O y d) y x := fun {u x} hu h h2 hlt => by
  rcases (hiF hu h (Nat.le_refl _)).lin h2 with h3 | h3
  . exact h3
  . have := (T'.an (T'.an (.inl hu) h2).1 h3).2.1
    omega
 have ofy : ∀ {x : Nat}, AN (upd O y d) y x -> pl x < pl y -> AN O d x := fun {x} h hlt => by
  rcases h.cases with e | h
  . subst e; omega
  . rw [upd_eq] at h; exact (low hPd hdy).1 h
 have toy : ∀ {x : Nat}, AN O d x -> AN (upd O y d) y x := fun {x} h => .up (by rw [upd_eq]; exact (low hPd hdy).2 h)
 have shrink : P y -> ∀ x, AN O d x -> AN O (O y) x := fun hPy x h => C.s5 y hPy hyr x fun p hp hr => (hm x).1 h p hp hr
 have domy : ∀ x, ¬ AV r root x y -> AN (upd O y d) y x := fun x hx => by
  by_cases e : x = y
  . subst e; exact .refl _
  . refine toy ((hm x).2 fun p hp hr => C.dom p hp x fun h => hx (h.step hr e))
 refine ⟨⟨T', fun v hv => hv.elim (C.pr v) fun e => e ▸ hy, fun v hv hvr => ?_, fun v hv hvr => ?_, fun v hv x hx => ?_, fun v hv hvr a ha hor => ?_, fun v hv hvr x hx => ?_⟩, fun hPy => shrink hPy d (.refl d)⟩
 . rcases hv with hv | rfl
   . exact .inl (C.pf v hv hvr)
   . exact .inl hf
 . by_cases e : v = y
   . subst e
     rw [upd_eq]
     rcases C.way hf hfd with h | h
     . rw [h]; exact .one ⟨f2, f3⟩
     . exact h.snoc ⟨f2, hdy⟩
   . rw [upd_ne e]; exact C.gp v (hv.resolve_right e) hvr
 . by_cases e : v = y
   . subst e; exact domy x hx
   . have hv' := hv.resolve_right e
     have h0 := C.dom v hv' x hx
     by_cases hvy : AN O v y
     . by_cases hxy : pl y <= pl x
       . exact hiF hv' h0 hxy
       . refine (hiF hv' hvy (Nat.le_refl _)).trans (domy x fun h => hx ?_)
         rcases C.way hv' hvy with h2 | h2
         . exact absurd h2.symm e
         . exact AV.way h2 (by omega) h
     . exact (AN.off he hvy).2 h0
 . by_cases e : v = y
   . subst e
     rw [upd_eq] at ha
     exact (low hf f3).2 ((hm a).1 ((low hPd hdy).1 ha) _ hf f2)
   . have hv' := hv.resolve_right e
     rw [upd_ne e] at ha
     obtain ⟨k1, k2⟩ := C.tr.dn v hv' hvr
     have k3 := C.pf v hv' hvr
     have k4 := (D.fwd v (C.pr v hv') hvr).2.2
     rcases hor with h | h
     . have hlt : pl v < pl y := by
        rcases Nat.lt_or_ge (pl v) (pl y) with h2 | h2
        . exact h2
        . exact absurd (D.inj v y (C.pr v hv') hy (by omega)) e
       exact (low k3 (by omega)).2 (C.q2 v hv' hvr a ((low k1 (by omega)).1 ha) (.inl (by omega)))
     . exact hiF k3 (C.q2 v hv' hvr a (hiB k1 ha (by omega)) (.inr (by omega))) (by omega)
 . -- the predecessors' meeting point is above
   have hfv : P (f v) := by
    rcases hv with hv | rfl
    . exact C.pf v hv hvr
    . exact hf
   have hRv : R v := hv.elim (C.pr v) fun e => e ▸ hy
   obtain ⟨v1, v2, v3⟩ := D.fwd v hRv hvr
   have hxv := (T'.an (.inl hfv) (hx (f v) (.inl hfv) v2)).2.1
   by_cases e : v = y
   . subst e
     rw [upd_eq]
     have hlt : pl x < pl v := by omega
     by_cases hex : ∃ p, P p /\ r p v /\ AN O p v
     . obtain ⟨p, p1, p2, p3⟩ := hex
       exact (low hPd hdy).2 (ofy (thru p1 p3 (hx p (.inl p1) p2) hlt) hlt)
     . refine (low hPd hdy).2 ((hm x).2 fun p hp hr => ?_)
       exact (AN.off he (fun h => hex ⟨p, hp, hr, h⟩)).1 (hx p (.inl hp) hr)
   . have hv' := hv.resolve_right e
     rw [upd_ne e]
     obtain ⟨k1, k2⟩ := C.tr.dn v hv' hvr
     -- back to the old tree
     have back : ∀ p, P p -> r p v -> (pl y <= pl x \/ ∀ z, AN O d z -> AN O y z) -> AN O p x := fun p hp hr hor => by
      have h := hx p (.inl hp) hr
      by_cases hpy : AN O p y
      . by_cases hxy : pl y <= pl x
        . exact hiB hp h hxy
        . exact hpy.trans ((hor.resolve_left hxy) x (ofy (thru hp hpy h (by omega)) (by omega)))
      . exact (AN.off he hpy).1 h
     by_cases hvy : AN O (O v) y
     . have hPy : P y := (C.tr.an k1 hvy).1
       by_cases hxy : pl y <= pl x
       . exact hiF k1 (C.s5 v hv' hvr x fun p hp hr => back p hp hr (.inl hxy)) hxy
       . have h1 := C.q2 v hv' hvr y hvy (.inr (by omega))
         exact (hiF k1 hvy (Nat.le_refl _)).trans (thru hfv h1 (hx (f v) (.inl hfv) v2) (by omega))
     . refine (AN.off he hvy).2 (C.s5 v hv' hvr x fun p hp hr => ?_)
       by_cases hpy : AN O p y
       . have hPy : P y := (C.tr.an hp hpy).1
         exact back p hp hr (.inr fun z hz => .up (shrink hPy z hz))
       . exact (AN.off he hpy).1 (hx p (.inl hp) hr)
theorem CK.start (D : DG r R root pl f) (o0 : O root = root) {c : Nat} : CK r R root pl f O (fun v => v = root) c where
 tr := ⟨rfl, o0, fun v h h' => absurd h h'⟩
 pr v h := h ▸ D.rt
 pf v h h' := absurd h h'
 gp v h h' := absurd h h'
 dom v h x hx := by
  subst h
  by_cases e : x = v
  . rw [e]; exact .refl _
  . exact absurd ⟨e, e, .inl rfl⟩ hx
 q2 v h h' := absurd h h'
 s5 v h h' := absurd h h'
theorem CK.done (D : DG r R root pl f) (C : CK r R root pl f O P cur) (hall : ∀ v, R v -> P v) (hm : ∀ v, R v -> v ≠ root -> MEET r O P v (O v)) {v x : Nat} (hv : R v) : AN O v x ↔ ¬ AV r root x v := by
 refine ⟨fun h hav => ?_, C.dom v (hall v hv) x⟩
 obtain ⟨h1, h2, h3⟩ := hav
 have key : ∀ a b, TC (fun a b => r a b /\ a ≠ x /\ b ≠ x) a b -> R a -> ¬ AN O a x -> ¬ AN O b x := by
  intro a b hab
  have edge : ∀ a b, r a b -> b ≠ x -> R a -> ¬ AN O a x -> ¬ AN O b x := fun a b hr hb ha hn hx => by
   have hRb := D.cl a b ha hr
   by_cases e : b = root
   . subst e
     exact hb (AN.top C.tr.o0 hx).symm
   . rcases hx.cases with h | h
     . exact hb h.symm
     . exact hn ((hm b hRb e x).1 h a (hall a ha) hr)
  induction hab with
  | one h => exact edge _ _ h.1 h.2.2
  | step h _ ih => exact fun ha hn => ih (D.cl _ _ ha h.1) (edge _ _ h.1 h.2.2 ha hn)
 have h0 : ¬ AN O root x := fun h => h1 (AN.top C.tr.o0 h)
 rcases h3 with rfl | h3
 . exact h0 h
 . exact key _ _ h3 D.rt h0 h
end
end Go.Vm
namespace Go.Proofs.YtjddmekfeckphaaGreatV
open Go Go.Vm
end Go.Proofs.YtjddmekfeckphaaGreatV
namespace Go.Proofs.YtjddmekfeckphaaGreatV
open Go Go.Vm
def AJ (g : Graph) (a b : Nat) : Prop := adj g a b = true
def REA (g : Graph) (s v : Nat) : Prop := v = s \/ TC (AJ g) s v
theorem REA.step {g : Graph} {s a b : Nat} (h : REA g s a) (hr : adj g a b = true) : REA g s b := by
 rcases h with rfl | h
 . exact .inr (.one hr)
 . exact .inr (h.snoc hr)
structure DI (g : Graph) (s : Nat) (D : Nat -> Bool) (A : Nat -> Int) (W FIN : List Int) : Prop where
 dn : ∀ v, v < gN g -> (D v = true ↔ (v : Int) ∈ W \/ (v : Int) ∈ FIN)
 nd : (W ++ FIN).Nodup
 node : ∀ x, x ∈ W \/ x ∈ FIN -> ∃ v : Nat, x = (v : Int) /\ v < gN g /\ REA g s v
 pt : PT g W
 hd : W ≠ [] -> rd W 0 = (s : Int)
 at0 : ∀ v, v < gN g -> 0 <= A v /\ A v <= ((succs g v).length : Int) /\ (D v = false -> A v = 0)
 look : ∀ v w : Nat, (v : Int) ∈ W -> (w : Int) ∈ (succs g v).take (A v).toNat -> D w = true
 clo : ∀ v w : Nat, (v : Int) ∈ FIN -> adj g v w = true -> D w = true
 par : ∀ i : Nat, i < FIN.length -> ∀ v : Nat, rd FIN (i : Int) = (v : Int) -> v ≠ s -> ∃ p : Nat, adj g p v = true /\ ((p : Int) ∈ W \/ ∃ j : Nat, i < j /\ j < FIN.length /\ rd FIN (j : Int) = (p : Int))
 fst : (s : Int) ∈ W \/ (s : Int) ∈ FIN
 last : W = [] -> ∃ F' : List Int, FIN = F' ++ [(s : Int)]
def setB (f : Nat -> Bool) (v : Nat) (x : Bool) : Nat -> Bool := fun u => if u = v then x else f u
theorem setB_eq (f : Nat -> Bool) (v : Nat) (x : Bool) : setB f v x v = x := by simp [setB]
theorem setB_ne {f : Nat -> Bool} {v u : Nat} {x : Bool} (h : u ≠ v) : setB f v x u = f u := by simp [setB, h]
section
variable {g : Graph} {s : Nat} {D : Nat -> Bool} {A : Nat -> Int} {W FIN : List Int} {v w j : Nat}
theorem DI.len (h : DI g s D A W FIN) : W.length <= gN g /\ FIN.length <= gN g := by
 have h1 := List.nodup_append.1 h.nd
 exact ⟨(pigeon _ _ h1.1 fun x hx => by obtain ⟨v, rfl, hv, _⟩ := h.node x (.inl hx); omega).1, (pigeon _ _ h1.2.1 fun x hx => by obtain ⟨v, rfl, hv, _⟩ := h.node x (.inr hx); omega).1⟩
theorem PT_front {l : List Int} {x : Int} (h : PT g (l ++ [x])) : PT g l := by
 refine ⟨fun i hi => ?_, fun i hi => ?_⟩
 . have := h.1 i (by simp; omega)
   rwa [rd_app_l hi] at this
 . have := h.2 i (by simp; omega)
   rwa [rd_app_l (by omega), rd_app_l hi] at this
theorem PT_push {l : List Int} {v w : Nat} (h : PT g (l ++ [(v : Int)])) (hw : adj g v w = true) : PT g (l ++ [(v : Int)] ++ [(w : Int)]) := by
 refine ⟨fun i hi => ?_, fun i hi => ?_⟩
 . by_cases e : i < (l ++ [(v : Int)]).length
   . rw [rd_app_l e]; exact h.1 i e
   . have : i = (l ++ [(v : Int)]).length := by simp at hi e ⊢; omega
     subst this
     rw [rd_app_at]
     exact ⟨w, rfl, adj_r hw⟩
 . by_cases e : i + 1 < (l ++ [(v : Int)]).length
   . rw [rd_app_l (by omega), rd_app_l e]; exact h.2 i e
   . have e2 : i = l.length := by simp at hi e; omega
     subst e2
     refine ⟨v, w, ?_, ?_, hw⟩
     . rw [rd_app_l (by simp)]; exact rd_app_at
     . rw [show l.length + 1 = (l ++ [(v : Int)]).length by simp]; exact rd_app_at
theorem DI.pop (h : DI g s D A (W ++ [(v : Int)]) FIN) (hv : v < gN g) (ha : A v = ((succs g v).length : Int)) : DI g s D A W (FIN ++ [(v : Int)]) := by
 have hperm : (W ++ (FIN ++ [(v : Int)])).Perm (W ++ [(v : Int)] ++ FIN) := by
  rw [List.append_assoc]
  exact List.Perm.append_left W List.perm_append_comm
 have hmem : ∀ x, (x ∈ W \/ x ∈ FIN ++ [(v : Int)]) ↔ (x ∈ W ++ [(v : Int)] \/ x ∈ FIN) := fun x => by
  simp only [List.mem_append, List.mem_singleton]
  constructor
  . rintro (h | h | h)
    . exact .inl (.inl h)
    . exact .inr h
    . exact .inl (.inr h)
  . rintro ((h | h) | h)
    . exact .inl h
    . exact .inr (.inr h)
    . exact .inr (.inl h)
 refine ⟨fun u hu => by rw [hmem]; exact h.dn u hu, hperm.nodup_iff.2 h.nd, fun x hx => h.node x ((hmem x).1 hx), PT_front h.pt, fun hne => ?_, h.at0, fun u x hu hx => h.look u x (List.mem_append_left _ hu) hx, fun u x hu hx => ?_, fun i hi u hiu hus => ?_, (hmem _).2 h.fst, fun hW => ?_⟩
 . have := h.hd (by simp)
   rwa [show (0 : Int) = ((0 : Nat) : Int) by rfl, rd_app_l (List.length_pos_iff.2 hne)] at this
 . rcases List.mem_append.1 hu with hu | hu
   . exact h.clo u x hu hx
   . simp at hu
     have : u = v := by omega
     subst this
     refine h.look u x (by simp) ?_
     rw [ha, Int.toNat_natCast, List.take_length]
     exact mem_succs.2 ⟨x, rfl, hx⟩
 . by_cases e : i < FIN.length
   . rw [rd_app_l e] at hiu
     obtain ⟨p, h1, h2⟩ := h.par i e u hiu hus
     refine ⟨p, h1, ?_⟩
     rcases h2 with h2 | ⟨j, k1, k2, k3⟩
     . rcases List.mem_append.1 h2 with h2 | h2
       . exact .inl h2
       . simp at h2
         exact .inr ⟨FIN.length, e, by simp, by rw [rd_app_at]; omega⟩
     . exact .inr ⟨j, k1, by simp; omega, by rw [rd_app_l k2]; exact k3⟩
   . have : i = FIN.length := by simp at hi; omega
     subst this
     rw [rd_app_at] at hiu
     have : v = u := by omega
     subst this
     rcases List.eq_nil_or_concat W with hW | ⟨W', x, hW⟩
     . have := h.hd (by simp)
       subst hW
       have hvs : (v : Int) = (s : Int) := this
       omega
     . rw [List.concat_eq_append] at hW
       subst hW
       obtain ⟨a, b, h1, h2, h3⟩ := h.pt.2 W'.length (by simp)
       rw [show W'.length + 1 = (W' ++ [x]).length by simp, rd_app_at] at h2
       rw [rd_app_l (by simp), rd_app_at] at h1
       refine ⟨a, by rwa [show v = b by omega], .inl ?_⟩
       rw [<- h1]; simp
 . have := h.hd (by simp)
   subst hW
   have hvs : (v : Int) = (s : Int) := this
   exact ⟨FIN, by rw [hvs]⟩
theorem DI.skip (h : DI g s D A (W ++ [(v : Int)]) FIN) (hv : v < gN g) (ha : A v = (j : Int)) (hj : j < (succs g v).length) (hw : rd (succs g v) (j : Int) = (w : Int)) (hD : D w = true) : DI g s D (set1 A v ((j : Int) + 1)) (W ++ [(v : Int)]) FIN := by
 refine { h with at0 := fun u hu => ?_, look := fun u x hu hx => ?_ }
 . by_cases e : u = v
   . subst e
     rw [set1_eq]
     exact ⟨by omega, by omega, fun hf => by rw [(h.dn u hu).2 (.inl (by simp))] at hf; cases hf⟩
   . rw [set1_ne e]; exact h.at0 u hu
 . by_cases e : u = v
   . subst e
     rw [set1_eq, show ((j : Int) + 1).toNat = j + 1 by omega, succs_mem_take hj hw] at hx
     rcases hx with hx | rfl
     . exact h.look u x hu (by rw [ha, Int.toNat_natCast]; exact hx)
     . exact hD
   . rw [set1_ne e] at hx; exact h.look u x hu hx
theorem DI.push (h : DI g s D A (W ++ [(v : Int)]) FIN) (hv : v < gN g) (ha : A v = (j : Int)) (hj : j < (succs g v).length) (hw : rd (succs g v) (j : Int) = (w : Int)) (hadj : adj g v w = true) (hD : D w = false) : DI g s (setB D w true) (set1 A v ((j : Int) + 1)) (W ++ [(v : Int)] ++ [(w : Int)]) FIN := by
 have hwn := adj_r hadj
 have hnot : ¬ ((w : Int) ∈ W ++ [(v : Int)] \/ (w : Int) ∈ FIN) := fun hm => by rw [(h.dn w hwn).2 hm] at hD; cases hD
 have hwv : w ≠ v := fun e => hnot (.inl (by rw [e]; simp))
 have keep : ∀ x, D x = true -> setB D w true x = true := fun x hx => by
  by_cases e : x = w
  . subst e; exact setB_eq ..
  . rw [setB_ne e]; exact hx
 have hvr : REA g s v := by
  obtain ⟨v', e, _, h1⟩ := h.node (v : Int) (.inl (by simp))
  rwa [show v = v' by omega]
 refine ⟨fun u hu => ?_, ?_, fun x hx => ?_, PT_push h.pt hadj, fun _ => ?_, fun u hu => ?_, fun u x hu hx => ?_, fun u x hu hx => keep _ (h.clo u x hu hx), fun i hi u hiu hus => ?_, h.fst.imp (List.mem_append_left _) id, fun hW => by simp at hW⟩
 . by_cases e : u = w
   . subst e; rw [setB_eq]; simp
   . rw [setB_ne e, h.dn u hu]
     have : ((u : Int) ∈ W ++ [(v : Int)] ++ [(w : Int)]) ↔ (u : Int) ∈ W ++ [(v : Int)] := by
      rw [List.mem_append, List.mem_singleton]
      exact ⟨fun h => h.resolve_right (by omega), .inl⟩
     rw [this]
 . have hp : (W ++ [(v : Int)] ++ [(w : Int)] ++ FIN).Perm ((w : Int) :: (W ++ [(v : Int)] ++ FIN)) := by
    refine List.Perm.trans (List.Perm.append_right FIN (List.perm_append_comm (l₁ := W ++ [(v : Int)]) (l₂ := [(w : Int)]))) ?_
    simp
   rw [hp.nodup_iff, List.nodup_cons]
   exact ⟨fun hm => hnot (List.mem_append.1 hm), h.nd⟩
 . rcases hx with hx | hx
   . rcases List.mem_append.1 hx with hx | hx
     . exact h.node x (.inl hx)
     . simp at hx
       exact ⟨w, hx, hwn, hvr.step hadj⟩
   . exact h.node x (.inr hx)
 . have := h.hd (by simp)
   rw [show (0 : Int) = ((0 : Nat) : Int) by rfl, rd_app_l (by simp)]
   exact this
 . by_cases e : u = v
   . subst e
     rw [set1_eq, setB_ne (Ne.symm hwv)]
     exact ⟨by omega, by omega, fun hf => by rw [(h.dn u hu).2 (.inl (by simp))] at hf; cases hf⟩
   . rw [set1_ne e]
     refine ⟨(h.at0 u hu).1, (h.at0 u hu).2.1, fun hf => ?_⟩
     by_cases e2 : u = w
     . subst e2; rw [setB_eq] at hf; cases hf
     . rw [setB_ne e2] at hf; exact (h.at0 u hu).2.2 hf
 . rcases List.mem_append.1 hu with hu | hu
   . by_cases e : u = v
     . subst e
       rw [set1_eq, show ((j : Int) + 1).toNat = j + 1 by omega, succs_mem_take hj hw] at hx
       rcases hx with hx | rfl
       . exact keep _ (h.look u x hu (by rw [ha, Int.toNat_natCast]; exact hx))
       . exact setB_eq ..
     . rw [set1_ne e] at hx; exact keep _ (h.look u x hu hx)
   . simp at hu
     have : u = w := by omega
     subst this
     rw [set1_ne hwv, (h.at0 u hwn).2.2 hD] at hx
     simp at hx
 . obtain ⟨p, h1, h2⟩ := h.par i hi u hiu hus
   exact ⟨p, h1, h2.imp (List.mem_append_left _) id⟩
end
structure ORD (g : Graph) (s : Nat) (L : List Int) : Prop where
 nd : L.Nodup
 mem : ∀ v : Nat, (v : Int) ∈ L ↔ REA g s v
 node : ∀ x ∈ L, ∃ v : Nat, x = (v : Int) /\ v < gN g
 last : ∃ F', L = F' ++ [(s : Int)]
 par : ∀ i : Nat, i < L.length -> ∀ v : Nat, rd L (i : Int) = (v : Int) -> v ≠ s -> ∃ (p j : Nat), adj g p v = true /\ i < j /\ j < L.length /\ rd L (j : Int) = (p : Int)
theorem DI.fin {g : Graph} {s : Nat} {D : Nat -> Bool} {A : Nat -> Int} {FIN : List Int} (h : DI g s D A [] FIN) : ORD g s FIN := by
 refine ⟨by simpa using h.nd, fun v => ⟨fun hv => ?_, fun hv => ?_⟩, fun x hx => ?_, h.last rfl, fun i hi v hv hs => ?_⟩
 . obtain ⟨v', e, _, h1⟩ := h.node _ (.inr hv)
   rwa [show v = v' by omega]
 . have key : ∀ a b, TC (AJ g) a b -> (a : Int) ∈ FIN -> (b : Int) ∈ FIN := by
    intro a b hab
    have edge : ∀ a b, adj g a b = true -> (a : Int) ∈ FIN -> (b : Int) ∈ FIN := fun a b hr ha => by
     have := (h.dn b (adj_r hr)).1 (h.clo a b ha hr)
     exact this.resolve_left (by simp)
    induction hab with
    | one h => exact edge _ _ h
    | step h _ ih => exact fun ha => ih (edge _ _ h ha)
   have h0 : (s : Int) ∈ FIN := h.fst.resolve_left (by simp)
   rcases hv with rfl | hv
   . exact h0
   . exact key _ _ hv h0
 . obtain ⟨v, e, h1, _⟩ := h.node x (.inr hx)
   exact ⟨v, e, h1⟩
 . obtain ⟨p, h1, h2⟩ := h.par i hi v hv hs
   obtain ⟨j, k1, k2, k3⟩ := h2.resolve_left (by simp)
   exact ⟨p, j, h1, k1, k2, k3⟩
end Go.Proofs.YtjddmekfeckphaaGreatV
namespace Go.Proofs.YtjddmekfeckphaaGreatV
open Go Go.Vm
section
variable {g : Graph} {s : Nat} {pl f O : Nat -> Nat} {P : Nat -> Prop} {cur : Nat} {PF : Nat -> Int}
end
theorem TURN_gN (g : Graph) : gN (TURN g) = gN g := by
 have h1 := gN_int (TURN g)
 have h2 := gN_int g
 have h3 := gN_le g
 have h4 : (TURN g).1 = (gN g : Int) := rfl
 rw [h4] at h1
 have : mn (mx (gN g : Int) 0) 20000 = (gN g : Int) := by
  unfold mx mn
  repeat' split <;> try omega
 omega
theorem TURN_adj (g : Graph) (a b : Nat) : adj (TURN g) a b = adj g b a := by
 have h : adj (TURN g) a b = true ↔ adj g b a = true := by
  rw [adj_iff, TURN_gN]
  constructor
  . rintro ⟨_, _, l, h1, h2, h3⟩
    obtain ⟨b', a', h4, rfl⟩ := mem_LINKS.1 h1
    simp only at h2 h3
    rwa [show b = a' by omega, show a = b' by omega]
  . intro h
    exact ⟨adj_r h, adj_l h, ((a : Int), (b : Int), ()), mem_LINKS.2 ⟨a, b, h, rfl⟩, rfl, rfl⟩
 cases h1 : adj (TURN g) a b <;> cases h2 : adj g b a <;> simp_all
end Go.Proofs.YtjddmekfeckphaaGreatV
namespace Go.Proofs.YtjddmekfeckphaaGreatV
open Go Go.Vm
structure SET (g : Graph) (s : Nat) (L : List Int) (pl f : Nat -> Nat) (PF : Nat -> Int) : Prop where
 hs : s < gN g
 hn : gN g <= 1000
 D : DG (AJ g) (REA g s) s pl f
 nd : L.Nodup
 mem : ∀ v : Nat, (v : Int) ∈ L ↔ REA g s v
 node : ∀ x ∈ L, ∃ v : Nat, x = (v : Int) /\ v < gN g
 first : rd L 0 = (s : Int)
 pos : 0 < L.length
 place : ∀ i : Nat, i < L.length -> ∀ v : Nat, rd L (i : Int) = (v : Int) -> pl v = i
 hPF : ∀ v, REA g s v -> PF v = (pl v : Int)
section
variable {g : Graph} {s : Nat} {L : List Int} {pl f : Nat -> Nat} {PF : Nat -> Int}
theorem SET.len (S : SET g s L pl f PF) : L.length <= gN g := (pigeon _ _ S.nd fun x hx => by
 obtain ⟨v, rfl, hv⟩ := S.node x hx
 omega).1
theorem SET.at (S : SET g s L pl f PF) {v : Nat} (h : REA g s v) : pl v < L.length /\ rd L (pl v : Int) = (v : Int) := by
 obtain ⟨i, hi, e⟩ := mem_rd ((S.mem v).2 h)
 have := S.place i hi v e
 rw [this]
 exact ⟨hi, e⟩
theorem SET.root (S : SET g s L pl f PF) : pl s = 0 := S.place 0 S.pos s S.first
end
end Go.Proofs.YtjddmekfeckphaaGreatV
namespace Go.Proofs.YtjddmekfeckphaaGreatV
open Go Go.Vm
end Go.Proofs.YtjddmekfeckphaaGreatV
namespace Go.Vm
open Go
def RT (r : Nat -> Nat -> Prop) (a b : Nat) : Prop := a = b \/ TC r a b
theorem RT.refl {r : Nat -> Nat -> Prop} (a : Nat) : RT r a a := .inl rfl
theorem RT.one {r : Nat -> Nat -> Prop} {a b : Nat} (h : r a b) : RT r a b := .inr (.one h)
theorem RT.trans {r : Nat -> Nat -> Prop} {a b c : Nat} (h : RT r a b) (h' : RT r b c) : RT r a c := by
 rcases h with rfl | h
 . exact h'
 . rcases h' with rfl | h'
   . exact .inr h
   . exact .inr (h.trans h')
def T2 (r : Nat -> Nat -> Prop) (F : List Int) : Prop := ∀ i j : Nat, i <= j -> j < F.length -> ∀ a w b : Nat, rd F (i : Int) = (a : Int) -> r a w -> rd F (j : Int) = (b : Int) -> (w : Int) ∈ F.take j \/ RT r w b
theorem crossing {r : Nat -> Nat -> Prop} {n : Nat} {F : List Int} (hall : ∀ v : Nat, v < n -> (v : Int) ∈ F) (hr : ∀ a b, r a b -> b < n) {i m : Nat} (him : i < m) (hm : m < F.length) {z : Nat} (hz : rd F (m : Int) = (z : Int)) {x : Nat} (h : TC r x z) : (∃ p : Nat, p <= i /\ rd F (p : Int) = (x : Int)) ->
 ∃ a b p q : Nat, RT r x a /\ r a b /\ rd F (p : Int) = (a : Int) /\ p <= i /\ rd F (q : Int) = (b : Int) /\ i < q /\ q < F.length := by
 induction h with
 | one h1 => exact fun ⟨p, hp, e⟩ => ⟨_, _, p, m, .refl _, h1, e, hp, hz, him, hm⟩
 | @step x y z h1 _ ih =>
   rintro ⟨p, hp, e⟩
   obtain ⟨q, hq, eq⟩ := mem_rd (hall y (hr _ _ h1))
   by_cases hqi : q <= i
   . obtain ⟨a, b, p', q', h2, h3, h4, h5, h6⟩ := ih hz ⟨q, hqi, eq⟩
     exact ⟨a, b, p', q', (RT.one h1).trans h2, h3, h4, h5, h6⟩
   . exact ⟨x, y, p, q, .refl _, h1, e, hp, eq, by omega, hq⟩
theorem kosaraju {r : Nat -> Nat -> Prop} {n : Nat} {F : List Int} (hn : F.Nodup) (hall : ∀ v : Nat, v < n -> (v : Int) ∈ F) (hr : ∀ a b, r a b -> b < n) (h : T2 r F) {m z w : Nat} (hm : m < F.length) (hz : rd F (m : Int) = (z : Int)) (hw : w < n) (hwz : RT r w z)
 (hno : ∀ j : Nat, m < j -> j < F.length -> ∀ b : Nat, rd F (j : Int) = (b : Int) -> ¬ (RT r w b /\ RT r b w)) : RT r z w := by
 have key : ∀ d i : Nat, i + d = m -> ∀ c : Nat, rd F (i : Int) = (c : Int) -> RT r w c -> RT r c w -> RT r z w := by
  intro d
  induction d using Nat.strongRecOn with
  | _ d ih =>
    intro i hi c hc h1 h2
    by_cases e : d = 0
    . subst e
      rw [show i = m by omega] at hc
      rw [show z = c by omega]
      exact h2
    . have hcz : RT r c z := h2.trans hwz
      rcases hcz with rfl | hcz
      . exact h2
      . obtain ⟨a, b, p, q, k1, k2, k3, k4, k5, k6, k7⟩ := crossing hall hr (i := i) (by omega) hm hz hcz ⟨i, Nat.le_refl _, hc⟩
        have hb : RT r b c := by
         rcases h p i k4 (by omega) a b c k3 k2 hc with h3 | h3
         . obtain ⟨q', hq', e'⟩ := mem_rd h3
           rw [List.length_take] at hq'
           have e2 : rd F (q' : Int) = (b : Int) := by
            rw [rd_eq (by rw [List.length_take]; omega), List.getElem_take] at e'
            rw [rd_eq (by omega)]
            exact e'
           have := nodup_idx hn (i := q) (j := q') k7 (by omega) (k5.trans e2.symm)
           omega
         . exact h3
        have hwb : RT r w b := h1.trans (k1.trans (.one k2))
        have hbw : RT r b w := hb.trans h2
        by_cases hqm : q <= m
        . exact ih (m - q) (by omega) q (by omega) b k5 hwb hbw
        . exact absurd ⟨hwb, hbw⟩ (hno q (by omega) k7 b k5)
 obtain ⟨i, hi, e⟩ := mem_rd (hall w hw)
 by_cases him : i <= m
 . exact key (m - i) i (by omega) w e (.refl _) (.refl _)
 . exact absurd ⟨.refl _, .refl _⟩ (hno i (by omega) hi w e)
end Go.Vm
namespace Go.Proofs.YtjddmekfeckphaaGreatV
open Go Go.Vm
def ADJ (g : Graph) (a b : Nat) : Prop := adj g a b = true
structure FI (g : Graph) (V : Nat -> Bool) (A : Nat -> Int) (W FIN : List Int) : Prop where
 vis : ∀ v, v < gN g -> (V v = true ↔ (v : Int) ∈ W \/ (v : Int) ∈ FIN)
 nd : (FIN ++ W).Nodup
 mem : ∀ x ∈ FIN ++ W, ∃ v : Nat, x = (v : Int) /\ v < gN g
 pt : PT g W
 cl : ∀ a w : Nat, (a : Int) ∈ FIN -> adj g a w = true -> V w = true
 lk : ∀ v w : Nat, (v : Int) ∈ W -> (w : Int) ∈ (succs g v).take (A v).toNat -> V w = true
 at0 : ∀ v, v < gN g -> 0 <= A v /\ A v <= ((succs g v).length : Int) /\ (V v = false -> A v = 0)
 t2 : T2 (ADJ g) FIN
theorem PT_end {g : Graph} : ∀ {W : List Int} {v : Nat}, PT g (W ++ [(v : Int)]) -> ∀ w : Nat, (w : Int) ∈ W ++ [(v : Int)] -> RT (ADJ g) w v := by
 intro W v h w hw
 obtain ⟨i, hi, e⟩ := mem_rd hw
 have hl : (W ++ [(v : Int)]).length = W.length + 1 := by simp
 have key : ∀ d i : Nat, i + d = W.length -> ∀ w : Nat, rd (W ++ [(v : Int)]) (i : Int) = (w : Int) -> RT (ADJ g) w v := by
  intro d
  induction d with
  | zero =>
    intro i hi w e
    rw [show i = W.length by omega, rd_app_at] at e
    exact .inl (by omega)
  | succ d ih =>
    intro i hi w e
    obtain ⟨a, b, h1, h2, h3⟩ := h.2 i (by omega)
    rw [show w = a by omega]
    exact (RT.one h3).trans (ih (i + 1) (by omega) b h2)
 exact key (W.length - i) i (by omega) w e
theorem FI.pop {g : Graph} {V : Nat -> Bool} {A : Nat -> Int} {W FIN : List Int} {v : Nat} (h : FI g V A (W ++ [(v : Int)]) FIN) (ha : A v = ((succs g v).length : Int)) : FI g V A W (FIN ++ [(v : Int)]) := by
 have hvis : ∀ w : Nat, adj g v w = true -> V w = true := fun w hw => h.lk v w (by simp) (by
  rw [ha, Int.toNat_natCast, List.take_length]
  exact mem_succs.2 ⟨w, rfl, hw⟩)
 have hcl : ∀ a w : Nat, (a : Int) ∈ FIN ++ [(v : Int)] -> adj g a w = true -> V w = true := fun a w hm hw => by
  rcases List.mem_append.1 hm with hm | hm
  . exact h.cl a w hm hw
  . simp at hm
    rw [show a = v by omega] at hw
    exact hvis w hw
 refine ⟨fun u hu => ?_, ?_, fun x hx => h.mem x ?_, PT_front h.pt, hcl, fun u w hu hw => h.lk u w (List.mem_append_left _ hu) hw, h.at0, ?_⟩
 . rw [h.vis u hu]
   simp only [List.mem_append, List.mem_singleton]
   grind
 . have := h.nd
   rw [List.append_assoc]
   refine (List.Perm.nodup_iff ?_).1 this
   exact List.Perm.append_left _ List.perm_append_comm
 . simp only [List.mem_append, List.mem_singleton] at hx ⊢
   grind
 . intro i j hij hj a w b h1 h2 h3
   have hl : (FIN ++ [(v : Int)]).length = FIN.length + 1 := by simp
   by_cases e : j < FIN.length
   . rw [rd_app_l (by omega)] at h1
     rw [rd_app_l e] at h3
     rw [List.take_append_of_le_length (by omega)]
     exact h.t2 i j hij e a w b h1 h2 h3
   . obtain rfl : j = FIN.length := by omega
     rw [rd_app_at] at h3
     have eb : b = v := by omega
     subst eb
     rw [List.take_append_of_le_length (Nat.le_refl _), List.take_length]
     have hav : (a : Int) ∈ FIN ++ [(b : Int)] := h1 ▸ rd_mem (by omega) (by omega)
     have hw := (h.vis w (adj_r h2)).1 (hcl a w hav h2)
     rcases hw with hw | hw
     . exact .inr (PT_end h.pt w hw)
     . exact .inl hw
theorem FI.skip {g : Graph} {V : Nat -> Bool} {A : Nat -> Int} {W FIN : List Int} {v w j : Nat} (h : FI g V A (W ++ [(v : Int)]) FIN) (hv : v < gN g) (ha : A v = (j : Int)) (hj : j < (succs g v).length) (hw : rd (succs g v) (j : Int) = (w : Int)) (hV : V w = true) : FI g V (set1 A v ((j : Int) + 1)) (W ++ [(v : Int)]) FIN := by
 have hvV : V v = true := (h.vis v hv).2 (.inl (by simp))
 refine { h with lk := fun u x hu hx => ?_, at0 := fun u hu => ?_ }
 . by_cases e : u = v
   . subst e
     rw [set1_eq, show ((j : Int) + 1).toNat = j + 1 by omega, succs_mem_take hj hw] at hx
     rcases hx with hx | rfl
     . exact h.lk u x hu (by rw [ha, Int.toNat_natCast]; exact hx)
     . exact hV
   . rw [set1_ne e] at hx
     exact h.lk u x hu hx
 . by_cases e : u = v
   . subst e; rw [set1_eq]; exact ⟨by omega, by omega, fun h => by rw [hvV] at h; cases h⟩
   . rw [set1_ne e]; exact h.at0 u hu
def setV (f : Nat -> Bool) (v : Nat) (x : Bool) : Nat -> Bool := fun u => if u = v then x else f u
theorem FI.push {g : Graph} {V : Nat -> Bool} {A : Nat -> Int} {W FIN : List Int} {v w j : Nat} (h : FI g V A (W ++ [(v : Int)]) FIN) (hv : v < gN g) (ha : A v = (j : Int)) (hj : j < (succs g v).length) (hw : rd (succs g v) (j : Int) = (w : Int)) (hadj : adj g v w = true) (hV : V w = false) : FI g (setV V w true) (set1 A v ((j : Int) + 1)) (W ++ [(v : Int)] ++ [(w : Int)]) FIN := by
 have hwn := adj_r hadj
 have hvV : V v = true := (h.vis v hv).2 (.inl (by simp))
 have hwv : w ≠ v := fun e => by subst e; rw [hV] at hvV; cases hvV
 have hno : ¬ ((w : Int) ∈ W ++ [(v : Int)] \/ (w : Int) ∈ FIN) := fun hm => by rw [(h.vis w hwn).2 hm] at hV; cases hV
 have hup : ∀ u, V u = true -> setV V w true u = true := fun u hu => by unfold setV; split <;> simp [hu]
 refine ⟨fun u hu => ?_, ?_, fun x hx => ?_, PT_push h.pt hadj, fun a x hm hx => hup x (h.cl a x hm hx), fun u x hu hx => ?_, fun u hu => ?_, h.t2⟩
 . by_cases e : u = w
   . subst e; simp [setV]
   . have := h.vis u hu
     simp only [setV, if_neg e, this, List.mem_append, List.mem_singleton]
     have : (u : Int) ≠ (w : Int) := by omega
     grind
 . rw [<- List.append_assoc, List.nodup_append]
   refine ⟨h.nd, by simp, fun a ha b hb e => ?_⟩
   simp at hb; subst hb; subst e
   rcases List.mem_append.1 ha with h1 | h1
   . exact hno (.inr h1)
   . exact hno (.inl h1)
 . rw [<- List.append_assoc] at hx
   rcases List.mem_append.1 hx with hx | hx
   . exact h.mem x hx
   . simp at hx; exact ⟨w, hx, hwn⟩
 . have hu' : (u : Int) ∈ W ++ [(v : Int)] \/ u = w := by
    rcases List.mem_append.1 hu with h1 | h1
    . exact .inl h1
    . simp at h1; exact .inr (by omega)
   by_cases e : u = v
   . subst e
     rw [set1_eq, show ((j : Int) + 1).toNat = j + 1 by omega, succs_mem_take hj hw] at hx
     rcases hx with hx | rfl
     . exact hup x (h.lk u x (by simp) (by rw [ha, Int.toNat_natCast]; exact hx))
     . simp [setV]
   . rw [set1_ne e] at hx
     rcases hu' with h1 | rfl
     . exact hup x (h.lk u x h1 hx)
     . rw [(h.at0 u hwn).2.2 hV] at hx
       simp at hx
 . by_cases e : u = v
   . subst e
     rw [set1_eq]
     exact ⟨by omega, by omega, fun h => by rw [hup u hvV] at h; cases h⟩
   . rw [set1_ne e]
     refine ⟨(h.at0 u hu).1, (h.at0 u hu).2.1, fun h1 => (h.at0 u hu).2.2 ?_⟩
     cases hu2 : V u
     . rfl
     . rw [hup u hu2] at h1; cases h1
end Go.Proofs.YtjddmekfeckphaaGreatV
namespace Go.Proofs.YtjddmekfeckphaaGreatV
open Go Go.Vm
structure FINI (g : Graph) (F : List Int) : Prop where
 nd : F.Nodup
 mem : ∀ x ∈ F, ∃ v : Nat, x = (v : Int) /\ v < gN g
 all : ∀ v : Nat, v < gN g -> (v : Int) ∈ F
 t2 : T2 (ADJ g) F
def lft (g : Graph) (A : Nat -> Int) (FIN : List Int) : Nat := sumN (fun v => (succs g v).length - (A v).toNat) (gN g) + (gN g - FIN.length)
theorem FI.len {g : Graph} {V : Nat -> Bool} {A : Nat -> Int} {W FIN : List Int} (h : FI g V A W FIN) : FIN.length + W.length <= gN g := by
 have := (pigeon (gN g) _ h.nd fun x hx => by
  obtain ⟨v, rfl, hv⟩ := h.mem x hx
  omega).1
 rwa [List.length_append] at this
theorem lft_pop {g : Graph} {V : Nat -> Bool} {A : Nat -> Int} {W FIN : List Int} {v : Nat} (h : FI g V A (W ++ [(v : Int)]) FIN) : lft g A (FIN ++ [(v : Int)]) < lft g A FIN := by
 have := h.len
 simp only [lft, List.length_append, List.length_cons, List.length_nil] at this ⊢
 omega
theorem lft_skip {g : Graph} {A : Nat -> Int} {FIN : List Int} {v j : Nat} (hv : v < gN g) (hA : A v = (j : Int)) (hj : j < (succs g v).length) : lft g (set1 A v ((j : Int) + 1)) FIN < lft g A FIN := by
 have := sumN_lt (f := fun u => (succs g u).length - (set1 A v ((j : Int) + 1) u).toNat) (h := fun u => (succs g u).length - (A u).toNat) (v := v) (m := gN g) (fun i hi => by
  by_cases e : i = v
  . subst e; simp only [set1_eq, hA]; omega
  . simp only [set1_ne e]; exact Nat.le_refl _) hv (by simp only [set1_eq, hA]; omega)
 simp only [lft]
 omega
theorem tb_setV {n : Nat} {f : Nat -> Bool} {v : Nat} {x : Bool} : (tb n f).set v x = tb n (setV f v x) := tb_set
theorem finished_prog (g : Graph) (hn : gN g <= 1000) : W (fun k => graph_finished.f k (NEXT g)) (FINI g) := by
 simp only [graph_finished.f, NEXT_len]
 simp (disch := omega) only [↓if_pos, Int.toNat_natCast]
 have main : ∀ (d root : Nat), root + d = gN g -> ∀ (V : Nat -> Bool) (A : Nat -> Int) (FIN : List Int), FI g V A [] FIN -> (∀ v, v < root -> V v = true) ->
  W (fun k => graph_finished.c5 k (NEXT g) (gN g : Int) (root : Int) (tb (gN g) V) (tb (gN g) A) FIN) (FINI g) := by
  intro d
  induction d with
  | zero =>
    intro root hr V A FIN hI hS
    refine .succ ?_
    simp (disch := omega) only [graph_finished.c5, ↓cdF]
    refine .ret ⟨by simpa using hI.nd, fun x hx => hI.mem x (by simpa using hx), fun v hv => ?_, hI.t2⟩
    rcases (hI.vis v hv).1 (hS v (by omega)) with h | h
    . cases h
    . exact h
  | succ d ih =>
    intro root hr V A FIN hI hS
    have hrn : root < gN g := by omega
    have loop : ∀ (m : Nat) (V : Nat -> Bool) (A : Nat -> Int) (W FIN : List Int), lft g A FIN <= m -> FI g V A W FIN -> (∀ v, v < root + 1 -> V v = true) ->
     Vm.W (fun k => graph_finished.c10 k (NEXT g) (gN g : Int) (root : Int) (tb (gN g) V) (tb (gN g) A) FIN W) (FINI g) := by
     intro m
     induction m with
     | zero =>
       intro V A W FIN hm hI hS
       rcases List.eq_nil_or_concat W with rfl | ⟨W', x, rfl⟩
       . refine .succ ?_
         simp (disch := first | omega | simp) only [graph_finished.c10, ↓cdF, w64_id]
         exact ih (root + 1) (by omega) V A FIN hI hS
       . rw [List.concat_eq_append] at hI ⊢
         obtain ⟨v, rfl, hv⟩ := hI.mem x (by simp)
         have := lft_pop hI
         omega
     | succ m ihm =>
       intro V A W FIN hm hI hS
       rcases List.eq_nil_or_concat W with rfl | ⟨W', x, rfl⟩
       . refine .succ ?_
         simp (disch := first | omega | simp) only [graph_finished.c10, ↓cdF, w64_id]
         exact ih (root + 1) (by omega) V A FIN hI hS
       . rw [List.concat_eq_append] at hI ⊢
         obtain ⟨v, rfl, hv⟩ := hI.mem x (by simp)
         have hlen := hI.len
         have hl1 : (W' ++ [(v : Int)]).length = W'.length + 1 := by simp
         have e1 : w64 (((W' ++ [(v : Int)]).length : Int) - 1) = (W'.length : Int) := by rw [w64_id (by omega) (by omega), hl1]; omega
         have e2 : rd (W' ++ [(v : Int)]) (W'.length : Int) = (v : Int) := rd_app_at
         have hsl := succs_len g v
         obtain ⟨a1, a2, a3⟩ := hI.at0 v hv
         refine .succ ?_
         simp (disch := first | omega | (rw [tb_len]; omega) | (rw [NEXT_len]; omega)) only [graph_finished.c10, ↓cdT, e1, e2, ↓if_pos, NEXT_rd hv, tb_rd hv, Int.toNat_natCast]
         refine .dec (fun hend => ?_) fun hend => ?_
         . simp (disch := first | omega | (simp only [List.length_cons, List.length_nil]; omega)) only [↓bleT, ↓if_pos]
           rw [show List.take W'.length (W' ++ [(v : Int)]) = W' by simp]
           exact ihm V A W' (FIN ++ [(v : Int)]) (by have := lft_pop hI; omega) (hI.pop hend) hS
         . obtain ⟨j, hj⟩ : ∃ j : Nat, A v = (j : Int) := ⟨(A v).toNat, by omega⟩
           have hjl : j < (succs g v).length := by omega
           obtain ⟨w, hw, haw, hwn⟩ := succs_rd (g := g) (a := v) hjl
           have e3 : w64 ((j : Int) + 1) = (j : Int) + 1 := w64_id (by omega) (by omega)
           simp (disch := first | omega | (rw [tb_len]; omega)) only [hj, hw, ↓if_pos, tb_rd hwn, Int.toNat_natCast, tb_set1, tb_setV, e3]
           refine .cond (fun h0 => ?_) fun h0 => ?_
           . have h0' : V w = false := by simpa using h0
             simp (disch := first | omega | (simp only [List.length_cons, List.length_nil]; omega)) only [↓bleT]
             refine ihm (setV V w true) (set1 A v ((j : Int) + 1)) (W' ++ [(v : Int)] ++ [(w : Int)]) FIN ?_ (hI.push hv hj hjl hw haw h0') fun u hu => ?_
             . have := lft_skip (FIN := FIN) hv hj hjl
               omega
             . unfold setV
               split
               . rfl
               . exact hS u hu
           . have h0' : V w = true := by simpa using h0
             refine ihm V (set1 A v ((j : Int) + 1)) (W' ++ [(v : Int)]) FIN ?_ (hI.skip hv hj hjl hw h0') hS
             have := lft_skip (FIN := FIN) hv hj hjl
             omega
    refine .succ ?_
    simp (disch := first | omega | (rw [tb_len]; omega)) only [graph_finished.c5, ↓cdT, ↓if_pos, tb_rd hrn, w64_id, Int.toNat_natCast, tb_setV]
    refine .cond (fun h0 => ?_) fun h0 => ?_
    . refine ih (root + 1) (by omega) V A FIN hI fun u hu => ?_
      by_cases e : u = root
      . subst e; exact h0
      . exact hS u (by omega)
    . have hno : (root : Int) ∉ FIN := fun hm => by
       have := (hI.vis root hrn).2 (.inr hm)
       rw [h0] at this; cases this
      have hup : ∀ u, V u = true -> setV V root true u = true := fun u hu => by unfold setV; split <;> simp [hu]
      refine loop _ (setV V root true) A [(root : Int)] FIN (Nat.le_refl _) ⟨fun u hu => ?_, ?_, fun x hx => ?_, ⟨fun i hi => ⟨root, ?_, hrn⟩, fun i hi => by simp at hi⟩, fun a w hm hw => hup w (hI.cl a w hm hw), fun u x hu hx => ?_, fun u hu => ?_, hI.t2⟩ fun u hu => ?_
      . by_cases e : u = root
        . subst e; simp [setV]
        . have := hI.vis u hu
          simp only [setV, if_neg e, this, List.mem_singleton, List.not_mem_nil, false_or]
          have : (u : Int) ≠ (root : Int) := by omega
          simp [this]
      . rw [List.nodup_append]
        have := hI.nd
        rw [List.append_nil] at this
        refine ⟨this, by simp, fun a ha b hb e => ?_⟩
        simp at hb; subst hb; subst e
        exact hno ha
      . rcases List.mem_append.1 hx with hx | hx
        . exact hI.mem x (by simpa using hx)
        . simp at hx; exact ⟨root, hx, hrn⟩
      . have : i = 0 := by simp at hi; omega
        subst this; rfl
      . have hu' : u = root := by simp at hu; omega
        subst hu'
        rw [(hI.at0 u hrn).2.2 h0] at hx
        simp at hx
      . refine ⟨(hI.at0 u hu).1, (hI.at0 u hu).2.1, fun h1 => (hI.at0 u hu).2.2 ?_⟩
        cases hu2 : V u
        . rfl
        . rw [hup u hu2] at h1; cases h1
      . by_cases e : u = root
        . subst e; simp [setV]
        . exact hup u (hS u (by omega))
 have := main (gN g) 0 (by omega) (fun _ => false) (fun _ => 0) [] ⟨fun v _ => by simp, by simp, fun x hx => by simp at hx, ⟨fun i hi => absurd hi (Nat.not_lt_zero _), fun i hi => absurd hi (Nat.not_lt_zero _)⟩, fun a w hm => by simp at hm, fun v w hm => by simp at hm, fun v _ => ⟨Int.le_refl _, Int.natCast_nonneg _, fun _ => rfl⟩, fun i j hij hj => absurd hj (Nat.not_lt_zero _)⟩ (fun v hv => absurd hv (Nat.not_lt_zero _))
 rw [<- tb_rep, <- tb_rep] at this
 exact this
end Go.Proofs.YtjddmekfeckphaaGreatV
namespace Go.Proofs.YtjddmekfeckphaaGreatV
open Go Go.Vm
theorem mn_l (a b : Int) : mn a b <= a := by unfold mn; split <;> omega
theorem mn_r (a b : Int) : mn a b <= b := by unfold mn; split <;> omega
theorem mn_or (a b : Int) : mn a b = a \/ mn a b = b := by unfold mn; split <;> simp
theorem min_ev (xs : List Int) (h0 : 0 < xs.length) (hl : xs.length <= 1000000) : W (fun k => slices_Min_int_int.f k xs) (fun r => (∀ i : Nat, i < xs.length -> r <= rd xs (i : Int)) /\ ∃ i : Nat, i < xs.length /\ r = rd xs (i : Int)) := by
 simp (disch := omega) only [slices_Min_int_int.f, ↓cdF]
 refine .succ ?_
 simp (disch := omega) only [slices_Min_int_int.c3, ↓if_pos]
 have loop : ∀ (d i : Nat) (v : Int), i + d = xs.length -> (∀ j : Nat, j < i -> v <= rd xs (j : Int)) -> (∃ j : Nat, j < xs.length /\ v = rd xs (j : Int)) -> W (fun k => slices_Min_int_int.c5 k xs v (i : Int)) (fun r => (∀ i : Nat, i < xs.length -> r <= rd xs (i : Int)) /\ ∃ i : Nat, i < xs.length /\ r = rd xs (i : Int)) := by
  intro d
  induction d with
  | zero =>
    intro i v hi h1 h2
    refine .succ ?_
    simp (disch := omega) only [slices_Min_int_int.c5, ↓cdF]
    exact .ret ⟨fun j hj => h1 j (by omega), h2⟩
  | succ d ih =>
    intro i v hi h1 h2
    refine .succ ?_
    simp (disch := omega) only [slices_Min_int_int.c5, ↓cdT, ↓if_pos, w64_id]
    refine ih (i + 1) _ (by omega) (fun j hj => ?_) ?_
    . by_cases e : j = i
      . subst e; exact mn_r _ _
      . have := h1 j (by omega); have := mn_l v (rd xs (i : Int)); omega
    . rcases mn_or v (rd xs (i : Int)) with e | e
      . rw [e]; exact h2
      . rw [e]; exact ⟨i, by omega, rfl⟩
 exact loop (xs.length - 1) 1 _ (by omega) (fun j hj => by rw [show j = 0 by omega]; exact Int.le_refl _) ⟨0, h0, rfl⟩
def Same (g : Graph) (a b : Nat) : Prop := RT (ADJ g) a b /\ RT (ADJ g) b a
theorem Same.refl {g : Graph} (a : Nat) : Same g a a := ⟨.refl _, .refl _⟩
theorem Same.symm {g : Graph} {a b : Nat} (h : Same g a b) : Same g b a := ⟨h.2, h.1⟩
theorem Same.trans {g : Graph} {a b c : Nat} (h : Same g a b) (k : Same g b c) : Same g a c := ⟨h.1.trans k.1, k.2.trans h.2⟩
theorem cmp_ex (g : Graph) (v : Nat) : ∃ w, Same g v w /\ ∀ u, Same g v u -> w <= u := by
 have key : ∀ n w : Nat, w <= n -> Same g v w -> ∃ w, Same g v w /\ ∀ u, Same g v u -> w <= u := by
  intro n
  induction n with
  | zero => intro w hw h; exact ⟨w, h, fun u _ => by omega⟩
  | succ n ih =>
    intro w hw h
    by_cases e : ∃ u, Same g v u /\ u < w
    . obtain ⟨u, h1, h2⟩ := e
      exact ih u (by omega) h1
    . exact ⟨w, h, fun u hu => by
       rcases Nat.lt_or_ge u w with h2 | h2
       . exact absurd ⟨u, hu, h2⟩ e
       . exact h2⟩
 exact key v v (Nat.le_refl _) (.refl _)
noncomputable def cmp (g : Graph) (v : Nat) : Nat := Classical.choose (cmp_ex g v)
theorem cmp_same (g : Graph) (v : Nat) : Same g v (cmp g v) := (Classical.choose_spec (cmp_ex g v)).1
theorem cmp_le {g : Graph} {v u : Nat} (h : Same g v u) : cmp g v <= u := (Classical.choose_spec (cmp_ex g v)).2 u h
theorem cmp_eq {g : Graph} {v w : Nat} (h : Same g v w) : cmp g v = cmp g w := by
 have h1 := cmp_le (h.trans (cmp_same g w))
 have h2 := cmp_le (h.symm.trans (cmp_same g v))
 omega
theorem cmp_is {g : Graph} {v w : Nat} (h : Same g v w) (hl : ∀ u, Same g v u -> w <= u) : cmp g v = w := by
 have h1 := cmp_le h
 have h2 := hl _ (cmp_same g v)
 omega
noncomputable def COMPS (g : Graph) : List Int := tb (gN g) fun v => (cmp g v : Int)
def PAST (g : Graph) (F : List Int) (j v : Nat) : Prop := ∃ i b : Nat, j <= i /\ i < F.length /\ rd F (i : Int) = (b : Int) /\ Same g v b
noncomputable def NUM (g : Graph) (F : List Int) (j v : Nat) : Int := @ite _ (PAST g F j v) (Classical.propDecidable _) (cmp g v : Int) (-1)
theorem NUM_pos {g : Graph} {F : List Int} {j v : Nat} (h : PAST g F j v) : NUM g F j v = (cmp g v : Int) := by unfold NUM; rw [if_pos h]
theorem NUM_neg {g : Graph} {F : List Int} {j v : Nat} (h : ¬ PAST g F j v) : NUM g F j v = -1 := by unfold NUM; rw [if_neg h]
theorem NUM_iff {g : Graph} {F : List Int} {j v : Nat} : 0 <= NUM g F j v ↔ PAST g F j v := by
 by_cases h : PAST g F j v
 . rw [NUM_pos h]; exact ⟨fun _ => h, fun _ => by omega⟩
 . rw [NUM_neg h]; exact ⟨fun h => by omega, fun h' => absurd h' h⟩
theorem PAST_same {g : Graph} {F : List Int} {j v w : Nat} (h : Same g v w) (hw : PAST g F j w) : PAST g F j v := by
 obtain ⟨i, b, h1, h2, h3, h4⟩ := hw
 exact ⟨i, b, h1, h2, h3, h.trans h4⟩
theorem PAST_at {g : Graph} {F : List Int} {j r : Nat} (hj : j < F.length) (hr : rd F (j : Int) = (r : Int)) (v : Nat) : PAST g F j v ↔ Same g v r \/ PAST g F (j + 1) v := by
 constructor
 . rintro ⟨i, b, h1, h2, h3, h4⟩
   by_cases e : i = j
   . subst e
     rw [show r = b by omega]
     exact .inl h4
   . exact .inr ⟨i, b, by omega, h2, h3, h4⟩
 . rintro (h | ⟨i, b, h1, h2, h3, h4⟩)
   . exact ⟨j, r, Nat.le_refl _, hj, hr, h⟩
   . exact ⟨i, b, by omega, h2, h3, h4⟩
structure CLU (g : Graph) (F : List Int) (j r : Nat) (l : List Int) : Prop where
 nd : l.Nodup
 mem : ∀ x ∈ l, ∃ v : Nat, x = (v : Int) /\ v < gN g /\ ¬ PAST g F (j + 1) v /\ RT (ADJ g) v r
 st : (r : Int) ∈ l
theorem CLU.len {g : Graph} {F : List Int} {j r : Nat} {l : List Int} (h : CLU g F j r l) : l.length <= gN g := (pigeon (gN g) _ h.nd fun x hx => by
 obtain ⟨v, rfl, hv, _⟩ := h.mem x hx
 omega).1
def CSH (g : Graph) (F : List Int) (j : Nat) (l : List Int) (i : Nat) : Prop := ∀ p : Nat, p < i -> p < l.length -> ∀ v w : Nat, rd l (p : Int) = (v : Int) -> adj g w v = true -> (w : Int) ∈ l \/ PAST g F (j + 1) w
theorem CLU.app {g : Graph} {F : List Int} {j r v w : Nat} {l : List Int} (h : CLU g F j r l) (hv : (v : Int) ∈ l) (hw : adj g w v = true) (hp : ¬ PAST g F (j + 1) w) (hn : (w : Int) ∉ l) : CLU g F j r (l ++ [(w : Int)]) := by
 refine ⟨?_, fun x hx => ?_, List.mem_append_left _ h.st⟩
 . rw [List.nodup_append]
   refine ⟨h.nd, by simp, fun a ha b hb e => ?_⟩
   simp at hb
   subst hb; subst e
   exact hn ha
 . rcases List.mem_append.1 hx with hx | hx
   . exact h.mem x hx
   . simp at hx
     obtain ⟨v', e, h1, h2, h3⟩ := h.mem _ hv
     rw [<- show v = v' by omega] at h3
     exact ⟨w, hx, adj_l hw, hp, (RT.one hw).trans h3⟩
theorem CLU.end {g : Graph} {F : List Int} {j r : Nat} {l : List Int} (hF : FINI g F) (h : CLU g F j r l) (hs : CSH g F j l l.length) (hj : j < F.length) (hr : rd F (j : Int) = (r : Int)) (hp : ¬ PAST g F (j + 1) r) (v : Nat) : (v : Int) ∈ l ↔ Same g v r := by
 constructor
 . intro hv
   obtain ⟨v', e, hvn, hvp, h3⟩ := h.mem _ hv
   rw [<- show v = v' by omega] at hvn hvp h3
   refine ⟨h3, kosaraju hF.nd hF.all (fun a b hab => adj_r hab) hF.t2 hj hr hvn h3 fun i hi hil b hb hsame => ?_⟩
   exact hvp ⟨i, b, by omega, hil, hb, hsame⟩
 . have key : ∀ a b, TC (ADJ g) a b -> b = r -> RT (ADJ g) r a -> (a : Int) ∈ l := by
    intro a b hab
    induction hab with
    | @one a b h1 =>
      rintro rfl hra
      obtain ⟨p, hp1, e⟩ := mem_rd h.st
      rcases hs p hp1 hp1 _ _ e h1 with h2 | h2
      . exact h2
      . exact absurd (PAST_same ⟨hra, .one h1⟩ h2) hp
    | @step a b c h1 h2 ih =>
      rintro rfl hra
      obtain ⟨p, hp1, e⟩ := mem_rd (ih rfl (hra.trans (.one h1)))
      rcases hs p hp1 hp1 _ _ e h1 with h3 | h3
      . exact h3
      . exact absurd (PAST_same ⟨hra, .inr (.step h1 h2)⟩ h3) hp
   rintro ⟨h1, h2⟩
   rcases h1 with rfl | h1
   . exact h.st
   . exact key _ _ h1 rfl h2
end Go.Proofs.YtjddmekfeckphaaGreatV
