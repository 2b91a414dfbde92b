/- Chapter 02: graphs as plain mathematics; tables. -/
import Derived.Test.YtjddmekfeckphaaGreatF
import Derived.Test.YtjddmekfeckphaaGreatWp
set_option linter.unusedVariables false
set_option linter.unusedSimpArgs false
namespace Go.Vm
open Go
/-- a list told by a function -/
def tb {α : Type} (n : Nat) (f : Nat → α) : List α := (List.range n).map f
section
variable {α : Type}
theorem tb_len (n : Nat) (f : Nat → α) : (tb n f).length = n := by simp [tb]
theorem tb_rd [Inhabited α] {n : Nat} {f : Nat → α} {c : Nat} (h : c < n) : rd (tb n f) (c : Int) = f c := by
  rw [rd_eq (by rw [tb_len]; exact h)]
  simp [tb]
theorem tb_congr {n : Nat} {f g : Nat → α} (h : ∀ c, c < n → f c = g c) : tb n f = tb n g :=
  List.map_congr_left fun c hc => h c (by simpa using hc)
theorem tb_set {n : Nat} {f : Nat → α} {c : Nat} {v : α} : (tb n f).set c v = tb n (fun d => if d = c then v else f d) := by
  apply List.ext_getElem
  · simp [tb]
  · intro d h1 h2
    simp only [List.getElem_set, tb, List.getElem_map, List.getElem_range]
    by_cases h : c = d
    · simp [h]
    · simp [h, Ne.symm h]
theorem tb_rep (n : Nat) (v : α) : List.replicate n v = tb n (fun _ => v) := by
  apply List.ext_getElem <;> simp [tb]
theorem tb_app (n : Nat) (f : Nat → α) : tb n f ++ [f n] = tb (n + 1) f := by simp [tb, List.range_succ]
theorem tb_nil (f : Nat → α) : tb 0 f = [] := rfl
theorem tb_ext [Inhabited α] {n : Nat} {f : Nat → α} {l : List α} (hl : l.length = n) (h : ∀ i : Nat, i < n → rd l (i : Int) = f i) : l = tb n f :=
  list_ext_rd (by rw [hl, tb_len]) fun i hi => by rw [h i (by omega), tb_rd (by omega)]
theorem tb_mem {n : Nat} {f : Nat → α} {x : α} : x ∈ tb n f ↔ ∃ i, i < n ∧ f i = x := by simp [tb]
end
end Go.Vm
namespace Go.Proofs.YtjddmekfeckphaaGreatV
open Go Go.Vm

def gN (g : Graph) : Nat := (mn (mx g.1 0) 20000).toNat
theorem gN_int (g : Graph) : mn (mx g.1 0) 20000 = (gN g : Int) := by
  have := le_mn (a := mx g.1 0) (b := 20000) (c := 0)
  have h := le_mx_r g.1 0
  unfold gN
  omega
theorem gN_le (g : Graph) : gN g ≤ 20000 := by
  have := mn_le_r (mx g.1 0) 20000
  have h := gN_int g
  omega
theorem size_ev (g : Graph) : graph_size.f g = some (gN g : Int) := by
  simp only [graph_size.f]; rw [gN_int]
/-- a link from a to b -/
def adj (g : Graph) (a b : Nat) : Bool := decide (a < gN g) && (decide (b < gN g) && g.2.1.any fun l => decide (l.1 = (a : Int)) && decide (l.2.1 = (b : Int)))
theorem adj_l {g : Graph} {a b : Nat} (h : adj g a b = true) : a < gN g := by simp [adj] at h; exact h.1
theorem adj_r {g : Graph} {a b : Nat} (h : adj g a b = true) : b < gN g := by simp [adj] at h; exact h.2.1
theorem adj_iff {g : Graph} {a b : Nat} : adj g a b = true ↔ a < gN g ∧ b < gN g ∧ ∃ l ∈ g.2.1, l.1 = (a : Int) ∧ l.2.1 = (b : Int) := by simp [adj]
def succs (g : Graph) (a : Nat) : List Int := pick (adj g a) (fun b => (b : Int)) (gN g)
def NEXT (g : Graph) : List (List Int) := tb (gN g) (succs g)
def MAT (g : Graph) : List (List Bool) := tb (gN g) fun a => tb (gN g) (adj g a)
def FEWG (g : Graph) : Prop := gN g ≤ 24 ∧ g.2.1.length ≤ 100

theorem succs_len (g : Graph) (a : Nat) : (succs g a).length ≤ gN g := pick_len _ _ _
theorem mem_succs {g : Graph} {a : Nat} {x : Int} : x ∈ succs g a ↔ ∃ b : Nat, x = (b : Int) ∧ adj g a b = true := by
  unfold succs pick
  simp only [List.mem_map, List.mem_filter, List.mem_range]
  constructor
  · rintro ⟨b, ⟨_, h2⟩, rfl⟩; exact ⟨b, rfl, h2⟩
  · rintro ⟨b, rfl, h⟩; exact ⟨b, ⟨adj_r h, h⟩, rfl⟩
theorem succs_sorted (g : Graph) (a : Nat) : (succs g a).Pairwise (· < ·) := by
  unfold succs pick
  rw [List.pairwise_map]
  refine List.Pairwise.imp (fun h => by omega) ((List.pairwise_lt_range).filter _)

/-! ### strictly ascending lists are told by their members -/
theorem asc_unique : ∀ {l m : List Int}, l.Pairwise (· < ·) → m.Pairwise (· < ·) → (∀ x, x ∈ l ↔ x ∈ m) → l = m
  | [], [], _, _, _ => rfl
  | [], y :: m, _, _, h => by have := (h y).2 (by simp); cases this
  | x :: l, [], _, _, h => by have := (h x).1 (by simp); cases this
  | x :: l, y :: m, hl, hm, h => by
    obtain ⟨h1, h2⟩ := List.pairwise_cons.1 hl
    obtain ⟨h3, h4⟩ := List.pairwise_cons.1 hm
    have e : x = y := by
      rcases List.mem_cons.1 ((h x).1 (by simp)) with e | e
      · exact e
      · rcases List.mem_cons.1 ((h y).2 (by simp)) with e' | e'
        · exact e'.symm
        · have := h3 x e; have := h1 y e'; omega
    subst e
    rw [asc_unique h2 h4 fun z => ?_]
    constructor
    · intro hz
      rcases List.mem_cons.1 ((h z).1 (by simp [hz])) with e | e
      · have := h1 z hz; omega
      · exact e
    · intro hz
      rcases List.mem_cons.1 ((h z).2 (by simp [hz])) with e | e
      · have := h3 z hz; omega
      · exact e
end Go.Proofs.YtjddmekfeckphaaGreatV
