/- Systems of difference constraints: what the program's functions answer, told by feasible potentials. -/
import Derived.Test.YtehpelomfhaleaaF
import Derived.Test.YtehpelomfhaleaaWp
set_option linter.unusedVariables false
set_option linter.unusedSimpArgs false
namespace Go.Proofs.YtehpelomfhaleaaV.Diff
open Go Go.Vm

theorem wrap_id {n : Int} (h0 : -9223372036854775808 ≤ n) (h1 : n ≤ 9223372036854775807) : w64 n = n := w64_id h0 (by omega)
theorem rd_eq {α : Type} [Inhabited α] {xs : List α} {i : Int} {j : Nat} (h : i = j) (hl : j < xs.length) : rd xs i = xs[j] := by
  subst h; exact Go.Vm.rd_eq hl
theorem rd_set {α : Type} [Inhabited α] {xs : List α} {i j : Int} {v : α} (hi : 0 ≤ i) (hil : i < xs.length) (hj : 0 ≤ j) : rd (xs.set i.toNat v) j = if j = i then v else rd xs j := by
  obtain ⟨a, rfl⟩ : ∃ a : Nat, i = (a : Int) := ⟨i.toNat, by omega⟩
  obtain ⟨b, rfl⟩ : ∃ b : Nat, j = (b : Int) := ⟨j.toNat, by omega⟩
  rw [Int.toNat_natCast, Go.Vm.rd_set (by omega)]
  by_cases h : a = b
  · subst h; rw [if_pos rfl, if_pos rfl]
  · rw [if_neg h, if_neg (by omega)]
theorem rd_replicate {α : Type} [Inhabited α] {n : Nat} {v : α} {i : Int} (h0 : 0 ≤ i) (h1 : i < n) : rd (List.replicate n v) i = v := by
  obtain ⟨a, rfl⟩ : ∃ a : Nat, i = (a : Int) := ⟨i.toNat, by omega⟩
  exact Go.Vm.rd_replicate (by omega)
theorem rd_append_left {α : Type} [Inhabited α] {xs ys : List α} {i : Int} (h1 : i.toNat < xs.length) : rd (xs ++ ys) i = rd xs i := by
  unfold rd; simp only [List.getD, List.getElem?_append_left h1]
theorem rd_append_right {α : Type} [Inhabited α] {xs : List α} {v : α} {i : Int} (h : i = xs.length) : rd (xs ++ [v]) i = v := by
  subst h; exact rd_app_at
theorem rd_ext {α : Type} [Inhabited α] {xs ys : List α} (hl : xs.length = ys.length) (h : ∀ i : Int, 0 ≤ i → i < xs.length → rd xs i = rd ys i) : xs = ys :=
  list_ext_rd hl fun i hi => h i (by omega) (by omega)
theorem rd_map {α β : Type} [Inhabited α] [Inhabited β] {f : α → β} {xs : List α} {i : Int} (h0 : 0 ≤ i) (h1 : i < xs.length) : rd (xs.map f) i = f (rd xs i) := by
  obtain ⟨a, rfl⟩ : ∃ a : Nat, i = (a : Int) := ⟨i.toNat, by omega⟩
  rw [Go.Vm.rd_eq (by simp; omega), Go.Vm.rd_eq (by omega)]; simp
theorem rd_range {α : Type} [Inhabited α] {n : Nat} {f : Int → α} {v : Int} (h0 : 0 ≤ v) (h1 : v < n) : rd ((List.range n).map fun i : Nat => f i) v = f v := by
  obtain ⟨a, rfl⟩ : ∃ a : Nat, v = (a : Int) := ⟨v.toNat, by omega⟩
  rw [Go.Vm.rd_eq (by simp; omega)]; simp
theorem W.step {α : Type} {g f : Nat → Option α} {Q : α → Prop} (h : ∀ k, g (k + 1) = f k) (e : W f Q) : W g Q := by
  obtain ⟨r, he, hq⟩ := e
  exact ⟨r, he.step h, hq⟩
theorem W.congr {α : Type} {g f : Nat → Option α} {Q : α → Prop} (h : ∀ k, g k = f k) (e : W f Q) : W g Q := by
  obtain ⟨r, he, hq⟩ := e
  exact ⟨r, he.congr h, hq⟩

/-- Nodup lists of numbers below n are no longer than n. -/
theorem nodup_le : ∀ (n : Nat) (l : List Int), l.Nodup → (∀ x ∈ l, 0 ≤ x ∧ x < n) → l.length ≤ n
  | 0, l, _, h => by
    cases l with
    | nil => simp
    | cons a r => have := h a List.mem_cons_self; omega
  | n + 1, l, hd, h => by
    have h1 := nodup_le n (l.erase (n : Int)) (hd.erase _) (fun x hx => by
      have hm := List.mem_of_mem_erase hx
      have hne : x ≠ n := fun e => by subst e; exact (List.Nodup.not_mem_erase hd) hx
      have := h x hm
      omega)
    have h2 : l.length ≤ (l.erase (n : Int)).length + 1 := by
      rw [List.length_erase]; split <;> omega
    omega
/-- Of n + 1 numbers below n two are one. -/
theorem pigeon (n : Nat) (f : Nat → Int) (h : ∀ i, i ≤ n → 0 ≤ f i ∧ f i < n) : ∃ i j, i < j ∧ j ≤ n ∧ f i = f j := by
  apply Classical.byContradiction
  intro hc
  have hd : ((List.range (n + 1)).map f).Nodup := by
    rw [List.Nodup, List.pairwise_map]
    refine List.Pairwise.imp_of_mem (R := fun a b => a < b) ?_ List.pairwise_lt_range
    intro a b ha hb hab he
    exact hc ⟨a, b, hab, by have := List.mem_range.1 hb; omega, he⟩
  have := nodup_le n _ hd (fun x hx => by
    obtain ⟨i, hi, rfl⟩ := List.mem_map.1 hx
    exact h i (by have := List.mem_range.1 hi; omega))
  simp at this
  omega

def wt (a : Arc) (ii : Int) : Int := mn (mx (Arc.Lat a) (-1048576)) 1048576 - mn (mx ii 0) 256 * mn (mx (Arc.Dist a) (-1048576)) 1048576

theorem prod_le {x y : Int} (h0 : 0 ≤ x) (h1 : x ≤ 256) (h2 : -1048576 ≤ y) (h3 : y ≤ 1048576) : -268435456 ≤ x * y ∧ x * y ≤ 268435456 := by
  constructor
  · have := Int.mul_le_mul_of_nonneg_left h2 h0
    omega
  · have := Int.mul_le_mul_of_nonneg_left h3 h0
    omega
theorem clamp_le (x lo hi : Int) (h : lo ≤ hi) : lo ≤ mn (mx x lo) hi ∧ mn (mx x lo) hi ≤ hi := by unfold mn mx; omega
theorem wt_le (a : Arc) (ii : Int) : -269484032 ≤ wt a ii ∧ wt a ii ≤ 269484032 := by
  have h1 := clamp_le (Arc.Lat a) (-1048576) 1048576 (by omega)
  have h2 := clamp_le (Arc.Dist a) (-1048576) 1048576 (by omega)
  have h3 := clamp_le ii 0 256 (by omega)
  have h4 := prod_le h3.1 h3.2 h2.1 h2.2
  unfold wt
  omega
theorem weight_f (a : Arc) (ii : Int) : diffcons_Weight.f a ii = some (wt a ii) := by
  have h1 := clamp_le (Arc.Lat a) (-1048576) 1048576 (by omega)
  have h2 := clamp_le (Arc.Dist a) (-1048576) 1048576 (by omega)
  have h3 := clamp_le ii 0 256 (by omega)
  have h4 := prod_le h3.1 h3.2 h2.1 h2.2
  unfold diffcons_Weight.f diffcons_limit.f
  simp only [Option.bind_some]
  rw [wrap_id (n := mn (mx ii 0) 256 * mn (mx (Arc.Dist a) (-1048576)) 1048576) (by omega) (by omega), wrap_id (by omega) (by omega)]
  rfl
def Inn (n : Int) (a : Arc) : Prop := 0 ≤ (Arc.From a) ∧ (Arc.From a) < n ∧ 0 ≤ (Arc.To a) ∧ (Arc.To a) < n
instance (n : Int) (a : Arc) : Decidable (Inn n a) := by unfold Inn; infer_instance
theorem within_f (n : Int) (a : Arc) : diffcons_within.f a n = some (decide (Inn n a)) := by
  unfold diffcons_within.f
  by_cases h0 : 0 ≤ (Arc.From a) <;> by_cases h1 : (Arc.From a) < n <;> by_cases h2 : 0 ≤ (Arc.To a) <;> by_cases h3 : (Arc.To a) < n <;> simp [Inn, h0, h1, h2, h3]
def bnd (l : List Int) (v : Int) : Int := if v ≥ (l.length : Int) then 0 else mn (mx (rd l v) (-1073741824)) 1073741824
theorem bnd_le (l : List Int) (v : Int) : -1073741824 ≤ bnd l v ∧ bnd l v ≤ 1073741824 := by
  unfold bnd
  split
  · omega
  · exact clamp_le _ _ _ (by omega)
theorem bound_f {l : List Int} {v : Int} (h : 0 ≤ v) : diffcons_bound.f l v = some (bnd l v) := by
  unfold diffcons_bound.f bnd diffcons_limit.f
  by_cases h1 : (l.length : Int) ≤ v
  · simp (disch := omega) only [↓cdT, if_pos]
  · simp (disch := omega) only [↓cdF, if_pos, if_neg, Option.bind_some]
def nod (n : Int) : Int := mn (mx n 0) 8192
theorem nodes_f (n : Int) : diffcons_nodes.f n = some (nod n) := by
  unfold diffcons_nodes.f diffcons_limit.f nod; rfl
theorem nod_le (n : Int) : 0 ≤ nod n ∧ nod n ≤ 8192 := clamp_le _ _ _ (by omega)

/-- p satisfies all arcs that count. -/
def Feas (n : Int) (arcs : List Arc) (ii : Int) (p : Int → Int) : Prop := ∀ i : Int, 0 ≤ i → i < arcs.length → Inn n (rd arcs i) → p (Arc.From (rd arcs i)) + wt (rd arcs i) ii ≤ p (Arc.To (rd arcs i))

/-- Where the search stands: times T of the last changes, t0 the time at the round's begin, j the next arc. -/
structure Inv (n : Int) (arcs : List Arc) (ii : Int) (lo : Int → Int) (s b : List Int) (T : Int → Int) (t0 j last : Int) : Prop where
  ls : (s.length : Int) = n
  lb : (b.length : Int) = n
  low : ∀ v, 0 ≤ v → v < n → lo v ≤ rd s v
  cap : ∀ v, 0 ≤ v → v < n → rd s v ≤ 1073741824 + (t0 + j) * 269484032
  least : ∀ p : Int → Int, Feas n arcs ii p → (∀ v, 0 ≤ v → v < n → lo v ≤ p v) → ∀ v, 0 ≤ v → v < n → rd s v ≤ p v
  tn : ∀ v, 0 ≤ v → v < n → 0 ≤ T v ∧ T v ≤ t0 + j
  byr : ∀ v, 0 ≤ v → v < n → (rd b v = -1 ∧ T v = 0) ∨ (0 < T v ∧ 0 ≤ rd b v ∧ rd b v < arcs.length ∧ Inn n (rd arcs (rd b v)) ∧ (Arc.To (rd arcs (rd b v))) = v ∧
    rd s v ≤ rd s (Arc.From (rd arcs (rd b v))) + wt (rd arcs (rd b v)) ii ∧ (T v ≤ T (Arc.From (rd arcs (rd b v))) → rd s v < rd s (Arc.From (rd arcs (rd b v))) + wt (rd arcs (rd b v)) ii) ∧ T v ≤ T (Arc.From (rd arcs (rd b v))) + arcs.length)
  sat : ∀ i : Int, 0 ≤ i → i < arcs.length → Inn n (rd arcs i) → rd s (Arc.From (rd arcs i)) + wt (rd arcs i) ii ≤ rd s (Arc.To (rd arcs i)) ∨ (if i < j then t0 + i else t0 - arcs.length + i) < T (Arc.From (rd arcs i))
  lst : (last = -1 ∧ ∀ v, 0 ≤ v → v < n → T v ≤ t0) ∨ (0 ≤ last ∧ last < n ∧ t0 < T last)

section
variable {n : Int} {arcs : List Arc} {ii : Int} {lo : Int → Int} {s b : List Int} {T : Int → Int} {t0 j last : Int}

theorem Inv.skip (h : Inv n arcs ii lo s b T t0 j last) (hj : 0 ≤ j) (hs : Inn n (rd arcs j) → rd s (Arc.From (rd arcs j)) + wt (rd arcs j) ii ≤ rd s (Arc.To (rd arcs j))) : Inv n arcs ii lo s b T t0 (j + 1) last where
  ls := h.ls
  lb := h.lb
  low := h.low
  cap v h0 h1 := by have := h.cap v h0 h1; omega
  least := h.least
  tn v h0 h1 := by have := h.tn v h0 h1; omega
  byr := h.byr
  sat i h0 h1 hi := by
    by_cases e : i = j
    · subst e; exact Or.inl (hs hi)
    · rcases h.sat i h0 h1 hi with h2 | h2
      · exact Or.inl h2
      · right
        by_cases hlt : i < j
        · rw [if_pos (by omega)]; rw [if_pos hlt] at h2; exact h2
        · rw [if_neg (by omega)]; rw [if_neg hlt] at h2; exact h2
  lst := h.lst

theorem Inv.put (h : Inv n arcs ii lo s b T t0 j last) (hj : 0 ≤ j) (hjl : j < arcs.length) (hi : Inn n (rd arcs j)) (hv : rd s (Arc.To (rd arcs j)) < rd s (Arc.From (rd arcs j)) + wt (rd arcs j) ii) :
    Inv n arcs ii lo (s.set (Arc.To (rd arcs j)).toNat (rd s (Arc.From (rd arcs j)) + wt (rd arcs j) ii)) (b.set (Arc.To (rd arcs j)).toNat j) (fun x => if x = (Arc.To (rd arcs j)) then t0 + j + 1 else T x) t0 (j + 1) (Arc.To (rd arcs j)) := by
  have hA := h.sat j hj hjl hi
  rw [if_neg (by omega)] at hA
  have hT : t0 - arcs.length + j < T (Arc.From (rd arcs j)) := by
    rcases hA with hA | hA
    · omega
    · exact hA
  clear hA
  obtain ⟨hu0, hu1, hv0, hv1⟩ := id hi
  have hls := h.ls
  have hlb := h.lb
  have hw := wt_le (rd arcs j) ii
  have hself : (Arc.From (rd arcs j)) = (Arc.To (rd arcs j)) → 0 < wt (rd arcs j) ii := fun e => by rw [e] at hv; omega
  generalize hS : rd s (Arc.From (rd arcs j)) + wt (rd arcs j) ii = S at hv
  have rs : ∀ x, 0 ≤ x → rd (s.set (Arc.To (rd arcs j)).toNat S) x = if x = (Arc.To (rd arcs j)) then S else rd s x := fun x hx => rd_set hv0 (by omega) hx
  have rb : ∀ x, 0 ≤ x → rd (b.set (Arc.To (rd arcs j)).toNat j) x = if x = (Arc.To (rd arcs j)) then j else rd b x := fun x hx => rd_set hv0 (by omega) hx
  have tu := h.tn _ hu0 hu1
  have tv := h.tn _ hv0 hv1
  refine ⟨by simpa using hls, by simpa using hlb, ?_, ?_, ?_, ?_, ?_, ?_, Or.inr ⟨hv0, hv1, by rw [if_pos rfl]; omega⟩⟩
  · intro v h0 h1
    rw [rs v h0]
    have := h.low v h0 h1
    split
    · rename_i e; subst e; omega
    · exact this
  · intro v h0 h1
    rw [rs v h0]
    have := h.cap v h0 h1
    have := h.cap _ hu0 hu1
    split <;> omega
  · intro p hp hlo v h0 h1
    rw [rs v h0]
    have h2 := h.least p hp hlo
    split
    · rename_i e
      have := hp j hj hjl hi
      have := h2 _ hu0 hu1
      subst e; omega
    · exact h2 v h0 h1
  · intro v h0 h1
    have := h.tn v h0 h1
    try dsimp only
    split <;> omega
  · intro v h0 h1
    rw [rb v h0]
    by_cases e : v = (Arc.To (rd arcs j))
    · right
      rw [if_pos e]
      try dsimp only
      rw [if_pos e, rs v h0, if_pos e, rs _ hu0]
      refine ⟨by omega, hj, hjl, hi, e.symm, ?_, ?_, ?_⟩
      · split
        · rename_i e2; have := hself e2; omega
        · omega
      · intro hle
        split
        · rename_i e2; have := hself e2; omega
        · rename_i e2; rw [if_neg e2] at hle; omega
      · split <;> omega
    · rw [if_neg e]
      rcases h.byr v h0 h1 with ⟨a1, a2⟩ | ⟨a1, a2, a3, a4, a5, a6, a7, a8⟩
      · left
        exact ⟨a1, by rw [if_neg e]; exact a2⟩
      · right
        try dsimp only
        rw [if_neg e, rs v h0, if_neg e, rs _ a4.1]
        refine ⟨a1, a2, a3, a4, a5, ?_, ?_, ?_⟩
        · split
          · rename_i e2; rw [e2] at a6; omega
          · exact a6
        · intro hle
          split
          · rename_i e2; rw [e2] at a6; omega
          · rename_i e2; rw [if_neg e2] at hle; exact a7 hle
        · split
          · rename_i e2; rw [e2] at a8; omega
          · exact a8
  · intro i h0 h1 hin
    obtain ⟨hiu0, hiu1, hiv0, hiv1⟩ := id hin
    rw [rs _ hiu0, rs _ hiv0]
    try dsimp only
    have tiu := h.tn _ hiu0 hiu1
    by_cases e : (Arc.From (rd arcs i)) = (Arc.To (rd arcs j))
    · right
      rw [if_pos e]
      split <;> omega
    · rw [if_neg e, if_neg e]
      by_cases ij : i = j
      · subst ij
        left
        rw [if_pos rfl]; omega
      · rcases h.sat i h0 h1 hin with h2 | h2
        · left
          split
          · rename_i e2; rw [e2] at h2; omega
          · exact h2
        · right
          by_cases hlt : i < j
          · rw [if_pos (by omega)]; rw [if_pos hlt] at h2; exact h2
          · rw [if_neg (by omega)]; rw [if_neg hlt] at h2; exact h2

/-- The next round. -/
theorem Inv.next (h : Inv n arcs ii lo s b T t0 j last) (hj : j = arcs.length) : Inv n arcs ii lo s b T (t0 + arcs.length) 0 (-1) where
  ls := h.ls
  lb := h.lb
  low := h.low
  cap v h0 h1 := by have := h.cap v h0 h1; omega
  least := h.least
  tn v h0 h1 := by have := h.tn v h0 h1; omega
  byr := h.byr
  sat i h0 h1 hi := by
    rcases h.sat i h0 h1 hi with h2 | h2
    · exact Or.inl h2
    · right
      rw [if_neg (by omega)]; rw [if_pos (by omega)] at h2; omega
  lst := Or.inl ⟨rfl, fun v h0 h1 => by have := h.tn v h0 h1; omega⟩

/-- A round without a change: all arcs hold. -/
theorem Inv.feas (h : Inv n arcs ii lo s b T t0 j last) (hj : j = arcs.length) (hl : last < 0) : Feas n arcs ii (rd s) := by
  intro i h0 h1 hi
  rcases h.sat i h0 h1 hi with h2 | h2
  · exact h2
  · exfalso
    rw [if_pos (by omega)] at h2
    rcases h.lst with ⟨_, h3⟩ | ⟨h3, _⟩
    · have := h3 _ hi.1 hi.2.1
      omega
    · omega
end

/-! ### Paths and cycles -/
/-- The arcs with these indices lead from u to v, each where the last one ended. -/
def Path (n : Int) (arcs : List Arc) : List Int → Int → Int → Prop
  | [], u, v => u = v
  | i :: c, u, v => 0 ≤ i ∧ i < arcs.length ∧ Inn n (rd arcs i) ∧ (Arc.From (rd arcs i)) = u ∧ Path n arcs c (Arc.To (rd arcs i)) v
def sumw (arcs : List Arc) (ii : Int) : List Int → Int
  | [] => 0
  | i :: c => wt (rd arcs i) ii + sumw arcs ii c
def Cyc (n : Int) (arcs : List Arc) (ii : Int) (c : List Int) : Prop := c ≠ [] ∧ (∃ u, Path n arcs c u u) ∧ (c.map fun i => (Arc.From (rd arcs i))).Nodup ∧ 0 < sumw arcs ii c

section
variable {n : Int} {arcs : List Arc} {ii : Int}
theorem Path.append {c d : List Int} : ∀ {u v x : Int}, Path n arcs c u v → Path n arcs d v x → Path n arcs (c ++ d) u x := by
  induction c with
  | nil => intro u v x h hd; cases h; exact hd
  | cons i c ih => intro u v x ⟨h0, h1, h2, h3, h4⟩ hd; exact ⟨h0, h1, h2, h3, ih h4 hd⟩
theorem sumw_append (c d : List Int) : sumw arcs ii (c ++ d) = sumw arcs ii c + sumw arcs ii d := by
  induction c with
  | nil => simp [sumw]
  | cons i c ih => simp only [List.cons_append, sumw, ih]; omega
theorem sumw_reverse (c : List Int) : sumw arcs ii c.reverse = sumw arcs ii c := by
  induction c with
  | nil => rfl
  | cons i c ih => rw [List.reverse_cons, sumw_append, ih]; simp only [sumw]; omega
/-- A potential bounds a path. -/
theorem Path.pot {p : Int → Int} : ∀ {c : List Int} {u v : Int}, Path n arcs c u v → (∀ i ∈ c, p (Arc.From (rd arcs i)) + wt (rd arcs i) ii ≤ p (Arc.To (rd arcs i))) → p u + sumw arcs ii c ≤ p v
  | [], u, v, h, _ => by cases h; simp [sumw]
  | i :: c, u, v, ⟨h0, h1, h2, h3, h4⟩, hp => by
    have a := hp i List.mem_cons_self
    have b := Path.pot (p := p) h4 (fun k hk => hp k (List.mem_cons_of_mem _ hk))
    subst h3
    simp only [sumw]
    omega
theorem Path.mem {c : List Int} : ∀ {u v : Int}, Path n arcs c u v → ∀ i ∈ c, 0 ≤ i ∧ i < arcs.length ∧ Inn n (rd arcs i) := by
  induction c with
  | nil => intro u v _ i hi; simp at hi
  | cons j c ih =>
    intro u v ⟨h0, h1, h2, h3, h4⟩ i hi
    rcases List.mem_cons.1 hi with rfl | hi
    · exact ⟨h0, h1, h2⟩
    · exact ih h4 i hi
/-- Where all arcs can be satisfied there is no such cycle. -/
theorem Cyc.not_feas {c : List Int} (h : Cyc n arcs ii c) {p : Int → Int} (hp : Feas n arcs ii p) : False := by
  obtain ⟨_, ⟨u, hu⟩, _, hs⟩ := h
  have := hu.pot (ii := ii) (p := p) (fun i hi => by obtain ⟨h0, h1, h2⟩ := hu.mem i hi; exact hp i h0 h1 h2)
  omega
theorem Cyc.length_le (hn : 0 ≤ n) {c : List Int} (h : Cyc n arcs ii c) : (c.length : Int) ≤ n := by
  obtain ⟨_, ⟨u, hu⟩, hd, _⟩ := h
  have := nodup_le n.toNat _ hd (fun x hx => by
    obtain ⟨i, hi, rfl⟩ := List.mem_map.1 hx
    obtain ⟨_, _, h2⟩ := hu.mem i hi
    have := h2.1
    have := h2.2.1
    omega)
  rw [List.length_map] at this
  omega
end

/-! ### The cycle that is found -/
def nx (arcs : List Arc) (b : List Int) (v : Int) : Int := (Arc.From (rd arcs (rd b v)))
def it (arcs : List Arc) (b : List Int) (v : Int) : Nat → Int
  | 0 => v
  | k + 1 => nx arcs b (it arcs b v k)
theorem it_add (arcs : List Arc) (b : List Int) (v : Int) (i j : Nat) : it arcs b v (i + j) = it arcs b (it arcs b v i) j := by
  induction j with
  | zero => rfl
  | succ j ih => rw [← Nat.add_assoc]; simp only [it, ih]

/-- A node whose last change is known. -/
def Good (n : Int) (arcs : List Arc) (b : List Int) (v : Int) : Prop := 0 ≤ v ∧ v < n ∧ 0 ≤ rd b v ∧ rd b v < arcs.length ∧ Inn n (rd arcs (rd b v)) ∧ (Arc.To (rd arcs (rd b v))) = v

theorem least_of (q : Nat → Prop) [DecidablePred q] (m : Nat) : q m → ∃ k, k ≤ m ∧ q k ∧ ∀ t, t < k → ¬ q t := by
  induction m using Nat.strongRecOn with
  | _ m ih =>
    intro h
    by_cases hex : ∃ t, t < m ∧ q t
    · obtain ⟨t, ht, hq⟩ := hex
      obtain ⟨k, h1, h2, h3⟩ := ih t ht hq
      exact ⟨k, by omega, h2, h3⟩
    · exact ⟨m, Nat.le_refl _, h, fun t ht hq => hex ⟨t, ht, hq⟩⟩

section
variable {n : Int} {arcs : List Arc} {ii : Int} {lo : Int → Int} {s b : List Int} {T : Int → Int} {t0 j last : Int}
theorem Inv.chain (h : Inv n arcs ii lo s b T t0 j last) (hn : 0 ≤ n) (hl : 0 ≤ last) (ht : n * arcs.length ≤ t0) : ∀ i : Nat, (i : Int) ≤ n →
    0 ≤ it arcs b last i ∧ it arcs b last i < n ∧ n * arcs.length < T (it arcs b last i) + i * arcs.length
  | 0, _ => by
    rcases h.lst with ⟨h1, _⟩ | ⟨h1, h2, h3⟩
    · omega
    · refine ⟨h1, h2, ?_⟩
      show _ < T last + ((0 : Nat) : Int) * _
      simp; omega
  | i + 1, hi => by
    obtain ⟨h1, h2, h3⟩ := Inv.chain h hn hl ht i (by omega)
    have hle : (i : Int) * arcs.length ≤ n * arcs.length := Int.mul_le_mul_of_nonneg_right (by omega) (by omega)
    have hsucc : ((i + 1 : Nat) : Int) * arcs.length = i * arcs.length + arcs.length := by rw [Int.natCast_add, Int.add_mul]; simp
    rcases h.byr _ h1 h2 with ⟨_, a⟩ | ⟨a1, a2, a3, a4, a5, a6, a7, a8⟩
    · omega
    · refine ⟨a4.1, a4.2.1, ?_⟩
      show _ < T (Arc.From (rd arcs (rd b (it arcs b last i)))) + _
      omega
theorem Inv.good (h : Inv n arcs ii lo s b T t0 j last) (hn : 0 ≤ n) (hl : 0 ≤ last) (ht : n * arcs.length ≤ t0) (i : Nat) (hi : (i : Int) ≤ n) : Good n arcs b (it arcs b last i) := by
  obtain ⟨h1, h2, h3⟩ := h.chain hn hl ht i hi
  have hle : (i : Int) * arcs.length ≤ n * arcs.length := Int.mul_le_mul_of_nonneg_right (by omega) (by omega)
  rcases h.byr _ h1 h2 with ⟨_, a⟩ | ⟨a1, a2, a3, a4, a5, _⟩
  · omega
  · exact ⟨h1, h2, a2, a3, a4, a5⟩
/-- Behind n steps one is on a cycle. -/
theorem Inv.ring (h : Inv n arcs ii lo s b T t0 j last) (hn : 0 ≤ n) (hl : 0 ≤ last) (ht : n * arcs.length ≤ t0) :
    ∃ m : Nat, 0 < m ∧ (m : Int) ≤ n ∧ it arcs b (it arcs b last n.toNat) m = it arcs b last n.toNat ∧ (∀ t, 0 < t → t < m → it arcs b (it arcs b last n.toNat) t ≠ it arcs b last n.toNat) ∧
      (∀ t, Good n arcs b (it arcs b (it arcs b last n.toNat) t)) ∧ ((List.range m).map (it arcs b (it arcs b last n.toNat))).Nodup := by
  have hg := h.good hn hl ht
  obtain ⟨i, k, hik, hk, he⟩ := pigeon n.toNat (it arcs b last) (fun i hi => by have := hg i (by omega); exact ⟨this.1, by have := this.2.1; omega⟩)
  have hper : ∀ t, it arcs b last (k + t) = it arcs b last (i + t) := fun t => by rw [it_add, it_add, he]
  have hall : ∀ t, Good n arcs b (it arcs b last t) := by
    intro t
    induction t using Nat.strongRecOn with
    | _ t ih =>
      by_cases htn : (t : Int) ≤ n
      · exact hg t htn
      · have e := hper (t - k)
        rw [show k + (t - k) = t by omega] at e
        rw [e]
        exact ih _ (by omega)
  have hret : it arcs b (it arcs b last n.toNat) (k - i) = it arcs b last n.toNat := by
    rw [← it_add]
    have e := hper (n.toNat - i)
    rw [show k + (n.toNat - i) = n.toNat + (k - i) by omega, show i + (n.toNat - i) = n.toNat by omega] at e
    exact e
  generalize hy : it arcs b last n.toNat = y at hret
  have hall' : ∀ t, Good n arcs b (it arcs b y t) := fun t => by rw [← hy, ← it_add]; exact hall _
  obtain ⟨m, _, ⟨hm0, hm⟩, hmin⟩ := least_of (fun t => 0 < t ∧ it arcs b y t = y) (k - i) ⟨by omega, hret⟩
  have hne : ∀ t, 0 < t → t < m → it arcs b y t ≠ y := fun t h0 h1 h2 => hmin t h1 ⟨h0, h2⟩
  have hnd : ((List.range m).map (it arcs b y)).Nodup := by
    rw [List.Nodup, List.pairwise_map]
    refine List.Pairwise.imp_of_mem (R := fun a b => a < b) ?_ List.pairwise_lt_range
    intro a c ha hc hac he
    have hcm := List.mem_range.1 hc
    have : it arcs b y (a + (m - c)) = y := by
      rw [it_add, he, ← it_add, show c + (m - c) = m by omega, hm]
    exact hne _ (by omega) (by omega) this
  refine ⟨m, hm0, ?_, hm, hne, hall', hnd⟩
  have := nodup_le n.toNat _ hnd (fun x hx => by
    obtain ⟨t, _, rfl⟩ := List.mem_map.1 hx
    have := hall' t
    exact ⟨this.1, by have := this.2.1; omega⟩)
  rw [List.length_map, List.length_range] at this
  omega
/-- The arcs of a way back, in the order of the way. -/
def back (arcs : List Arc) (b : List Int) (y : Int) (m : Nat) : List Int := ((List.range m).map fun t => rd b (it arcs b y t)).reverse
theorem back_succ (y : Int) (m : Nat) : back arcs b y (m + 1) = rd b (it arcs b y m) :: back arcs b y m := by
  unfold back; rw [List.range_succ, List.map_append, List.reverse_append]; rfl
theorem back_path {y : Int} (hg : ∀ t, Good n arcs b (it arcs b y t)) : ∀ m, Path n arcs (back arcs b y m) (it arcs b y m) y
  | 0 => rfl
  | m + 1 => by
    rw [back_succ]
    obtain ⟨h0, h1, h2, h3, h4, h5⟩ := hg m
    refine ⟨h2, h3, h4, rfl, ?_⟩
    rw [h5]
    exact back_path hg m
theorem Inv.back_sum (h : Inv n arcs ii lo s b T t0 j last) {y : Int} (hg : ∀ t, Good n arcs b (it arcs b y t)) : ∀ m, rd s y - rd s (it arcs b y m) ≤ sumw arcs ii (back arcs b y m) ∧
    (rd s y - rd s (it arcs b y m) < sumw arcs ii (back arcs b y m) ∨ T (it arcs b y m) < T y ∨ m = 0)
  | 0 => ⟨by simp [back, sumw, it], Or.inr (Or.inr rfl)⟩
  | m + 1 => by
    obtain ⟨h1, h2⟩ := Inv.back_sum h hg m
    rw [back_succ]
    obtain ⟨g0, g1, g2, g3, g4, g5⟩ := hg m
    rcases h.byr _ g0 g1 with ⟨a, _⟩ | ⟨a1, a2, a3, a4, a5, a6, a7, a8⟩
    · omega
    · simp only [sumw]
      have e : it arcs b y (m + 1) = (Arc.From (rd arcs (rd b (it arcs b y m)))) := rfl
      rw [← e] at a6 a7 a8
      refine ⟨by omega, ?_⟩
      by_cases hle : T (it arcs b y m) ≤ T (it arcs b y (m + 1))
      · have := a7 hle
        left; omega
      · rcases h2 with h2 | h2 | h2
        · left; omega
        · right; left; omega
        · subst h2
          right; left
          have : it arcs b y 0 = y := rfl
          rw [this] at hle; omega
theorem Inv.cyc (h : Inv n arcs ii lo s b T t0 j last) {y : Int} {m : Nat} (hm0 : 0 < m) (hm : it arcs b y m = y) (hg : ∀ t, Good n arcs b (it arcs b y t)) (hd : ((List.range m).map (it arcs b y)).Nodup) : Cyc n arcs ii (back arcs b y m) := by
  have hp := back_path hg m
  have hs := h.back_sum hg m
  rw [hm] at hp hs
  refine ⟨?_, ⟨y, hp⟩, ?_, ?_⟩
  · intro e
    have := congrArg List.length e
    simp [back] at this
    omega
  · have e1 : (back arcs b y m).map (fun i => (Arc.From (rd arcs i))) = ((List.range m).map fun t => it arcs b y (t + 1)).reverse := by
      unfold back
      rw [List.map_reverse, List.map_map]
      rfl
    rw [e1]
    refine (List.reverse_perm _).nodup_iff.2 ?_
    have e2 : y :: ((List.range m).map fun t => it arcs b y (t + 1)) = (List.range m).map (it arcs b y) ++ [y] := by
      have a1 : (List.range (m + 1)).map (it arcs b y) = (List.range m).map (it arcs b y) ++ [y] := by rw [List.range_succ, List.map_append]; simp [hm]
      have a2 : (List.range (m + 1)).map (it arcs b y) = y :: ((List.range m).map fun t => it arcs b y (t + 1)) := by rw [List.range_succ_eq_map, List.map_cons, List.map_map]; rfl
      rw [← a1, a2]
    have hperm : (y :: ((List.range m).map fun t => it arcs b y (t + 1))).Perm (y :: (List.range m).map (it arcs b y)) := by
      rw [e2]; exact List.perm_append_singleton y _
    exact ((List.perm_cons y).1 hperm).nodup_iff.2 hd
  · rcases hs.2 with h2 | h2 | h2 <;> omega
end


/-! ### The program -/
theorem reverse_f (xs : List Int) (hlen : xs.length ≤ 1000000000) : Ev (fun k => slices_Reverse_int_int.f k xs) ((), xs.reverse, ()) := by
  have hrev : ∀ t : Int, 0 ≤ t → t < xs.length → rd xs.reverse t = rd xs ((xs.length : Int) - 1 - t) := by
    intro t h0 h1
    rw [rd_eq (j := t.toNat) (by omega) (by rw [List.length_reverse]; omega), rd_eq (j := xs.length - 1 - t.toNat) (by omega) (by omega), List.getElem_reverse]
  have hend : ∀ (ys : List Int) (i j : Int), i + j = (xs.length : Int) - 1 → j ≤ i → ys.length = xs.length →
    (∀ t : Int, 0 ≤ t → t < xs.length → rd ys t = if i ≤ t ∧ t ≤ j then rd xs t else rd xs ((xs.length : Int) - 1 - t)) → ys = xs.reverse := by
    intro ys i j hs hji hl hx
    refine rd_ext (by simp [hl]) (fun t h0 h1 => ?_)
    rw [hx t h0 (by omega), hrev t h0 (by omega)]
    split
    · congr 1; omega
    · rfl
  have loop : ∀ (d : Nat) (ys : List Int) (i j : Int), 0 ≤ i → i + j = (xs.length : Int) - 1 → j - i < 2 * d → ys.length = xs.length →
      (∀ t : Int, 0 ≤ t → t < xs.length → rd ys t = if i ≤ t ∧ t ≤ j then rd xs t else rd xs ((xs.length : Int) - 1 - t)) → Ev (fun k => slices_Reverse_int_int.c1 k i j ys) ((), xs.reverse, ()) := by
    intro d
    induction d with
    | zero =>
      intro ys i j h0 hs hd hl hx
      refine .succ ?_
      simp (disch := omega) only [slices_Reverse_int_int.c1, ↓cdF]
      rw [hend ys i j hs (by omega) hl hx]
      exact .ret _
    | succ d ih =>
      intro ys i j h0 hs hd hl hx
      refine .succ ?_
      by_cases hij : i < j
      · simp (disch := first | omega | (simp only [List.length_set]; omega)) only [slices_Reverse_int_int.c1, ↓cdT, ↓if_pos, w64_id]
        refine ih _ _ _ (by omega) (by omega) (by omega) (by simp [hl]) fun t ht0 ht1 => ?_
        rw [rd_set (by omega) (by rw [List.length_set]; omega) ht0, rd_set h0 (by omega) ht0]
        have e1 := hx i h0 (by omega)
        have e2 := hx j (by omega) (by omega)
        rw [if_pos (by omega)] at e1 e2
        by_cases c1 : t = j
        · rw [if_pos c1, if_neg (by omega), e1]; congr 1; omega
        · rw [if_neg c1]
          by_cases c2 : t = i
          · rw [if_pos c2, if_neg (by omega), e2]; congr 1; omega
          · rw [if_neg c2, hx t ht0 ht1]
            by_cases c3 : i ≤ t ∧ t ≤ j
            · rw [if_pos c3, if_pos (by omega)]
            · rw [if_neg c3, if_neg (by omega)]
      · simp (disch := omega) only [slices_Reverse_int_int.c1, ↓cdF]
        rw [hend ys i j hs (by omega) hl hx]
        exact .ret _
  simp only [slices_Reverse_int_int.f]
  rw [w64_id (by omega) (by omega)]
  exact loop xs.length xs 0 _ (by omega) (by omega) (by omega) rfl (fun t h0 h1 => by rw [if_pos (by omega)])

section
variable {n : Int} {arcs : List Arc} {b : List Int}
theorem around_c8 {y : Int} {m : Nat} (hm : it arcs b y m = y) (hmn : m ≤ 8192) (hne : ∀ t, 0 < t → t < m → it arcs b y t ≠ y) (hg : ∀ t, Good n arcs b (it arcs b y t)) (hb : (b.length : Int) = n) :
    ∀ (d t : Nat), t + d + 1 = m → Ev (fun k => diffcons_around.c8 k arcs b y (it arcs b y t) ((List.range t).map fun i => rd b (it arcs b y i))) (some (back arcs b y m)) := by
  intro d
  induction d with
  | zero =>
    intro t htd
    obtain ⟨g0, g1, g2, g3, g4, g5⟩ := hg t
    obtain rfl : m = t + 1 := by omega
    have hlst : ((List.range t).map fun i => rd b (it arcs b y i)) ++ [rd b (it arcs b y t)] = (List.range (t + 1)).map fun i => rd b (it arcs b y i) := by rw [List.range_succ, List.map_append]; rfl
    have hm' : (Arc.From (rd arcs (rd b (it arcs b y t)))) = y := hm
    refine .succ ?_
    simp (disch := first | omega | (simp only [List.length_map, List.length_range, List.length_singleton]; omega)) only [diffcons_around.c8, ↓if_pos, ↓bleT, ↓cdT, hlst]
    refine .bind (reverse_f _ (by simp; omega)) ?_
    exact .ret _
  | succ d ih =>
    intro t htd
    obtain ⟨g0, g1, g2, g3, g4, g5⟩ := hg t
    have hlst : ((List.range t).map fun i => rd b (it arcs b y i)) ++ [rd b (it arcs b y t)] = (List.range (t + 1)).map fun i => rd b (it arcs b y i) := by rw [List.range_succ, List.map_append]; rfl
    have hm' : ¬ (Arc.From (rd arcs (rd b (it arcs b y t)))) = y := hne (t + 1) (by omega) (by omega)
    refine .succ ?_
    simp (disch := first | omega | (simp only [List.length_map, List.length_range, List.length_singleton]; omega)) only [diffcons_around.c8, ↓if_pos, ↓bleT, ↓cdF, hlst]
    exact ih (t + 1) (by omega)
theorem around_c2 {v : Int} {N : Nat} (hN : (N : Int) = n) (hn : n ≤ 8192) (hb : (b.length : Int) = n) (hg : ∀ t : Nat, (t : Int) ≤ n → Good n arcs b (it arcs b v t)) {Q : Option (List Int) → Prop}
    (hk : W (fun k => diffcons_around.c8 k arcs b (it arcs b v N) (it arcs b v N) []) Q) :
    ∀ (d t : Nat), t + d = N → W (fun k => diffcons_around.c2 k arcs b (it arcs b v t) n t) Q := by
  intro d
  induction d with
  | zero =>
    intro t ht
    obtain rfl : t = N := by omega
    refine .succ ?_
    simp (disch := omega) only [diffcons_around.c2, ↓cdF]
    refine .succ ?_
    simp only [diffcons_around.c6]
    exact hk
  | succ d ih =>
    intro t ht
    obtain ⟨g0, g1, g2, g3, g4, g5⟩ := hg t (by omega)
    refine .succ ?_
    simp (disch := omega) only [diffcons_around.c2, ↓cdT, ↓cdF, ↓if_pos, w64_id]
    exact ih (t + 1) (by omega)
end
theorem around_f {n : Int} {arcs : List Arc} {ii : Int} {lo : Int → Int} {s b : List Int} {T : Int → Int} {t0 j last : Int} (h : Inv n arcs ii lo s b T t0 j last) (hn : 0 ≤ n) (hn2 : n ≤ 8192) (hl : 0 ≤ last) (ht : n * arcs.length ≤ t0) :
    W (fun k => diffcons_around.f k arcs b last n) (fun c => ∃ l, c = some l ∧ Cyc n arcs ii l) := by
  obtain ⟨m, hm0, hmn, hm, hne, hg, hd⟩ := h.ring hn hl ht
  simp only [diffcons_around.f]
  refine around_c2 (N := n.toNat) (by omega) hn2 h.lb (fun t htn => h.good hn hl ht t htn) ?_ n.toNat 0 (by omega)
  have := around_c8 hm (by omega) hne hg h.lb (m - 1) 0 (by omega)
  exact this.w ⟨_, rfl, h.cyc hm0 hm hg hd⟩

/-- What After answers: the least solution above the bounds, or a cycle. -/
def Answer (n : Int) (arcs : List Arc) (ii : Int) (lo : Int → Int) (r : List Int × Option (List Int) × Unit) : Prop :=
  (r.2.1 = none ∧ (r.1.length : Int) = n ∧ (∀ v, 0 ≤ v → v < n → lo v ≤ rd r.1 v ∧ rd r.1 v ≤ 1073741824 + (n + 2) * arcs.length * 269484032) ∧ Feas n arcs ii (rd r.1) ∧ ∀ p : Int → Int, Feas n arcs ii p → (∀ v, 0 ≤ v → v < n → lo v ≤ p v) → ∀ v, 0 ≤ v → v < n → rd r.1 v ≤ p v) ∨
  (r.1 = [] ∧ ∃ c, r.2.1 = some c ∧ Cyc n arcs ii c)
section
variable {n : Int} {arcs : List Arc} {ii : Int} {lo : Int → Int}
theorem after_c14 (hn : 0 ≤ n) (hn2 : n ≤ 8192) (hlen : (n + 2) * arcs.length ≤ 10000000000) {r : Int} (hr0 : 0 ≤ r) (hrn : r ≤ n)
    (hnext : r < n → ∀ (s b : List Int) (T : Int → Int), Inv n arcs ii lo s b T ((r + 1) * arcs.length) 0 (-1) → W (fun k => diffcons_After.c12 k n arcs ii (r + 1) s b) (Answer n arcs ii lo))
    (hlow : ∀ v, -1073741824 ≤ lo v) :
    ∀ (d : Nat) (s b : List Int) (T : Int → Int) (j last : Int), 0 ≤ j → j + d = arcs.length → Inv n arcs ii lo s b T (r * arcs.length) j last →
      W (fun k => diffcons_After.c14 k n arcs ii r last arcs arcs.length j s b) (Answer n arcs ii lo) := by
  have hrl : 0 ≤ r * arcs.length := Int.mul_nonneg hr0 (by omega)
  have hrl2 : (r + 2) * arcs.length ≤ (n + 2) * arcs.length := Int.mul_le_mul_of_nonneg_right (by omega) (by omega)
  have e2 : (r + 2) * (arcs.length : Int) = r * arcs.length + 2 * arcs.length := Int.add_mul _ _ _
  have e1 : (r + 1) * (arcs.length : Int) = r * arcs.length + arcs.length := by rw [Int.add_mul]; omega
  intro d
  induction d with
  | zero =>
    intro s b T j last hj0 hjd h
    have hjl : j = arcs.length := by omega
    refine .succ ?_
    simp (disch := omega) only [diffcons_After.c14, ↓cdF]
    refine .dec (fun hl => .ret (Or.inl ⟨rfl, h.ls, fun v h0 h1 => ⟨h.low v h0 h1, by have := h.cap v h0 h1; show rd s v ≤ _; omega⟩, h.feas hjl hl, h.least⟩)) fun hl => ?_
    refine .dec (fun hrn' => ?_) fun hrn' => ?_
    · have hnr : n * arcs.length ≤ r * arcs.length := Int.mul_le_mul_of_nonneg_right (by omega) (by omega)
      refine W.bind (around_f h hn hn2 (by omega) hnr) fun c hc => ?_
      obtain ⟨l, rfl, hc⟩ := hc
      simp only [Option.isSome_some, cond_true, Option.getD_some]
      exact .ret (Or.inr ⟨rfl, l, rfl, hc⟩)
    · rw [w64_id (by omega) (by omega)]
      exact hnext (by omega) s b T (by rw [e1]; exact h.next hjl)
  | succ d ih =>
    intro s b T j last hj0 hjd h
    have hjl : j < arcs.length := by omega
    refine .succ ?_
    simp (disch := omega) only [diffcons_After.c14, ↓cdT, ↓if_pos, within_f, weight_f, Option.bind_some, w64_id (n := j + 1)]
    by_cases hi : Inn n (rd arcs j)
    · obtain ⟨hu0, hu1, hv0, hv1⟩ := id hi
      have hcu := h.cap _ hu0 hu1
      have hlu := h.low _ hu0 hu1
      have hlo := hlow (Arc.From (rd arcs j))
      have hw := wt_le (rd arcs j) ii
      have hls := h.ls
      have hlb := h.lb
      simp only [hi, decide_true, Bool.not_true, cond_false]
      simp (disch := omega) only [↓if_pos, w64_id]
      refine .dec (fun hv => ?_) fun hv => ?_
      · exact ih _ _ _ (j + 1) _ (by omega) (by omega) (h.put hj0 hjl hi hv)
      · exact ih _ _ _ (j + 1) last (by omega) (by omega) (h.skip hj0 (fun _ => by omega))
    · simp only [hi, decide_false, Bool.not_false, cond_true]
      exact ih _ _ _ (j + 1) last (by omega) (by omega) (h.skip hj0 (fun h' => absurd h' hi))
theorem after_c12 (hn : 0 ≤ n) (hn2 : n ≤ 8192) (hlen : (n + 2) * arcs.length ≤ 10000000000) (hlow : ∀ v, -1073741824 ≤ lo v) :
    ∀ (d : Nat) (r : Int), 0 ≤ r → r + d = n → ∀ (s b : List Int) (T : Int → Int), Inv n arcs ii lo s b T (r * arcs.length) 0 (-1) → W (fun k => diffcons_After.c12 k n arcs ii r s b) (Answer n arcs ii lo) := by
  intro d
  induction d with
  | zero =>
    intro r hr0 hrd s b T h
    refine .succ ?_
    simp only [diffcons_After.c12]
    exact after_c14 hn hn2 hlen hr0 (by omega) (fun hlt => by omega) hlow arcs.length s b T 0 (-1) (by omega) (by omega) h
  | succ d ih =>
    intro r hr0 hrd s b T h
    refine .succ ?_
    simp only [diffcons_After.c12]
    exact after_c14 hn hn2 hlen hr0 (by omega) (fun _ s b T h' => ih (r + 1) (by omega) (by omega) s b T h') hlow arcs.length s b T 0 (-1) (by omega) (by omega) h
theorem Inv.start {s b : List Int} (hs : (s.length : Int) = n) (hb : (b.length : Int) = n) (hsv : ∀ v, 0 ≤ v → v < n → rd s v = lo v) (hbv : ∀ v, 0 ≤ v → v < n → rd b v = -1) (hhi : ∀ v, lo v ≤ 1073741824) :
    Inv n arcs ii lo s b (fun _ => 0) 0 0 (-1) where
  ls := hs
  lb := hb
  low v h0 h1 := by rw [hsv v h0 h1]; omega
  cap v h0 h1 := by rw [hsv v h0 h1]; have := hhi v; omega
  least p _ hp v h0 h1 := by rw [hsv v h0 h1]; exact hp v h0 h1
  tn v h0 h1 := by simp
  byr v h0 h1 := Or.inl ⟨hbv v h0 h1, rfl⟩
  sat i h0 h1 hi := by right; rw [if_neg (by omega)]; omega
  lst := Or.inl ⟨rfl, fun v h0 h1 => by simp⟩
end
/-- AFTER. -/
theorem after_f {n0 : Int} {arcs : List Arc} {ii : Int} {lower : List Int} (hlen : (nod n0 + 2) * arcs.length ≤ 10000000000) : W (fun k => diffcons_After.f k n0 arcs ii lower) (Answer (nod n0) arcs ii (bnd lower)) := by
  obtain ⟨hn, hn2⟩ := nod_le n0
  simp (disch := omega) only [diffcons_After.f, nodes_f, Option.bind_some, ↓if_pos]
  generalize nod n0 = n at *
  have loop : ∀ (d : Nat) (i : Int) (s b : List Int), 0 ≤ i → i + d = n → (s.length : Int) = n → (b.length : Int) = n → (∀ v, 0 ≤ v → v < i → rd s v = bnd lower v) → (∀ v, 0 ≤ v → v < i → rd b v = -1) →
      W (fun k => diffcons_After.c5 k n arcs ii lower n i s b) (Answer n arcs ii (bnd lower)) := by
    intro d
    induction d with
    | zero =>
      intro i s b h0 hd hs hb hsv hbv
      refine .succ ?_
      simp (disch := omega) only [diffcons_After.c5, ↓cdF]
      refine after_c12 hn hn2 hlen (fun v => (bnd_le lower v).1) n.toNat 0 (by omega) (by omega) _ _ (fun _ => 0) ?_
      rw [Int.zero_mul]
      exact Inv.start hs hb (fun v a b => hsv v a (by omega)) (fun v a b => hbv v a (by omega)) (fun v => (bnd_le lower v).2)
    | succ d ih =>
      intro i s b h0 hd hs hb hsv hbv
      refine .succ ?_
      simp (disch := omega) only [diffcons_After.c5, ↓cdT, bound_f, Option.bind_some, ↓if_pos, w64_id]
      refine ih (i + 1) (s.set i.toNat (bnd lower i)) (b.set i.toNat (-1)) (by omega) (by omega) (by simpa using hs) (by simpa using hb) ?_ ?_
      · intro v hv0 hv1
        rw [rd_set h0 (by omega) hv0]
        split
        · rename_i e; subst e; rfl
        · exact hsv v hv0 (by omega)
      · intro v hv0 hv1
        rw [rd_set h0 (by omega) hv0]
        split
        · rfl
        · exact hbv v hv0 (by omega)
  rw [show ((List.replicate n.toNat (0 : Int)).length : Int) = n by simp; omega]
  exact loop n.toNat 0 (List.replicate n.toNat 0) (List.replicate n.toNat 0) (by omega) (by omega) (by simp; omega) (by simp; omega) (fun v a b => by omega) (fun v a b => by omega)
theorem bnd_nil {v : Int} (h : 0 ≤ v) : bnd [] v = 0 := by simp [bnd, h]
theorem earliest_f {n0 : Int} {arcs : List Arc} {ii : Int} (hlen : (nod n0 + 2) * arcs.length ≤ 10000000000) : W (fun k => diffcons_Earliest.f k n0 arcs ii) (Answer (nod n0) arcs ii (fun _ => 0)) := by
  simp only [diffcons_Earliest.f]
  refine W.bind (after_f hlen) fun a ha => ?_
  rcases ha with ⟨a1, a2, a3, a4, a5⟩ | ⟨a1, c, a2, a3⟩
  · simp only [a1, Option.isSome_none, cond_false]
    refine .ret (Or.inl ⟨rfl, a2, fun v h0 h1 => ?_, a4, fun p hp hl v h0 h1 => a5 p hp (fun v h0 h1 => ?_) v h0 h1⟩)
    · have := a3 v h0 h1; rwa [bnd_nil h0] at this
    · have := hl v h0 h1; rw [bnd_nil h0]; exact this
  · simp only [a2, Option.isSome_some, cond_true, Option.getD_some]
    exact .ret (Or.inr ⟨a1, c, rfl, a3⟩)
end Go.Proofs.YtehpelomfhaleaaV.Diff
