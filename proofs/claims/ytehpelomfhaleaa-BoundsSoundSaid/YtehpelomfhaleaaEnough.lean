/- In a legal schedule there are enough units in each cycle. -/
import Derived.Test.YtehpelomfhaleaaChkV
set_option linter.unusedVariables false
set_option linter.unusedSimpArgs false
namespace Go.Proofs.YtehpelomfhaleaaV
open Go Go.Vm
open Classical

/-! ### tables of numbers -/
def mkRow (n : Nat) (g : Nat → Int) : List Int := (List.range n).map g
def mkTab (m n : Nat) (g : Nat → Nat → Int) : List (List Int) := (List.range m).map fun r => mkRow n (g r)
theorem mkRow_len {n : Nat} {g : Nat → Int} : (mkRow n g).length = n := by simp [mkRow]
theorem mkTab_len {m n : Nat} {g : Nat → Nat → Int} : (mkTab m n g).length = m := by simp [mkTab]
theorem mkRow_rd {n : Nat} {g : Nat → Int} {c : Nat} (h : c < n) : rd (mkRow n g) (c : Int) = g c := by
  rw [rd_eq (by rw [mkRow_len]; exact h)]
  simp [mkRow]
theorem mkTab_rd {m n : Nat} {g : Nat → Nat → Int} {r : Nat} (h : r < m) : rd (mkTab m n g) (r : Int) = mkRow n (g r) := by
  rw [rd_eq (by rw [mkTab_len]; exact h)]
  simp [mkTab]
theorem mkRow_set {n : Nat} {g g' : Nat → Int} {c : Nat} {v : Int} (hc : g' c = v) (h : ∀ c', c' ≠ c → g' c' = g c') : List.set (mkRow n g) c v = mkRow n g' := by
  apply List.ext_getElem
  · rw [List.length_set, mkRow_len, mkRow_len]
  · intro i h1 h2
    rw [List.getElem_set]
    simp only [mkRow, List.getElem_map, List.getElem_range]
    split
    · rename_i e; rw [← e, hc]
    · rename_i e; rw [h i (Ne.symm e)]
theorem mkRow_congr {n : Nat} {g g' : Nat → Int} (h : ∀ c, c < n → g c = g' c) : mkRow n g = mkRow n g' := List.map_congr_left fun c hc => h c (List.mem_range.1 hc)
theorem mkTab_set {m n : Nat} {g g' : Nat → Nat → Int} {r : Nat} (hr : r < m) {l : List Int} (hl : l = mkRow n (g' r)) (h : ∀ r', r' ≠ r → ∀ c, c < n → g' r' c = g r' c) : List.set (mkTab m n g) r l = mkTab m n g' := by
  apply List.ext_getElem
  · rw [List.length_set, mkTab_len, mkTab_len]
  · intro i h1 h2
    rw [List.getElem_set]
    simp only [mkTab, List.getElem_map, List.getElem_range]
    split
    · rename_i e; rw [← e, hl]
    · rename_i e; exact mkRow_congr fun c hc => (h i (Ne.symm e) c hc).symm
theorem rep_row {n : Nat} : List.replicate n (0 : Int) = mkRow n (fun _ => 0) := by
  unfold mkRow
  rw [List.map_const', List.length_range]

theorem nodup_le : ∀ (n : Nat) (l : List Nat), l.Nodup → (∀ x ∈ l, x < n) → l.length ≤ n
  | 0, l, _, h => by
    cases l with
    | nil => simp
    | cons a l => have := h a (by simp); omega
  | n + 1, l, hn, h => by
    by_cases hm : n ∈ l
    · have h2 := nodup_le n (l.erase n) (hn.erase n) (fun x hx => by
        have h3 := (hn.mem_erase_iff.1 hx)
        have := h x h3.2
        have := h3.1
        omega)
      rw [List.length_erase_of_mem hm] at h2
      omega
    · have := nodup_le n l hn (fun x hx => by
        have := h x hx
        have : x ≠ n := fun e => hm (e ▸ hx)
        omega)
      omega

section
variable {f : Flow} {s : Sched}

/-- the cycles that are told apart -/
def cycs (f : Flow) (s : Sched) : Int := if Flow.Loop f = true then Sched.II s else Sched.Depth s
/-- the cycle of an instruction's b-th busy cycle -/
def cyc (f : Flow) (s : Sched) (i b : Nat) : Int := if Flow.Loop f = true then (rd (Sched.Start s) (i : Int) + b) % Sched.II s else rd (Sched.Start s) (i : Int) + b
def hit (f : Flow) (s : Sched) (r c i b : Nat) : Prop := Need.Res (rd (Flow.Needs f) (i : Int)) = r ∧ cyc f s i b = c
noncomputable def part (f : Flow) (s : Sched) (r c i : Nat) : Nat → Nat
  | 0 => 0
  | b + 1 => part f s r c i b + if hit f s r c i b then 1 else 0
def busyN (f : Flow) (i : Nat) : Nat := (Need.Busy (rd (Flow.Needs f) (i : Int))).toNat
noncomputable def tot (f : Flow) (s : Sched) (r c : Nat) : Nat → Nat
  | 0 => 0
  | i + 1 => tot f s r c i + part f s r c i (busyN f i)

theorem part_le {r c i b : Nat} : part f s r c i b ≤ b := by
  induction b with
  | zero => exact Nat.le_refl _
  | succ b ih => unfold part; split <;> omega
theorem tot_le (V : VALID f) {r c i : Nat} (hi : i ≤ (Flow.Needs f).length) : tot f s r c i ≤ i * 256 := by
  induction i with
  | zero => simp [tot]
  | succ i ih =>
    unfold tot
    have h1 := part_le (f := f) (s := s) (r := r) (c := c) (i := i) (b := busyN f i)
    have : busyN f i ≤ 256 := by
      unfold busyN
      rcases V.need i (by omega) with ⟨_, a⟩ | ⟨_, _, _, a⟩ <;> omega
    have := ih (by omega)
    omega

/-- what is counted so far -/
noncomputable def upTo (f : Flow) (s : Sched) (i b : Nat) (r c : Nat) : Int := ((tot f s r c i + part f s r c i b : Nat) : Int)

theorem upTo_bound (V : VALID f) {i b r c : Nat} (hi : i ≤ (Flow.Needs f).length) (hb : b ≤ 256) : 0 ≤ upTo f s i b r c ∧ upTo f s i b r c ≤ 2000000 := by
  have h1 := tot_le (s := s) V (r := r) (c := c) hi
  have h2 := part_le (f := f) (s := s) (r := r) (c := c) (i := i) (b := b)
  have h3 := V.needs
  have h4 := V.i1
  unfold upTo
  omega

theorem upTo_hit {i b r c : Nat} : upTo f s i (b + 1) r c = upTo f s i b r c + if hit f s r c i b then 1 else 0 := by
  have e : part f s r c i (b + 1) = part f s r c i b + if hit f s r c i b then 1 else 0 := rfl
  unfold upTo
  rw [e]
  split <;> omega

theorem cycs_pos (F : FITS f s) : 0 < cycs f s ∧ cycs f s ≤ 4096 := by
  have := F.loop
  have := F.ii
  have := F.depth
  unfold cycs
  split
  · rename_i h; have := F.loop.2 h; omega
  · omega

theorem cyc_bound (F : FITS f s) (V : VALID f) {i b : Nat} (hi : (i : Int) < Flow.Insts f) (hb : b ≤ 256) : 0 ≤ cyc f s i b ∧ (Flow.Loop f = true → cyc f s i b < cycs f s) ∧ cyc f s i b ≤ 5000 := by
  have h1 := F.start
  have st := F.starts i (by omega)
  have ii := F.ii
  unfold cyc cycs
  split
  · rename_i h
    have hp := F.loop.2 h
    have := Int.emod_nonneg (rd (Sched.Start s) (i : Int) + b) (show Sched.II s ≠ 0 by omega)
    have := Int.emod_lt_of_pos (rd (Sched.Start s) (i : Int) + b) hp
    omega
  · rename_i h
    exact ⟨by omega, fun h2 => absurd h2 h, by omega⟩

/-! ### the program's table -/
/-! ### there are enough units -/
theorem clList_nil (V : VALID f) (h : clList f s = []) : (∀ i : Nat, (i : Int) < Flow.Insts f → ¬ SELF f s i) ∧ ∀ i k : Nat, i < k → (k : Int) < Flow.Insts f → ¬ CL f s i k := by
  unfold clList at h
  rw [List.flatMap_eq_nil_iff] at h
  have hr : ∀ i : Nat, (i : Int) < Flow.Insts f → row f s i = [] := fun i hi => h i (List.mem_range.2 (by omega))
  refine ⟨fun i hi hs => ?_, fun i k hik hk hc => ?_⟩
  · have := hr i hi
    unfold row at this
    rw [if_pos hs] at this
    simp at this
  · have := hr i (by omega)
    unfold row at this
    rw [List.append_eq_nil_iff] at this
    have := pick_nil.1 this.2 (k - i - 1) (by omega)
    rw [show i + 1 + (k - i - 1) = k by omega] at this
    simp [hc] at this

theorem one_hit (V : VALID f) (F : FITS f s) {i : Nat} (hi : (i : Int) < Flow.Insts f) (hs : ¬ SELF f s i) {r c b1 b2 : Nat} (h12 : b1 < b2) (hb : b2 < busyN f i) (h1 : hit f s r c i b1) (h2 : hit f s r c i b2) : False := by
  obtain ⟨e1, e2⟩ := h1
  obtain ⟨_, e3⟩ := h2
  rw [← e3] at e2
  unfold cyc at e2
  unfold busyN at hb
  split at e2
  · rename_i hl
    have hp := F.loop.2 hl
    refine hs ⟨hp, by omega, ?_⟩
    have hd : (Sched.II s) ∣ ((rd (Sched.Start s) (i : Int) + (b2 : Int)) - (rd (Sched.Start s) (i : Int) + (b1 : Int))) := by
      apply Int.dvd_of_emod_eq_zero
      rw [Int.sub_emod, e2, Int.sub_self, Int.zero_emod]
    have : Sched.II s ≤ (b2 : Int) - b1 := by
      have := Int.le_of_dvd (by omega) hd
      omega
    omega
  · omega

theorem part_one (V : VALID f) (F : FITS f s) {i : Nat} (hi : (i : Int) < Flow.Insts f) (hs : ¬ SELF f s i) {r c : Nat} : ∀ b, b ≤ busyN f i → part f s r c i b ≤ 1 ∧ (part f s r c i b = 1 → ∃ b', b' < b ∧ hit f s r c i b') := by
  intro b
  induction b with
  | zero => intro _; exact ⟨by simp [part], fun h => by simp [part] at h⟩
  | succ b ih =>
    intro hb
    obtain ⟨h1, h2⟩ := ih (by omega)
    unfold part
    by_cases hh : hit f s r c i b
    · rw [if_pos hh]
      have : part f s r c i b = 0 := by
        rcases Nat.eq_zero_or_pos (part f s r c i b) with h | h
        · exact h
        · obtain ⟨b', g1, g2⟩ := h2 (by omega)
          exact (one_hit V F hi hs g1 hb g2 hh).elim
      exact ⟨by omega, fun _ => ⟨b, by omega, hh⟩⟩
    · rw [if_neg hh]
      refine ⟨by omega, fun h => ?_⟩
      obtain ⟨b', g1, g2⟩ := h2 (by omega)
      exact ⟨b', by omega, g2⟩

/-- the units that are occupied in a cycle -/
noncomputable def usedU (f : Flow) (s : Sched) (r c m : Nat) : List Nat := pick (fun i => decide (∃ b, b < busyN f i ∧ hit f s r c i b)) (fun i => (rd (Sched.Unit s) (i : Int)).toNat) m

theorem used_mem {r c m x : Nat} (h : x ∈ usedU f s r c m) : ∃ i b, i < m ∧ b < busyN f i ∧ hit f s r c i b ∧ x = (rd (Sched.Unit s) (i : Int)).toNat := by
  unfold usedU pick at h
  rw [List.mem_map] at h
  obtain ⟨i, hi, e⟩ := h
  rw [List.mem_filter, List.mem_range, decide_eq_true_eq] at hi
  obtain ⟨h1, b, h2, h3⟩ := hi
  exact ⟨i, b, h1, h2, h3, e.symm⟩

theorem emod_le_self {b n : Int} (hb : 0 ≤ b) (hn : 0 < n) : b % n ≤ b := by
  have e := Int.emod_add_mul_ediv b n
  have q := Int.ediv_nonneg hb (by omega : (0 : Int) ≤ n)
  have := Int.mul_nonneg (by omega : (0 : Int) ≤ n) q
  omega

theorem meets (V : VALID f) (F : FITS f s) {i k : Nat} (hi : (i : Int) < Flow.Insts f) (hk : (k : Int) < Flow.Insts f) {r c bi bk : Nat} (h1 : bi < busyN f i) (h2 : bk < busyN f k) (g1 : hit f s r c i bi) (g2 : hit f s r c k bk) (hu : rd (Sched.Unit s) (i : Int) = rd (Sched.Unit s) (k : Int)) : CL f s i k := by
  obtain ⟨e1, e2⟩ := g1
  obtain ⟨e3, e4⟩ := g2
  unfold busyN at h1 h2
  unfold cyc at e2 e4
  refine ⟨by omega, by rw [e1, e3], hu, by omega, by omega, fun h => ?_, fun h => ?_⟩
  · have hl : ¬ Flow.Loop f = true := fun hl => by have := F.loop.2 hl; omega
    rw [if_neg hl] at e2 e4
    omega
  · have hl := F.loop.1 h
    rw [if_pos hl] at e2 e4
    refine (circle (a := rd (Sched.Start s) (i : Int)) (b := rd (Sched.Start s) (k : Int)) h (by omega) (by omega)).1 ⟨c, by omega, ?_, ?_, ?_⟩
    · rw [← e2]; exact Int.emod_lt_of_pos _ h
    · rw [← e2, Int.emod_sub_emod, show rd (Sched.Start s) (i : Int) + (bi : Int) - rd (Sched.Start s) (i : Int) = (bi : Int) by omega]
      have : (bi : Int) % Sched.II s ≤ bi := emod_le_self (by omega) h
      omega
    · rw [← e4, Int.emod_sub_emod, show rd (Sched.Start s) (k : Int) + (bk : Int) - rd (Sched.Start s) (k : Int) = (bk : Int) by omega]
      have : (bk : Int) % Sched.II s ≤ bk := emod_le_self (by omega) h
      omega

theorem enough (V : VALID f) (F : FITS f s) (h : clList f s = []) {r : Nat} (hr : r < (Flow.Res f).length) (c : Nat) : ((tot f s r c (Flow.Needs f).length : Nat) : Int) ≤ Resource.Count (rd (Flow.Res f) (r : Int)) := by
  obtain ⟨hself, hcl⟩ := clList_nil V h
  have hn := V.needs
  have hu := F.unit
  have key : ∀ m, m ≤ (Flow.Needs f).length → (usedU f s r c m).Nodup ∧ tot f s r c m ≤ (usedU f s r c m).length := by
    intro m
    induction m with
    | zero => intro _; exact ⟨by simp [usedU, pick], by simp [tot]⟩
    | succ m ih =>
      intro hm
      obtain ⟨g1, g2⟩ := ih (by omega)
      obtain ⟨p1, p2⟩ := part_one V F (i := m) (by omega) (hself m (by omega)) (r := r) (c := c) (busyN f m) (Nat.le_refl _)
      have e : usedU f s r c (m + 1) = if ∃ b, b < busyN f m ∧ hit f s r c m b then usedU f s r c m ++ [(rd (Sched.Unit s) (m : Int)).toNat] else usedU f s r c m := by
        unfold usedU
        rw [pick_succ]
        simp only [decide_eq_true_eq]
      have et : tot f s r c (m + 1) = tot f s r c m + part f s r c m (busyN f m) := rfl
      rw [e, et]
      by_cases hh : ∃ b, b < busyN f m ∧ hit f s r c m b
      · rw [if_pos hh]
        obtain ⟨b, hb1, hb2⟩ := hh
        refine ⟨?_, by rw [List.length_append, List.length_singleton]; omega⟩
        rw [List.nodup_append]
        refine ⟨g1, by simp, fun x hx y hy e2 => ?_⟩
        rw [List.mem_singleton] at hy
        subst e2
        subst hy
        obtain ⟨i', b', j1, j2, j3, j4⟩ := used_mem hx
        have u1 := F.units i' (by omega)
        have u2 := F.units m (by omega)
        have r1 : Need.Res (rd (Flow.Needs f) (i' : Int)) = (r : Int) := j3.1
        have r2 : Need.Res (rd (Flow.Needs f) (m : Int)) = (r : Int) := hb2.1
        have v1 := u1.2 (by omega)
        have v2 := u2.2 (by omega)
        exact hcl i' m j1 (by omega) (meets V F (by omega) (by omega) j2 hb1 j3 hb2 (by omega))
      · rw [if_neg hh]
        refine ⟨g1, ?_⟩
        have : part f s r c m (busyN f m) = 0 := by
          rcases Nat.eq_zero_or_pos (part f s r c m (busyN f m)) with h | h
          · exact h
          · exact absurd (p2 (by omega)) hh
        omega
  obtain ⟨k1, k2⟩ := key _ (Nat.le_refl _)
  have vr := V.res r hr
  have := nodup_le (Resource.Count (rd (Flow.Res f) (r : Int))).toNat _ k1 (fun x hx => by
    obtain ⟨i', b', j1, j2, j3, j4⟩ := used_mem hx
    have u1 := F.units i' (by omega)
    have r1 : Need.Res (rd (Flow.Needs f) (i' : Int)) = (r : Int) := j3.1
    have v1 := u1.2 (by omega)
    rw [r1] at v1
    omega)
  have := vr.2.2.1
  omega

/-! ### the law -/
end
end Go.Proofs.YtehpelomfhaleaaV
