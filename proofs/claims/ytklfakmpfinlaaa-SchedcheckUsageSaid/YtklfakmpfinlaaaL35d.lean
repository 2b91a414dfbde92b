/- Chapter 35: the law Usage, as a plain statement. -/
import Derived.Test.YtklfakmpfinlaaaL35c
set_option linter.unusedVariables false
set_option linter.unusedSimpArgs false
namespace Go.Proofs.YtklfakmpfinlaaaV
open Go Go.Vm
open Classical

/-! ### tables of numbers -/
def mkRow (n : Nat) (g : Nat → Int) : List Int := (List.range n).map g
def mkTab (m n : Nat) (g : Nat → Nat → Int) : List (List Int) := (List.range m).map fun r => mkRow n (g r)
theorem mkRow_len {n : Nat} {g : Nat → Int} : (mkRow n g).length = n := by simp [mkRow]
theorem mkTab_len {m n : Nat} {g : Nat → Nat → Int} : (mkTab m n g).length = m := by simp [mkTab]
theorem mkRow_rd {n : Nat} {g : Nat → Int} {c : Nat} (h : c < n) : rd (mkRow n g) (c : Int) = g c := by
  rw [rd_eq (by rw [mkRow_len]; exact h)]
  simp [mkRow]
theorem mkTab_rd {m n : Nat} {g : Nat → Nat → Int} {r : Nat} (h : r < m) : rd (mkTab m n g) (r : Int) = mkRow n (g r) := by
  rw [rd_eq (by rw [mkTab_len]; exact h)]
  simp [mkTab]
theorem mkRow_set {n : Nat} {g g' : Nat → Int} {c : Nat} {v : Int} (hc : g' c = v) (h : ∀ c', c' ≠ c → g' c' = g c') : List.set (mkRow n g) c v = mkRow n g' := by
  apply List.ext_getElem
  · rw [List.length_set, mkRow_len, mkRow_len]
  · intro i h1 h2
    rw [List.getElem_set]
    simp only [mkRow, List.getElem_map, List.getElem_range]
    split
    · rename_i e; rw [← e, hc]
    · rename_i e; rw [h i (Ne.symm e)]
theorem mkRow_congr {n : Nat} {g g' : Nat → Int} (h : ∀ c, c < n → g c = g' c) : mkRow n g = mkRow n g' := List.map_congr_left fun c hc => h c (List.mem_range.1 hc)
theorem mkTab_set {m n : Nat} {g g' : Nat → Nat → Int} {r : Nat} (hr : r < m) {l : List Int} (hl : l = mkRow n (g' r)) (h : ∀ r', r' ≠ r → ∀ c, c < n → g' r' c = g r' c) : List.set (mkTab m n g) r l = mkTab m n g' := by
  apply List.ext_getElem
  · rw [List.length_set, mkTab_len, mkTab_len]
  · intro i h1 h2
    rw [List.getElem_set]
    simp only [mkTab, List.getElem_map, List.getElem_range]
    split
    · rename_i e; rw [← e, hl]
    · rename_i e; exact mkRow_congr fun c hc => (h i (Ne.symm e) c hc).symm
theorem rep_row {n : Nat} : List.replicate n (0 : Int) = mkRow n (fun _ => 0) := by
  unfold mkRow
  rw [List.map_const', List.length_range]

theorem nodup_le : ∀ (n : Nat) (l : List Nat), l.Nodup → (∀ x ∈ l, x < n) → l.length ≤ n
  | 0, l, _, h => by
    cases l with
    | nil => simp
    | cons a l => have := h a (by simp); omega
  | n + 1, l, hn, h => by
    by_cases hm : n ∈ l
    · have h2 := nodup_le n (l.erase n) (hn.erase n) (fun x hx => by
        have h3 := (hn.mem_erase_iff.1 hx)
        have := h x h3.2
        have := h3.1
        omega)
      rw [List.length_erase_of_mem hm] at h2
      omega
    · have := nodup_le n l hn (fun x hx => by
        have := h x hx
        have : x ≠ n := fun e => hm (e ▸ hx)
        omega)
      omega

section
variable {f : Flow} {s : Sched}

/-- the cycles that are told apart -/
def cycs (f : Flow) (s : Sched) : Int := if Flow.Loop f = true then Sched.II s else Sched.Depth s
/-- the cycle of an instruction's b-th busy cycle -/
def cyc (f : Flow) (s : Sched) (i b : Nat) : Int := if Flow.Loop f = true then (rd (Sched.Start s) (i : Int) + b) % Sched.II s else rd (Sched.Start s) (i : Int) + b
def hit (f : Flow) (s : Sched) (r c i b : Nat) : Prop := Need.Res (rd (Flow.Needs f) (i : Int)) = r ∧ cyc f s i b = c
noncomputable def part (f : Flow) (s : Sched) (r c i : Nat) : Nat → Nat
  | 0 => 0
  | b + 1 => part f s r c i b + if hit f s r c i b then 1 else 0
def busyN (f : Flow) (i : Nat) : Nat := (Need.Busy (rd (Flow.Needs f) (i : Int))).toNat
noncomputable def tot (f : Flow) (s : Sched) (r c : Nat) : Nat → Nat
  | 0 => 0
  | i + 1 => tot f s r c i + part f s r c i (busyN f i)

theorem part_le {r c i b : Nat} : part f s r c i b ≤ b := by
  induction b with
  | zero => exact Nat.le_refl _
  | succ b ih => unfold part; split <;> omega
theorem tot_le (V : VALID f) {r c i : Nat} (hi : i ≤ (Flow.Needs f).length) : tot f s r c i ≤ i * 256 := by
  induction i with
  | zero => simp [tot]
  | succ i ih =>
    unfold tot
    have h1 := part_le (f := f) (s := s) (r := r) (c := c) (i := i) (b := busyN f i)
    have : busyN f i ≤ 256 := by
      unfold busyN
      rcases V.need i (by omega) with ⟨_, a⟩ | ⟨_, _, _, a⟩ <;> omega
    have := ih (by omega)
    omega

/-- what is counted so far -/
noncomputable def upTo (f : Flow) (s : Sched) (i b : Nat) (r c : Nat) : Int := ((tot f s r c i + part f s r c i b : Nat) : Int)

theorem upTo_bound (V : VALID f) {i b r c : Nat} (hi : i ≤ (Flow.Needs f).length) (hb : b ≤ 256) : 0 ≤ upTo f s i b r c ∧ upTo f s i b r c ≤ 2000000 := by
  have h1 := tot_le (s := s) V (r := r) (c := c) hi
  have h2 := part_le (f := f) (s := s) (r := r) (c := c) (i := i) (b := b)
  have h3 := V.needs
  have h4 := V.i1
  unfold upTo
  omega

theorem upTo_hit {i b r c : Nat} : upTo f s i (b + 1) r c = upTo f s i b r c + if hit f s r c i b then 1 else 0 := by
  have e : part f s r c i (b + 1) = part f s r c i b + if hit f s r c i b then 1 else 0 := rfl
  unfold upTo
  rw [e]
  split <;> omega

theorem cycs_pos (F : FITS f s) : 0 < cycs f s ∧ cycs f s ≤ 4096 := by
  have := F.loop
  have := F.ii
  have := F.depth
  unfold cycs
  split
  · rename_i h; have := F.loop.2 h; omega
  · omega

theorem cyc_bound (F : FITS f s) (V : VALID f) {i b : Nat} (hi : (i : Int) < Flow.Insts f) (hb : b ≤ 256) : 0 ≤ cyc f s i b ∧ (Flow.Loop f = true → cyc f s i b < cycs f s) ∧ cyc f s i b ≤ 5000 := by
  have h1 := F.start
  have st := F.starts i (by omega)
  have ii := F.ii
  unfold cyc cycs
  split
  · rename_i h
    have hp := F.loop.2 h
    have := Int.emod_nonneg (rd (Sched.Start s) (i : Int) + b) (show Sched.II s ≠ 0 by omega)
    have := Int.emod_lt_of_pos (rd (Sched.Start s) (i : Int) + b) hp
    omega
  · rename_i h
    exact ⟨by omega, fun h2 => absurd h2 h, by omega⟩

/-! ### the program's table -/
theorem usage16 (V : VALID f) (F : FITS f s) {i : Nat} (hi : i < (Flow.Needs f).length) {y : List (List Int)} (hy : Ev (fun k => schedcheck_Usage.c13 k (cycs f s) (Flow.Needs f) ((Flow.Needs f).length : Int) ((i + 1 : Nat) : Int) f s (mkTab (Flow.Res f).length (cycs f s).toNat (upTo f s (i + 1) 0))) y) :
    Ev (fun k => schedcheck_Usage.c16 k (cycs f s) (i : Int) 0 (Flow.Needs f) ((Flow.Needs f).length : Int) (i : Int) f s (mkTab (Flow.Res f).length (cycs f s).toNat (upTo f s i 0)) (rd (Flow.Needs f) (i : Int))) y := by
  have hn := V.needs
  have h1 := F.start
  have i1 := V.i1
  have st := F.starts i (by omega)
  have cp := cycs_pos F
  have eN : (((cycs f s).toNat : Nat) : Int) = cycs f s := by omega
  have fin : upTo f s i (busyN f i) = upTo f s (i + 1) 0 := by funext r c; rfl
  have end' : Ev (fun k => schedcheck_Usage.c16 k (cycs f s) (i : Int) ((busyN f i : Nat) : Int) (Flow.Needs f) ((Flow.Needs f).length : Int) (i : Int) f s (mkTab (Flow.Res f).length (cycs f s).toNat (upTo f s i (busyN f i))) (rd (Flow.Needs f) (i : Int))) y := by
    rw [fin]
    refine hy.step fun k => ?_
    simp only [schedcheck_Usage.c16]
    rw [w64_id (n := (i : Int) + 1) (by omega) (by omega), natC]
    have : ¬ ((busyN f i : Nat) : Int) < Need.Busy (rd (Flow.Needs f) (i : Int)) := by unfold busyN; omega
    rw [decide_eq_false this]
    cases decide (0 ≤ Need.Res (rd (Flow.Needs f) (i : Int))) <;> rfl
  refine Ev.up (c := fun k b => schedcheck_Usage.c16 k (cycs f s) (i : Int) (b : Int) (Flow.Needs f) ((Flow.Needs f).length : Int) (i : Int) f s (mkTab (Flow.Res f).length (cycs f s).toNat (upTo f s i b)) (rd (Flow.Needs f) (i : Int))) (n := busyN f i) end' (fun b hb ih => ?_) 0 (Nat.zero_le _)
  have vn := V.need i hi
  have hbz : (b : Int) < Need.Busy (rd (Flow.Needs f) (i : Int)) := by unfold busyN at hb; omega
  have hr : 0 ≤ Need.Res (rd (Flow.Needs f) (i : Int)) ∧ Need.Res (rd (Flow.Needs f) (i : Int)) < ((Flow.Res f).length : Int) ∧ Need.Busy (rd (Flow.Needs f) (i : Int)) ≤ 256 := by
    rcases vn with ⟨_, a⟩ | ⟨a, b, _, c⟩
    · omega
    · exact ⟨a, b, c⟩
  obtain ⟨hr0, hr1, hb256⟩ := hr
  obtain ⟨r0, er⟩ : ∃ r0 : Nat, Need.Res (rd (Flow.Needs f) (i : Int)) = (r0 : Int) := ⟨(Need.Res (rd (Flow.Needs f) (i : Int))).toNat, by omega⟩
  have cb := cyc_bound F V (i := i) (b := b) (by omega) (by omega)
  obtain ⟨c0, ec⟩ : ∃ c0 : Nat, cyc f s i b = (c0 : Int) := ⟨(cyc f s i b).toNat, by omega⟩
  have hhit : ∀ r c : Nat, hit f s r c i b ↔ r = r0 ∧ c = c0 := fun r c => by unfold hit; rw [er, ec]; omega
  have tab : (c0 : Int) < cycs f s → List.set (mkTab (Flow.Res f).length (cycs f s).toNat (upTo f s i b)) r0 (List.set (rd (mkTab (Flow.Res f).length (cycs f s).toNat (upTo f s i b)) (r0 : Int)) c0 (w64 (rd (rd (mkTab (Flow.Res f).length (cycs f s).toNat (upTo f s i b)) (r0 : Int)) (c0 : Int) + 1))) = mkTab (Flow.Res f).length (cycs f s).toNat (upTo f s i (b + 1)) := fun hc => by
    have ub := upTo_bound (s := s) V (i := i) (b := b) (r := r0) (c := c0) (by omega) (by omega)
    rw [mkTab_rd (by omega), mkRow_rd (by omega), w64_id (by omega) (by omega)]
    refine mkTab_set (by omega) (mkRow_set ?_ fun c' hc' => ?_) fun r' hr' c' _ => ?_
    · rw [upTo_hit, if_pos ((hhit _ _).2 ⟨rfl, rfl⟩)]
    · rw [upTo_hit, if_neg (fun h => hc' ((hhit _ _).1 h).2), Int.add_zero]
    · rw [upTo_hit, if_neg (fun h => hr' ((hhit _ _).1 h).1), Int.add_zero]
  refine ih.step fun k => ?_
  have b1 : 0 ≤ (i : Int) ∧ (i : Int) < ((Sched.Start s).length : Int) := by omega
  have b2 : 0 ≤ (r0 : Int) ∧ (r0 : Int) < (((mkTab (Flow.Res f).length (cycs f s).toNat (upTo f s i b)).length : Nat) : Int) := by rw [mkTab_len]; omega
  simp only [schedcheck_Usage.c16, natC]
  rw [er, decide_eq_true (show 0 ≤ (r0 : Int) by omega), decide_eq_true hbz, if_pos b1, w64_id (n := rd (Sched.Start s) (i : Int) + (b : Int)) (by omega) (by omega), w64_id (n := (b : Int) + 1) (by omega) (by omega)]
  simp only [cond_true, if_pos b2]
  have tn : (r0 : Int).toNat = r0 := by omega
  have tc : (c0 : Int).toNat = c0 := by omega
  cases hl : Flow.Loop f
  · have e : rd (Sched.Start s) (i : Int) + (b : Int) = (c0 : Int) := by rw [← ec]; unfold cyc; rw [hl]; rfl
    simp only [cond_false]
    rw [e]
    by_cases hc : (c0 : Int) < cycs f s
    · rw [decide_eq_true hc]
      simp only [cond_true]
      have b3 : 0 ≤ (c0 : Int) ∧ (c0 : Int) < (((rd (mkTab (Flow.Res f).length (cycs f s).toNat (upTo f s i b)) (r0 : Int)).length : Nat) : Int) := by rw [mkTab_rd (by omega), mkRow_len]; omega
      rw [if_pos b3, tn, tc, tab hc]
      simp only [if_pos b3]
    · rw [decide_eq_false hc]
      simp only [cond_false]
      congr 1
      unfold mkTab
      refine List.map_congr_left fun r _ => mkRow_congr fun c hcc => ?_
      rw [upTo_hit, if_neg (fun h => by have := ((hhit _ _).1 h).2; omega), Int.add_zero]
  · have hp := F.loop.2 hl
    have e2 : cycs f s = Sched.II s := by unfold cycs; rw [if_pos hl]
    have e : Int.tmod (rd (Sched.Start s) (i : Int) + (b : Int)) (cycs f s) = (c0 : Int) := by
      rw [Int.tmod_eq_emod_of_nonneg (by omega), ← ec, e2]
      unfold cyc
      rw [if_pos hl]
    simp only [cond_true]
    rw [e]
    have hc : (c0 : Int) < cycs f s := by rw [← ec]; exact cb.2.1 hl
    have b3 : 0 ≤ (c0 : Int) ∧ (c0 : Int) < (((rd (mkTab (Flow.Res f).length (cycs f s).toNat (upTo f s i b)) (r0 : Int)).length : Nat) : Int) := by rw [mkTab_rd (by omega), mkRow_len]; omega
    rw [if_pos (show ¬ cycs f s = 0 by omega), tn, tc, tab hc]
    simp only [if_pos b3]

theorem usage_prog (SF : SIZES f) (S : SSIZES s) (V : VALID f) (F : FITS f s) : Ev (fun k => schedcheck_Usage.f k f s) (mkTab (Flow.Res f).length (cycs f s).toNat (upTo f s (Flow.Needs f).length 0)) := by
  have hr := SF.res
  have hn := SF.needs
  have cp := cycs_pos F
  simp only [schedcheck_Usage.f]
  refine .bind ((fits_prog SF S).true ⟨V, F⟩) ?_
  simp only [Bool.not_true, cond_false]
  have go : Ev (fun k => schedcheck_Usage.c6 k (cycs f s) f s) (mkTab (Flow.Res f).length (cycs f s).toNat (upTo f s (Flow.Needs f).length 0)) := by
    have c13 : Ev (fun k => schedcheck_Usage.c13 k (cycs f s) (Flow.Needs f) ((Flow.Needs f).length : Int) 0 f s (mkTab (Flow.Res f).length (cycs f s).toNat (upTo f s 0 0))) (mkTab (Flow.Res f).length (cycs f s).toNat (upTo f s (Flow.Needs f).length 0)) := by
      refine Ev.up (c := fun k i => schedcheck_Usage.c13 k (cycs f s) (Flow.Needs f) ((Flow.Needs f).length : Int) (i : Int) f s (mkTab (Flow.Res f).length (cycs f s).toNat (upTo f s i 0))) (n := (Flow.Needs f).length) ?_ (fun i hi ih => ?_) 0 (Nat.zero_le _)
      · refine Ev.step (.ret _) fun k => ?_
        simp only [schedcheck_Usage.c13]
        rw [decide_eq_false (by omega)]
        rfl
      · refine (usage16 V F hi ih).step fun k => ?_
        simp only [schedcheck_Usage.c13]
        rw [decide_eq_true (by omega), if_pos (by omega)]
        rfl
    -- the rows are made
    have c8 : Ev (fun k => schedcheck_Usage.c8 k (cycs f s) ((Flow.Res f).length : Int) 0 f s (List.replicate (Flow.Res f).length [])) (mkTab (Flow.Res f).length (cycs f s).toNat (upTo f s (Flow.Needs f).length 0)) := by
      have up := Ev.up (c := fun k i => schedcheck_Usage.c8 k (cycs f s) ((Flow.Res f).length : Int) (i : Int) f s ((List.range (Flow.Res f).length).map fun r => if r < i then mkRow (cycs f s).toNat (fun _ => 0) else [])) (n := (Flow.Res f).length) (y := mkTab (Flow.Res f).length (cycs f s).toNat (upTo f s (Flow.Needs f).length 0)) ?_ (fun i hi ih => ?_) 0 (Nat.zero_le _)
      · have e : ((List.range (Flow.Res f).length).map fun r => if r < 0 then mkRow (cycs f s).toNat (fun _ => 0) else ([] : List Int)) = List.replicate (Flow.Res f).length [] := by
          simp only [Nat.not_lt_zero, if_false]
          rw [List.map_const', List.length_range]
        rw [e] at up
        exact up
      · refine c13.step fun k => ?_
        simp only [schedcheck_Usage.c8]
        rw [decide_eq_false (by omega)]
        simp only [cond_false]
        congr 1
        unfold mkTab
        refine List.map_congr_left fun r hr => ?_
        rw [if_pos (List.mem_range.1 hr)]
        refine mkRow_congr fun c _ => ?_
        simp [upTo, tot, part]
      · refine ih.step fun k => ?_
        simp only [schedcheck_Usage.c8, natC]
        rw [decide_eq_true (by omega), if_pos (by omega), if_pos (by rw [List.length_map, List.length_range]; omega), w64_id (n := (i : Int) + 1) (by omega) (by omega), rep_row]
        simp only [cond_true]
        congr 1
        apply List.ext_getElem
        · rw [List.length_set, List.length_map, List.length_map]
        · intro j h1 h2
          rw [List.getElem_set]
          simp only [List.getElem_map, List.getElem_range, Int.toNat_natCast]
          by_cases e : i = j
          · subst e
            rw [if_pos rfl, if_pos (by omega)]
          · rw [if_neg e]
            by_cases h : j < i
            · rw [if_pos h, if_pos (by omega)]
            · rw [if_neg h, if_neg (by omega)]
    refine c8.step fun k => ?_
    simp only [schedcheck_Usage.c6, Int.toNat_natCast, List.length_replicate]
    rw [if_pos (by omega)]
  cases hl : Flow.Loop f
  · have e : cycs f s = Sched.Depth s := by unfold cycs; rw [hl]; rfl
    rw [e] at go ⊢
    exact go
  · have e : cycs f s = Sched.II s := by unfold cycs; rw [hl]; rfl
    rw [e] at go ⊢
    exact go

/-! ### there are enough units -/
theorem clList_nil (V : VALID f) (h : clList f s = []) : (∀ i : Nat, (i : Int) < Flow.Insts f → ¬ SELF f s i) ∧ ∀ i k : Nat, i < k → (k : Int) < Flow.Insts f → ¬ CL f s i k := by
  unfold clList at h
  rw [List.flatMap_eq_nil_iff] at h
  have hr : ∀ i : Nat, (i : Int) < Flow.Insts f → row f s i = [] := fun i hi => h i (List.mem_range.2 (by omega))
  refine ⟨fun i hi hs => ?_, fun i k hik hk hc => ?_⟩
  · have := hr i hi
    unfold row at this
    rw [if_pos hs] at this
    simp at this
  · have := hr i (by omega)
    unfold row at this
    rw [List.append_eq_nil_iff] at this
    have := pick_nil.1 this.2 (k - i - 1) (by omega)
    rw [show i + 1 + (k - i - 1) = k by omega] at this
    simp [hc] at this

theorem one_hit (V : VALID f) (F : FITS f s) {i : Nat} (hi : (i : Int) < Flow.Insts f) (hs : ¬ SELF f s i) {r c b1 b2 : Nat} (h12 : b1 < b2) (hb : b2 < busyN f i) (h1 : hit f s r c i b1) (h2 : hit f s r c i b2) : False := by
  obtain ⟨e1, e2⟩ := h1
  obtain ⟨_, e3⟩ := h2
  rw [← e3] at e2
  unfold cyc at e2
  unfold busyN at hb
  split at e2
  · rename_i hl
    have hp := F.loop.2 hl
    refine hs ⟨hp, by omega, ?_⟩
    have hd : (Sched.II s) ∣ ((rd (Sched.Start s) (i : Int) + (b2 : Int)) - (rd (Sched.Start s) (i : Int) + (b1 : Int))) := by
      apply Int.dvd_of_emod_eq_zero
      rw [Int.sub_emod, e2, Int.sub_self, Int.zero_emod]
    have : Sched.II s ≤ (b2 : Int) - b1 := by
      have := Int.le_of_dvd (by omega) hd
      omega
    omega
  · omega

theorem part_one (V : VALID f) (F : FITS f s) {i : Nat} (hi : (i : Int) < Flow.Insts f) (hs : ¬ SELF f s i) {r c : Nat} : ∀ b, b ≤ busyN f i → part f s r c i b ≤ 1 ∧ (part f s r c i b = 1 → ∃ b', b' < b ∧ hit f s r c i b') := by
  intro b
  induction b with
  | zero => intro _; exact ⟨by simp [part], fun h => by simp [part] at h⟩
  | succ b ih =>
    intro hb
    obtain ⟨h1, h2⟩ := ih (by omega)
    unfold part
    by_cases hh : hit f s r c i b
    · rw [if_pos hh]
      have : part f s r c i b = 0 := by
        rcases Nat.eq_zero_or_pos (part f s r c i b) with h | h
        · exact h
        · obtain ⟨b', g1, g2⟩ := h2 (by omega)
          exact (one_hit V F hi hs g1 hb g2 hh).elim
      exact ⟨by omega, fun _ => ⟨b, by omega, hh⟩⟩
    · rw [if_neg hh]
      refine ⟨by omega, fun h => ?_⟩
      obtain ⟨b', g1, g2⟩ := h2 (by omega)
      exact ⟨b', by omega, g2⟩

/-- the units that are occupied in a cycle -/
noncomputable def usedU (f : Flow) (s : Sched) (r c m : Nat) : List Nat := pick (fun i => decide (∃ b, b < busyN f i ∧ hit f s r c i b)) (fun i => (rd (Sched.Unit s) (i : Int)).toNat) m

theorem used_mem {r c m x : Nat} (h : x ∈ usedU f s r c m) : ∃ i b, i < m ∧ b < busyN f i ∧ hit f s r c i b ∧ x = (rd (Sched.Unit s) (i : Int)).toNat := by
  unfold usedU pick at h
  rw [List.mem_map] at h
  obtain ⟨i, hi, e⟩ := h
  rw [List.mem_filter, List.mem_range, decide_eq_true_eq] at hi
  obtain ⟨h1, b, h2, h3⟩ := hi
  exact ⟨i, b, h1, h2, h3, e.symm⟩

theorem emod_le_self {b n : Int} (hb : 0 ≤ b) (hn : 0 < n) : b % n ≤ b := by
  have e := Int.emod_add_mul_ediv b n
  have q := Int.ediv_nonneg hb (by omega : (0 : Int) ≤ n)
  have := Int.mul_nonneg (by omega : (0 : Int) ≤ n) q
  omega

theorem meets (V : VALID f) (F : FITS f s) {i k : Nat} (hi : (i : Int) < Flow.Insts f) (hk : (k : Int) < Flow.Insts f) {r c bi bk : Nat} (h1 : bi < busyN f i) (h2 : bk < busyN f k) (g1 : hit f s r c i bi) (g2 : hit f s r c k bk) (hu : rd (Sched.Unit s) (i : Int) = rd (Sched.Unit s) (k : Int)) : CL f s i k := by
  obtain ⟨e1, e2⟩ := g1
  obtain ⟨e3, e4⟩ := g2
  unfold busyN at h1 h2
  unfold cyc at e2 e4
  refine ⟨by omega, by rw [e1, e3], hu, by omega, by omega, fun h => ?_, fun h => ?_⟩
  · have hl : ¬ Flow.Loop f = true := fun hl => by have := F.loop.2 hl; omega
    rw [if_neg hl] at e2 e4
    omega
  · have hl := F.loop.1 h
    rw [if_pos hl] at e2 e4
    refine (circle (a := rd (Sched.Start s) (i : Int)) (b := rd (Sched.Start s) (k : Int)) h (by omega) (by omega)).1 ⟨c, by omega, ?_, ?_, ?_⟩
    · rw [← e2]; exact Int.emod_lt_of_pos _ h
    · rw [← e2, Int.emod_sub_emod, show rd (Sched.Start s) (i : Int) + (bi : Int) - rd (Sched.Start s) (i : Int) = (bi : Int) by omega]
      have : (bi : Int) % Sched.II s ≤ bi := emod_le_self (by omega) h
      omega
    · rw [← e4, Int.emod_sub_emod, show rd (Sched.Start s) (k : Int) + (bk : Int) - rd (Sched.Start s) (k : Int) = (bk : Int) by omega]
      have : (bk : Int) % Sched.II s ≤ bk := emod_le_self (by omega) h
      omega

theorem enough (V : VALID f) (F : FITS f s) (h : clList f s = []) {r : Nat} (hr : r < (Flow.Res f).length) (c : Nat) : ((tot f s r c (Flow.Needs f).length : Nat) : Int) ≤ Resource.Count (rd (Flow.Res f) (r : Int)) := by
  obtain ⟨hself, hcl⟩ := clList_nil V h
  have hn := V.needs
  have hu := F.unit
  have key : ∀ m, m ≤ (Flow.Needs f).length → (usedU f s r c m).Nodup ∧ tot f s r c m ≤ (usedU f s r c m).length := by
    intro m
    induction m with
    | zero => intro _; exact ⟨by simp [usedU, pick], by simp [tot]⟩
    | succ m ih =>
      intro hm
      obtain ⟨g1, g2⟩ := ih (by omega)
      obtain ⟨p1, p2⟩ := part_one V F (i := m) (by omega) (hself m (by omega)) (r := r) (c := c) (busyN f m) (Nat.le_refl _)
      have e : usedU f s r c (m + 1) = if ∃ b, b < busyN f m ∧ hit f s r c m b then usedU f s r c m ++ [(rd (Sched.Unit s) (m : Int)).toNat] else usedU f s r c m := by
        unfold usedU
        rw [pick_succ]
        simp only [decide_eq_true_eq]
      have et : tot f s r c (m + 1) = tot f s r c m + part f s r c m (busyN f m) := rfl
      rw [e, et]
      by_cases hh : ∃ b, b < busyN f m ∧ hit f s r c m b
      · rw [if_pos hh]
        obtain ⟨b, hb1, hb2⟩ := hh
        refine ⟨?_, by rw [List.length_append, List.length_singleton]; omega⟩
        rw [List.nodup_append]
        refine ⟨g1, by simp, fun x hx y hy e2 => ?_⟩
        rw [List.mem_singleton] at hy
        subst e2
        subst hy
        obtain ⟨i', b', j1, j2, j3, j4⟩ := used_mem hx
        have u1 := F.units i' (by omega)
        have u2 := F.units m (by omega)
        have r1 : Need.Res (rd (Flow.Needs f) (i' : Int)) = (r : Int) := j3.1
        have r2 : Need.Res (rd (Flow.Needs f) (m : Int)) = (r : Int) := hb2.1
        have v1 := u1.2 (by omega)
        have v2 := u2.2 (by omega)
        exact hcl i' m j1 (by omega) (meets V F (by omega) (by omega) j2 hb1 j3 hb2 (by omega))
      · rw [if_neg hh]
        refine ⟨g1, ?_⟩
        have : part f s r c m (busyN f m) = 0 := by
          rcases Nat.eq_zero_or_pos (part f s r c m (busyN f m)) with h | h
          · exact h
          · exact absurd (p2 (by omega)) hh
        omega
  obtain ⟨k1, k2⟩ := key _ (Nat.le_refl _)
  have vr := V.res r hr
  have := nodup_le (Resource.Count (rd (Flow.Res f) (r : Int))).toNat _ k1 (fun x hx => by
    obtain ⟨i', b', j1, j2, j3, j4⟩ := used_mem hx
    have u1 := F.units i' (by omega)
    have r1 : Need.Res (rd (Flow.Needs f) (i' : Int)) = (r : Int) := j3.1
    have v1 := u1.2 (by omega)
    rw [r1] at v1
    omega)
  have := vr.2.2.1
  omega

/-! ### the law -/
theorem usage_not (w : FEW f s) (q : ¬ (VALID f ∧ FITS f s)) : Ev (fun k => schedcheck_Usage.f k f s) [] := by
  simp only [schedcheck_Usage.f]
  exact .test (fits_prog w.sizes w.ssizes) (fun h => absurd h q) (fun _ => .ret _)

/-- what the law counts itself -/
theorem want16 (w : FEW f s) (V : VALID f) (F : FITS f s) {r : Nat} (hr : r < (Flow.Res f).length) (hnext : Ev (fun k => jacquardlaw35_SchedcheckUsage.c12 k (cycs f s) ((Flow.Res f).length : Int) ((r + 1 : Nat) : Int) f s (mkTab (Flow.Res f).length (cycs f s).toNat (upTo f s (Flow.Needs f).length 0))) true) :
    Ev (fun k => jacquardlaw35_SchedcheckUsage.c16 k (cycs f s) (r : Int) ((Flow.Res f).length : Int) (r : Int) ((Flow.Needs f).length : Int) 0 f s (mkTab (Flow.Res f).length (cycs f s).toNat (upTo f s (Flow.Needs f).length 0)) (mkRow (cycs f s).toNat (fun _ => 0))) true := by
  have hn := V.needs
  have h1 := F.start
  have i1 := V.i1
  have hres := w.res
  have cp := cycs_pos F
  generalize hT : mkTab (Flow.Res f).length (cycs f s).toNat (upTo f s (Flow.Needs f).length 0) = T
  have e0 : mkRow (cycs f s).toNat (fun _ => 0) = mkRow (cycs f s).toNat (upTo f s 0 0 r) := mkRow_congr fun c _ => by simp [upTo, tot, part]
  rw [e0]
  refine Ev.up (c := fun k i => jacquardlaw35_SchedcheckUsage.c16 k (cycs f s) (r : Int) ((Flow.Res f).length : Int) (r : Int) ((Flow.Needs f).length : Int) (i : Int) f s T (mkRow (cycs f s).toNat (upTo f s i 0 r))) (n := (Flow.Needs f).length) ?_ (fun i hi ih => ?_) 0 (Nat.zero_le _)
  · -- compared
    have b1 : 0 ≤ (r : Int) ∧ (r : Int) < ((T.length : Nat) : Int) := by rw [← hT, mkTab_len]; omega
    have erow : rd T (r : Int) = mkRow (cycs f s).toNat (upTo f s (Flow.Needs f).length 0 r) := by rw [← hT, mkTab_rd hr]
    have c31 : Ev (fun k => jacquardlaw35_SchedcheckUsage.c31 k (cycs f s) (r : Int) ((Flow.Res f).length : Int) (r : Int) (((mkRow (cycs f s).toNat (upTo f s (Flow.Needs f).length 0 r)).length : Nat) : Int) 0 f s T (mkRow (cycs f s).toNat (upTo f s (Flow.Needs f).length 0 r))) true := by
      rw [mkRow_len]
      refine Ev.up (c := fun k i => jacquardlaw35_SchedcheckUsage.c31 k (cycs f s) (r : Int) ((Flow.Res f).length : Int) (r : Int) (((cycs f s).toNat : Nat) : Int) (i : Int) f s T (mkRow (cycs f s).toNat (upTo f s (Flow.Needs f).length 0 r))) (n := (cycs f s).toNat) ?_ (fun c hc ih => ?_) 0 (Nat.zero_le _)
      · rw [hT] at hnext
        refine hnext.step fun k => ?_
        simp only [jacquardlaw35_SchedcheckUsage.c31]
        rw [decide_eq_false (by omega)]
        simp only [cond_false]
        rw [w64_id (by omega) (by omega), natC]
      · have bc : 0 ≤ (c : Int) ∧ (c : Int) < (((mkRow (cycs f s).toNat (upTo f s (Flow.Needs f).length 0 r)).length : Nat) : Int) := by rw [mkRow_len]; omega
        have br : 0 ≤ (r : Int) ∧ (r : Int) < ((Flow.Res f).length : Int) := by omega
        have body : Ev (fun k => bif decide (Resource.Count (rd (Flow.Res f) (r : Int)) < upTo f s (Flow.Needs f).length 0 r c) then (schedcheck_Check.f k f s).bind fun y130 => bif decide (y130 = 0) then some false else jacquardlaw35_SchedcheckUsage.c31 k (cycs f s) (r : Int) ((Flow.Res f).length : Int) (r : Int) (((cycs f s).toNat : Nat) : Int) ((c + 1 : Nat) : Int) f s T (mkRow (cycs f s).toNat (upTo f s (Flow.Needs f).length 0 r))
            else jacquardlaw35_SchedcheckUsage.c31 k (cycs f s) (r : Int) ((Flow.Res f).length : Int) (r : Int) (((cycs f s).toNat : Nat) : Int) ((c + 1 : Nat) : Int) f s T (mkRow (cycs f s).toNat (upTo f s (Flow.Needs f).length 0 r))) true := by
          refine .cond (fun hlt => ?_) (fun _ => ih)
          have hlt := of_decide_eq_true hlt
          refine .bind (check_prog w.sizes w.ssizes) ?_
          rw [if_pos ⟨V, F⟩]
          by_cases L : LEGAL f s
          · have := enough V F L.clash hr c
            have e : upTo f s (Flow.Needs f).length 0 r c = ((tot f s r c (Flow.Needs f).length : Nat) : Int) := by simp [upTo, part]
            omega
          · rw [if_neg L]
            exact ih
        refine body.step fun k => ?_
        simp only [jacquardlaw35_SchedcheckUsage.c31]
        rw [decide_eq_true (show (c : Int) < (((cycs f s).toNat : Nat) : Int) by omega), if_pos bc, if_pos br, mkRow_rd hc, w64_id (by omega) (by omega), natC]
        rfl
    have same : Ev (fun k => jacquardlaw35_same.f k (mkRow (cycs f s).toNat (upTo f s (Flow.Needs f).length 0 r)) (mkRow (cycs f s).toNat (upTo f s (Flow.Needs f).length 0 r))) true := same35 (by rw [mkRow_len]; omega)
    have body : Ev (fun k => (jacquardlaw35_same.f k (rd T (r : Int)) (mkRow (cycs f s).toNat (upTo f s (Flow.Needs f).length 0 r))).bind fun y109 => bif (!y109) then some false else jacquardlaw35_SchedcheckUsage.c31 k (cycs f s) (r : Int) ((Flow.Res f).length : Int) (r : Int) (((mkRow (cycs f s).toNat (upTo f s (Flow.Needs f).length 0 r)).length : Nat) : Int) 0 f s T (mkRow (cycs f s).toNat (upTo f s (Flow.Needs f).length 0 r))) true := by
      rw [erow]
      refine .bind same ?_
      exact c31
    refine body.step fun k => ?_
    simp only [jacquardlaw35_SchedcheckUsage.c16]
    rw [decide_eq_false (by omega), if_pos b1]
    rfl
  · -- one instruction
    have st := F.starts i (by omega)
    have bz : ((busyN f i : Nat) : Int) = Need.Busy (rd (Flow.Needs f) (i : Int)) := by
      unfold busyN
      rcases V.need i hi with ⟨_, a⟩ | ⟨_, _, a, _⟩ <;> omega
    have b256 : busyN f i ≤ 256 := by
      rcases V.need i hi with ⟨_, a⟩ | ⟨_, _, _, a⟩ <;> omega
    have fin : upTo f s i (busyN f i) r = upTo f s (i + 1) 0 r := by funext c; rfl
    have b1 : 0 ≤ (i : Int) ∧ (i : Int) < ((Sched.Start s).length : Int) := by omega
    have b2 : 0 ≤ (i : Int) ∧ (i : Int) < ((Flow.Needs f).length : Int) := by omega
    have loop : Ev (fun k => jacquardlaw35_SchedcheckUsage.c19 k (cycs f s) (r : Int) (i : Int) ((Flow.Res f).length : Int) (r : Int) ((Flow.Needs f).length : Int) (i : Int) (Need.Busy (rd (Flow.Needs f) (i : Int))) 0 f s T (mkRow (cycs f s).toNat (upTo f s i 0 r))) true := by
      refine Ev.up (c := fun k b => jacquardlaw35_SchedcheckUsage.c19 k (cycs f s) (r : Int) (i : Int) ((Flow.Res f).length : Int) (r : Int) ((Flow.Needs f).length : Int) (i : Int) (Need.Busy (rd (Flow.Needs f) (i : Int))) (b : Int) f s T (mkRow (cycs f s).toNat (upTo f s i b r))) (n := busyN f i) ?_ (fun b hb ih => ?_) 0 (Nat.zero_le _)
      · rw [fin]
        refine ih.step fun k => ?_
        simp only [jacquardlaw35_SchedcheckUsage.c19]
        rw [decide_eq_false (by omega)]
        simp only [cond_false]
        rw [w64_id (by omega) (by omega), natC]
      · have cb := cyc_bound F V (i := i) (b := b) (by omega) (by omega)
        obtain ⟨c0, ec⟩ : ∃ c0 : Nat, cyc f s i b = (c0 : Int) := ⟨(cyc f s i b).toNat, by omega⟩
        have hhit : ∀ c : Nat, hit f s r c i b ↔ Need.Res (rd (Flow.Needs f) (i : Int)) = (r : Int) ∧ c = c0 := fun c => by unfold hit; rw [ec]; omega
        have c24 : Ev (fun k => jacquardlaw35_SchedcheckUsage.c24 k (cycs f s) (r : Int) (i : Int) (c0 : Int) ((Flow.Res f).length : Int) (r : Int) ((Flow.Needs f).length : Int) (i : Int) (Need.Busy (rd (Flow.Needs f) (i : Int))) (b : Int) f s T (mkRow (cycs f s).toNat (upTo f s i b r))) true := by
          refine ih.step fun k => ?_
          simp only [jacquardlaw35_SchedcheckUsage.c24, natC]
          rw [if_pos b2, w64_id (n := (b : Int) + 1) (by omega) (by omega)]
          by_cases hrr : Need.Res (rd (Flow.Needs f) (i : Int)) = (r : Int)
          · rw [decide_eq_true hrr]
            simp only [cond_true]
            by_cases hc : (c0 : Int) < cycs f s
            · rw [decide_eq_true hc]
              have b3 : 0 ≤ (c0 : Int) ∧ (c0 : Int) < (((mkRow (cycs f s).toNat (upTo f s i b r)).length : Nat) : Int) := by rw [mkRow_len]; omega
              have ub := upTo_bound (s := s) V (i := i) (b := b) (r := r) (c := c0) (by omega) (by omega)
              simp only [cond_true, if_pos b3]
              rw [mkRow_rd (by omega), w64_id (by omega) (by omega), Int.toNat_natCast]
              congr 1
              refine mkRow_set ?_ fun c' hc' => ?_
              · rw [upTo_hit, if_pos ((hhit _).2 ⟨hrr, rfl⟩)]
              · rw [upTo_hit, if_neg (fun h => hc' ((hhit _).1 h).2), Int.add_zero]
            · rw [decide_eq_false hc]
              simp only [cond_false]
              congr 1
              refine mkRow_congr fun c hcc => ?_
              rw [upTo_hit, if_neg (fun h => by have := ((hhit _).1 h).2; omega), Int.add_zero]
          · rw [decide_eq_false hrr]
            simp only [cond_false]
            congr 1
            refine mkRow_congr fun c hcc => ?_
            rw [upTo_hit, if_neg (fun h => hrr ((hhit _).1 h).1), Int.add_zero]
        refine c24.step fun k => ?_
        simp only [jacquardlaw35_SchedcheckUsage.c19]
        rw [decide_eq_true (by omega), if_pos b1, w64_id (n := rd (Sched.Start s) (i : Int) + (b : Int)) (by omega) (by omega)]
        simp only [cond_true]
        cases hl : Flow.Loop f
        · have e : rd (Sched.Start s) (i : Int) + (b : Int) = (c0 : Int) := by rw [← ec]; unfold cyc; rw [hl]; rfl
          simp only [cond_false]
          rw [e]
        · have e2 : cycs f s = Sched.II s := by unfold cycs; rw [if_pos hl]
          have e : Int.tmod (rd (Sched.Start s) (i : Int) + (b : Int)) (cycs f s) = (c0 : Int) := by
            rw [Int.tmod_eq_emod_of_nonneg (by omega), ← ec, e2]
            unfold cyc
            rw [if_pos hl]
          simp only [cond_true]
          rw [e, if_pos (show ¬ cycs f s = 0 by omega)]
    refine loop.step fun k => ?_
    simp only [jacquardlaw35_SchedcheckUsage.c16]
    rw [decide_eq_true b2.2, if_pos b2]
    rfl

theorem PureSchedcheckUsage (f : Flow) (s : Sched) (g0 : Ty.good Flow.T f) (g1 : Ty.good Sched.T s) : ∃ k, jacquardlaw35_SchedcheckUsage.f k f s = some true := by
  refine Ev.ex (f := fun k => jacquardlaw35_SchedcheckUsage.f k f s) ?_
  simp only [jacquardlaw35_SchedcheckUsage.f]
  refine begin35 g0 g1 fun w => ?_
  refine .cond (fun _ => .bind awake35 (.ret _)) (fun hd => ?_)
  by_cases q : VALID f ∧ FITS f s
  · obtain ⟨V, F⟩ := q
    have cp := cycs_pos F
    have hres := w.res
    refine .bind (usage_prog w.sizes w.ssizes V F) (.bind ((lawfits w).true ⟨V, F⟩) ?_)
    simp only [Bool.not_true, cond_false]
    have c12 : Ev (fun k => jacquardlaw35_SchedcheckUsage.c12 k (cycs f s) ((Flow.Res f).length : Int) 0 f s (mkTab (Flow.Res f).length (cycs f s).toNat (upTo f s (Flow.Needs f).length 0))) true := by
      refine Ev.up (c := fun k r => jacquardlaw35_SchedcheckUsage.c12 k (cycs f s) ((Flow.Res f).length : Int) (r : Int) f s (mkTab (Flow.Res f).length (cycs f s).toNat (upTo f s (Flow.Needs f).length 0))) (n := (Flow.Res f).length) ?_ (fun r hr ih => ?_) 0 (Nat.zero_le _)
      · refine Ev.step (.ret true) fun k => ?_
        simp only [jacquardlaw35_SchedcheckUsage.c12]
        rw [decide_eq_false (by omega)]
        rfl
      · refine (want16 w V F hr ih).step fun k => ?_
        simp only [jacquardlaw35_SchedcheckUsage.c12]
        rw [decide_eq_true (by omega), if_pos (by omega), rep_row]
        rfl
    have go : Ev (fun k => jacquardlaw35_SchedcheckUsage.c9 k (cycs f s) f s (mkTab (Flow.Res f).length (cycs f s).toNat (upTo f s (Flow.Needs f).length 0))) true := by
      refine c12.step fun k => ?_
      simp only [jacquardlaw35_SchedcheckUsage.c9, mkTab_len]
      simp
    cases hl : Flow.Loop f
    · have e : cycs f s = Sched.Depth s := by unfold cycs; rw [hl]; rfl
      rw [e] at go ⊢
      exact go
    · have e : cycs f s = Sched.II s := by unfold cycs; rw [hl]; rfl
      rw [e] at go ⊢
      exact go
  · refine .bind (usage_not w q) (.bind ((lawfits w).false q) ?_)
    exact .ret _
end
end Go.Proofs.YtklfakmpfinlaaaV
