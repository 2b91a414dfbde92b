/- Proofs about the functions, part 3 of 4. -/
import Derived.Test.YtjddmekfeckphaaGreatM1
import Derived.Test.YtjddmekfeckphaaGreatM0
import Derived.KernelRfl
import Derived.Test.YtjddmekfeckphaaGreatF
set_option linter.unusedVariables false
set_option linter.unusedSimpArgs false
namespace Go.Proofs.YtjddmekfeckphaaGreatV
open Go Go.Vm
open Classical
theorem nodup_le : ∀ (n : Nat) (l : List Nat), l.Nodup -> (∀ x ∈ l, x < n) -> l.length <= n
 | 0, l, _, h => by
   cases l with
   | nil => simp
   | cons a l => have := h a (by simp); omega
 | n + 1, l, hn, h => by
   by_cases hm : n ∈ l
   . have h2 := nodup_le n (l.erase n) (hn.erase n) (fun x hx => by
      have h3 := (hn.mem_erase_iff.1 hx)
      have := h x h3.2
      have := h3.1
      omega)
     rw [List.length_erase_of_mem hm] at h2
     omega
   . have := nodup_le n l hn (fun x hx => by
      have := h x hx
      have : x ≠ n := fun e => hm (e ▸ hx)
      omega)
     omega
section
variable {f : Flow} {s : Sched}
def cycs (f : Flow) (s : Sched) : Int := if Flow.Loop f = true then Sched.II s else Sched.Depth s
def cyc (f : Flow) (s : Sched) (i b : Nat) : Int := if Flow.Loop f = true then (rd (Sched.Start s) (i : Int) + b) % Sched.II s else rd (Sched.Start s) (i : Int) + b
def hit (f : Flow) (s : Sched) (r c i b : Nat) : Prop := Need.Res (rd (Flow.Needs f) (i : Int)) = r /\ cyc f s i b = c
noncomputable def part (f : Flow) (s : Sched) (r c i : Nat) : Nat -> Nat
 | 0 => 0
 | b + 1 => part f s r c i b + if hit f s r c i b then 1 else 0
def busyN (f : Flow) (i : Nat) : Nat := (Need.Busy (rd (Flow.Needs f) (i : Int))).toNat
noncomputable def tot (f : Flow) (s : Sched) (r c : Nat) : Nat -> Nat
 | 0 => 0
 | i + 1 => tot f s r c i + part f s r c i (busyN f i)
theorem cycs_pos (F : FITS f s) : 0 < cycs f s /\ cycs f s <= 4096 := by
 have := F.loop
 have := F.ii
 have := F.depth
 unfold cycs
 split
 . rename_i h; have := F.loop.2 h; omega
 . omega
theorem cyc_bound (F : FITS f s) (V : VALID f) {i b : Nat} (hi : (i : Int) < Flow.Insts f) (hb : b <= 256) : 0 <= cyc f s i b /\ (Flow.Loop f = true -> cyc f s i b < cycs f s) /\ cyc f s i b <= 5000 := by
 have h1 := F.start
 have st := F.starts i (by omega)
 have ii := F.ii
 unfold cyc cycs
 split
 . rename_i h
   have hp := F.loop.2 h
   have := Int.emod_nonneg (rd (Sched.Start s) (i : Int) + b) (show Sched.II s ≠ 0 by omega)
   have := Int.emod_lt_of_pos (rd (Sched.Start s) (i : Int) + b) hp
   omega
 . rename_i h
   exact ⟨by omega, fun h2 => absurd h2 h, by omega⟩
theorem clList_nil (V : VALID f) (h : clList f s = []) : (∀ i : Nat, (i : Int) < Flow.Insts f -> ¬ SELF f s i) /\ ∀ i k : Nat, i < k -> (k : Int) < Flow.Insts f -> ¬ CL f s i k := by
 unfold clList at h
 rw [List.flatMap_eq_nil_iff] at h
 have hr : ∀ i : Nat, (i : Int) < Flow.Insts f -> row f s i = [] := fun i hi => h i (List.mem_range.2 (by omega))
 refine ⟨fun i hi hs => ?_, fun i k hik hk hc => ?_⟩
 . have := hr i hi
   unfold row at this
   rw [if_pos hs] at this
   simp at this
 . have := hr i (by omega)
   unfold row at this
   rw [List.append_eq_nil_iff] at this
   have := pick_nil.1 this.2 (k - i - 1) (by omega)
   rw [show i + 1 + (k - i - 1) = k by omega] at this
   simp [hc] at this
theorem one_hit (V : VALID f) (F : FITS f s) {i : Nat} (hi : (i : Int) < Flow.Insts f) (hs : ¬ SELF f s i) {r c b1 b2 : Nat} (h12 : b1 < b2) (hb : b2 < busyN f i) (h1 : hit f s r c i b1) (h2 : hit f s r c i b2) : False := by
 obtain ⟨e1, e2⟩ := h1
 obtain ⟨_, e3⟩ := h2
 rw [<- e3] at e2
 unfold cyc at e2
 unfold busyN at hb
 split at e2
 . rename_i hl
   have hp := F.loop.2 hl
   refine hs ⟨hp, by omega, ?_⟩
   have hd : (Sched.II s) ∣ ((rd (Sched.Start s) (i : Int) + (b2 : Int)) - (rd (Sched.Start s) (i : Int) + (b1 : Int))) := by
    apply Int.dvd_of_emod_eq_zero
    rw [Int.sub_emod, e2, Int.sub_self, Int.zero_emod]
   have : Sched.II s <= (b2 : Int) - b1 := by
    have := Int.le_of_dvd (by omega) hd
    omega
   omega
 . omega
theorem part_one (V : VALID f) (F : FITS f s) {i : Nat} (hi : (i : Int) < Flow.Insts f) (hs : ¬ SELF f s i) {r c : Nat} : ∀ b, b <= busyN f i -> part f s r c i b <= 1 /\ (part f s r c i b = 1 -> ∃ b', b' < b /\ hit f s r c i b') := by
 intro b
 induction b with
 | zero => intro _; exact ⟨by simp [part], fun h => by simp [part] at h⟩
 | succ b ih =>
   intro hb
   obtain ⟨h1, h2⟩ := ih (by omega)
   unfold part
   by_cases hh : hit f s r c i b
   . rw [if_pos hh]
     have : part f s r c i b = 0 := by
      rcases Nat.eq_zero_or_pos (part f s r c i b) with h | h
      . exact h
      . obtain ⟨b', g1, g2⟩ := h2 (by omega)
        exact (one_hit V F hi hs g1 hb g2 hh).elim
     exact ⟨by omega, fun _ => ⟨b, by omega, hh⟩⟩
   . rw [if_neg hh]
     refine ⟨by omega, fun h => ?_⟩
     obtain ⟨b', g1, g2⟩ := h2 (by omega)
     exact ⟨b', by omega, g2⟩
noncomputable def usedU (f : Flow) (s : Sched) (r c m : Nat) : List Nat := pick (fun i => decide (∃ b, b < busyN f i /\ hit f s r c i b)) (fun i => (rd (Sched.Unit s) (i : Int)).toNat) m
theorem used_mem {r c m x : Nat} (h : x ∈ usedU f s r c m) : ∃ i b, i < m /\ b < busyN f i /\ hit f s r c i b /\ x = (rd (Sched.Unit s) (i : Int)).toNat := by
 unfold usedU pick at h
 rw [List.mem_map] at h
 obtain ⟨i, hi, e⟩ := h
 rw [List.mem_filter, List.mem_range, decide_eq_true_eq] at hi
 obtain ⟨h1, b, h2, h3⟩ := hi
 exact ⟨i, b, h1, h2, h3, e.symm⟩
theorem emod_le_self {b n : Int} (hb : 0 <= b) (hn : 0 < n) : b % n <= b := by
 have e := Int.emod_add_mul_ediv b n
 have q := Int.ediv_nonneg hb (by omega : (0 : Int) <= n)
 have := Int.mul_nonneg (by omega : (0 : Int) <= n) q
 omega
theorem meets (V : VALID f) (F : FITS f s) {i k : Nat} (hi : (i : Int) < Flow.Insts f) (hk : (k : Int) < Flow.Insts f) {r c bi bk : Nat} (h1 : bi < busyN f i) (h2 : bk < busyN f k) (g1 : hit f s r c i bi) (g2 : hit f s r c k bk) (hu : rd (Sched.Unit s) (i : Int) = rd (Sched.Unit s) (k : Int)) : CL f s i k := by
 obtain ⟨e1, e2⟩ := g1
 obtain ⟨e3, e4⟩ := g2
 unfold busyN at h1 h2
 unfold cyc at e2 e4
 refine ⟨by omega, by rw [e1, e3], hu, by omega, by omega, fun h => ?_, fun h => ?_⟩
 . have hl : ¬ Flow.Loop f = true := fun hl => by have := F.loop.2 hl; omega
   rw [if_neg hl] at e2 e4
   omega
 . have hl := F.loop.1 h
   rw [if_pos hl] at e2 e4
   refine (circle (a := rd (Sched.Start s) (i : Int)) (b := rd (Sched.Start s) (k : Int)) h (by omega) (by omega)).1 ⟨c, by omega, ?_, ?_, ?_⟩
   . rw [<- e2]; exact Int.emod_lt_of_pos _ h
   . rw [<- e2, Int.emod_sub_emod, show rd (Sched.Start s) (i : Int) + (bi : Int) - rd (Sched.Start s) (i : Int) = (bi : Int) by omega]
     have : (bi : Int) % Sched.II s <= bi := emod_le_self (by omega) h
     omega
   . rw [<- e4, Int.emod_sub_emod, show rd (Sched.Start s) (k : Int) + (bk : Int) - rd (Sched.Start s) (k : Int) = (bk : Int) by omega]
     have : (bk : Int) % Sched.II s <= bk := emod_le_self (by omega) h
     omega
theorem enough (V : VALID f) (F : FITS f s) (h : clList f s = []) {r : Nat} (hr : r < (Flow.Res f).length) (c : Nat) : ((tot f s r c (Flow.Needs f).length : Nat) : Int) <= Resource.Count (rd (Flow.Res f) (r : Int)) := by
 obtain ⟨hself, hcl⟩ := clList_nil V h
 have hn := V.needs
 have hu := F.unit
 have key : ∀ m, m <= (Flow.Needs f).length -> (usedU f s r c m).Nodup /\ tot f s r c m <= (usedU f s r c m).length := by
  intro m
  induction m with
  | zero => intro _; exact ⟨by simp [usedU, pick], by simp [tot]⟩
  | succ m ih =>
    intro hm
    obtain ⟨g1, g2⟩ := ih (by omega)
    obtain ⟨p1, p2⟩ := part_one V F (i := m) (by omega) (hself m (by omega)) (r := r) (c := c) (busyN f m) (Nat.le_refl _)
    have e : usedU f s r c (m + 1) = if ∃ b, b < busyN f m /\ hit f s r c m b then usedU f s r c m ++ [(rd (Sched.Unit s) (m : Int)).toNat] else usedU f s r c m := by
     unfold usedU
     rw [pick_succ]
     simp only [decide_eq_true_eq]
    have et : tot f s r c (m + 1) = tot f s r c m + part f s r c m (busyN f m) := rfl
    rw [e, et]
    by_cases hh : ∃ b, b < busyN f m /\ hit f s r c m b
    . rw [if_pos hh]
      obtain ⟨b, hb1, hb2⟩ := hh
      refine ⟨?_, by rw [List.length_append, List.length_singleton]; omega⟩
      rw [List.nodup_append]
      refine ⟨g1, by simp, fun x hx y hy e2 => ?_⟩
      rw [List.mem_singleton] at hy
      subst e2
      subst hy
      obtain ⟨i', b', j1, j2, j3, j4⟩ := used_mem hx
      have u1 := F.units i' (by omega)
      have u2 := F.units m (by omega)
      have r1 : Need.Res (rd (Flow.Needs f) (i' : Int)) = (r : Int) := j3.1
      have r2 : Need.Res (rd (Flow.Needs f) (m : Int)) = (r : Int) := hb2.1
      have v1 := u1.2 (by omega)
      have v2 := u2.2 (by omega)
      exact hcl i' m j1 (by omega) (meets V F (by omega) (by omega) j2 hb1 j3 hb2 (by omega))
    . rw [if_neg hh]
      refine ⟨g1, ?_⟩
      have : part f s r c m (busyN f m) = 0 := by
       rcases Nat.eq_zero_or_pos (part f s r c m (busyN f m)) with h | h
       . exact h
       . exact absurd (p2 (by omega)) hh
      omega
 obtain ⟨k1, k2⟩ := key _ (Nat.le_refl _)
 have vr := V.res r hr
 have := nodup_le (Resource.Count (rd (Flow.Res f) (r : Int))).toNat _ k1 (fun x hx => by
  obtain ⟨i', b', j1, j2, j3, j4⟩ := used_mem hx
  have u1 := F.units i' (by omega)
  have r1 : Need.Res (rd (Flow.Needs f) (i' : Int)) = (r : Int) := j3.1
  have v1 := u1.2 (by omega)
  rw [r1] at v1
  omega)
 have := vr.2.2.1
 omega
end
end Go.Proofs.YtjddmekfeckphaaGreatV
namespace Go.Proofs.YtjddmekfeckphaaGreatV
open Go Go.Vm
theorem evAt {α : Type} {f : Nat -> Option α} {y : α} (N : Nat) (h : ∀ k, f (k + N) = some y) : Ev f y :=
 ⟨N, fun k hk => by obtain ⟨j, rfl⟩ : ∃ j, k = j + N := ⟨k - N, by omega⟩; exact h j⟩
def f32 : Flow := (3, 0, false, [(3, 0, 0, 0, ()), (3, 1, 0, 0, ()), (3, 2, 0, 0, ()), (3, 4, 0, 0, ()), (0, 4, 2, 0, ()), (1, 4, 2, 0, ()), (2, 4, 2, 0, ())], [(1, 0, 0, 1, ())], [(0, 2, ()), (0, 2, ()), (0, 2, ())], ())
def g32 : Graph := (5, [(3, 0, ()), (3, 1, ()), (3, 2, ()), (3, 4, ()), (0, 4, ()), (1, 4, ()), (2, 4, ())], ())
def t32 : Graph := (5, [(0, 3, ()), (1, 3, ()), (2, 3, ()), (4, 0, ()), (4, 1, ()), (4, 2, ()), (4, 3, ())], ())
theorem next32 : NEXT g32 = [[4], [4], [4], [0, 1, 2, 4], []] := by decide
theorem turn32 : TURN g32 = t32 := by decide
theorem nextt32 : NEXT t32 = [[3], [3], [3], [], [0, 1, 2, 3]] := by decide
theorem triple32 : Ev (fun k => jacquardlaw32_triple.f k 1) f32 := evAt 20 fun k => by kernel_rfl
theorem fin32 : Ev (fun k => graph_finished.f k [[4], [4], [4], [0, 1, 2, 4], []]) [4, 0, 1, 2, 3] := evAt 200 fun k => by kernel_rfl
theorem comps32 : Ev (fun k => graph_Components.f k g32) [0, 1, 2, 3, 4] := by
 simp only [graph_Components.f]
 refine .bind (Next_prog g32 (by decide)) ?_
 rw [next32]
 refine .bind fin32 ?_
 refine .bind (Turn_prog g32 (by decide) (by decide)) ?_
 rw [turn32]
 refine .bind (x := [[3], [3], [3], [], [0, 1, 2, 3]]) ?_ ?_
 . have := Next_prog t32 (by decide)
   rw [nextt32] at this
   exact this
 . exact evAt 200 fun k => by kernel_rfl
theorem tangled32 : Ev (fun k => listsched_tangled.f k f32) false := by
 have h : Ev (fun k => (graph_Components.f k g32).bind fun y => listsched_tangled.c12 k (y.length : Int) 0 f32 y ([] : List (Int × Int))) false := by
  refine .bind comps32 ?_
  exact evAt 100 fun k => by kernel_rfl
 exact h.steps 8 fun k => by kernel_rfl
theorem sched32 : Ev (fun k => listsched_Schedule.f k f32) ((0, 6, [0, 2, 4], [], [0, 0, 0], ()), 0, ()) := by
 simp only [listsched_Schedule.f]
 refine .bind (x := true) (evAt 100 fun k => by kernel_rfl) ?_
 simp only [Bool.not_true, cond_false]
 have e : dataflow_Nodes.f f32 = some 5 := by kernel_rfl
 rw [e]
 simp only [Option.bind_some]
 have e2 : Flow.Loop f32 = false := rfl
 simp only [e2, cond_false]
 refine .bind (x := ([0, 0, 0, 0, 2], none, ())) (evAt 200 fun k => by kernel_rfl) ?_
 refine .bind tangled32 ?_
 exact evAt 400 fun k => by kernel_rfl
theorem awake_ev : Ev (fun k => jacquardlaw32_awake.f k) true := by
 simp only [jacquardlaw32_awake.f]
 refine .bind triple32 ?_
 refine .bind sched32 ?_
 exact evAt 0 fun k => by kernel_rfl
end Go.Proofs.YtjddmekfeckphaaGreatV
namespace Go.Proofs.YtjddmekfeckphaaGreatV
open Go Go.Vm
def cntN (l : List Need) (r : Int) : Nat -> Nat
 | 0 => 0
 | m + 1 => cntN l r m + if Need.Res (rd l (m : Int)) = r then 1 else 0
theorem cntN_succ (l : List Need) (r : Int) (m : Nat) : cntN l r (m + 1) = cntN l r m + if Need.Res (rd l (m : Int)) = r then 1 else 0 := rfl
theorem cntN_le (l : List Need) (r : Int) : ∀ m : Nat, cntN l r m <= m
 | 0 => Nat.le_refl _
 | m + 1 => by
   have := cntN_le l r m
   rw [cntN_succ]
   split <;> omega
def CONT (f : Flow) (i : Nat) : Prop := 0 <= Need.Res (rd (Flow.Needs f) (i : Int)) /\ Resource.Count (rd (Flow.Res f) (Need.Res (rd (Flow.Needs f) (i : Int)))) < (cntN (Flow.Needs f) (Need.Res (rd (Flow.Needs f) (i : Int))) (Flow.Needs f).length : Int)
instance (f : Flow) (i : Nat) : Decidable (CONT f i) := by unfold CONT; infer_instance
def CONTS (f : Flow) (m : Nat) : List Int := pick (fun i => decide (CONT f i)) (fun i => (i : Int)) m
def FEW (f : Flow) : Prop := SMALL f 14 6 /\ (Flow.Needs f).length <= 20
section
variable {f : Flow}
theorem few_ev (ha : (Flow.Arcs f).length <= 140737488351232) (hn : (Flow.Needs f).length <= 140737488351232) : EvP (fun k => jacquardlaw32_few.f k f) (FEW f) := by
 simp only [jacquardlaw32_few.f]
 refine EvP.test (small_ref 14 6 ha hn) (fun h => ?_) fun h => ?_
 . simp only [cond_true]
   exact .dec ⟨fun q => ⟨h, by omega⟩, fun q => by have := q.2; omega⟩
 . simp only [cond_false]
   exact .ff fun q => h q.1
theorem sizes_of (h : FEW f) : SIZES f := ⟨by have := h.1.arcs; omega, by have := h.1.res; omega, by have := h.2; omega⟩
theorem need_at (V : VALID f) {i : Nat} (hi : i < (Flow.Needs f).length) : -1 <= Need.Res (rd (Flow.Needs f) (i : Int)) /\ Need.Res (rd (Flow.Needs f) (i : Int)) < ((Flow.Res f).length : Int) := by
 rcases V.need i hi with ⟨a, _⟩ | ⟨a, b, _⟩ <;> omega
theorem contested_ref (V : VALID f) (hn : (Flow.Needs f).length <= 1000000) : Ev (fun k => jacquardref32_Contested.f k f) (CONTS f (Flow.Needs f).length) := by
 simp only [jacquardref32_Contested.f]
 refine Ev.up (c := fun k i => jacquardref32_Contested.c3 k ((Flow.Needs f).length : Int) (i : Int) f (CONTS f i)) (n := (Flow.Needs f).length) ?_ (fun i hi ih => ?_) 0 (Nat.zero_le _)
 . refine .succ ?_
   simp (disch := omega) only [jacquardref32_Contested.c3, ↓cdF]
   exact .ret _
 . have b := need_at V hi
   have hpl : (CONTS f i).length <= i := pick_len _ _ _
   simp only [natC] at ih
   refine .succ ?_
   simp (disch := omega) only [jacquardref32_Contested.c3, ↓cdT]
   have e0 : (0 : Int) = (cntN (Flow.Needs f) (Need.Res (rd (Flow.Needs f) (i : Int))) 0 : Int) := rfl
   refine Ev.up (c := fun k j => jacquardref32_Contested.c7 k (i : Int) (cntN (Flow.Needs f) (Need.Res (rd (Flow.Needs f) (i : Int))) j : Int) ((Flow.Needs f).length : Int) (i : Int) ((Flow.Needs f).length : Int) (j : Int) f (CONTS f i)) (n := (Flow.Needs f).length) ?_ (fun j hj ih2 => ?_) 0 (Nat.zero_le _)
   . unfold CONTS at ih hpl ⊢
     rw [pick_succ] at ih
     refine .succ ?_
     simp (disch := omega) only [jacquardref32_Contested.c7, ↓cdF, ↓if_pos, w64_id]
     refine .dec (fun h0 => ?_) fun h0 => ?_
     . simp (disch := omega) only [↓if_pos]
       refine .dec (fun h1 => ?_) fun h1 => ?_
       . rw [if_pos (by exact decide_eq_true ⟨h0, h1⟩)] at ih
         simp (disch := (simp only [List.length_singleton]; omega)) only [↓bleT]
         exact ih
       . rw [if_neg (by rw [decide_eq_true_iff]; exact fun q => h1 q.2)] at ih
         exact ih
     . rw [if_neg (by rw [decide_eq_true_iff]; exact fun q => h0 q.1)] at ih
       exact ih
   . have hle := cntN_le (Flow.Needs f) (Need.Res (rd (Flow.Needs f) (i : Int))) j
     simp only [natC] at ih2
     refine .succ ?_
     simp (disch := omega) only [jacquardref32_Contested.c7, ↓cdT, ↓if_pos, w64_id]
     rw [cntN_succ] at ih2
     refine .dec (fun h0 => ?_) fun h0 => ?_
     . rw [if_pos h0] at ih2
       exact ih2
     . rw [if_neg h0] at ih2
       exact ih2
end
end Go.Proofs.YtjddmekfeckphaaGreatV
namespace Go.Proofs.YtjddmekfeckphaaGreatV
open Go Go.Vm
section
variable {f : Flow} {s : Sched}
def KL (f : Flow) (s : Sched) (i k : Nat) : Prop := k ≠ i /\ Need.Res (rd (Flow.Needs f) (k : Int)) = Need.Res (rd (Flow.Needs f) (i : Int)) /\ rd (Sched.Unit s) (k : Int) = rd (Sched.Unit s) (i : Int) /\
 rd (Sched.Start s) (k : Int) < rd (Sched.Start s) (i : Int) + Need.Busy (rd (Flow.Needs f) (i : Int)) /\ rd (Sched.Start s) (i : Int) < rd (Sched.Start s) (k : Int) + Need.Busy (rd (Flow.Needs f) (k : Int))
def CLA (f : Flow) (s : Sched) (i : Nat) : Prop := 0 <= Need.Res (rd (Flow.Needs f) (i : Int)) /\ ∃ k : Nat, k < (Flow.Needs f).length /\ KL f s i k
theorem KL.symm {i k : Nat} (h : KL f s i k) : KL f s k i := ⟨h.1.symm, h.2.1.symm, h.2.2.1.symm, h.2.2.2.2, h.2.2.2.1⟩
structure LG (f : Flow) (s : Sched) : Prop where
 params : ∀ p : Nat, p < (Sched.Params s).length -> rd (Sched.Params s) (p : Int) = 0
 arcs : ∀ i : Nat, i < (Flow.Arcs f).length -> Arc.Lat (rd (Flow.Arcs f) (i : Int)) <= tm f s (Arc.To (rd (Flow.Arcs f) (i : Int))) - tm f s (Arc.From (rd (Flow.Arcs f) (i : Int)))
 free : ∀ i : Nat, i < (Sched.Start s).length -> ¬ CLA f s i
end
end Go.Proofs.YtjddmekfeckphaaGreatV
namespace Go.Proofs.YtjddmekfeckphaaGreatV
open Go Go.Vm
section
variable {f : Flow} {s : Sched}
def lstN (f : Flow) (s : Sched) (v : Int) : Nat -> Int
 | 0 => 0
 | m + 1 => if Arc.To (rd (Flow.Arcs f) (m : Int)) = v /\ Arc.From (rd (Flow.Arcs f) (m : Int)) ≠ v then mx (lstN f s v m) (tm f s (Arc.From (rd (Flow.Arcs f) (m : Int))) + Arc.Lat (rd (Flow.Arcs f) (m : Int))) else lstN f s v m
def lst (f : Flow) (s : Sched) (v : Int) : Int := lstN f s v (Flow.Arcs f).length
end
end Go.Proofs.YtjddmekfeckphaaGreatV
namespace Go.Proofs.YtjddmekfeckphaaGreatV
open Go Go.Vm
section
variable {f : Flow} {s : Sched}
theorem LG_iff (V : VALID f) (F : FITS f s) (hl : Flow.Loop f = false) : LEGAL f s ↔ LG f s := by
 have hn := V.needs
 have i0 := V.i0
 have a1 := F.start
 have hii : Sched.II s = 0 := by
  have := F.ii
  have h2 := F.loop
  rw [hl] at h2
  simp at h2
  omega
 have hd : ∀ i : Nat, i < (Flow.Arcs f).length -> slk f s i = tm f s (Arc.To (rd (Flow.Arcs f) (i : Int))) - tm f s (Arc.From (rd (Flow.Arcs f) (i : Int))) - Arc.Lat (rd (Flow.Arcs f) (i : Int)) := fun i hi => by
  unfold slk
  rw [hii, Int.zero_mul]
  omega
 have hcl : ∀ i k : Nat, i < (Flow.Needs f).length -> k < (Flow.Needs f).length -> i ≠ k -> (CL f s i k ↔ 0 <= Need.Res (rd (Flow.Needs f) (i : Int)) /\ KL f s i k) := by
  intro i k hi hk hne
  unfold CL KL
  rw [hii]
  constructor
  . rintro ⟨q1, q2, q3, q4, q5, q6, _⟩
    have := q6 rfl
    exact ⟨q1, Ne.symm hne, q2.symm, q3.symm, by omega, by omega⟩
  . rintro ⟨q1, q2, q3, q4, q5, q6⟩
    have bi : 1 <= Need.Busy (rd (Flow.Needs f) (i : Int)) := by
     rcases V.need i hi with ⟨a, _⟩ | ⟨_, _, a, b⟩ <;> omega
    have bk : 1 <= Need.Busy (rd (Flow.Needs f) (k : Int)) := by
     rcases V.need k hk with ⟨a, _⟩ | ⟨_, _, a, b⟩ <;> omega
    exact ⟨q1, q3.symm, q4.symm, by omega, by omega, fun _ => by omega, fun h => by omega⟩
 have hcs : clList f s = [] ↔ ∀ i : Nat, i < (Flow.Insts f).toNat -> ¬ CLA f s i := by
  unfold clList
  rw [List.flatMap_eq_nil_iff]
  have hrow : ∀ i : Nat, row f s i = [] ↔ ∀ m : Nat, m < (Flow.Insts f).toNat - 1 - i -> ¬ CL f s i (i + 1 + m) := by
   intro i
   unfold row SELF
   rw [if_neg (by rw [hii]; omega), List.nil_append, pick_nil]
   constructor
   . intro h m hm q
     have := h m hm
     rw [decide_eq_false_iff_not] at this
     exact this q
   . intro h m hm
     rw [decide_eq_false_iff_not]
     exact h m hm
  constructor
  . rintro h i hi ⟨q1, k, hk, q2⟩
    rcases Nat.lt_or_gt_of_ne q2.1 with hlt | hgt
    . have := (hrow k).1 (h k (by simp; omega)) (i - 1 - k) (by omega)
      rw [show k + 1 + (i - 1 - k) = i by omega] at this
      exact this ((hcl k i hk (by omega) (by omega)).2 ⟨by have := q2.2.1; omega, q2.symm⟩)
    . have := (hrow i).1 (h i (by simpa using hi)) (k - 1 - i) (by omega)
      rw [show i + 1 + (k - 1 - i) = k by omega] at this
      exact this ((hcl i k (by omega) hk (by omega)).2 ⟨q1, q2⟩)
  . intro h i hi
    have hi : i < (Flow.Insts f).toNat := by simpa using hi
    refine (hrow i).2 fun m hm q => ?_
    have := (hcl i (i + 1 + m) (by omega) (by omega) (by omega)).1 q
    exact h i hi ⟨this.1, i + 1 + m, by omega, this.2⟩
 constructor
 . intro L
   refine ⟨L.params hl, fun i hi => ?_, fun i hi => hcs.1 L.clash i (by omega)⟩
   have := L.late i hi
   rw [hd i hi] at this
   omega
 . intro L
   refine ⟨by have := F.depth; omega, fun i hi => ?_, hcs.2 fun i hi => L.free i (by omega), fun _ => L.params⟩
   rw [hd i hi]
   have := L.arcs i hi
   omega
end
end Go.Proofs.YtjddmekfeckphaaGreatV
namespace Go.Proofs.YtjddmekfeckphaaGreatV
open Go Go.Vm
section
variable {f : Flow} {s : Sched}
end
end Go.Proofs.YtjddmekfeckphaaGreatV
namespace Go.Proofs.YtjddmekfeckphaaGreatV
open Go Go.Vm
def INQ (q TL : List Int) : Prop := ∀ x ∈ q, 0 <= x /\ x < (TL.length : Int)
theorem INQ.perm {q q' TL : List Int} (h : INQ q TL) (p : q'.Perm q) : INQ q' TL := fun x hx => h x (p.mem_iff.1 hx)
theorem INQ.rd {q TL : List Int} (h : INQ q TL) {i : Nat} (hi : i < q.length) : 0 <= rd q (i : Int) /\ rd q (i : Int) < (TL.length : Int) := h _ (rd_mem (by omega) (by omega))
def swq (l : List Int) (i j : Nat) : List Int := (l.set i (rd l (j : Int))).set j (rd l (i : Int))
theorem swq_len (l : List Int) (i j : Nat) : (swq l i j).length = l.length := by simp [swq]
theorem swq_perm {l : List Int} {i j : Nat} (hi : i < l.length) (hj : j < l.length) : (swq l i j).Perm l := by
 unfold swq
 rw [rd_eq hi, rd_eq hj]
 exact List.set_set_perm hi hj
theorem swq_rd {l : List Int} {i j c : Nat} (hi : c ≠ i) (hj : c ≠ j) : rd (swq l i j) (c : Int) = rd l (c : Int) := by
 unfold swq
 rw [rd_set_ne (Ne.symm hj), rd_set_ne (Ne.symm hi)]
theorem swap1_f {l TL : List Int} {i j : Nat} (hi : i < l.length) (hj : j < l.length) : listsched_queue_Swap_i1.f (i : Int) (j : Int) TL l = some ((), swq l i j, ()) := by
 unfold listsched_queue_Swap_i1.f swq
 rw [if_pos (by omega), if_pos (by omega), if_pos (by omega), if_pos (by rw [List.length_set]; omega)]
 rfl
theorem swap2_f {l TL : List Int} {i j : Nat} (hi : i < l.length) (hj : j < l.length) : listsched_queue_Swap_i2.f (i : Int) (j : Int) TL l = some ((), swq l i j, ()) := by
 unfold listsched_queue_Swap_i2.f swq
 rw [if_pos (by omega), if_pos (by omega), if_pos (by omega), if_pos (by rw [List.length_set]; omega)]
 rfl
theorem less_f {l TL : List Int} (h : INQ l TL) {i j : Nat} (hi : i < l.length) (hj : j < l.length) : ∃ b, listsched_queue_Less.f (i : Int) (j : Int) l TL = some (b, ()) := by
 have h1 := h.rd hi
 have h2 := h.rd hj
 unfold listsched_queue_Less.f
 rw [if_pos (by omega), if_pos (by omega), if_pos h1, if_pos h2, if_pos h1, if_pos h2]
 cases (!decide (rd TL (rd l (i : Int)) = rd TL (rd l (j : Int)))) <;> exact ⟨_, rfl⟩
theorem up_ev {TL : List Int} : ∀ (d i : Nat), i <= d -> ∀ l : List Int, i < l.length -> l.length <= 1000000 -> INQ l TL -> W (fun k => heap_up_i1.c0 k (i : Int) l TL) (fun r => r.2.1.Perm l) := by
 intro d
 induction d with
 | zero =>
   intro i hi l hl hb h
   have e : i = 0 := by omega
   subst e
   refine .succ ?_
   have e : w64 (Int.tdiv (w64 (((0 : Nat) : Int) - 1)) 2) = ((0 : Nat) : Int) := by decide
   simp only [heap_up_i1.c0, e, decide_true, cond_true]
   exact .ret (List.Perm.refl _)
 | succ d ih =>
   intro i hi l hl hb h
   by_cases e0 : i = 0
   . exact ih i (by omega) l hl hb h
   have e : w64 (Int.tdiv (w64 ((i : Int) - 1)) 2) = (((i - 1) / 2 : Nat) : Int) := by
    have e : w64 ((i : Int) - 1) = ((i - 1 : Nat) : Int) := by rw [w64_id (by omega) (by omega)]; omega
    rw [e, Int.tdiv_eq_ediv_of_nonneg (by omega), w64_id (by omega) (by omega)]
    omega
   have hp : (i - 1) / 2 < l.length := by omega
   refine .succ ?_
   simp only [heap_up_i1.c0, e]
   simp (disch := omega) only [↓cdF]
   obtain ⟨b, hbb⟩ := less_f h (i := i) (j := (i - 1) / 2) hl hp
   rw [hbb]
   simp only [Option.bind_some]
   cases b
   . simp only [Bool.not_false, cond_true]
     exact .ret (List.Perm.refl _)
   . simp only [Bool.not_true, cond_false]
     rw [swap1_f hp hl]
     simp only [Option.bind_some]
     have hs := swq_perm (l := l) hp hl
     exact (ih ((i - 1) / 2) (by omega) (swq l ((i - 1) / 2) i) (by rw [swq_len]; omega) (by rw [swq_len]; omega) (h.perm hs)).mono fun r hr => hr.trans hs
theorem push_evq {q TL : List Int} {x : Int} (hq : INQ q TL) (hx : 0 <= x /\ x < (TL.length : Int)) (hl : q.length < 1000000) : W (fun k => heap_Push_i4.f k x q TL) (fun r => r.2.2.1 = TL /\ r.2.2.2.1.Perm (q ++ [x])) := by
 have hq2 : INQ (q ++ [x]) TL := fun y hy => by
  rcases List.mem_append.1 hy with h | h
  . exact hq y h
  . rw [List.mem_singleton.1 h]; exact hx
 have hlen : (q ++ [x]).length = q.length + 1 := by simp
 simp only [heap_Push_i4.f, listsched_queue_Push_i4.f, listsched_queue_Len.f]
 simp (disch := (simp only [List.length_singleton]; omega)) only [↓bleT, Option.bind_some]
 have e : w64 (((q ++ [x]).length : Int) - 1) = (q.length : Int) := by rw [w64_id (by omega) (by omega)]; omega
 rw [e]
 refine .bind (up_ev q.length q.length (Nat.le_refl _) (q ++ [x]) (by omega) (by omega) hq2) fun r hr => .ret ⟨rfl, hr⟩
theorem down_ev {TL : List Int} {n : Nat} : ∀ (d i : Nat), n - i <= d -> ∀ l : List Int, i < l.length -> n <= l.length -> l.length <= 1000000 -> INQ l TL ->
 W (fun k => heap_down_i1.c2 k 0 (n : Int) (i : Int) l TL) (fun r => r.2.1.Perm l /\ ∀ c : Nat, n <= c -> i < n -> rd r.2.1 (c : Int) = rd l (c : Int)) := by
 intro d
 induction d with
 | zero =>
   intro i hi l hl hn hb h
   refine .succ ?_
   have e : w64 (w64 (2 * (i : Int)) + 1) = 2 * (i : Int) + 1 := by rw [w64_id (n := 2 * (i : Int)) (by omega) (by omega), w64_id (by omega) (by omega)]
   simp only [heap_down_i1.c2, e]
   simp (disch := omega) only [↓cdT]
   exact .ret ⟨List.Perm.refl _, fun _ _ _ => rfl⟩
 | succ d ih =>
   intro i hi l hl hn hb h
   refine .succ ?_
   have e : w64 (w64 (2 * (i : Int)) + 1) = ((2 * i + 1 : Nat) : Int) := by rw [w64_id (n := 2 * (i : Int)) (by omega) (by omega), w64_id (by omega) (by omega)]; omega
   have e2 : w64 (((2 * i + 1 : Nat) : Int) + 1) = ((2 * i + 2 : Nat) : Int) := by rw [w64_id (by omega) (by omega)]; omega
   simp only [heap_down_i1.c2, e, e2]
   refine .dec (fun h1 => .ret ⟨List.Perm.refl _, fun _ _ _ => rfl⟩) fun h1 => ?_
   simp (disch := omega) only [↓cdF]
   have body : ∀ c : Nat, i < c -> c < n -> W (fun k => heap_down_i1.c8 k 0 (n : Int) (i : Int) (c : Int) l TL) (fun r => r.2.1.Perm l /\ ∀ c : Nat, n <= c -> i < n -> rd r.2.1 (c : Int) = rd l (c : Int)) := by
    intro c hic hcn
    refine .succ ?_
    obtain ⟨b, hbb⟩ := less_f h (i := c) (j := i) (by omega) hl
    simp only [heap_down_i1.c8, hbb, Option.bind_some]
    cases b
    . simp only [Bool.not_false, cond_true]
      exact .ret ⟨List.Perm.refl _, fun _ _ _ => rfl⟩
    . simp only [Bool.not_true, cond_false]
      rw [swap2_f hl (by omega)]
      simp only [Option.bind_some]
      have hs := swq_perm (l := l) (i := i) (j := c) hl (by omega)
      refine (ih c (by omega) (swq l i c) (by rw [swq_len]; omega) (by rw [swq_len]; omega) (by rw [swq_len]; omega) (h.perm hs)).mono fun r hr => ⟨hr.1.trans hs, fun x hx _ => ?_⟩
      rw [hr.2 x hx hcn, swq_rd (by omega) (by omega)]
   refine .dec (fun h2 => ?_) fun h2 => body _ (by omega) (by omega)
   obtain ⟨b, hbb⟩ := less_f h (i := 2 * i + 2) (j := 2 * i + 1) (by omega) (by omega)
   rw [hbb]
   simp only [Option.bind_some]
   cases b
   . exact body _ (by omega) (by omega)
   . exact body _ (by omega) (by omega)
theorem pop_evq {q TL : List Int} (hq : INQ q TL) (h0 : 0 < q.length) (hl : q.length <= 1000000) : W (fun k => heap_Pop_i3.f k q TL) (fun r => r.2.2.1 = TL /\ (r.1 :: r.2.2.2.1).Perm q) := by
 simp only [heap_Pop_i3.f, listsched_queue_Len.f, Option.bind_some]
 have e : w64 ((q.length : Int) - 1) = ((q.length - 1 : Nat) : Int) := by rw [w64_id (by omega) (by omega)]; omega
 rw [e]
 have e0 : (0 : Int) = ((0 : Nat) : Int) := rfl
 have hsw := swap2_f (l := q) (TL := TL) (i := 0) (j := q.length - 1) h0 (by omega)
 rw [<- e0] at hsw
 rw [hsw]
 simp only [Option.bind_some]
 have hs := swq_perm (l := q) (i := 0) (j := q.length - 1) h0 (by omega)
 simp only [heap_down_i1.f]
 refine .bind (down_ev (TL := TL) (n := q.length - 1) (q.length - 1) 0 (by omega) (swq q 0 (q.length - 1)) (by rw [swq_len]; omega) (by rw [swq_len]; omega) (by rw [swq_len]; omega) (hq.perm hs)) fun r hr => ?_
 obtain ⟨r0, l, _⟩ := r
 have hp : l.Perm q := hr.1.trans hs
 have hlen : l.length = q.length := hp.length_eq
 have e3 : w64 ((l.length : Int) - 1) = ((q.length - 1 : Nat) : Int) := by rw [hlen]; exact e
 simp only [listsched_queue_Pop_i3.f, e3]
 simp (disch := omega) only [↓if_pos, Option.bind_some, Int.toNat_natCast]
 refine .ret ⟨rfl, ?_⟩
 have e4 : l.take (q.length - 1) ++ [rd l ((q.length - 1 : Nat) : Int)] = l := by
  have : l.take (q.length - 1 + 1) = l := List.take_of_length_le (by omega)
  rw [List.take_add_one, List.getElem?_eq_getElem (by omega)] at this
  rw [rd_eq (by omega)]
  simpa using this
 show (rd l ((q.length - 1 : Nat) : Int) :: l.take (q.length - 1)).Perm q
 refine List.Perm.trans ?_ hp
 conv => rhs; rw [<- e4]
 exact (List.perm_append_singleton _ _).symm
end Go.Proofs.YtjddmekfeckphaaGreatV
namespace Go.Proofs.YtjddmekfeckphaaGreatV
open Go Go.Vm
abbrev rsI (f : Flow) (i : Nat) : Int := Need.Res (rd (Flow.Needs f) (i : Int))
abbrev bsI (f : Flow) (i : Nat) : Int := Need.Busy (rd (Flow.Needs f) (i : Int))
abbrev cnt (f : Flow) (r : Int) : Int := Resource.Count (rd (Flow.Res f) r)
abbrev aF (f : Flow) (j : Nat) : Int := Arc.From (rd (Flow.Arcs f) (j : Int))
abbrev aT (f : Flow) (j : Nat) : Int := Arc.To (rd (Flow.Arcs f) (j : Int))
abbrev aL (f : Flow) (j : Nat) : Int := Arc.Lat (rd (Flow.Arcs f) (j : Int))
def opP (I : Int) (WT : List Bool) (v : Int) (a : Arc) : Bool := decide (Arc.From a < I) && (rd WT (Arc.From a) && decide (Arc.To a = v))
def opc (f : Flow) (WT : List Bool) (v : Int) : Nat := (Flow.Arcs f).countP (opP (Flow.Insts f) WT v)
def nxl (f : Flow) (i : Nat) : List Arc := (Flow.Arcs f).filter fun a => decide (Arc.From a = (i : Int))
theorem cp_place {I : Int} {WT : List Bool} {i : Nat} (hi : i < WT.length) (hI : (i : Int) < I) (hw : rd WT (i : Int) = true) (v : Int) : ∀ l : List Arc, (∀ a ∈ l, 0 <= Arc.From a) ->
 l.countP (opP I WT v) = l.countP (opP I (WT.set i false) v) + (l.filter fun a => decide (Arc.From a = (i : Int))).countP fun a => decide (Arc.To a = v)
 | [], _ => rfl
 | a :: l, h => by
   have ih := cp_place hi hI hw v l fun b hb => h b (by simp [hb])
   have h0 := h a (by simp)
   rw [List.countP_cons, List.countP_cons, ih]
   by_cases e : Arc.From a = (i : Int)
   . rw [List.filter_cons_of_pos (by simp [e]), List.countP_cons]
     have e1 : opP I WT v a = decide (Arc.To a = v) := by unfold opP; rw [e, hw]; simp [hI]
     have e2 : opP I (WT.set i false) v a = false := by unfold opP; rw [e, rd_set_eq hi]; simp
     rw [e1, e2]
     simp
     omega
   . rw [List.filter_cons_of_neg (by simp [e])]
     obtain ⟨m, hm⟩ : ∃ m : Nat, Arc.From a = (m : Int) := ⟨(Arc.From a).toNat, by omega⟩
     have e1 : opP I (WT.set i false) v a = opP I WT v a := by unfold opP; rw [hm, rd_set_ne (by omega)]
     rw [e1]
     omega
theorem opc_zero {f : Flow} {WT : List Bool} {v : Int} (h : opc f WT v = 0) {j : Nat} (hj : j < (Flow.Arcs f).length) (h1 : aF f j < Flow.Insts f) (h2 : rd WT (aF f j) = true) : aT f j ≠ v := by
 intro e
 have := List.countP_eq_zero.1 h (rd (Flow.Arcs f) (j : Int)) (rd_mem (by omega) (by omega))
 apply this
 unfold opP
 rw [decide_eq_true h1, h2, decide_eq_true e]
 rfl
theorem opc_one {f : Flow} {WT : List Bool} {v : Int} (h : opc f WT v ≠ 0) : ∃ j : Nat, j < (Flow.Arcs f).length /\ aF f j < Flow.Insts f /\ rd WT (aF f j) = true /\ aT f j = v := by
 have hne : ¬ ∀ a ∈ Flow.Arcs f, ¬ opP (Flow.Insts f) WT v a = true := fun q => h (List.countP_eq_zero.2 q)
 obtain ⟨a, ha⟩ := Classical.not_forall.1 hne
 obtain ⟨h1, h2⟩ := Classical.not_imp.1 ha
 have h2 := Classical.not_not.1 h2
 obtain ⟨j, hj, e⟩ := mem_rd h1
 subst e
 unfold opP at h2
 simp only [Bool.and_eq_true, decide_eq_true_iff] at h2
 exact ⟨j, hj, h2.1, h2.2.1, h2.2.2⟩
theorem mem_nxl {f : Flow} {i : Nat} {a : Arc} : a ∈ nxl f i ↔ ∃ j : Nat, j < (Flow.Arcs f).length /\ rd (Flow.Arcs f) (j : Int) = a /\ aF f j = (i : Int) := by
 unfold nxl
 rw [List.mem_filter, decide_eq_true_iff]
 constructor
 . rintro ⟨h1, h2⟩
   obtain ⟨j, hj, e⟩ := mem_rd h1
   subst e
   exact ⟨j, hj, rfl, h2⟩
 . rintro ⟨j, hj, e, h2⟩
   subst e
   exact ⟨rd_mem (by omega) (by omega), h2⟩
def CB (f : Flow) (WT : List Bool) (ST : List Int) (x : Int) : Nat -> Int
 | 0 => 0
 | m + 1 => CB f WT ST x m + if rd WT (m : Int) = false /\ CONT f m then mx 0 (mn x (rd ST (m : Int) + bsI f m) - rd ST (m : Int)) else 0
def KSUM (f : Flow) : Nat -> Int
 | 0 => 0
 | m + 1 => KSUM f m + if CONT f m then bsI f m else 0
section
variable {f : Flow} {WT : List Bool} {ST : List Int}
theorem CB_mono {x y : Int} (h : x <= y) : ∀ m, CB f WT ST x m <= CB f WT ST y m
 | 0 => Int.le_refl _
 | m + 1 => by
   have ih := CB_mono h m
   show _ + ite _ _ _ <= _ + ite _ _ _
   split
   . have : mx 0 (mn x (rd ST (m : Int) + bsI f m) - rd ST (m : Int)) <= mx 0 (mn y (rd ST (m : Int) + bsI f m) - rd ST (m : Int)) := by unfold mx mn; repeat' split <;> omega
     omega
   . omega
theorem CB_sum {x : Int} (hb : ∀ i : Nat, 0 <= bsI f i \/ ¬ CONT f i) : ∀ m, CB f WT ST x m <= KSUM f m
 | 0 => Int.le_refl _
 | m + 1 => by
   have ih := CB_sum (x := x) hb m
   show _ + ite _ _ _ <= _ + ite _ _ _
   by_cases h : CONT f m
   . rw [if_pos h]
     have hbm : 0 <= bsI f m := (hb m).resolve_right fun q => q h
     split
     . have : mx 0 (mn x (rd ST (m : Int) + bsI f m) - rd ST (m : Int)) <= bsI f m := by unfold mx mn; repeat' split <;> omega
       omega
     . omega
   . rw [if_neg h, if_neg fun q => h q.2]
     omega
theorem CB_cover {x y : Int} {k : Nat} (hw : rd WT (k : Int) = false) (hc : CONT f k) (h1 : rd ST (k : Int) <= x) (h2 : x <= y) (h3 : y <= rd ST (k : Int) + bsI f k) : ∀ m, k < m -> CB f WT ST x m + (y - x) <= CB f WT ST y m
 | 0, h => by omega
 | m + 1, h => by
   show _ + ite _ _ _ + _ <= _ + ite _ _ _
   by_cases e : k = m
   . subst e
     rw [if_pos ⟨hw, hc⟩, if_pos ⟨hw, hc⟩]
     have := CB_mono (f := f) (WT := WT) (ST := ST) h2 k
     have : mx 0 (mn x (rd ST (k : Int) + bsI f k) - rd ST (k : Int)) + (y - x) <= mx 0 (mn y (rd ST (k : Int) + bsI f k) - rd ST (k : Int)) := by unfold mx mn; repeat' split <;> omega
     omega
   . have ih := CB_cover hw hc h1 h2 h3 m (by omega)
     split
     . have : mx 0 (mn x (rd ST (m : Int) + bsI f m) - rd ST (m : Int)) <= mx 0 (mn y (rd ST (m : Int) + bsI f m) - rd ST (m : Int)) := by unfold mx mn; repeat' split <;> omega
       omega
     . omega
theorem CB_place {i : Nat} {t x : Int} (hi : i < WT.length) (hs : i < ST.length) (hw : rd WT (i : Int) = true) : ∀ m, CB f WT ST x m <= CB f (WT.set i false) (ST.set i t) x m
 | 0 => Int.le_refl _
 | m + 1 => by
   have ih := CB_place (t := t) (x := x) hi hs hw m
   show _ + ite _ _ _ <= _ + ite _ _ _
   by_cases e : i = m
   . subst e
     rw [if_neg (by rw [hw]; simp)]
     split
     . have := le_mx_l 0 (mn x (rd (ST.set i t) (i : Int) + bsI f i) - rd (ST.set i t) (i : Int))
       omega
     . omega
   . rw [rd_set_ne e, rd_set_ne e]
     omega
end
def RDY (f : Flow) (t : Int) (WT : List Bool) (OP EA : List Int) (i : Nat) : Prop := (i : Int) < Flow.Insts f /\ rd WT (i : Int) = true /\ rd OP (i : Int) = 0 /\ rd EA (i : Int) <= t
structure RI (f : Flow) (p : Int -> Int) (t : Int) (WT : List Bool) (ST UN OP EA : List Int) (FR : List (List Int)) : Prop where
 lw : (WT.length : Int) = Flow.Insts f
 ls : (ST.length : Int) = Flow.Insts f
 lu : (UN.length : Int) = Flow.Insts f
 lo : (OP.length : Int) = Flow.N f + 2
 le : (EA.length : Int) = Flow.N f + 2
 lf : FR.length = (Flow.Res f).length
 lfr : ∀ r : Nat, r < (Flow.Res f).length -> ((rd FR (r : Int)).length : Int) = cnt f r
 t0 : 0 <= t
 opn : ∀ v : Nat, (v : Int) < Flow.N f + 2 -> rd OP (v : Int) = (opc f WT v : Int)
 ea : ∀ v : Nat, (v : Int) < Flow.N f + 2 -> 0 <= rd EA (v : Int) /\ rd EA (v : Int) <= t + 4096
 eaf : ∀ j : Nat, j < (Flow.Arcs f).length -> (aF f j < Flow.Insts f -> rd WT (aF f j) = false -> rd ST (aF f j) + aL f j <= rd EA (aT f j)) /\ (Flow.Insts f <= aF f j -> aL f j <= rd EA (aT f j))
 st : ∀ i : Nat, (i : Int) < Flow.Insts f -> rd WT (i : Int) = false -> 0 <= rd ST (i : Int) /\ rd ST (i : Int) <= t
 leg : ∀ j : Nat, j < (Flow.Arcs f).length -> aT f j < Flow.Insts f -> rd WT (aT f j) = false -> (aF f j < Flow.Insts f -> rd WT (aF f j) = false /\ rd ST (aF f j) + aL f j <= rd ST (aT f j)) /\ (Flow.Insts f <= aF f j -> aL f j <= rd ST (aT f j))
 un1 : ∀ i : Nat, (i : Int) < Flow.Insts f -> rsI f i < 0 -> rd UN (i : Int) = -1
 un2 : ∀ i : Nat, (i : Int) < Flow.Insts f -> rd WT (i : Int) = false -> 0 <= rsI f i -> 0 <= rd UN (i : Int) /\ rd UN (i : Int) < cnt f (rsI f i) /\ rd ST (i : Int) + bsI f i <= rd (rd FR (rsI f i)) (rd UN (i : Int))
 fre : ∀ i k : Nat, (i : Int) < Flow.Insts f -> (k : Int) < Flow.Insts f -> i ≠ k -> rd WT (i : Int) = false -> rd WT (k : Int) = false -> 0 <= rsI f i -> rsI f i = rsI f k -> rd UN (i : Int) = rd UN (k : Int) -> rd ST (i : Int) + bsI f i <= rd ST (k : Int) \/ rd ST (k : Int) + bsI f k <= rd ST (i : Int)
 frk : ∀ r : Nat, r < (Flow.Res f).length -> ∀ u : Nat, (u : Int) < cnt f r -> rd (rd FR (r : Int)) (u : Int) = 0 \/ ∃ k : Nat, (k : Int) < Flow.Insts f /\ rd WT (k : Int) = false /\ rsI f k = r /\ rd UN (k : Int) = u /\ rd (rd FR (r : Int)) (u : Int) = rd ST (k : Int) + bsI f k
 c1 : ∀ v : Nat, (v : Int) < Flow.N f + 2 -> rd EA (v : Int) <= p v + CB f WT ST (rd EA (v : Int)) (Flow.Insts f).toNat
 c2 : ∀ i : Nat, RDY f t WT OP EA i -> t <= p i + CB f WT ST t (Flow.Insts f).toNat
 c3 : ∀ i : Nat, (i : Int) < Flow.Insts f -> rd WT (i : Int) = false -> rd ST (i : Int) <= p i + CB f WT ST (rd ST (i : Int)) (Flow.Insts f).toNat
structure PLC (f : Flow) (t : Int) (i : Nat) (OP EA OP' EA' : List Int) : Prop where
 lo : OP'.length = OP.length
 le : EA'.length = EA.length
 op : ∀ v : Nat, v < OP.length -> rd OP' (v : Int) = rd OP (v : Int) - ((nxl f i).countP (fun a => decide (Arc.To a = (v : Int))) : Int)
 up : ∀ v : Nat, v < EA.length -> rd EA (v : Int) <= rd EA' (v : Int)
 ge : ∀ a ∈ nxl f i, t + Arc.Lat a <= rd EA' (Arc.To a)
 at' : ∀ v : Nat, v < EA.length -> rd EA' (v : Int) = rd EA (v : Int) \/ ∃ a ∈ nxl f i, Arc.To a = (v : Int) /\ rd EA' (v : Int) = t + Arc.Lat a
structure SOL (f : Flow) (p : Int -> Int) : Prop where
 pos : ∀ v : Int, 0 <= v -> v < Flow.N f + 2 -> 0 <= p v
 arc : ∀ j : Nat, j < (Flow.Arcs f).length -> p (aF f j) + aL f j <= p (aT f j)
section
variable {f : Flow} {p : Int -> Int} {t : Int} {WT : List Bool} {ST UN OP EA : List Int} {FR : List (List Int)}
theorem RI.place (V : VALID f) (hp : SOL f p) (H : RI f p t WT ST UN OP EA FR) {i : Nat} (hr : RDY f t WT OP EA i) {OP' EA' UN' : List Int} {FR' : List (List Int)} (hP : PLC f t i OP EA OP' EA')
 (hU : (rsI f i < 0 /\ UN' = UN /\ FR' = FR) \/ (0 <= rsI f i /\ ∃ u : Nat, (u : Int) < cnt f (rsI f i) /\ rd (rd FR (rsI f i)) (u : Int) <= t /\ UN' = UN.set i (u : Int) /\ FR' = FR.set (rsI f i).toNat ((rd FR (rsI f i)).set u (t + bsI f i)))) :
 RI f p t (WT.set i false) (ST.set i t) UN' OP' EA' FR' := by
 obtain ⟨hi, hw, ho, he⟩ := hr
 have hnl := V.needs
 have hN : Flow.N f = Flow.Insts f + Flow.Params f := rfl
 have p0 := V.p0
 have l1 := H.lw
 have l2 := H.ls
 have l3 := H.lu
 have l4 := H.lo
 have l5 := H.le
 have hres : -1 <= rsI f i /\ rsI f i < ((Flow.Res f).length : Int) := need_at V (i := i) (by omega)
 have hbs : 0 <= bsI f i := by rcases V.need i (by omega) with ⟨_, a⟩ | ⟨_, _, a, b⟩ <;> (show 0 <= Need.Busy _) <;> omega
 have t0 := H.t0
 have hiW : i < WT.length := by omega
 have hiS : i < ST.length := by omega
 have hopc : opc f WT i = 0 := by have := H.opn i (by omega); omega
 have hti := H.c2 i ⟨hi, hw, ho, he⟩
 have arc0 : ∀ j : Nat, j < (Flow.Arcs f).length -> 0 <= aF f j /\ aF f j <= Flow.N f /\ 0 <= aT f j /\ aT f j <= Flow.N f + 1 /\ 0 <= aL f j /\ aL f j <= 4096 := fun j hj => by
  obtain ⟨v1, v2, v3, v4, v5, v6, _⟩ := V.arcs j hj
  exact ⟨v1, v2, v3, v4, v5, v6⟩
 have wt : ∀ {k : Nat}, (k : Int) < Flow.Insts f -> rd (WT.set i false) (k : Int) = false -> k = i \/ (k ≠ i /\ rd WT (k : Int) = false) := fun {k} hk h => by
  by_cases e : k = i
  . exact .inl e
  . rw [rd_set_ne (Ne.symm e)] at h
    exact .inr ⟨e, h⟩
 have wtI : ∀ {x : Int}, 0 <= x -> x ≠ (i : Int) -> rd (WT.set i false) x = rd WT x /\ rd (ST.set i t) x = rd ST x := fun {x} h0 hx => by
  obtain ⟨m, rfl⟩ : ∃ m : Nat, x = (m : Int) := ⟨x.toNat, by omega⟩
  exact ⟨rd_set_ne (by omega), rd_set_ne (by omega)⟩
 -- no arc from the instruction to one that is ready, or placed
 have noarc : ∀ j : Nat, j < (Flow.Arcs f).length -> aF f j = (i : Int) -> ¬ (aT f j < Flow.Insts f /\ rd (WT.set i false) (aT f j) = false) := by
  rintro j hj hf ⟨h1, h2⟩
  obtain ⟨a1, a2, a3, a4, a5, a6⟩ := arc0 j hj
  obtain ⟨m, hm⟩ : ∃ m : Nat, aT f j = (m : Int) := ⟨(aT f j).toNat, by omega⟩
  rw [hm] at h1 h2
  rcases wt h1 h2 with e | ⟨e, h3⟩
  . exact opc_zero hopc hj (by omega) (by rw [hf]; exact hw) (by rw [hm, e])
  . have := ((H.leg j hj (by omega) (by rw [hm]; exact h3)).1 (by omega)).1
    rw [hf, hw] at this
    cases this
 have eaI : ∀ {j : Nat}, j < (Flow.Arcs f).length -> rd EA (aT f j) <= rd EA' (aT f j) := fun {j} hj => by
  obtain ⟨a1, a2, a3, a4, a5, a6⟩ := arc0 j hj
  obtain ⟨m, hm⟩ : ∃ m : Nat, aT f j = (m : Int) := ⟨(aT f j).toNat, by omega⟩
  rw [hm]
  exact hP.up m (by omega)
 have cb : ∀ x, CB f WT ST x (Flow.Insts f).toNat <= CB f (WT.set i false) (ST.set i t) x (Flow.Insts f).toNat := fun x => CB_place hiW hiS hw _
 have c1' : ∀ v : Nat, (v : Int) < Flow.N f + 2 -> rd EA' (v : Int) <= p v + CB f (WT.set i false) (ST.set i t) (rd EA' (v : Int)) (Flow.Insts f).toNat := by
  intro v hv
  rcases hP.at' v (by omega) with e | ⟨a, ha, e1, e2⟩
  . rw [e]
    have := H.c1 v hv
    have := cb (rd EA (v : Int))
    omega
  . obtain ⟨j, hj, e3, e4⟩ := mem_nxl.1 ha
    obtain ⟨a1, a2, a3, a4, a5, a6⟩ := arc0 j hj
    have hs := hp.arc j hj
    rw [e4] at hs
    subst e3
    rw [show aT f j = (v : Int) from e1] at hs
    rw [e2]
    have h1 := cb t
    have h2 := CB_mono (f := f) (WT := WT.set i false) (ST := ST.set i t) (x := t) (y := t + aL f j) (by omega) (Flow.Insts f).toNat
    show t + aL f j <= _ + CB f _ _ (t + aL f j) _
    omega
 have opn' : ∀ v : Nat, (v : Int) < Flow.N f + 2 -> rd OP' (v : Int) = (opc f (WT.set i false) v : Int) := by
  intro v hv
  rw [hP.op v (by omega), H.opn v hv]
  have := cp_place (I := Flow.Insts f) hiW hi hw (v : Int) (Flow.Arcs f) fun a ha => by
   obtain ⟨j, hj, e⟩ := mem_rd ha
   subst e
   exact (arc0 j hj).1
  unfold opc nxl
  omega
 refine ⟨by rw [List.length_set]; exact l1, by rw [List.length_set]; exact l2, ?_, by rw [hP.lo]; exact l4, by rw [hP.le]; exact l5, ?_, ?_, t0, opn', ?_, ?_, ?_, ?_, ?_, ?_, ?_, ?_, c1', ?_, ?_⟩
 . rcases hU with ⟨_, rfl, _⟩ | ⟨_, u, _, _, rfl, _⟩
   . exact l3
   . rw [List.length_set]; exact l3
 . rcases hU with ⟨_, _, rfl⟩ | ⟨_, u, _, _, _, rfl⟩
   . exact H.lf
   . rw [List.length_set]; exact H.lf
 . intro r hr
   rcases hU with ⟨_, _, rfl⟩ | ⟨h0, u, _, _, _, rfl⟩
   . exact H.lfr r hr
   . have := H.lf
     rw [rd_set (by omega)]
     split
     . rename_i e
       rw [List.length_set]
       have := H.lfr r hr
       rw [show rsI f i = (r : Int) by omega]
       exact this
     . exact H.lfr r hr
 . intro v hv
   have h1 := H.ea v hv
   have h2 := hP.up v (by omega)
   refine ⟨by omega, ?_⟩
   rcases hP.at' v (by omega) with e | ⟨a, ha, e1, e2⟩
   . rw [e]; exact h1.2
   . obtain ⟨j, hj, e3, e4⟩ := mem_nxl.1 ha
     obtain ⟨a1, a2, a3, a4, a5, a6⟩ := arc0 j hj
     subst e3
     have : Arc.Lat (rd (Flow.Arcs f) (j : Int)) <= 4096 := a6
     omega
 . intro j hj
   obtain ⟨a1, a2, a3, a4, a5, a6⟩ := arc0 j hj
   have h1 := H.eaf j hj
   have h2 := eaI hj
   refine ⟨fun q1 q2 => ?_, fun q => Int.le_trans (h1.2 q) h2⟩
   by_cases e : aF f j = (i : Int)
   . rw [e, rd_set_eq hiS]
     exact hP.ge _ (mem_nxl.2 ⟨j, hj, rfl, e⟩)
   . obtain ⟨e1, e2⟩ := wtI a1 e
     rw [e1] at q2
     rw [e2]
     exact Int.le_trans (h1.1 q1 q2) h2
 . intro k hk hkw
   rcases wt hk hkw with e | ⟨e, h3⟩
   . subst e
     rw [rd_set_eq hiS]
     omega
   . rw [rd_set_ne (Ne.symm e)]
     exact H.st k hk h3
 . intro j hj h1 h2
   obtain ⟨a1, a2, a3, a4, a5, a6⟩ := arc0 j hj
   have hne : aF f j ≠ (i : Int) := fun e => noarc j hj e ⟨h1, h2⟩
   obtain ⟨e1, e2⟩ := wtI a1 hne
   by_cases e : aT f j = (i : Int)
   . -- arcs to the instruction
     refine ⟨fun q => ?_, fun q => ?_⟩
     . have hw' : rd WT (aF f j) = false := by
        cases hb : rd WT (aF f j)
        . rfl
        . exact absurd e (opc_zero hopc hj q hb)
       refine ⟨by rw [e1]; exact hw', ?_⟩
       rw [e2, e, rd_set_eq hiS]
       have := (H.eaf j hj).1 q hw'
       rw [e] at this
       omega
     . rw [e, rd_set_eq hiS]
       have := (H.eaf j hj).2 q
       rw [e] at this
       omega
   . obtain ⟨e3, e4⟩ := wtI a3 e
     rw [e3] at h2
     have := H.leg j hj h1 h2
     rw [e1, e2, e4]
     exact this
 . intro k hk hk0
   rcases hU with ⟨_, rfl, _⟩ | ⟨h0, u, _, _, rfl, _⟩
   . exact H.un1 k hk hk0
   . have : i ≠ k := fun e => by subst e; omega
     rw [rd_set_ne this]
     exact H.un1 k hk hk0
 . intro k hk hkw hk0
   rcases wt hk hkw with e | ⟨e, h3⟩
   . subst e
     rcases hU with ⟨h, _⟩ | ⟨_, u, hu1, hu2, rfl, rfl⟩
     . omega
     . have hlf := H.lf
       have hl2 := H.lfr (rsI f k).toNat (by omega)
       rw [show (((rsI f k).toNat : Nat) : Int) = rsI f k by omega] at hl2
       rw [rd_set_eq hiS, rd_set_eq (by omega)]
       refine ⟨by omega, hu1, ?_⟩
       have e4 : rd (FR.set (rsI f k).toNat ((rd FR (rsI f k)).set u (t + bsI f k))) (rsI f k) = (rd FR (rsI f k)).set u (t + bsI f k) := by
        have := rd_set_eq (xs := FR) (i := (rsI f k).toNat) (v := (rd FR (rsI f k)).set u (t + bsI f k)) (by omega)
        rwa [show (((rsI f k).toNat : Nat) : Int) = rsI f k by omega] at this
       rw [e4, rd_set_eq (by omega)]
       omega
   . have hh := H.un2 k hk h3 hk0
     rw [rd_set_ne (Ne.symm e)]
     rcases hU with ⟨_, rfl, rfl⟩ | ⟨h0, u, hu1, hu2, rfl, rfl⟩
     . exact hh
     . rw [rd_set_ne (Ne.symm e)]
       have hlf := H.lf
       refine ⟨hh.1, hh.2.1, ?_⟩
       by_cases er : rsI f k = rsI f i
       . have hl2 := H.lfr (rsI f i).toNat (by omega)
         rw [show (((rsI f i).toNat : Nat) : Int) = rsI f i by omega] at hl2
         have e4 : rd (FR.set (rsI f i).toNat ((rd FR (rsI f i)).set u (t + bsI f i))) (rsI f k) = (rd FR (rsI f i)).set u (t + bsI f i) := by
          rw [er]
          have := rd_set_eq (xs := FR) (i := (rsI f i).toNat) (v := (rd FR (rsI f i)).set u (t + bsI f i)) (by omega)
          rwa [show (((rsI f i).toNat : Nat) : Int) = rsI f i by omega] at this
         rw [e4]
         obtain ⟨m, hm⟩ : ∃ m : Nat, rd UN (k : Int) = (m : Int) := ⟨(rd UN (k : Int)).toNat, by omega⟩
         rw [hm]
         by_cases em : u = m
         . subst em
           rw [rd_set_eq (by omega)]
           have := hh.2.2
           rw [er, hm] at this
           have hst := H.st k hk h3
           omega
         . rw [rd_set_ne em, <- hm, <- er]
           exact hh.2.2
       . have e4 : rd (FR.set (rsI f i).toNat ((rd FR (rsI f i)).set u (t + bsI f i))) (rsI f k) = rd FR (rsI f k) := by
          obtain ⟨m, hm⟩ : ∃ m : Nat, rsI f k = (m : Int) := ⟨(rsI f k).toNat, by omega⟩
          rw [hm]
          exact rd_set_ne (by omega)
         rw [e4]
         exact hh.2.2
 . -- no two on one unit at the same time
   have one : ∀ k : Nat, (k : Int) < Flow.Insts f -> k ≠ i -> rd WT (k : Int) = false -> 0 <= rsI f i -> rsI f i = rsI f k -> rd UN' (i : Int) = rd UN' (k : Int) -> rd ST (k : Int) + bsI f k <= t := by
    intro k hk hne hkw h0 hrr huu
    rcases hU with ⟨h, _⟩ | ⟨_, u, hu1, hu2, rfl, rfl⟩
    . omega
    . rw [rd_set_eq (by omega), rd_set_ne (Ne.symm hne)] at huu
      have := (H.un2 k hk hkw (by omega)).2.2
      rw [<- huu, <- hrr] at this
      omega
   intro a b ha hb hab haw hbw h0 hrr huu
   rcases wt ha haw with e | ⟨e, h3⟩
   . subst e
     rcases wt hb hbw with e2 | ⟨e2, h4⟩
     . exact absurd e2.symm hab
     . rw [rd_set_eq hiS, rd_set_ne (Ne.symm e2)]
       exact .inr (one b hb e2 h4 h0 hrr huu)
   . rcases wt hb hbw with e2 | ⟨e2, h4⟩
     . subst e2
       rw [rd_set_eq hiS, rd_set_ne (Ne.symm e)]
       exact .inl (one a ha e h3 (by omega) hrr.symm huu.symm)
     . rw [rd_set_ne (Ne.symm e), rd_set_ne (Ne.symm e2)]
       refine H.fre a b ha hb hab h3 h4 h0 hrr ?_
       rcases hU with ⟨_, rfl, _⟩ | ⟨_, u, _, _, rfl, _⟩
       . exact huu
       . rwa [rd_set_ne (Ne.symm e), rd_set_ne (Ne.symm e2)] at huu
 . intro r hr u' hu'
   have keep : ∀ {x : Int}, x = 0 \/ (∃ k : Nat, (k : Int) < Flow.Insts f /\ rd WT (k : Int) = false /\ rsI f k = r /\ rd UN (k : Int) = u' /\ x = rd ST (k : Int) + bsI f k) -> (∀ k : Nat, k ≠ i -> rd UN' (k : Int) = rd UN (k : Int)) ->
    x = 0 \/ (∃ k : Nat, (k : Int) < Flow.Insts f /\ rd (WT.set i false) (k : Int) = false /\ rsI f k = r /\ rd UN' (k : Int) = u' /\ x = rd (ST.set i t) (k : Int) + bsI f k) := by
    rintro x (e | ⟨k, q1, q2, q3, q4, q5⟩) hUN
    . exact .inl e
    . have hki : k ≠ i := fun e => by subst e; rw [hw] at q2; cases q2
      exact .inr ⟨k, q1, by rw [rd_set_ne (Ne.symm hki)]; exact q2, q3, by rw [hUN k hki]; exact q4, by rw [rd_set_ne (Ne.symm hki)]; exact q5⟩
   have hold := H.frk r hr u' hu'
   rcases hU with ⟨_, rfl, rfl⟩ | ⟨h0, u, hu1, hu2, rfl, rfl⟩
   . exact keep hold fun _ _ => rfl
   . have hUN : ∀ k : Nat, k ≠ i -> rd (UN.set i (u : Int)) (k : Int) = rd UN (k : Int) := fun k hk => rd_set_ne (Ne.symm hk)
     have hlf := H.lf
     rw [rd_set (by omega)]
     split
     . rename_i er
       have er : rsI f i = (r : Int) := by omega
       have hl2 := H.lfr r hr
       rw [er]
       by_cases eu : u = u'
       . subst eu
         rw [rd_set_eq (by omega)]
         exact .inr ⟨i, hi, rd_set_eq hiW, er, rd_set_eq (by omega), by rw [rd_set_eq hiS]⟩
       . rw [rd_set_ne eu]
         exact keep hold hUN
     . exact keep hold hUN
 . -- those that are ready
   intro k hk
   obtain ⟨k1, k2, k3, k4⟩ := hk
   have hki : k ≠ i := fun e => by subst e; rw [rd_set_eq hiW] at k2; cases k2
   rw [rd_set_ne (Ne.symm hki)] at k2
   have hcb := cb t
   by_cases e : ∃ j : Nat, j < (Flow.Arcs f).length /\ aF f j = (i : Int) /\ aT f j = (k : Int)
   . obtain ⟨j, hj, e1, e2⟩ := e
     have hge := hP.ge _ (mem_nxl.2 ⟨j, hj, rfl, e1⟩)
     have hge : t + aL f j <= rd EA' (aT f j) := hge
     rw [e2] at hge
     have := (arc0 j hj).2.2.2.2.1
     have h1 := c1' k (by omega)
     rw [show rd EA' (k : Int) = t by omega] at h1
     exact h1
   . have hz : (nxl f i).countP (fun a => decide (Arc.To a = (k : Int))) = 0 := by
      rw [List.countP_eq_zero]
      intro a ha q
      obtain ⟨j, hj, e3, e4⟩ := mem_nxl.1 ha
      subst e3
      exact e ⟨j, hj, e4, of_decide_eq_true q⟩
     have h2 := hP.op k (by omega)
     rw [hz] at h2
     have hE : rd EA' (k : Int) = rd EA (k : Int) := by
      rcases hP.at' k (by omega) with h | ⟨a, ha, q1, q2⟩
      . exact h
      . obtain ⟨j, hj, e3, e4⟩ := mem_nxl.1 ha
        subst e3
        exact absurd ⟨j, hj, e4, q1⟩ e
     have := H.c2 k ⟨k1, k2, by omega, by omega⟩
     omega
 . intro k hk hkw
   rcases wt hk hkw with e | ⟨e, h3⟩
   . subst e
     rw [rd_set_eq hiS]
     have := cb t
     omega
   . rw [rd_set_ne (Ne.symm e)]
     have := H.c3 k hk h3
     have := cb (rd ST (k : Int))
     omega
end
end Go.Proofs.YtjddmekfeckphaaGreatV
namespace Go.Proofs.YtjddmekfeckphaaGreatV
open Go Go.Vm
theorem cntN_nodup (l : List Need) (r : Int) : ∀ (m : Nat) (L : List Nat), L.Nodup -> (∀ x ∈ L, x < m /\ Need.Res (rd l (x : Int)) = r) -> L.length <= cntN l r m
 | 0, L, _, h => by
   cases L with
   | nil => exact Nat.le_refl _
   | cons x L => have := (h x (by simp)).1; omega
 | m + 1, L, hn, h => by
   rw [cntN_succ]
   by_cases hm : m ∈ L
   . have e : Need.Res (rd l (m : Int)) = r := (h m hm).2
     rw [if_pos e]
     have ih := cntN_nodup l r m (L.erase m) (hn.erase m) fun x hx => by
      have hx2 := (hn.mem_erase_iff).1 hx
      have := h x hx2.2
      exact ⟨by have := hx2.1; omega, this.2⟩
     rw [List.length_erase_of_mem hm] at ih
     omega
   . have ih := cntN_nodup l r m L hn fun x hx => by
      have := h x hx
      refine ⟨?_, this.2⟩
      by_cases e : x = m
      . rw [e] at hx; exact absurd hx hm
      . omega
     omega
section
variable {f : Flow} {p : Int -> Int} {t : Int} {WT : List Bool} {ST UN OP EA : List Int} {FR : List (List Int)}
theorem RI.cont (V : VALID f) (H : RI f p t WT ST UN OP EA FR) {i : Nat} (hi : (i : Int) < Flow.Insts f) (hw : rd WT (i : Int) = true) (h0 : 0 <= rsI f i) (hall : ∀ u : Nat, (u : Int) < cnt f (rsI f i) -> 0 < rd (rd FR (rsI f i)) (u : Int)) {k : Nat} (hk : rsI f k = rsI f i) : CONT f k := by
 have hnl := V.needs
 have hres : -1 <= rsI f i /\ rsI f i < ((Flow.Res f).length : Int) := need_at V (i := i) (by omega)
 obtain ⟨r, hr⟩ : ∃ r : Nat, rsI f i = (r : Int) := ⟨(rsI f i).toNat, by omega⟩
 have hrl : r < (Flow.Res f).length := by omega
 have hc : 0 <= cnt f r := by have := H.lfr r hrl; omega
 have ex : ∀ u : Nat, ∃ k : Nat, u < (cnt f r).toNat -> (k : Int) < Flow.Insts f /\ rd WT (k : Int) = false /\ rsI f k = r /\ rd UN (k : Int) = u := fun u => by
  by_cases hu : u < (cnt f r).toNat
  . rcases H.frk r hrl u (by omega) with e | ⟨k, q1, q2, q3, q4, _⟩
    . have := hall u (by rw [hr]; omega)
      rw [hr, e] at this
      omega
    . exact ⟨k, fun _ => ⟨q1, q2, q3, q4⟩⟩
  . exact ⟨0, fun h => absurd h hu⟩
 have nd : (i :: (List.range (cnt f r).toNat).map fun u => Classical.choose (ex u)).Nodup := by
  rw [List.nodup_cons]
  refine ⟨fun hm => ?_, ?_⟩
  . obtain ⟨u, hu, e⟩ := List.mem_map.1 hm
    have := (Classical.choose_spec (ex u) (by simpa using hu)).2.1
    rw [e, hw] at this
    cases this
  . unfold List.Nodup
    rw [List.pairwise_map]
    refine List.Pairwise.imp_of_mem ?_ (List.pairwise_lt_range (n := (cnt f r).toNat))
    intro a b ha hb hab e
    have h1 := (Classical.choose_spec (ex a) (by simpa using ha)).2.2.2
    have h2 := (Classical.choose_spec (ex b) (by simpa using hb)).2.2.2
    rw [e, h2] at h1
    omega
 have hlen := cntN_nodup (Flow.Needs f) r (Flow.Needs f).length _ nd fun x hx => by
  rcases List.mem_cons.1 hx with e | hx
  . subst e; exact ⟨by omega, hr⟩
  . obtain ⟨u, hu, e⟩ := List.mem_map.1 hx
    have := Classical.choose_spec (ex u) (by simpa using hu)
    rw [e] at this
    exact ⟨by omega, this.2.2.1⟩
 rw [List.length_cons, List.length_map, List.length_range] at hlen
 refine ⟨by show 0 <= rsI f k; omega, ?_⟩
 show cnt f (rsI f k) < (cntN (Flow.Needs f) (rsI f k) (Flow.Needs f).length : Int)
 rw [hk, hr]
 omega
theorem RI.next (V : VALID f) (H : RI f p t WT ST UN OP EA FR) {t' : Int} (ht : t < t')
 (hrej : ∀ i : Nat, RDY f t WT OP EA i -> 0 <= rsI f i /\ ∀ u : Nat, (u : Int) < cnt f (rsI f i) -> t < rd (rd FR (rsI f i)) (u : Int))
 (hmin : ∀ i : Nat, (i : Int) < Flow.Insts f -> rd WT (i : Int) = true -> rd OP (i : Int) = 0 -> (rsI f i < 0 -> t' <= mx (t + 1) (rd EA (i : Int))) /\
  (0 <= rsI f i -> ∃ m : Int, (∀ u : Nat, (u : Int) < cnt f (rsI f i) -> m <= rd (rd FR (rsI f i)) (u : Int)) /\ t' <= mx (mx (t + 1) (rd EA (i : Int))) m)) : RI f p t' WT ST UN OP EA FR := by
 have hnl := V.needs
 have t0 := H.t0
 have hN : Flow.N f = Flow.Insts f + Flow.Params f := rfl
 have p0 := V.p0
 refine ⟨H.lw, H.ls, H.lu, H.lo, H.le, H.lf, H.lfr, by omega, H.opn, fun v hv => by have := H.ea v hv; omega, H.eaf, fun i hi hw => by have := H.st i hi hw; omega, H.leg, H.un1, H.un2, H.fre, H.frk, H.c1, ?_, H.c3⟩
 rintro i ⟨hi, hw, ho, he⟩
 have h1 := H.c1 i (by omega)
 obtain ⟨m1, m2⟩ := hmin i hi hw ho
 by_cases e : rd EA (i : Int) = t'
 . rw [e] at h1; exact h1
 by_cases h0 : rsI f i < 0
 . have := m1 h0
   by_cases q : rd EA (i : Int) <= t
   . have := (hrej i ⟨hi, hw, ho, q⟩).1
     omega
   . have : mx (t + 1) (rd EA (i : Int)) = rd EA (i : Int) := by unfold mx; split <;> omega
     omega
 . obtain ⟨m, hm, htm⟩ := m2 (by omega)
   have hres : -1 <= rsI f i /\ rsI f i < ((Flow.Res f).length : Int) := need_at V (i := i) (by omega)
   obtain ⟨r, hr⟩ : ∃ r : Nat, rsI f i = (r : Int) := ⟨(rsI f i).toNat, by omega⟩
   have hrl : r < (Flow.Res f).length := by omega
   have hc1 : 1 <= cnt f r := (V.res r hrl).2.2.1
   -- where the wait begins
   have hb : ∃ b : Int, b <= t' /\ t <= b /\ b <= p i + CB f WT ST b (Flow.Insts f).toNat := by
    by_cases q : rd EA (i : Int) <= t
    . exact ⟨t, by omega, Int.le_refl _, H.c2 i ⟨hi, hw, ho, q⟩⟩
    . exact ⟨rd EA (i : Int), he, by omega, h1⟩
   have hall : ∀ u : Nat, (u : Int) < cnt f (rsI f i) -> t' <= rd (rd FR (rsI f i)) (u : Int) := by
    intro u hu
    have h2 := hm u hu
    by_cases q : rd EA (i : Int) <= t
    . have h3 := (hrej i ⟨hi, hw, ho, q⟩).2 u hu
      have : mx (mx (t + 1) (rd EA (i : Int))) m <= rd (rd FR (rsI f i)) (u : Int) := by rw [mx_le, mx_le]; omega
      omega
    . have : mx (mx (t + 1) (rd EA (i : Int))) m = mx (rd EA (i : Int)) m := by unfold mx; repeat' split <;> omega
      rw [this] at htm
      unfold mx at htm
      split at htm <;> omega
   obtain ⟨b, b1, b2, b3⟩ := hb
   have hu0 := hall 0 (by rw [hr]; omega)
   have hcont : ∀ k : Nat, rsI f k = rsI f i -> CONT f k := fun k hk => H.cont V hi hw (by omega) (fun u hu => by have := hall u hu; omega) hk
   rw [hr] at hu0
   rcases H.frk r hrl 0 (by omega) with e2 | ⟨k, q1, q2, q3, q4, q5⟩
   . omega
   . have hk := H.st k q1 q2
     have := CB_cover (f := f) (WT := WT) (ST := ST) (x := b) (y := t') q2 (hcont k (by rw [q3, hr])) (by omega) b1 (by omega) (Flow.Insts f).toNat (by omega)
     omega
theorem RI.limit (V : VALID f) (H : RI f p t WT ST UN OP EA FR) (ht : 4096 < t) {i : Nat} (hi : (i : Int) < Flow.Insts f) (hw : rd WT (i : Int) = true) (ho : rd OP (i : Int) = 0) : 4096 < p i + KSUM f (Flow.Insts f).toNat := by
 have p0 := V.p0
 have hN : Flow.N f = Flow.Insts f + Flow.Params f := rfl
 have hb : ∀ i : Nat, 0 <= bsI f i \/ ¬ CONT f i := fun i => by
  by_cases h : i < (Flow.Needs f).length
  . left
    rcases V.need i h with ⟨_, a⟩ | ⟨_, _, a, b⟩ <;> (show 0 <= Need.Busy _) <;> omega
  . left
    have : rd (Flow.Needs f) (i : Int) = default := by simp [rd, List.getElem?_eq_none (Nat.le_of_not_lt h)]
    show 0 <= Need.Busy (rd (Flow.Needs f) (i : Int))
    rw [this]
    exact Int.le_refl _
 by_cases q : rd EA (i : Int) <= t
 . have h1 := H.c2 i ⟨hi, hw, ho, q⟩
   have h2 := CB_sum (f := f) (WT := WT) (ST := ST) (x := t) hb (Flow.Insts f).toNat
   omega
 . have h1 := H.c1 i (by omega)
   have h2 := CB_sum (f := f) (WT := WT) (ST := ST) (x := rd EA (i : Int)) hb (Flow.Insts f).toNat
   omega
theorem RI.depth (V : VALID f) (H : RI f p t WT ST UN OP EA FR) : rd EA (Flow.N f + 1) <= p (Flow.N f + 1) + KSUM f (Flow.Insts f).toNat := by
 have p0 := V.p0
 have i0 := V.i0
 have hN : Flow.N f = Flow.Insts f + Flow.Params f := rfl
 obtain ⟨v, hv⟩ : ∃ v : Nat, Flow.N f + 1 = (v : Int) := ⟨(Flow.N f + 1).toNat, by omega⟩
 have hb : ∀ i : Nat, 0 <= bsI f i \/ ¬ CONT f i := fun i => by
  by_cases h : i < (Flow.Needs f).length
  . left
    rcases V.need i h with ⟨_, a⟩ | ⟨_, _, a, b⟩ <;> (show 0 <= Need.Busy _) <;> omega
  . left
    have : rd (Flow.Needs f) (i : Int) = default := by simp [rd, List.getElem?_eq_none (Nat.le_of_not_lt h)]
    show 0 <= Need.Busy (rd (Flow.Needs f) (i : Int))
    rw [this]
    exact Int.le_refl _
 rw [hv]
 have h1 := H.c1 v (by omega)
 have h2 := CB_sum (f := f) (WT := WT) (ST := ST) (x := rd EA (v : Int)) hb (Flow.Insts f).toNat
 omega
end
end Go.Proofs.YtjddmekfeckphaaGreatV
namespace Go.Proofs.YtjddmekfeckphaaGreatV
open Go Go.Vm
section
variable {f : Flow}
theorem nxl_len (i : Nat) : (nxl f i).length <= (Flow.Arcs f).length := List.length_filter_le _ _
theorem take_snoc {α : Type} [Inhabited α] {l : List α} {j : Nat} (h : j < l.length) : l.take (j + 1) = l.take j ++ [rd l (j : Int)] := by
 rw [List.take_add_one, List.getElem?_eq_getElem h, rd_eq h]
 rfl
theorem place_ev (V : VALID f) (SF : SIZES f) {NX : List (List Arc)} {ST OP EA PA UN : List Int} {FR : List (List Int)} {t z1 z2 : Int} {i : Nat} (hi : i < ST.length) (hn : i < NX.length) (hx : rd NX (i : Int) = nxl f i)
 (lo : (OP.length : Int) = Flow.N f + 2) (le : (EA.length : Int) = Flow.N f + 2) (h0 : 0 <= t) (h1 : t <= 4096) (hop : ∀ v : Nat, v < OP.length -> 0 <= rd OP (v : Int) /\ rd OP (v : Int) <= 1000000000) :
 W (fun k => listsched_lister_place_i3.f k (i : Int) t f z1 z2 PA UN FR NX ST OP EA) (fun r => r.2.1 = ST.set i t /\ PLC f t i OP EA r.2.2.1 r.2.2.2.1) := by
 have ha := SF.arcs
 have hl := nxl_len (f := f) i
 have p0 := V.p0
 simp (disch := omega) only [listsched_lister_place_i3.f, ↓if_pos, hx, Int.toNat_natCast]
 have hm : ∀ j : Nat, j < (nxl f i).length -> 0 <= Arc.To (rd (nxl f i) (j : Int)) /\ Arc.To (rd (nxl f i) (j : Int)) < Flow.N f + 2 /\ 0 <= Arc.Lat (rd (nxl f i) (j : Int)) /\ Arc.Lat (rd (nxl f i) (j : Int)) <= 4096 := fun j hj => by
  obtain ⟨q, hq, e, _⟩ := mem_nxl.1 (rd_mem (xs := nxl f i) (i := (j : Int)) (by omega) (by omega))
  obtain ⟨v1, v2, v3, v4, v5, v6, _⟩ := V.arcs q hq
  rw [<- e]
  exact ⟨v3, by omega, v5, v6⟩
 have loop : ∀ (d j : Nat), j + d = (nxl f i).length -> ∀ (OP' EA' : List Int), OP'.length = OP.length -> EA'.length = EA.length ->
  (∀ v : Nat, v < OP.length -> rd OP' (v : Int) = rd OP (v : Int) - (((nxl f i).take j).countP (fun a => decide (Arc.To a = (v : Int))) : Int)) ->
  (∀ v : Nat, v < EA.length -> rd EA (v : Int) <= rd EA' (v : Int)) -> (∀ a ∈ (nxl f i).take j, t + Arc.Lat a <= rd EA' (Arc.To a)) ->
  (∀ v : Nat, v < EA.length -> rd EA' (v : Int) = rd EA (v : Int) \/ ∃ a ∈ (nxl f i).take j, Arc.To a = (v : Int) /\ rd EA' (v : Int) = t + Arc.Lat a) ->
  W (fun k => listsched_lister_place_i3.c2 k t (nxl f i) ((nxl f i).length : Int) (j : Int) (ST.set i t) OP' EA' f z1 z2 PA UN FR NX) (fun r => r.2.1 = ST.set i t /\ PLC f t i OP EA r.2.2.1 r.2.2.2.1) := by
  intro d
  induction d with
  | zero =>
    intro j hj OP' EA' q1 q2 q3 q4 q5 q6
    have e : (nxl f i).take j = nxl f i := List.take_of_length_le (by omega)
    rw [e] at q3 q5 q6
    refine .succ ?_
    simp (disch := omega) only [listsched_lister_place_i3.c2, ↓cdF]
    exact .ret ⟨rfl, q1, q2, q3, q4, q5, q6⟩
  | succ d ih =>
    intro j hj OP' EA' q1 q2 q3 q4 q5 q6
    have hjl : j < (nxl f i).length := by omega
    obtain ⟨m1, m2, m3, m4⟩ := hm j hjl
    have hts := take_snoc hjl
    refine .succ ?_
    simp (disch := omega) only [listsched_lister_place_i3.c2, ↓cdT, ↓if_pos, w64_id (n := (j : Int) + 1), w64_id (n := t + Arc.Lat (rd (nxl f i) (j : Int)))]
    generalize hae : rd (nxl f i) (j : Int) = a at *
    obtain ⟨v, hv⟩ : ∃ v : Nat, Arc.To a = (v : Int) := ⟨(Arc.To a).toNat, by omega⟩
    have hvl : v < OP.length := by omega
    have hve : v < EA.length := by omega
    have hcl : ((nxl f i).take j).countP (fun a => decide (Arc.To a = (v : Int))) <= (nxl f i).length := Nat.le_trans (List.countP_le_length ..) (by rw [List.length_take]; omega)
    have hb := hop v hvl
    have hq := q3 v hvl
    rw [hv, Int.toNat_natCast, w64_id (by omega) (by omega)]
    have := ih (j + 1) (by omega) (OP'.set v (rd OP' (v : Int) - 1)) (EA'.set v (mx (rd EA' (v : Int)) (t + Arc.Lat a))) (by rw [List.length_set]; exact q1) (by rw [List.length_set]; exact q2) (fun x hx => ?_) (fun x hx => ?_) (fun b hb => ?_) (fun x hx => ?_)
    . simpa only [natC] using this
    . rw [hts, List.countP_append, List.countP_singleton, rd_set (by omega)]
      by_cases e : v = x
      . subst e
        rw [if_pos rfl, q3 v hx, if_pos (by simpa using hv)]
        omega
      . rw [if_neg e, q3 x hx, if_neg (by rw [decide_eq_true_iff]; omega)]
        omega
    . rw [rd_set (by omega)]
      split
      . rename_i e; subst e
        exact Int.le_trans (q4 v hx) (le_mx_l _ _)
      . exact q4 x hx
    . rw [hts] at hb
      rcases List.mem_append.1 hb with hb | hb
      . have h2 := q5 b hb
        by_cases e : Arc.To b = (v : Int)
        . rw [e] at h2 ⊢
          rw [rd_set_eq (by omega)]
          exact Int.le_trans h2 (le_mx_l _ _)
        . obtain ⟨s, hs, e2⟩ := List.getElem_of_mem hb
          obtain ⟨x, hx⟩ : ∃ x : Nat, Arc.To b = (x : Int) := ⟨(Arc.To b).toNat, by
           have : b ∈ nxl f i := List.mem_of_mem_take hb
           obtain ⟨q, hq, e, _⟩ := mem_nxl.1 this
           have := (V.arcs q hq).2.2.1
           rw [<- e]
           omega⟩
          rw [hx] at h2 e ⊢
          rw [rd_set_ne (by omega)]
          exact h2
      . have : b = a := List.mem_singleton.1 hb
        subst this
        rw [hv, rd_set_eq (by omega)]
        exact le_mx_r _ _
    . rw [rd_set (by omega)]
      have keep : rd EA' (x : Int) = rd EA (x : Int) \/ (∃ b ∈ (nxl f i).take j, Arc.To b = (x : Int) /\ rd EA' (x : Int) = t + Arc.Lat b) -> rd EA' (x : Int) = rd EA (x : Int) \/ ∃ b ∈ (nxl f i).take (j + 1), Arc.To b = (x : Int) /\ rd EA' (x : Int) = t + Arc.Lat b := by
       rintro (h | ⟨b, h1, h2, h3⟩)
       . exact .inl h
       . exact .inr ⟨b, by rw [hts]; exact List.mem_append_left _ h1, h2, h3⟩
      split
      . rename_i e; subst e
        rcases mx_eq (rd EA' (v : Int)) (t + Arc.Lat a) with e | e
        . rw [e]; exact keep (q6 v hx)
        . rw [e]
          exact .inr ⟨a, by rw [hts]; simp, hv, rfl⟩
      . exact keep (q6 x hx)
 have := loop (nxl f i).length 0 (by omega) OP EA rfl rfl (fun v hv => by simp) (fun v hv => Int.le_refl _) (fun a ha => by simp at ha) (fun v hv => .inl rfl)
 exact this
theorem unit_ev {FR : List (List Int)} {NX : List (List Arc)} {ST PA UN OP EA : List Int} {t z1 z2 r : Int} (hr : 0 <= r /\ r < (FR.length : Int)) (hl : (rd FR r).length <= 1000000) :
 W (fun k => listsched_lister_unit.f k r t f z1 z2 ST PA UN OP EA FR NX) (fun y => (y.1 = -1 /\ ∀ u : Nat, u < (rd FR r).length -> t < rd (rd FR r) (u : Int)) \/ ∃ u : Nat, u < (rd FR r).length /\ y.1 = (u : Int) /\ rd (rd FR r) (u : Int) <= t) := by
 simp (disch := omega) only [listsched_lister_unit.f, ↓if_pos, slices_IndexFunc_int_int_i2.f]
 have loop : ∀ (d i : Nat), i + d = (rd FR r).length -> (∀ u : Nat, u < i -> t < rd (rd FR r) (u : Int)) -> W (fun k => slices_IndexFunc_int_int_i2.c2 k (rd FR r) ((rd FR r).length : Int) (i : Int) t) (fun y => (y.1 = -1 /\ ∀ u : Nat, u < (rd FR r).length -> t < rd (rd FR r) (u : Int)) \/ ∃ u : Nat, u < (rd FR r).length /\ y.1 = (u : Int) /\ rd (rd FR r) (u : Int) <= t) := by
  intro d
  induction d with
  | zero =>
    intro i hi h
    refine .succ ?_
    simp (disch := omega) only [slices_IndexFunc_int_int_i2.c2, ↓cdF]
    exact .ret (.inl ⟨rfl, fun u hu => h u (by omega)⟩)
  | succ d ih =>
    intro i hi h
    refine .succ ?_
    simp (disch := omega) only [slices_IndexFunc_int_int_i2.c2, ↓cdT, ↓if_pos, listsched_lister_unit_1.f, Option.bind_some, w64_id]
    refine .dec (fun e => .ret (.inr ⟨i, by omega, rfl, e⟩)) fun e => ?_
    have := ih (i + 1) (by omega) fun u hu => by
     rcases Nat.lt_or_eq_of_le (Nat.le_of_lt_succ hu) with h1 | h1
     . exact h u h1
     . rw [h1]; omega
    simpa only [natC] using this
 exact .bind (loop (rd FR r).length 0 (by omega) fun u hu => by omega) fun y hy => .ret hy
variable {p : Int -> Int} {t : Int} {WT : List Bool} {ST UN OP EA : List Int} {FR : List (List Int)}
def SOON (f : Flow) (t t' : Int) (WT : List Bool) (OP EA : List Int) (FR : List (List Int)) (m : Nat) : Prop := t < t' /\ t' <= 4097 /\ ∀ i : Nat, i < m -> (i : Int) < Flow.Insts f -> rd WT (i : Int) = true -> rd OP (i : Int) = 0 -> (rsI f i < 0 -> t' <= mx (t + 1) (rd EA (i : Int))) /\
 (0 <= rsI f i -> ∃ m : Int, (∀ u : Nat, (u : Int) < cnt f (rsI f i) -> m <= rd (rd FR (rsI f i)) (u : Int)) /\ t' <= mx (mx (t + 1) (rd EA (i : Int))) m)
theorem soon_ev (V : VALID f) (H : RI f p t WT ST UN OP EA FR) (h1 : t <= 4096) {NX : List (List Arc)} {PA : List Int} {z1 z2 : Int} :
 W (fun k => listsched_lister_soon.f k WT t f z1 z2 ST PA UN OP EA FR NX) (fun r => SOON f t r.1 WT OP EA FR WT.length) := by
 have hn := V.needs
 have i1 := V.i1
 have t0 := H.t0
 have l1 := H.lw
 have l4 := H.lo
 have l5 := H.le
 have p0 := V.p0
 have hN : Flow.N f = Flow.Insts f + Flow.Params f := rfl
 simp only [listsched_lister_soon.f]
 have loop : ∀ (d i : Nat), i + d = WT.length -> ∀ acc : Int, SOON f t acc WT OP EA FR i -> W (fun k => listsched_lister_soon.c3 k WT t acc (WT.length : Int) (i : Int) f z1 z2 ST PA UN OP EA FR NX) (fun r => SOON f t r.1 WT OP EA FR WT.length) := by
  intro d
  induction d with
  | zero =>
    intro i hi acc h
    refine .succ ?_
    simp (disch := omega) only [listsched_lister_soon.c3, ↓cdF]
    have e : i = WT.length := by omega
    rw [e] at h
    exact .ret h
  | succ d ih =>
    intro i hi acc h
    have hop := H.opn i (by omega)
    have hea := H.ea i (by omega)
    have hres : -1 <= rsI f i /\ rsI f i < ((Flow.Res f).length : Int) := need_at V (i := i) (by omega)
    have hlf := H.lf
    obtain ⟨g1, g2, g3⟩ := h
    have skip : (rd WT (i : Int) = true -> rd OP (i : Int) = 0 -> False) -> SOON f t acc WT OP EA FR (i + 1) := fun q => ⟨g1, g2, fun j hj a b c => by
     rcases Nat.lt_or_eq_of_le (Nat.le_of_lt_succ hj) with h1 | h1
     . exact g3 j h1 a b c
     . subst h1; exact (q b c).elim⟩
    have less : ∀ acc' : Int, t < acc' -> acc' <= acc -> ((rsI f i < 0 -> acc' <= mx (t + 1) (rd EA (i : Int))) /\ (0 <= rsI f i -> ∃ m : Int, (∀ u : Nat, (u : Int) < cnt f (rsI f i) -> m <= rd (rd FR (rsI f i)) (u : Int)) /\ acc' <= mx (mx (t + 1) (rd EA (i : Int))) m)) -> SOON f t acc' WT OP EA FR (i + 1) := fun acc' q1 q2 q3 => ⟨q1, by omega, fun j hj a b c => by
     rcases Nat.lt_or_eq_of_le (Nat.le_of_lt_succ hj) with h1 | h1
     . obtain ⟨k1, k2⟩ := g3 j h1 a b c
       refine ⟨fun z => by have := k1 z; omega, fun z => ?_⟩
       obtain ⟨m, m1, m2⟩ := k2 z
       exact ⟨m, m1, by omega⟩
     . subst h1; exact q3⟩
    refine .succ ?_
    simp (disch := omega) only [listsched_lister_soon.c3, ↓cdT, ↓if_pos, w64_id]
    cases hw : rd WT (i : Int)
    . simp only [Bool.not_false, cond_true]
      have := ih (i + 1) (by omega) acc (skip fun q => by rw [hw] at q; cases q)
      simpa only [natC] using this
    simp only [Bool.not_true, cond_false]
    refine .dec (fun h2 => ?_) fun h2 => ?_
    . have := ih (i + 1) (by omega) acc (skip fun _ q => by omega)
      simpa only [natC] using this
    . have hle := le_mx_l (t + 1) (rd EA (i : Int))
      refine .dec (fun h3 => ?_) fun h3 => ?_
      . have h3 : 0 <= rsI f i := h3
        have hr0 : 0 <= rsI f i /\ rsI f i < (FR.length : Int) := by omega
        obtain ⟨q, hq⟩ : ∃ q : Nat, rsI f i = (q : Int) := ⟨(rsI f i).toNat, by omega⟩
        have hfr := H.lfr q (by omega)
        have hc := V.res q (by omega)
        have hc1 : 1 <= cnt f q := hc.2.2.1
        have hc2 : cnt f q <= 1024 := hc.2.2.2
        simp only [if_pos (show 0 <= Need.Res (rd (Flow.Needs f) (i : Int)) /\ Need.Res (rd (Flow.Needs f) (i : Int)) < (FR.length : Int) from hr0)]
        refine .bind (min_ev (rd FR (rsI f i)) (by rw [hq]; omega) (by rw [hq]; omega)) fun y hy => ?_
        have hmn := mn_le_l acc (mx (mx (t + 1) (rd EA (i : Int))) y)
        have hmn2 := mn_le_r acc (mx (mx (t + 1) (rd EA (i : Int))) y)
        have hgt : t < mn acc (mx (mx (t + 1) (rd EA (i : Int))) y) := by
         have : t + 1 <= mn acc (mx (mx (t + 1) (rd EA (i : Int))) y) := le_mn.2 ⟨by omega, Int.le_trans hle (le_mx_l _ _)⟩
         omega
        have := ih (i + 1) (by omega) (mn acc (mx (mx (t + 1) (rd EA (i : Int))) y)) (less _ hgt hmn ⟨fun q => absurd h3 (by show ¬ 0 <= rsI f i; omega), fun _ => ⟨y, fun u hu => hy.1 u (by rw [hq] at hu ⊢; omega), hmn2⟩⟩)
        simpa only [natC] using this
      . have hmn := mn_le_l acc (mx (t + 1) (rd EA (i : Int)))
        have hmn2 := mn_le_r acc (mx (t + 1) (rd EA (i : Int)))
        have hgt : t < mn acc (mx (t + 1) (rd EA (i : Int))) := by
         have : t + 1 <= mn acc (mx (t + 1) (rd EA (i : Int))) := le_mn.2 ⟨by omega, hle⟩
         omega
        have := ih (i + 1) (by omega) (mn acc (mx (t + 1) (rd EA (i : Int)))) (less _ hgt hmn ⟨fun _ => hmn2, fun q => absurd q h3⟩)
        simpa only [natC] using this
 have := loop WT.length 0 (by omega) 4097 ⟨by omega, Int.le_refl _, fun i hi => by omega⟩
 exact this
theorem RDY.keep (V : VALID f) (H : RI f p t WT ST UN OP EA FR) {i j : Nat} (hi : RDY f t WT OP EA i) (hj : RDY f t WT OP EA j) (hne : j ≠ i) {OP' EA' : List Int} (hP : PLC f t i OP EA OP' EA') : RDY f t (WT.set i false) OP' EA' j := by
 obtain ⟨j1, j2, j3, j4⟩ := hj
 obtain ⟨i1, i2, _⟩ := hi
 have hN : Flow.N f = Flow.Insts f + Flow.Params f := rfl
 have p0 := V.p0
 have l4 := H.lo
 have l5 := H.le
 have hz : opc f WT j = 0 := by have := H.opn j (by omega); omega
 have no : ∀ a ∈ nxl f i, Arc.To a ≠ (j : Int) := fun a ha e => by
  obtain ⟨q, hq, e3, e4⟩ := mem_nxl.1 ha
  subst e3
  exact opc_zero hz hq (by omega) (by rw [e4]; exact i2) e
 have hc : (nxl f i).countP (fun a => decide (Arc.To a = (j : Int))) = 0 := by
  rw [List.countP_eq_zero]
  exact fun a ha q => no a ha (of_decide_eq_true q)
 refine ⟨j1, by rw [rd_set_ne (Ne.symm hne)]; exact j2, ?_, ?_⟩
 . have := hP.op j (by omega)
   rw [hc] at this
   omega
 . rcases hP.at' j (by omega) with h | ⟨a, ha, q1, _⟩
   . omega
   . exact absurd q1 (no a ha)
end
end Go.Proofs.YtjddmekfeckphaaGreatV
namespace Go.Proofs.YtjddmekfeckphaaGreatV
open Go Go.Vm
def cw (WT : List Bool) : Nat := WT.countP fun b => b
theorem cw_set {WT : List Bool} {i : Nat} (h : i < WT.length) (hw : rd WT (i : Int) = true) : cw (WT.set i false) + 1 = cw WT := by
 unfold cw
 rw [List.countP_set h]
 rw [rd_eq h] at hw
 have : 0 < WT.countP fun b => b := List.countP_pos_iff.2 ⟨_, List.getElem_mem h, hw⟩
 simp [hw]
 omega
theorem cw_zero {WT : List Bool} (h : cw WT = 0) {i : Nat} (hi : i < WT.length) : rd WT (i : Int) = false := by
 have := List.countP_eq_zero.1 h (rd WT (i : Int)) (rd_mem (by omega) (by omega))
 simpa using this
theorem cw_pos {WT : List Bool} (h : cw WT ≠ 0) : ∃ i : Nat, i < WT.length /\ rd WT (i : Int) = true := by
 have : 0 < cw WT := by omega
 obtain ⟨b, hb, hb2⟩ := List.countP_pos_iff.1 this
 obtain ⟨i, hi, e⟩ := mem_rd hb
 exact ⟨i, hi, by rw [e]; exact hb2⟩
theorem cw_le (WT : List Bool) : cw WT <= WT.length := List.countP_le_length ..
def RUN (f : Flow) (p : Int -> Int) (r : Bool × List Int × List Int × List Int × List Int × List Int × List (List Int) × Unit) : Prop :=
 ∃ t WT, RI f p t WT r.2.2.1 r.2.2.2.1 r.2.2.2.2.1 r.2.2.2.2.2.1 r.2.2.2.2.2.2.1 /\ ((r.1 = true /\ ∀ i : Nat, (i : Int) < Flow.Insts f -> rd WT (i : Int) = false) \/ (r.1 = false /\ 4096 < t /\ ∃ i : Nat, (i : Int) < Flow.Insts f /\ rd WT (i : Int) = true))
section
variable {f : Flow} {p : Int -> Int}
theorem run_loop (V : VALID f) (SF : SIZES f) (hp : SOL f p) {NX : List (List Arc)} {TL PA : List Int} {z1 z2 : Int} (hnl : (NX.length : Int) = Flow.N f + 2) (hx : ∀ i : Nat, (i : Int) < Flow.Insts f -> rd NX (i : Int) = nxl f i) (htl : (TL.length : Int) = Flow.N f + 2) :
 ∀ (m : Nat) (t : Int) (WT : List Bool) (ST UN OP EA : List Int) (FR : List (List Int)), RI f p t WT ST UN OP EA FR -> t <= 4097 -> (4098 - t).toNat <= m ->
   W (fun k => listsched_lister_run_i6.c9 k (cw WT : Int) t TL ST UN OP EA FR f z1 z2 PA NX WT) (RUN f p) := by
 have hneeds := V.needs
 have i1 := V.i1
 have i0 := V.i0
 have p0 := V.p0
 have hN : Flow.N f = Flow.Insts f + Flow.Params f := rfl
 have ha := SF.arcs
 intro m
 induction m with
 | zero => intro t WT ST UN OP EA FR H h1 h2; omega
 | succ m ihm =>
 intro t WT0 ST0 UN0 OP0 EA0 FR0 H0 ht htm
 have t0 := H0.t0
 have lw0 := H0.lw
 refine .succ ?_
 simp only [listsched_lister_run_i6.c9]
 refine .dec (fun hleft => ?_) fun hleft => ?_
 rotate_left
 . exact .ret ⟨t, WT0, H0, .inl ⟨rfl, fun i hi => cw_zero (by omega) (by omega)⟩⟩
 refine .dec (fun hlim => ?_) fun hlim => ?_
 . obtain ⟨i, hi, hw⟩ := cw_pos (WT := WT0) (by omega)
   exact .ret ⟨t, WT0, H0, .inr ⟨rfl, hlim, i, by omega, hw⟩⟩
 -- the passes of a cycle
 have passes : ∀ (l : Nat) (WT : List Bool) (ST UN OP EA : List Int) (FR : List (List Int)), RI f p t WT ST UN OP EA FR -> cw WT = l ->
  W (fun k => listsched_lister_run_i6.c14 k (cw WT : Int) t true TL ST UN OP EA FR f z1 z2 PA NX WT) (RUN f p) := by
  intro l
  induction l using Nat.strongRecOn with
  | _ l ihl =>
  intro WT1 ST1 UN1 OP1 EA1 FR1 H1 hl
  -- the queue is emptied
  have drain : ∀ (n : Nat) (q : List Int) (b : Bool) (WT : List Bool) (ST UN OP EA : List Int) (FR : List (List Int)), q.length = n -> q.length <= 5000 -> RI f p t WT ST UN OP EA FR -> q.Nodup -> (∀ x ∈ q, ∃ i : Nat, x = (i : Int) /\ RDY f t WT OP EA i) ->
   (b = false -> cw WT = l /\ ∀ i : Nat, RDY f t WT OP EA i -> (i : Int) ∈ q \/ (0 <= rsI f i /\ ∀ u : Nat, (u : Int) < cnt f (rsI f i) -> t < rd (rd FR (rsI f i)) (u : Int))) -> (b = true -> cw WT < l) ->
   W (fun k => listsched_lister_run_i6.c23 k (cw WT : Int) t b TL ST UN OP EA FR f z1 z2 PA NX WT q) (RUN f p) := by
   intro n
   induction n with
   | zero =>
     intro q b WT ST UN OP EA FR hq hq5 H hnd hqr hb1 hb2
     have e : q = [] := List.eq_nil_of_length_eq_zero hq
     subst e
     refine .succ ?_
     simp only [listsched_lister_run_i6.c23, listsched_queue_Len.f, Option.bind_some]
     simp (disch := (simp only [List.length_nil]; omega)) only [↓cdF]
     cases b
     . obtain ⟨c1, c2⟩ := hb1 rfl
       refine .succ ?_
       simp only [listsched_lister_run_i6.c14, cond_false]
       have hlw := H.lw
       refine .bind (soon_ev V H (by omega)) fun y hy => ?_
       obtain ⟨y1, y2, y3⟩ := hy
       have H' := H.next V y1 (fun i hi => by
        rcases c2 i hi with h | h
        . cases h
        . exact h) (fun i hi hw ho => y3 i (by omega) hi hw ho)
       exact ihm y.1 WT ST UN OP EA FR H' y2 (by omega)
     . exact ihl (cw WT) (hb2 rfl) WT ST UN OP EA FR H rfl
   | succ n ih =>
     intro q b WT ST UN OP EA FR hq hq5 H hnd hqr hb1 hb2
     have lw := H.lw
     have ls := H.ls
     have lu := H.lu
     have lo := H.lo
     have le := H.le
     have lf := H.lf
     have hinq : INQ q TL := fun x hx => by
      obtain ⟨i, e, hr⟩ := hqr x hx
      have := hr.1
      rw [e]
      omega
     refine .succ ?_
     simp only [listsched_lister_run_i6.c23, listsched_queue_Len.f, Option.bind_some]
     simp (disch := omega) only [↓cdT]
     refine .bind (pop_evq hinq (by omega) (by omega)) fun y hy => ?_
     obtain ⟨y1, _, yT, q', _⟩ := y
     obtain ⟨hyT, hperm⟩ := hy
     have hyT : yT = TL := hyT
     have hperm : (y1 :: q').Perm q := hperm
     subst hyT
     have hmem : y1 ∈ q := hperm.mem_iff.1 (by simp)
     obtain ⟨i, e, hr⟩ := hqr y1 hmem
     subst e
     have hi := hr.1
     have hnd2 : ((i : Int) :: q').Nodup := hperm.nodup_iff.2 hnd
     rw [List.nodup_cons] at hnd2
     have hq'l : q'.length = n := by have := hperm.length_eq; rw [List.length_cons] at this; omega
     have hq'r : ∀ x ∈ q', ∃ j : Nat, x = (j : Int) /\ RDY f t WT OP EA j := fun x hx => hqr x (hperm.mem_iff.1 (by simp [hx]))
     have hres : -1 <= rsI f i /\ rsI f i < ((Flow.Res f).length : Int) := need_at V (i := i) (by omega)
     have hcw := cw_le WT
     -- the instruction starts
     have start : ∀ (UN' : List Int) (FR' : List (List Int)), ((rsI f i < 0 /\ UN' = UN /\ FR' = FR) \/ (0 <= rsI f i /\ ∃ u : Nat, (u : Int) < cnt f (rsI f i) /\ rd (rd FR (rsI f i)) (u : Int) <= t /\ UN' = UN.set i (u : Int) /\ FR' = FR.set (rsI f i).toNat ((rd FR (rsI f i)).set u (t + bsI f i)))) ->
      W (fun k => listsched_lister_run_i6.c31 k (cw WT : Int) t (i : Int) yT ST UN' OP EA FR' f z1 z2 PA NX WT q') (RUN f p) := by
      intro UN' FR' hU
      refine .succ ?_
      simp only [listsched_lister_run_i6.c31]
      refine .bind (place_ev V SF (i := i) (by omega) (by omega) (hx i hi) lo le t0 (by omega) (fun v hv => by
       have h1 := H.opn v (by omega)
       have h2 : opc f WT v <= (Flow.Arcs f).length := List.countP_le_length ..
       omega)) fun z hz => ?_
      obtain ⟨_, zS, zO, zE, _⟩ := z
      obtain ⟨hzS, hP⟩ := hz
      have hzS : zS = ST.set i t := hzS
      subst hzS
      have hP : PLC f t i OP EA zO zE := hP
      have H' := H.place V hp hr hP hU
      have hc := cw_set (WT := WT) (i := i) (by omega) hr.2.1
      have ec : w64 ((cw WT : Int) - 1) = (cw (WT.set i false) : Int) := by rw [w64_id (by omega) (by omega)]; omega
      simp (disch := omega) only [↓if_pos, Int.toNat_natCast]
      rw [ec]
      refine ih q' true (WT.set i false) (ST.set i t) UN' zO zE FR' hq'l (by omega) H' hnd2.2 (fun x hx => ?_) (fun e => by cases e) (fun _ => ?_)
      . obtain ⟨j, e, hj⟩ := hq'r x hx
        exact ⟨j, e, RDY.keep V H hr hj (fun e2 => hnd2.1 (by rw [<- e2, <- e]; exact hx)) hP⟩
      . cases b
        . have := (hb1 rfl).1
          omega
        . have := hb2 rfl
          omega
     have hri : 0 <= (i : Int) /\ (i : Int) < ((Flow.Needs f).length : Int) := by omega
     simp only [if_pos hri]
     refine .dec (fun h0 => ?_) fun h0 => ?_
     . have h0 : 0 <= rsI f i := h0
       obtain ⟨r, hrr⟩ : ∃ r : Nat, rsI f i = (r : Int) := ⟨(rsI f i).toNat, by omega⟩
       have hfr := H.lfr r (by omega)
       have hc := V.res r (by omega)
       have hc2 : cnt f r <= 1024 := hc.2.2.2
       have hfr2 : ((rd FR (rsI f i)).length : Int) = cnt f (rsI f i) := by rw [hrr]; exact hfr
       refine .bind (unit_ev (f := f) (FR := FR) (t := t) (r := rsI f i) (by omega) (by rw [hrr]; omega)) fun u hu => ?_
       rcases hu with ⟨hu1, hu2⟩ | ⟨v, hv1, hv2, hv3⟩
       . simp (disch := (rw [hu1]; omega)) only [↓cdT]
         refine ih q' b WT ST UN OP EA FR hq'l (by omega) H hnd2.2 hq'r (fun e => ?_) hb2
         obtain ⟨c1, c2⟩ := hb1 e
         refine ⟨c1, fun j hj => ?_⟩
         rcases c2 j hj with h | h
         . rcases List.mem_cons.1 (hperm.mem_iff.2 h) with h | h
           . have e : j = i := by omega
             subst e
             exact .inr ⟨h0, fun w hw => hu2 w (by omega)⟩
           . exact .inl h
         . exact .inr h
       . have hbs : 0 <= bsI f i /\ bsI f i <= 256 := by rcases V.need i (by omega) with ⟨_, a⟩ | ⟨_, _, a, b⟩ <;> (show 0 <= Need.Busy _ /\ Need.Busy _ <= 256) <;> omega
         have g1 : 0 <= (i : Int) /\ (i : Int) < (UN.length : Int) := by omega
         have g2 : 0 <= Need.Res (rd (Flow.Needs f) (i : Int)) /\ Need.Res (rd (Flow.Needs f) (i : Int)) < (FR.length : Int) := by
          show 0 <= rsI f i /\ rsI f i < _; omega
         have g3 : 0 <= u.1 /\ u.1 < ((rd FR (Need.Res (rd (Flow.Needs f) (i : Int)))).length : Int) := by
          show 0 <= u.1 /\ u.1 < ((rd FR (rsI f i)).length : Int); omega
         have g4 : ¬ u.1 < 0 := by omega
         have eb : w64 (t + Need.Busy (rd (Flow.Needs f) (i : Int))) = t + bsI f i := w64_id (by show _ <= t + bsI f i; omega) (by show t + bsI f i < _; omega)
         simp (disch := exact g4) only [↓cdF, if_pos g1, if_pos g2, if_pos g3, eb, Int.toNat_natCast]
         refine start (UN.set i u.1) _ (.inr ⟨h0, v, by omega, hv3, by rw [hv2], ?_⟩)
         rw [hv2, Int.toNat_natCast]
     . exact start UN FR (.inl ⟨by show rsI f i < 0; have h0 : ¬ 0 <= rsI f i := h0; omega, rfl, rfl⟩)
  -- the queue is filled
  have lw1 := H1.lw
  have lo1 := H1.lo
  have le1 := H1.le
  refine .succ ?_
  simp only [listsched_lister_run_i6.c14, cond_true]
  have fill : ∀ (d i : Nat), i + d = WT1.length -> ∀ q : List Int, q.length <= i -> q.Nodup -> (∀ x ∈ q, ∃ j : Nat, x = (j : Int) /\ j < i /\ RDY f t WT1 OP1 EA1 j) -> (∀ j : Nat, j < i -> RDY f t WT1 OP1 EA1 j -> (j : Int) ∈ q) ->
   W (fun k => listsched_lister_run_i6.c18 k (cw WT1 : Int) t false (WT1.length : Int) (i : Int) TL ST1 UN1 OP1 EA1 FR1 f z1 z2 PA NX WT1 q) (RUN f p) := by
   intro d
   induction d with
   | zero =>
     intro i hi q hql hnd hq1 hq2
     refine .succ ?_
     simp (disch := omega) only [listsched_lister_run_i6.c18, ↓cdF]
     refine drain q.length q false WT1 ST1 UN1 OP1 EA1 FR1 rfl (by omega) H1 hnd (fun x hx => ?_) (fun _ => ⟨hl, fun j hj => .inl (hq2 j (by have := hj.1; omega) hj)⟩) (fun e => by cases e)
     obtain ⟨j, e, _, hj⟩ := hq1 x hx
     exact ⟨j, e, hj⟩
   | succ d ih =>
     intro i hi q hql hnd hq1 hq2
     have skip : ¬ RDY f t WT1 OP1 EA1 i -> W (fun k => listsched_lister_run_i6.c18 k (cw WT1 : Int) t false (WT1.length : Int) ((i : Int) + 1) TL ST1 UN1 OP1 EA1 FR1 f z1 z2 PA NX WT1 q) (RUN f p) := fun hno => by
      have := ih (i + 1) (by omega) q (by omega) hnd (fun x hx => by
       obtain ⟨j, e, h1, h2⟩ := hq1 x hx
       exact ⟨j, e, by omega, h2⟩) (fun j hj hr => by
       rcases Nat.lt_or_eq_of_le (Nat.le_of_lt_succ hj) with h1 | h1
       . exact hq2 j h1 hr
       . subst h1; exact absurd hr hno)
      simpa only [natC] using this
     refine .succ ?_
     simp (disch := omega) only [listsched_lister_run_i6.c18, ↓cdT, ↓if_pos, w64_id]
     cases hw : rd WT1 (i : Int)
     . simp only [cond_false]
       exact skip fun q => by have := q.2.1; rw [hw] at this; cases this
     simp only [cond_true]
     refine .dec (fun h1 => ?_) fun h1 => skip fun q => h1 q.2.2.1
     refine .dec (fun h2 => ?_) fun h2 => skip fun q => h2 q.2.2.2
     have hr : RDY f t WT1 OP1 EA1 i := ⟨by omega, hw, h1, h2⟩
     have hinq : INQ q TL := fun x hx => by
      obtain ⟨j, e, _, hj⟩ := hq1 x hx
      have := hj.1
      rw [e]
      omega
     refine .bind (push_evq hinq (x := (i : Int)) (by omega) (by omega)) fun y hy => ?_
     obtain ⟨_, _, yT, q', _⟩ := y
     obtain ⟨hyT, hperm⟩ := hy
     have hyT : yT = TL := hyT
     have hperm : q'.Perm (q ++ [(i : Int)]) := hperm
     subst hyT
     have := ih (i + 1) (by omega) q' (by have := hperm.length_eq; simp at this; omega) (hperm.nodup_iff.2 (by
      rw [List.nodup_append]
      refine ⟨hnd, by simp, fun a ha b hb e => ?_⟩
      have hb : b = (i : Int) := List.mem_singleton.1 hb
      obtain ⟨j, e2, h3, _⟩ := hq1 a ha
      omega)) (fun x hx => by
      rcases List.mem_append.1 (hperm.mem_iff.1 hx) with h | h
      . obtain ⟨j, e, h3, h4⟩ := hq1 x h
        exact ⟨j, e, by omega, h4⟩
      . exact ⟨i, List.mem_singleton.1 h, by omega, hr⟩) (fun j hj hjr => by
      rw [hperm.mem_iff]
      rcases Nat.lt_or_eq_of_le (Nat.le_of_lt_succ hj) with h3 | h3
      . exact List.mem_append_left _ (hq2 j h3 hjr)
      . rw [h3]; simp)
     simpa only [natC] using this
  exact fill WT1.length 0 (by omega) [] (Nat.le_refl _) List.nodup_nil (fun x hx => by cases hx) (fun j hj => by omega)
 exact passes (cw WT0) WT0 ST0 UN0 OP0 EA0 FR0 H0 rfl
theorem run_prog (V : VALID f) (SF : SIZES f) (hp : SOL f p) {NX : List (List Arc)} {TL PA ST UN OP EA : List Int} {FR : List (List Int)} {z1 z2 : Int} (hnl : (NX.length : Int) = Flow.N f + 2) (hx : ∀ i : Nat, (i : Int) < Flow.Insts f -> rd NX (i : Int) = nxl f i) (htl : (TL.length : Int) = Flow.N f + 2)
 (H : RI f p 0 (List.replicate (Flow.Insts f).toNat true) ST UN OP EA FR) : W (fun k => listsched_lister_run_i6.f k f z1 z2 PA NX TL ST UN OP EA FR) (RUN f p) := by
 have i0 := V.i0
 have i1 := V.i1
 simp (disch := omega) only [listsched_lister_run_i6.f, ↓if_pos]
 rw [List.length_replicate]
 have loop : ∀ (d i : Nat), i + d = (Flow.Insts f).toNat -> ∀ WT : List Bool, WT.length = (Flow.Insts f).toNat -> (∀ j : Nat, j < i -> rd WT (j : Int) = true) -> W (fun k => listsched_lister_run_i6.c3 k (((Flow.Insts f).toNat : Nat) : Int) (i : Int) TL ST UN OP EA FR f z1 z2 PA NX WT) (RUN f p) := by
  intro d
  induction d with
  | zero =>
    intro i hi WT hl h
    refine .succ ?_
    simp (disch := omega) only [listsched_lister_run_i6.c3, ↓cdF]
    have e : WT = List.replicate (Flow.Insts f).toNat true := by
     refine list_ext_rd (by rw [hl, List.length_replicate]) fun j hj => ?_
     rw [h j (by omega), rd_replicate (by omega)]
    have ec : (cw (List.replicate (Flow.Insts f).toNat true) : Int) = Flow.Insts f := by
     unfold cw
     rw [List.countP_replicate]
     simp
     omega
    have := run_loop V SF hp hnl hx htl 4098 0 _ ST UN OP EA FR H (by omega) (by omega) (PA := PA) (z1 := z1) (z2 := z2)
    rw [ec] at this
    rw [e]
    exact this
  | succ d ih =>
    intro i hi WT hl h
    refine .succ ?_
    simp (disch := omega) only [listsched_lister_run_i6.c3, ↓cdT, ↓if_pos, w64_id, Int.toNat_natCast]
    have := ih (i + 1) (by omega) (WT.set i true) (by rw [List.length_set]; exact hl) fun j hj => by
     rw [rd_set (by omega)]
     split
     . rfl
     . exact h j (by omega)
    simpa only [natC] using this
 exact loop (Flow.Insts f).toNat 0 (by omega) _ (by rw [List.length_replicate]) (fun j hj => by omega)
end
end Go.Proofs.YtjddmekfeckphaaGreatV
namespace Go.Proofs.YtjddmekfeckphaaGreatV
open Go Go.Vm
abbrev lk (a : Arc) : Link := (Arc.From a, Arc.To a, ())
def GR (f : Flow) : Graph := (Flow.N f + 2, (Flow.Arcs f).map lk, ())
def BADA (f : Flow) (j : Nat) : Prop := (aF f j < Flow.Insts f /\ Flow.Insts f <= aT f j /\ aT f j <= Flow.N f) \/ (aF f j = aT f j /\ aF f j < Flow.Insts f)
def TWO (f : Flow) : Prop := ∃ i u : Nat, (i : Int) < Flow.Insts f /\ u ≠ i /\ Same (GR f) i u
def TNG (f : Flow) : Prop := (∃ j : Nat, j < (Flow.Arcs f).length /\ BADA f j) \/ TWO f
section
variable {f : Flow}
theorem gN_GR (V : VALID f) : gN (GR f) = (Flow.N f + 2).toNat := by
 have i0 := V.i0; have i1 := V.i1; have p0 := V.p0; have p1 := V.p1
 have hN : Flow.N f = Flow.Insts f + Flow.Params f := rfl
 have h1 : gN (GR f) = (mn (mx (Flow.N f + 2) 0) 20000).toNat := rfl
 rw [h1]
 unfold mn mx
 repeat' split
 all_goals omega
theorem adj_GR (V : VALID f) {a b : Nat} : adj (GR f) a b = true ↔ ∃ j : Nat, j < (Flow.Arcs f).length /\ aF f j = (a : Int) /\ aT f j = (b : Int) := by
 have p0 := V.p0
 have i0 := V.i0
 have hN : Flow.N f = Flow.Insts f + Flow.Params f := rfl
 rw [adj_iff, gN_GR V]
 constructor
 . rintro ⟨_, _, l, hl, e1, e2⟩
   have hl : l ∈ (Flow.Arcs f).map lk := hl
   obtain ⟨x, hx, rfl⟩ := List.mem_map.1 hl
   obtain ⟨j, hj, e⟩ := mem_rd hx
   subst e
   exact ⟨j, hj, e1, e2⟩
 . rintro ⟨j, hj, e1, e2⟩
   obtain ⟨v1, v2, v3, v4, _⟩ := V.arcs j hj
   have v2 : aF f j <= Flow.N f := v2
   have v4 : aT f j <= Flow.N f + 1 := v4
   exact ⟨by omega, by omega, lk (rd (Flow.Arcs f) (j : Int)), List.mem_map.2 ⟨_, rd_mem (by omega) (by omega), rfl⟩, e1, e2⟩
theorem mpGet_put (m : List (Int × Int)) (k x c : Int) : mpGet (mpPut m k x) c = if c = k then some x else mpGet m c := by
 induction m with
 | nil =>
   show cond (decide (k = c)) (some x) none = _
   by_cases e : c = k
   . subst e; simp [mpGet]
   . simp [Ne.symm e, e, mpGet]
 | cons q m ih =>
   obtain ⟨a, y⟩ := q
   show mpGet (cond (decide (a = k)) ((a, x) :: m) ((a, y) :: mpPut m k x)) c = if c = k then some x else cond (decide (a = c)) (some y) (mpGet m c)
   by_cases e : a = k
   . subst e
     simp only [decide_true, cond_true]
     show cond (decide (a = c)) (some x) (mpGet m c) = _
     by_cases e2 : c = a
     . subst e2; simp
     . simp [Ne.symm e2, e2]
   . simp only [e, decide_false, cond_false]
     show cond (decide (a = c)) (some y) (mpGet (mpPut m k x) c) = _
     rw [ih]
     by_cases e2 : a = c
     . subst e2; simp [e]
     . simp [e2]
def alike (l : List Int) (c : Int) : Nat -> Nat
 | 0 => 0
 | m + 1 => alike l c m + if rd l (m : Int) = c then 1 else 0
theorem alike_le (l : List Int) (c : Int) : ∀ m, alike l c m <= m
 | 0 => Nat.le_refl _
 | m + 1 => by
   have := alike_le l c m
   show _ + ite _ _ _ <= _
   split <;> omega
theorem alike_pos {l : List Int} {c : Int} : ∀ {m i : Nat}, i < m -> rd l (i : Int) = c -> 1 <= alike l c m
 | m + 1, i, h, e => by
   show _ <= _ + ite _ _ _
   by_cases e2 : i = m
   . subst e2; rw [if_pos e]; omega
   . have := alike_pos (m := m) (i := i) (by omega) e
     omega
theorem alike_two {l : List Int} {c : Int} : ∀ {m i : Nat}, i < m -> rd l (i : Int) = c -> (1 < alike l c m ↔ ∃ u : Nat, u < m /\ u ≠ i /\ rd l (u : Int) = c)
 | m + 1, i, h, e => by
   show 1 < _ + ite _ _ _ ↔ _
   by_cases e2 : i = m
   . subst e2
     rw [if_pos e]
     constructor
     . intro h1
       have : alike l c i ≠ 0 := by omega
       have ex : ∀ n : Nat, alike l c n ≠ 0 -> ∃ u : Nat, u < n /\ rd l (u : Int) = c := by
        intro n
        induction n with
        | zero => intro h; exact absurd rfl h
        | succ n ih =>
          intro h
          by_cases e3 : rd l (n : Int) = c
          . exact ⟨n, by omega, e3⟩
          . have h' : alike l c n + (if rd l (n : Int) = c then 1 else 0) ≠ 0 := h
            rw [if_neg e3] at h'
            obtain ⟨u, h1, h2⟩ := ih (by omega)
            exact ⟨u, by omega, h2⟩
       obtain ⟨u, h1, h2⟩ := ex i this
       exact ⟨u, by omega, by omega, h2⟩
     . rintro ⟨u, h1, h2, h3⟩
       have := alike_pos (m := i) (i := u) (by omega) h3
       omega
   . by_cases e3 : rd l (m : Int) = c
     . rw [if_pos e3]
       have := alike_pos (m := m) (i := i) (by omega) e
       exact ⟨fun _ => ⟨m, by omega, Ne.symm e2, e3⟩, fun _ => by omega⟩
     . rw [if_neg e3, Nat.add_zero, alike_two (m := m) (i := i) (by omega) e]
       constructor
       . rintro ⟨u, h1, h2, h3⟩; exact ⟨u, by omega, h2, h3⟩
       . rintro ⟨u, h1, h2, h3⟩
         refine ⟨u, ?_, h2, h3⟩
         by_cases e4 : u = m
         . subst e4; exact absurd h3 e3
         . omega
theorem Same_iff_cmp {g : Graph} {a b : Nat} : Same g a b ↔ cmp g a = cmp g b := by
 constructor
 . exact cmp_eq
 . intro e
   have h1 := cmp_same g a
   have h2 := cmp_same g b
   rw [<- e] at h2
   exact h1.trans h2.symm
theorem Same_lt (V : VALID f) {i u : Nat} (h : Same (GR f) i u) (hne : u ≠ i) : u < (Flow.N f + 2).toNat := by
 obtain ⟨h1, _⟩ := h
 rcases h1 with e | h1
 . exact absurd e.symm hne
 . obtain ⟨b, hb, _⟩ := h1.last
   have := adj_r hb
   rwa [gN_GR V] at this
theorem tangled_prog (V : VALID f) (SF : SIZES f) (hs : Flow.N f + 2 <= 1000) (hal : (Flow.Arcs f).length <= 1000000) : EvP (fun k => listsched_tangled.f k f) (TNG f) := by
 have i0 := V.i0
 have i1 := V.i1
 have p0 := V.p0
 have p1 := V.p1
 have ha := SF.arcs
 have hN : Flow.N f = Flow.Insts f + Flow.Params f := rfl
 simp only [listsched_tangled.f, dataflow_Nodes.f, Option.bind_some]
 rw [w64_id (n := Flow.Insts f + Flow.Params f) (by omega) (by omega), w64_id (by omega) (by omega)]
 -- behind the arcs
 have comps : (∀ j : Nat, j < (Flow.Arcs f).length -> ¬ BADA f j) -> EvP (fun k => (graph_Components.f k (GR f)).bind fun y65 => listsched_tangled.c12 k (y65.length : Int) 0 f y65 ([] : List (Int × Int))) (TNG f) := by
  intro hno
  have hgn := gN_GR V
  have hlen : (COMPS (GR f)).length = (Flow.N f + 2).toNat := by rw [<- hgn]; exact tb_len _ _
  have hat : ∀ v : Nat, v < (Flow.N f + 2).toNat -> rd (COMPS (GR f)) (v : Int) = (cmp (GR f) v : Int) := fun v hv => tb_rd (by rw [hgn]; exact hv)
  refine .bind (Components_prog (GR f) (by rw [hgn]; omega) (by show ((Flow.Arcs f).map lk).length <= _; rw [List.length_map]; exact hal)) ?_
  have hQ : TNG f ↔ ∃ i : Nat, (i : Int) < Flow.Insts f /\ 1 < alike (COMPS (GR f)) (rd (COMPS (GR f)) (i : Int)) (COMPS (GR f)).length := by
   constructor
   . rintro (⟨j, hj, hb⟩ | ⟨i, u, hi, hne, hS⟩)
     . exact absurd hb (hno j hj)
     . refine ⟨i, hi, (alike_two (i := i) (by omega) rfl).2 ⟨u, by rw [hlen]; exact Same_lt V hS hne, hne, ?_⟩⟩
       rw [hat i (by omega), hat u (Same_lt V hS hne), Same_iff_cmp.1 hS]
   . rintro ⟨i, hi, h⟩
     obtain ⟨u, hu, hne, e⟩ := (alike_two (i := i) (by omega) rfl).1 h
     rw [hat i (by omega), hat u (by omega)] at e
     exact .inr ⟨i, u, hi, hne, Same_iff_cmp.2 (by omega)⟩
  generalize COMPS (GR f) = C at *
  have loop : ∀ (d i : Nat), i + d = C.length -> ∀ M : List (Int × Int), (∀ c : Int, Option.getD (mpGet M c) 0 = (alike C c i : Int)) -> EvP (fun k => listsched_tangled.c12 k (C.length : Int) (i : Int) f C M) (TNG f) := by
   intro d
   induction d with
   | zero =>
     intro i hi M hM
     have e : i = C.length := by omega
     subst e
     have hi2 : 0 <= Flow.Insts f /\ Flow.Insts f <= (C.length : Int) := by omega
     refine EvP.step (g := fun k => (slices_ContainsFunc_int_int.f k (List.take ((Flow.Insts f).toNat) (List.drop 0 C)) M).bind fun y83 => some y83.1) ?_ fun k => ?_
     . simp only [List.drop_zero, slices_ContainsFunc_int_int.f, slices_IndexFunc_int_int.f]
       have hT : (List.take (Flow.Insts f).toNat C).length = (Flow.Insts f).toNat := by rw [List.length_take]; omega
       have hTr : ∀ x : Nat, x < (Flow.Insts f).toNat -> rd (List.take (Flow.Insts f).toNat C) (x : Int) = rd C (x : Int) := fun x hx => by
        rw [rd_eq (by omega), rd_eq (by omega), List.getElem_take]
       generalize List.take (Flow.Insts f).toNat C = T at *
       have find : ∀ (d i : Nat), i + d = (Flow.Insts f).toNat -> (∀ x : Nat, x < i -> ¬ 1 < alike C (rd C (x : Int)) C.length) -> W (fun k => slices_IndexFunc_int_int.c2 k T (T.length : Int) (i : Int) M) (fun r => 0 <= r.1 ↔ TNG f) := by
        intro d
        induction d with
        | zero =>
          intro i hi hall
          refine .succ ?_
          simp (disch := omega) only [slices_IndexFunc_int_int.c2, ↓cdF]
          refine .ret ⟨fun h => ?_, fun q => ?_⟩
          . have h : (0 : Int) <= -1 := h
            omega
          . obtain ⟨x, hx, h⟩ := hQ.1 q
            exact absurd h (hall x (by omega))
        | succ d ih =>
          intro i hi hall
          refine .succ ?_
          simp (disch := omega) only [slices_IndexFunc_int_int.c2, ↓cdT, ↓if_pos, listsched_tangled_1.f, Option.bind_some, hTr, hM, w64_id]
          refine .dec (fun h => .ret ⟨fun _ => hQ.2 ⟨i, by omega, by omega⟩, fun _ => by show (0 : Int) <= (i : Int); omega⟩) fun h => ?_
          have := ih (i + 1) (by omega) fun x hx => by
           rcases Nat.lt_or_eq_of_le (Nat.le_of_lt_succ hx) with h1 | h1
           . exact hall x h1
           . rw [h1]; omega
          simpa only [natC] using this
       obtain ⟨r, hr, hq⟩ := find (Flow.Insts f).toNat 0 (by omega) fun x hx => by omega
       refine .bind (Ev.bind hr (.ret _)) (.dec hq)
     . simp (disch := omega) only [listsched_tangled.c12, ↓cdF, if_pos hi2]
   | succ d ih =>
     intro i hi M hM
     have hle := alike_le C (rd C (i : Int)) i
     have hm := hM (rd C (i : Int))
     have hCl : C.length <= 1000 := by omega
     have := ih (i + 1) (by omega) (mpPut M (rd C (i : Int)) (w64 (Option.getD (mpGet M (rd C (i : Int))) (0 : Int) + 1))) fun c => by
      rw [mpGet_put]
      show _ = ((alike C c i + if rd C (i : Int) = c then 1 else 0 : Nat) : Int)
      by_cases e : c = rd C (i : Int)
      . rw [if_pos e, if_pos e.symm, hm, Option.getD_some, w64_id (by omega) (by omega), e]
        omega
      . rw [if_neg e, if_neg (Ne.symm e), hM c]
        omega
     refine EvP.step this fun k => ?_
     simp (disch := omega) only [listsched_tangled.c12, ↓cdT, ↓if_pos, w64_id (n := (i : Int) + 1), natC]
  exact loop C.length 0 (by omega) [] fun c => rfl
 have loop : ∀ (d i : Nat), i + d = (Flow.Arcs f).length -> (∀ j : Nat, j < i -> ¬ BADA f j) -> EvP (fun k => listsched_tangled.c3 k (Flow.Arcs f) ((Flow.Arcs f).length : Int) (i : Int) f (Flow.N f + 2) (((Flow.Arcs f).take i).map lk)) (TNG f) := by
  intro d
  induction d with
  | zero =>
    intro i hi hno
    refine EvP.step (comps fun j hj => hno j (by omega)) fun k => ?_
    simp (disch := omega) only [listsched_tangled.c3, ↓cdF]
    rw [List.take_of_length_le (by omega)]
    rfl
  | succ d ih =>
    intro i hi hno
    have hts := take_snoc (l := Flow.Arcs f) (j := i) (by omega)
    obtain ⟨v1, v2, v3, v4, _⟩ := V.arcs i (by omega)
    have next : ¬ BADA f i -> EvP (fun k => bif Nat.ble (List.length (((Flow.Arcs f).take i).map lk) + List.length [lk (rd (Flow.Arcs f) (i : Int))]) 1073741824 then listsched_tangled.c3 k (Flow.Arcs f) ((Flow.Arcs f).length : Int) ((i : Int) + 1) f (Flow.N f + 2) (((Flow.Arcs f).take i).map lk ++ [lk (rd (Flow.Arcs f) (i : Int))]) else none) (TNG f) := by
     intro hb
     have := ih (i + 1) (by omega) fun j hj => by
      rcases Nat.lt_or_eq_of_le (Nat.le_of_lt_succ hj) with h1 | h1
      . exact hno j h1
      . rw [h1]; exact hb
     rw [hts, List.map_append, List.map_singleton] at this
     have hl : (((Flow.Arcs f).take i).map lk).length <= 1000000 := by rw [List.length_map, List.length_take]; omega
     simp (disch := (simp only [List.length_singleton]; omega)) only [↓bleT]
     simpa only [natC] using this
    have yes : BADA f i -> EvP (fun _ => some true) (TNG f) := fun h => .tt (.inl ⟨i, by omega, h⟩)
    refine EvP.step (g := fun k => bif decide (aF f i < Flow.Insts f /\ Flow.Insts f <= aT f i /\ aT f i <= Flow.N f \/ aF f i = aT f i /\ aF f i < Flow.Insts f) then some true else bif Nat.ble (List.length (((Flow.Arcs f).take i).map lk) + List.length [lk (rd (Flow.Arcs f) (i : Int))]) 1073741824 then listsched_tangled.c3 k (Flow.Arcs f) ((Flow.Arcs f).length : Int) ((i : Int) + 1) f (Flow.N f + 2) (((Flow.Arcs f).take i).map lk ++ [lk (rd (Flow.Arcs f) (i : Int))]) else none) ?_ fun k => ?_
    . refine .cond (fun h => ?_) fun h => ?_
      . have h := of_decide_eq_true h
        exact yes h
      . have h := of_decide_eq_false h
        exact next h
    . simp (disch := omega) only [listsched_tangled.c3, ↓cdT, ↓if_pos, w64_id (n := (i : Int) + 1), dataflow_Source.f, w64_id (n := Flow.Insts f + Flow.Params f), Option.bind_some]
      have e1 : lk (rd (Flow.Arcs f) (i : Int)) = (Arc.From (rd (Flow.Arcs f) (i : Int)), Arc.To (rd (Flow.Arcs f) (i : Int)), ()) := rfl
      simp only [e1]
      generalize (bif Nat.ble (List.length (((Flow.Arcs f).take i).map lk) + List.length [((Arc.From (rd (Flow.Arcs f) (i : Int)), Arc.To (rd (Flow.Arcs f) (i : Int)), ()) : Link)]) 1073741824 then listsched_tangled.c3 k (Flow.Arcs f) ((Flow.Arcs f).length : Int) ((i : Int) + 1) f (Flow.N f + 2) (((Flow.Arcs f).take i).map lk ++ [((Arc.From (rd (Flow.Arcs f) (i : Int)), Arc.To (rd (Flow.Arcs f) (i : Int)), ()) : Link)]) else none) = R
      show _ = bif decide (Arc.From (rd (Flow.Arcs f) (i : Int)) < Flow.Insts f /\ Flow.Insts f <= Arc.To (rd (Flow.Arcs f) (i : Int)) /\ Arc.To (rd (Flow.Arcs f) (i : Int)) <= Flow.N f \/ Arc.From (rd (Flow.Arcs f) (i : Int)) = Arc.To (rd (Flow.Arcs f) (i : Int)) /\ Arc.From (rd (Flow.Arcs f) (i : Int)) < Flow.Insts f) then some true else R
      rw [hN]
      generalize Arc.From (rd (Flow.Arcs f) (i : Int)) = x
      generalize Arc.To (rd (Flow.Arcs f) (i : Int)) = y
      by_cases c1 : x < Flow.Insts f <;> by_cases c2 : Flow.Insts f <= y <;> by_cases c3 : y <= Flow.Insts f + Flow.Params f <;> by_cases c4 : x = y <;> simp [c1, c2, c3, c4] <;> by_cases c5 : y < Flow.Insts f <;> first | (exfalso; omega) | simp [c5]
 exact loop (Flow.Arcs f).length 0 (by omega) fun j hj => by omega
end
end Go.Proofs.YtjddmekfeckphaaGreatV
