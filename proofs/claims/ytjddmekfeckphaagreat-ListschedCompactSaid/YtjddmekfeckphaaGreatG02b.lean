/- Chapter 02: Next of the program and of the reference. -/
import Derived.Test.YtjddmekfeckphaaGreatG02a
import Derived.Test.YtjddmekfeckphaaGreatSo
set_option linter.unusedVariables false
set_option linter.unusedSimpArgs false
namespace Go.Proofs.YtjddmekfeckphaaGreatV
open Go Go.Vm

/-! ### sorting and compacting -/
theorem compactUpTo_mem (d : Array Int) : ∀ m, m ≤ d.size → ∀ x, x ∈ Lib.compactUpTo d m ↔ ∃ j, j < m ∧ d[j]! = x
  | 0, _, x => by simp [Lib.compactUpTo]
  | m + 1, hm, x => by
    rw [Lib.compactUpTo_succ, List.mem_append, compactUpTo_mem d m (by omega) x]
    constructor
    · rintro (⟨j, h1, h2⟩ | h)
      · exact ⟨j, by omega, h2⟩
      · split at h
        · simp at h; exact ⟨m, by omega, h.symm⟩
        · cases h
    · rintro ⟨j, h1, h2⟩
      by_cases e : j < m
      · exact .inl ⟨j, e, h2⟩
      · have : j = m := by omega
        subst this
        by_cases hk : Lib.keeps d j = true
        · right; rw [if_pos hk]; simp [h2]
        · left
          unfold Lib.keeps at hk
          simp at hk
          exact ⟨j - 1, by omega, by rw [← hk.2, h2]⟩
theorem compactUpTo_asc (d : Array Int) (hd : ∀ i j, i < j → j < d.size → d[i]! ≤ d[j]!) : ∀ m, m ≤ d.size → (Lib.compactUpTo d m).Pairwise (· < ·)
  | 0, _ => by simp [Lib.compactUpTo]
  | m + 1, hm => by
    rw [Lib.compactUpTo_succ, List.pairwise_append]
    refine ⟨compactUpTo_asc d hd m (by omega), by split <;> simp, fun x hx y hy => ?_⟩
    split at hy
    · rename_i hk
      simp at hy
      subst hy
      obtain ⟨j, h1, rfl⟩ := (compactUpTo_mem d m (by omega) x).1 hx
      unfold Lib.keeps at hk
      simp at hk
      have h3 : d[m - 1]! ≤ d[m]! := hd _ _ (by omega) (by omega)
      have h4 : d[j]! ≤ d[m - 1]! := by
        by_cases e : j = m - 1
        · rw [e]; exact Int.le_refl _
        · exact hd _ _ (by omega) (by omega)
      have h5 : d[m]! ≠ d[m - 1]! := by
        rcases hk with h | h
        · omega
        · exact h
      omega
    · cases hy
theorem sortI_asc (xs : List Int) : (sortI xs).Pairwise (· ≤ ·) := by
  have := List.pairwise_mergeSort (le := fun x y : Int => decide (x ≤ y)) (fun a b c h1 h2 => by simp at *; omega) (fun a b => by simp; omega) xs
  unfold sortI
  exact this.imp (fun h => by simpa using h)
theorem sortI_mem {xs : List Int} {x : Int} : x ∈ sortI xs ↔ x ∈ xs := by
  unfold sortI
  exact List.mem_mergeSort
theorem sortI_len (xs : List Int) : (sortI xs).length = xs.length := List.length_mergeSort ..
theorem compact_asc {xs : List Int} (h : xs.Pairwise (· ≤ ·)) : (compactI xs).Pairwise (· < ·) := by
  refine compactUpTo_asc xs.toArray (fun i j hij hj => ?_) xs.length (by simp)
  have hj : j < xs.length := by simpa using hj
  rw [getElem!_pos xs.toArray i (by simp; omega), getElem!_pos xs.toArray j (by simp; omega)]
  simpa using List.pairwise_iff_getElem.1 h i j (by omega) hj hij
theorem compact_mem {xs : List Int} {x : Int} : x ∈ compactI xs ↔ x ∈ xs := by
  have := compactUpTo_mem xs.toArray xs.length (by simp) x
  refine this.trans ?_
  constructor
  · rintro ⟨j, hj, rfl⟩
    rw [getElem!_pos xs.toArray j (by simpa using hj)]
    simp
  · intro h
    obtain ⟨j, hj, rfl⟩ := List.getElem_of_mem h
    exact ⟨j, hj, by rw [getElem!_pos xs.toArray j (by simpa using hj)]; simp⟩

/-! ### the program -/
def lok (g : Graph) (a : Nat) (l : Link) : Bool := decide (l.1 = (a : Int)) && (decide (0 ≤ l.2.1) && decide (l.2.1 < (gN g : Int)))
def raw (g : Graph) (i a : Nat) : List Int := ((g.2.1.take i).filter (lok g a)).map fun l => l.2.1
theorem raw_len (g : Graph) (i a : Nat) : (raw g i a).length ≤ i := by
  unfold raw
  rw [List.length_map]
  have := List.length_filter_le (lok g a) (g.2.1.take i)
  simp at this
  omega
theorem raw_succ {g : Graph} {i a : Nat} (h : i < g.2.1.length) : raw g (i + 1) a = if lok g a (rd g.2.1 (i : Int)) = true then raw g i a ++ [(rd g.2.1 (i : Int)).2.1] else raw g i a := by
  unfold raw
  rw [List.take_add_one, rd_eq h, List.getElem?_eq_getElem h]
  simp only [Option.toList_some, List.filter_append, List.map_append]
  by_cases hl : lok g a g.2.1[i] = true
  · rw [if_pos hl]; simp [hl]
  · rw [if_neg hl]; simp [hl]
theorem raw_row (g : Graph) {a : Nat} (ha : a < gN g) : compactI (sortI (raw g g.2.1.length a)) = succs g a := by
  refine asc_unique (compact_asc (sortI_asc _)) (succs_sorted g a) fun x => ?_
  rw [compact_mem, sortI_mem, mem_succs]
  unfold raw lok
  simp only [List.take_length, List.mem_map, List.mem_filter, Bool.and_eq_true, decide_eq_true_eq]
  constructor
  · rintro ⟨l, ⟨h1, h2, h3, h4⟩, rfl⟩
    exact ⟨l.2.1.toNat, by omega, adj_iff.2 ⟨ha, by omega, l, h1, h2, by omega⟩⟩
  · rintro ⟨b, rfl, hb⟩
    obtain ⟨_, h2, l, h3, h4, h5⟩ := adj_iff.1 hb
    exact ⟨l, ⟨h3, h4, by omega, by omega⟩, h5⟩

theorem Next_prog (g : Graph) (hl : g.2.1.length ≤ 1000000) : Ev (fun k => graph_Next.f k g) (NEXT g) := by
  have hn := gN_le g
  simp only [graph_Next.f, size_ev, Option.bind_some]
  simp (disch := omega) only [↓if_pos, Int.toNat_natCast]
  rw [tb_rep]
  have e0 : tb (gN g) (fun _ => ([] : List Int)) = tb (gN g) (raw g 0) := tb_congr fun c hc => by simp [raw]
  rw [e0]
  refine Ev.up (c := fun k i => graph_Next.c4 k (gN g : Int) g.2.1 (g.2.1.length : Int) (i : Int) (tb (gN g) (raw g i))) (n := g.2.1.length) ?_ ?_ 0 (Nat.zero_le _)
  · refine .succ ?_
    simp (disch := omega) only [graph_Next.c4, ↓cdF, tb_len]
    have e1 : tb (gN g) (raw g g.2.1.length) = tb (gN g) (fun a => if a < 0 then succs g a else raw g g.2.1.length a) := tb_congr fun c hc => by simp
    rw [e1]
    refine Ev.up (c := fun k j => graph_Next.c10 k (gN g : Int) (j : Int) (tb (gN g) (fun a => if a < j then succs g a else raw g g.2.1.length a))) (n := gN g) ?_ ?_ 0 (Nat.zero_le _)
    · refine .succ ?_
      simp (disch := omega) only [graph_Next.c10, ↓cdF]
      refine (Ev.ret _).congr fun k => ?_
      congr 1
      exact tb_congr fun c hc => by simp [hc]
    · intro j hj hnext
      refine .succ ?_
      have hb := raw_len g g.2.1.length j
      have hb2 := compact_le (sortI (raw g g.2.1.length j))
      rw [sortI_len] at hb2
      simp (disch := first | omega | (simp only [tb_len, tb_rd hj, List.length_set, Nat.lt_irrefl, if_false]; omega)) only [graph_Next.c10, ↓cdT, ↓if_pos, ↓bleT, tb_rd hj, Int.toNat_natCast, Nat.lt_irrefl, if_false, tb_set, compactH.f, ↓reduceIte]
      rw [sortI_len]
      simp (disch := omega) only [↓bleT, Option.bind_some, w64_id]
      simp only [natC] at hnext
      refine hnext.congr fun k => ?_
      congr 1
      exact tb_congr fun c hc => by
        by_cases e : c = j
        · subst e; simp [raw_row g hc]
        · by_cases e2 : c < j
          · simp [e, e2, show c < j + 1 by omega]
          · simp [e, e2, show ¬ c < j + 1 by omega]
  · intro i hi hnext
    refine .succ ?_
    have hb := raw_len g i
    simp (disch := omega) only [graph_Next.c4, ↓cdT, ↓if_pos, Link.From, Link.To, w64_id, tb_len]
    simp only [natC] at hnext
    have hno : ∀ a, lok g a (rd g.2.1 (i : Int)) = false → True := fun _ _ => trivial
    have skip : (∀ a, a < gN g → lok g a (rd g.2.1 (i : Int)) = false) → Ev (fun k => graph_Next.c4 k (gN g : Int) g.2.1 (g.2.1.length : Int) ((i : Int) + 1) (tb (gN g) (raw g i))) (NEXT g) := fun h => by
      refine hnext.congr fun k => ?_
      congr 1
      exact tb_congr fun c hc => by rw [raw_succ hi, h c hc]; simp
    generalize hL : rd g.2.1 (i : Int) = l at *
    refine .dec (fun h1 => ?_) fun h1 => skip fun a ha => by simp [lok]; omega
    refine .dec (fun h2 => ?_) fun h2 => skip fun a ha => by simp [lok]; omega
    refine .dec (fun h3 => ?_) fun h3 => skip fun a ha => by simp [lok]; omega
    refine .dec (fun h4 => ?_) fun h4 => skip fun a ha => by simp [lok]; omega
    obtain ⟨a, ha⟩ : ∃ a : Nat, l.1 = (a : Int) := ⟨l.1.toNat, by omega⟩
    have han : a < gN g := by omega
    have hba := hb a
    simp (disch := first | omega | (simp only [List.length_cons, List.length_nil]; omega)) only [ha, tb_rd han, ↓if_pos, ↓bleT, Int.toNat_natCast, ↓reduceIte, tb_set]
    refine hnext.congr fun k => ?_
    congr 1
    exact tb_congr fun c hc => by
      rw [raw_succ hi, hL]
      by_cases e : c = a
      · subst e
        rw [if_pos rfl, if_pos (by simp [lok]; omega)]
      · rw [if_neg e, if_neg (by simp [lok]; omega)]
end Go.Proofs.YtjddmekfeckphaaGreatV
