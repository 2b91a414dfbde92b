/- Chapter 02: Turn, and the law GraphNext. -/
import Derived.Test.YtjddmekfeckphaaGreatG02c
import Derived.Test.YtjddmekfeckphaaGreatSo02
set_option linter.unusedVariables false
set_option linter.unusedSimpArgs false
namespace Go.Proofs.YtjddmekfeckphaaGreatV
open Go Go.Vm

/-- before in the order of links -/
def LL (x y : Link) : Prop := x.1 < y.1 ∨ x.1 = y.1 ∧ x.2.1 < y.2.1
theorem LL_irrefl (x : Link) : ¬ LL x x := by unfold LL; omega
theorem LL_asymm {x y : Link} (h : LL x y) : ¬ LL y x := by unfold LL at *; omega
theorem link_unique : ∀ {l m : List Link}, l.Pairwise LL → m.Pairwise LL → (∀ x, x ∈ l ↔ x ∈ m) → l = m
  | [], [], _, _, _ => rfl
  | [], y :: m, _, _, h => by have := (h y).2 (by simp); cases this
  | x :: l, [], _, _, h => by have := (h x).1 (by simp); cases this
  | x :: l, y :: m, hl, hm, h => by
    obtain ⟨h1, h2⟩ := List.pairwise_cons.1 hl
    obtain ⟨h3, h4⟩ := List.pairwise_cons.1 hm
    have e : x = y := by
      rcases List.mem_cons.1 ((h x).1 (by simp)) with e | e
      · exact e
      · rcases List.mem_cons.1 ((h y).2 (by simp)) with e' | e'
        · exact e'.symm
        · exact absurd (h1 y e') (LL_asymm (h3 x e))
    subst e
    rw [link_unique h2 h4 fun z => ?_]
    constructor
    · intro hz
      rcases List.mem_cons.1 ((h z).1 (by simp [hz])) with e | e
      · subst e; exact absurd (h1 z hz) (LL_irrefl z)
      · exact e
    · intro hz
      rcases List.mem_cons.1 ((h z).2 (by simp [hz])) with e | e
      · subst e; exact absurd (h3 z hz) (LL_irrefl z)
      · exact e
theorem sort_links {xs ys : List Link} (hn : xs.Nodup) (hy : ys.Pairwise LL) (h : ∀ x, x ∈ xs ↔ x ∈ ys) : sortgraph_Turn_1 xs = ys := by
  unfold sortgraph_Turn_1
  have hp := List.mergeSort_perm xs (fun x y : Link => !(Go.Proofs.ltOf cfTurn) y x)
  have hs := List.pairwise_mergeSort (le := fun x y : Link => !(Go.Proofs.ltOf cfTurn) y x) (fun a b c h1 h2 => by
    simp only [Bool.not_eq_true'] at *
    exact cfTurn_swo.ntrans c b a h2 h1) (fun a b => by
    simp only [Bool.or_eq_true, Bool.not_eq_true']
    rw [← Bool.not_eq_true, ← Bool.not_eq_true, cfTurn_lt, cfTurn_lt]
    omega) xs
  refine link_unique ?_ hy (fun x => by rw [hp.mem_iff, h])
  refine (hs.and (hp.nodup_iff.2 hn)).imp ?_
  intro a b ⟨h1, h2⟩
  simp only [Bool.not_eq_true'] at h1
  rcases Classical.em (Go.Proofs.ltOf cfTurn a b = true) with h3 | h3
  · exact cfTurn_lt.1 h3
  · exact absurd (cfTurn_total a b (by simpa using h3) h1) h2

/-- the links that come to b, from the nodes below m -/
def col (g : Graph) (b m : Nat) : List Link := pick (fun a => adj g a b) (fun a => ((b : Int), (a : Int), ())) m
/-- the links that come to the nodes below b, and those to b from the nodes below a -/
def LK (g : Graph) (b a : Nat) : List Link := (List.range b).flatMap (fun b => col g b (gN g)) ++ col g b a
def LINKS (g : Graph) : List Link := (List.range (gN g)).flatMap fun b => col g b (gN g)
def TURN (g : Graph) : Graph := ((gN g : Int), LINKS g, ())

theorem mem_col {g : Graph} {b m : Nat} {x : Link} : x ∈ col g b m ↔ ∃ a, a < m ∧ adj g a b = true ∧ x = ((b : Int), (a : Int), ()) := by
  unfold col pick
  simp only [List.mem_map, List.mem_filter, List.mem_range]
  constructor
  · rintro ⟨a, ⟨h1, h2⟩, rfl⟩; exact ⟨a, h1, h2, rfl⟩
  · rintro ⟨a, h1, h2, rfl⟩; exact ⟨a, ⟨h1, h2⟩, rfl⟩
theorem col_asc (g : Graph) (b m : Nat) : (col g b m).Pairwise LL := by
  unfold col pick
  rw [List.pairwise_map]
  refine List.Pairwise.imp (fun h => ?_) ((List.pairwise_lt_range).filter _)
  unfold LL
  right
  exact ⟨rfl, by simp only; omega⟩
theorem mem_LINKS {g : Graph} {x : Link} : x ∈ LINKS g ↔ ∃ b a, adj g a b = true ∧ x = ((b : Int), (a : Int), ()) := by
  unfold LINKS
  simp only [List.mem_flatMap, List.mem_range, mem_col]
  constructor
  · rintro ⟨b, _, a, _, h, e⟩; exact ⟨b, a, h, e⟩
  · rintro ⟨b, a, h, e⟩; exact ⟨b, adj_r h, a, adj_l h, h, e⟩
theorem flat_asc (g : Graph) : ∀ m : Nat, ((List.range m).flatMap fun b => col g b (gN g)).Pairwise LL
  | 0 => by simp
  | m + 1 => by
    rw [List.range_succ, List.flatMap_append, List.pairwise_append]
    refine ⟨flat_asc g m, by simpa using col_asc g m _, fun x hx y hy => ?_⟩
    simp only [List.mem_flatMap, List.mem_range, mem_col] at hx
    simp only [List.flatMap_cons, List.flatMap_nil, List.append_nil, mem_col] at hy
    obtain ⟨b, hb, a, _, _, rfl⟩ := hx
    obtain ⟨a', _, _, rfl⟩ := hy
    left
    show (b : Int) < (m : Int)
    omega

/-- the links as the program lays them -/
def rowK (g : Graph) (v : Nat) (l : List Int) : List Link := l.map fun w => (w, (v : Int), ())
def LAID (g : Graph) (v : Nat) : List Link := (List.range v).flatMap fun v => rowK g v (succs g v)
theorem mem_LAID {g : Graph} {m : Nat} {x : Link} : x ∈ LAID g m ↔ ∃ b a, a < m ∧ adj g a b = true ∧ x = ((b : Int), (a : Int), ()) := by
  unfold LAID rowK
  simp only [List.mem_flatMap, List.mem_range, List.mem_map, mem_succs]
  constructor
  · rintro ⟨a, h1, w, ⟨b, rfl, h⟩, rfl⟩; exact ⟨b, a, h1, h, rfl⟩
  · rintro ⟨b, a, h1, h, rfl⟩; exact ⟨a, h1, _, ⟨b, rfl, h⟩, rfl⟩
theorem LAID_nodup (g : Graph) : ∀ m : Nat, (LAID g m).Nodup
  | 0 => by simp [LAID]
  | m + 1 => by
    unfold LAID
    rw [List.range_succ, List.flatMap_append, List.nodup_append]
    refine ⟨LAID_nodup g m, ?_, fun x hx y hy e => ?_⟩
    · simp only [List.flatMap_cons, List.flatMap_nil, List.append_nil, rowK]
      refine List.Pairwise.map _ ?_ (succs_sorted g m)
      intro a b h e
      have : a = b := congrArg Prod.fst e
      omega
    · obtain ⟨b, a, h1, _, rfl⟩ := mem_LAID.1 hx
      simp only [List.flatMap_cons, List.flatMap_nil, List.append_nil, rowK, List.mem_map] at hy
      obtain ⟨w, _, rfl⟩ := hy
      have : (a : Int) = (m : Int) := congrArg (fun z : Link => z.2.1) e
      omega
theorem LAID_succ (g : Graph) (m : Nat) : LAID g (m + 1) = LAID g m ++ rowK g m (succs g m) := by
  unfold LAID
  rw [List.range_succ, List.flatMap_append]
  simp
theorem LAID_len (g : Graph) : ∀ m, (LAID g m).length ≤ m * gN g
  | 0 => by simp [LAID]
  | m + 1 => by
    rw [LAID_succ, List.length_append, Nat.add_mul]
    have := LAID_len g m
    have := succs_len g m
    simp [rowK]; omega
theorem LAID_sorted (g : Graph) : sortgraph_Turn_1 (LAID g (gN g)) = LINKS g := by
  refine sort_links (LAID_nodup g _) (flat_asc g _) fun x => ?_
  rw [mem_LAID, mem_LINKS]
  exact ⟨fun ⟨b, a, _, h, e⟩ => ⟨b, a, h, e⟩, fun ⟨b, a, h, e⟩ => ⟨b, a, adj_l h, h, e⟩⟩

theorem Turn_prog (g : Graph) (hn : gN g ≤ 1000) (hl : g.2.1.length ≤ 1000000) : Ev (fun k => graph_Turn.f k g) (TURN g) := by
  have hsz : ∀ v, v ≤ gN g → v * gN g ≤ 1000000 := fun v hv => Nat.le_trans (Nat.mul_le_mul hv hn) (by omega)
  simp only [graph_Turn.f, size_ev, Option.bind_some]
  refine .bind (Next_prog g hl) ?_
  simp only [NEXT_len]
  refine Ev.up (c := fun k v => graph_Turn.c3 k (NEXT g) (gN g : Int) (v : Int) 0 (gN g : Int) (LAID g v)) (n := gN g) ?_ ?_ 0 (Nat.zero_le _)
  · refine .succ ?_
    have := LAID_len g (gN g)
    have := hsz _ (Nat.le_refl _)
    simp (disch := omega) only [graph_Turn.c3, ↓cdF, ↓bleT, LAID_sorted]
    exact .ret _
  · intro v hv hnext
    refine .succ ?_
    simp only [natC] at hnext
    simp (disch := first | omega | (rw [NEXT_len]; omega)) only [graph_Turn.c3, ↓cdT, ↓if_pos, NEXT_rd hv]
    have h1 := LAID_len g v
    have h2 := hsz v (by omega)
    have h3 := succs_len g v
    refine Ev.up (c := fun k j => graph_Turn.c6 k (v : Int) (NEXT g) (gN g : Int) (v : Int) (succs g v) ((succs g v).length : Int) (j : Int) 0 (gN g : Int) (LAID g v ++ rowK g v ((succs g v).take j))) (n := (succs g v).length) ?_ ?_ 0 (Nat.zero_le _) |> fun h => by simpa [rowK] using h
    · refine .succ ?_
      simp (disch := omega) only [graph_Turn.c6, ↓cdF, w64_id]
      refine hnext.congr fun k => ?_
      rw [LAID_succ, List.take_length]
    · intro j hj h4
      refine .succ ?_
      simp only [natC] at h4
      have h5 : (rowK g v ((succs g v).take j)).length ≤ gN g := by simp [rowK]; omega
      simp (disch := first | omega | (simp only [List.length_append, List.length_cons, List.length_nil]; omega)) only [graph_Turn.c6, ↓cdT, ↓if_pos, ↓bleT, w64_id]
      refine h4.congr fun k => ?_
      rw [List.append_assoc]
      congr 2
      unfold rowK
      rw [List.take_add_one, List.map_append, rd_eq hj, List.getElem?_eq_getElem hj]
      rfl
end Go.Proofs.YtjddmekfeckphaaGreatV
