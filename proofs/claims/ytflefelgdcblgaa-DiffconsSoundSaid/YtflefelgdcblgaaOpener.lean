/- How an argument that is read as data comes to a plain Lean value: each kind of value by a combinator; used by the rows of laws whose parameters are structs and slices of structs. No condition. -/
import Derived.Test.YtflefelgdcblgaaWWords
import Derived.Deep.Slices
import Derived.SizedLaws
import Derived.ChangeSlices
import Derived.ShutString
namespace Go.Proofs.Ytflefelgdcblgaa.Opener
set_option linter.unusedVariables false
set_option linter.unusedSimpArgs false
open Go.ChangeShapes Go.WideShapes Go.Proofs.YtflefelgdcblgaaW.PrintWords
def Opens (P : Program) (t : TypeId) {α : Type} (d : Kd α) (G : α → Prop) : Prop :=
  ∀ (H : Type) (enc : TypeId × Value → H) (w : World) (base : Nat) (sp : Nat → Bool) (held : Bool) (fuel : Nat) (cs : List Value) (x : DataW H × List MemPlace),
    DataW.trod enc P w base sp held fuel t cs = some x → (∀ n ∈ x.1.weights P t, n ≤ reachBytes) → ∃ v : α, d.K w v cs ∧ G v
theorem opens_int {P : Program} {t : TypeId} {k : IntKind} (ht : P.underlying t = some (.int k)) : Opens P t (Kd.int k) (fun n => (Lit.int k n).wf = true) := by
  intro H enc w base sp held fuel cs x h _
  obtain ⟨n, rfl, rfl, hw⟩ := DataW.trod_int ht h
  exact ⟨n, rfl, hw⟩
theorem opens_bool {P : Program} {t : TypeId} (ht : P.underlying t = some .bool) : Opens P t Kd.bool (fun _ => True) := by
  intro H enc w base sp held fuel cs x h _
  obtain ⟨n, rfl, rfl⟩ := DataW.trod_bool ht h
  exact ⟨n, rfl, trivial⟩
theorem opens_string {P : Program} {t : TypeId} (ht : P.underlying t = some .string) : Opens P t Kd.string (fun s => s.size ≤ 140737488351232) := by
  intro H enc w base sp held fuel cs x h hw
  obtain ⟨s, rfl, rfl, hs⟩ := DataW.trod_string ht h
  refine ⟨s, rfl, ?_⟩
  have := hw s.data.toList.length (by simp [DataW.weights])
  rw [Array.length_toList] at this
  exact this
theorem weightsAll_mem {H : Type} {P : Program} {e : TypeId} : ∀ {l : List (DataW H)} {d : DataW H}, d ∈ l → ∀ n ∈ d.weights P e, n ∈ DataW.weightsAll P e l
  | d0 :: l, d, hd, n, hn => by
    simp only [DataW.weightsAll, List.mem_append]
    rcases List.mem_cons.1 hd with rfl | hd
    · exact Or.inl hn
    · exact Or.inr (weightsAll_mem hd n hn)
theorem opens_slice {P : Program} {t e : TypeId} {α : Type} {d : Kd α} {G : α → Prop} {B : Nat} (ht : P.underlying t = some (.slice e)) (hc : P.cellsOf e = d.sz) (hB : P.bytesOf e = B) (ho : Opens P e d G) :
    Opens P t (Kd.slice e d) (fun xs => xs.length ≤ maxLen ∧ xs.length * B ≤ 140737488351232 ∧ ∀ x ∈ xs, G x) := by
  intro H enc w base sp held fuel cs x h hw
  rcases Go.Deep.open_slice ht h with ⟨rfl, rfl⟩ | ⟨a, len, cap, m, n, D, Pl, rfl, _, hl, hm, hmm, rfl, hx⟩
  · refine ⟨[], ⟨none, 0, rfl, Nat.le_refl _, rfl, by simp, fun h => absurd h (Nat.lt_irrefl 0)⟩, by simp, by simp, by simp⟩
  · have hlm : len ≤ m := by rw [hmm]; split <;> omega
    have hwt : ∀ n ∈ DataW.weights P t (.slice ((List.range len).map D) ((List.range (m - len)).map fun j => D (len + j)) : DataW H), n ≤ reachBytes := hw
    simp only [DataW.weights, ht] at hwt
    have each : ∀ i, i < len → ∃ q : α, (∃ c, c.length = d.sz ∧ d.K w q c ∧ ∀ j u, c[j]? = some u → w.cell? (a.add (i * d.sz + j)) = some u) ∧ G q := by
      intro i hi
      obtain ⟨cs', h1, h2⟩ := hx i (by omega)
      obtain ⟨_, hlen, hcell⟩ := World.cells?_some h1
      obtain ⟨q, hK, hG⟩ := ho H enc w base sp held n cs' _ h2 (fun z hz => hwt z (by
        refine List.mem_cons_of_mem _ (List.mem_append_left _ (weightsAll_mem (d := D i) ?_ z hz))
        exact List.mem_map.2 ⟨i, List.mem_range.2 hi, rfl⟩))
      refine ⟨q, ⟨cs', by rw [hlen, hc], hK, fun j u hj => ?_⟩, hG⟩
      have hjl : j < cs'.length := by
        rcases Nat.lt_or_ge j cs'.length with h | h
        · exact h
        · rw [List.getElem?_eq_none h] at hj; cases hj
      have := hcell j (by omega)
      rw [Go.Deep.add_add, hc] at this
      rw [this, hj]
    obtain ⟨f, hf⟩ : ∃ f : Nat → Option α, ∀ i, i < len → ∃ q, f i = some q ∧ (∃ c, c.length = d.sz ∧ d.K w q c ∧ ∀ j u, c[j]? = some u → w.cell? (a.add (i * d.sz + j)) = some u) ∧ G q :=
      Go.Deep.choose_lt (α := Option α) (p := fun i o => ∃ q, o = some q ∧ (∃ c, c.length = d.sz ∧ d.K w q c ∧ ∀ j u, c[j]? = some u → w.cell? (a.add (i * d.sz + j)) = some u) ∧ G q) (fun i hi => by
        obtain ⟨q, hq⟩ := each i hi
        exact ⟨some q, q, rfl, hq⟩)
    have hex : ∀ (n : Nat), n ≤ len → ∃ xs : List α, xs.length = n ∧ ∀ i, i < n → xs[i]? = f i := by
      intro n
      induction n with
      | zero => exact fun _ => ⟨[], rfl, fun i hi => absurd hi (Nat.not_lt_zero _)⟩
      | succ n ih =>
        intro hn
        obtain ⟨xs, hxl, hxs⟩ := ih (by omega)
        obtain ⟨q, hq, _⟩ := hf n (by omega)
        refine ⟨xs ++ [q], by simp [hxl], fun i hi => ?_⟩
        by_cases hin : i < n
        · rw [List.getElem?_append_left (by omega)]; exact hxs i hin
        · obtain rfl : i = n := by omega
          rw [List.getElem?_append_right (by omega), hxl, hq]; simp
    obtain ⟨xs, hxl, hxs⟩ := hex len (Nat.le_refl _)
    have hget : ∀ i q, xs[i]? = some q → i < len ∧ f i = some q := by
      intro i q hq
      have hil : i < xs.length := by
        rcases Nat.lt_or_ge i xs.length with h | h
        · exact h
        · rw [List.getElem?_eq_none h] at hq; cases hq
      rw [hxl] at hil
      exact ⟨hil, by rw [← hxs i hil, hq]⟩
    refine ⟨xs, ⟨some a, cap, by rw [hxl], by omega, rfl, ?_, fun _ => ⟨a, rfl, fun j p hj => ?_⟩⟩, ?_, ?_, fun q hq => ?_⟩
    · rw [hxl]; have hmx : cap ≤ maxLen := hm; unfold maxLen at hmx; omega
    · obtain ⟨hjl, hfj⟩ := hget j p hj
      obtain ⟨q, hq, hR, _⟩ := hf j hjl
      rw [hfj] at hq
      obtain rfl := Option.some.inj hq
      exact hR
    · rw [hxl]; omega
    · have := hwt _ List.mem_cons_self
      simp only [List.length_map, List.length_range] at this
      rw [hB] at this
      rw [hxl]
      exact Nat.le_trans (Nat.mul_le_mul_right _ (by omega)) this
    · obtain ⟨i, hi⟩ := List.mem_iff_getElem?.1 hq
      obtain ⟨hil, hfi⟩ := hget i q hi
      obtain ⟨q', hq', _, hG⟩ := hf i hil
      rw [hfi] at hq'
      obtain rfl := Option.some.inj hq'
      exact hG
def OpensF (P : Program) (fs : List Field) (o : Nat) {α : Type} (d : Kd α) (G : α → Prop) : Prop :=
  ∀ (H : Type) (enc : TypeId × Value → H) (w : World) (base : Nat) (sp : Nat → Bool) (held : Bool) (n : Nat) (cs : List Value) (xs : List (DataW H × List MemPlace)),
    xs.length = fs.length → (∀ (i : Nat) (f : Field), fs[i]? = some f → DataW.trod enc P w base sp held n f.type ((cs.drop f.offset).take (P.cellsOf f.type)) = xs[i]?) →
    (∀ z ∈ DataW.weightsEach P (fs.map (·.type)) (xs.map (·.1)), z ≤ reachBytes) → ∃ v : α, d.K w v ((cs.drop o).take d.sz) ∧ G v
theorem opensF_one {P : Program} {f : Field} {o : Nat} {α : Type} {d : Kd α} {G : α → Prop} (hoff : f.offset = o) (hc : P.cellsOf f.type = d.sz) (ho : Opens P f.type d G) : OpensF P [f] o d G := by
  intro H enc w base sp held n cs xs hl hx hw
  obtain ⟨x, rfl⟩ : ∃ x, xs = [x] := List.length_eq_one_iff.1 hl
  have h0 := hx 0 f rfl
  rw [hoff, hc] at h0
  exact ho H enc w base sp held n _ x h0 (fun z hz => hw z (by simpa [DataW.weightsEach] using hz))
theorem opensF_cons {P : Program} {f : Field} {fs : List Field} {o : Nat} {α β : Type} {d : Kd α} {d2 : Kd β} {G : α → Prop} {G2 : β → Prop} (hoff : f.offset = o) (hc : P.cellsOf f.type = d.sz) (ho : Opens P f.type d G) (hr : OpensF P fs (o + d.sz) d2 G2) :
    OpensF P (f :: fs) o (Kd.pair d d2) (fun v => G v.1 ∧ G2 v.2) := by
  intro H enc w base sp held n cs xs hl hx hw
  obtain ⟨x, xs, rfl⟩ : ∃ x ys, xs = x :: ys := by cases xs with
    | nil => simp at hl
    | cons x ys => exact ⟨x, ys, rfl⟩
  have h0 := hx 0 f rfl
  rw [hoff, hc] at h0
  simp only [List.map_cons, DataW.weightsEach] at hw
  obtain ⟨v1, hK1, hG1⟩ := ho H enc w base sp held n _ x h0 (fun z hz => hw z (List.mem_append_left _ hz))
  obtain ⟨v2, hK2, hG2⟩ := hr H enc w base sp held n cs xs (by simpa using hl) (fun i f' hf => hx (i + 1) f' (by simpa using hf)) (fun z hz => hw z (List.mem_append_right _ hz))
  refine ⟨(v1, v2), ⟨(cs.drop o).take d.sz, (cs.drop (o + d.sz)).take d2.sz, ?_, hK1, hK2⟩, hG1, hG2⟩
  show (cs.drop o).take (d.sz + d2.sz) = _
  rw [List.take_add, List.drop_drop]
theorem opens_struct {P : Program} {t : TypeId} {fs : Array Field} {α : Type} {d : Kd α} {G : α → Prop} (ht : P.underlying t = some (.struct fs)) (hc : P.cellsOf t = d.sz) (ho : OpensF P fs.toList 0 d G) : Opens P t d G := by
  intro H enc w base sp held fuel cs x h hw
  obtain ⟨xs, n, rfl, rfl, hlen, hxl, hf⟩ := DataW.trod_struct ht h
  have hwt : ∀ n ∈ DataW.weights P t (.agg (xs.map (·.1)) : DataW H), n ≤ reachBytes := hw
  simp only [DataW.weights, ht] at hwt
  obtain ⟨v, hK, hG⟩ := ho H enc w base sp held n cs xs (by rw [hxl, Array.length_toList]) (fun i f hi => hf i f (by rw [← Array.getElem?_toList]; exact hi)) hwt
  rw [List.drop_zero, List.take_of_length_le (by omega)] at hK
  exact ⟨v, hK, hG⟩
theorem opens_iso {P : Program} {t : TypeId} {α β : Type} {d : Kd α} {G : α → Prop} (f : β → α) (g : α → β) (hfg : ∀ a, f (g a) = a) (ho : Opens P t d G) : Opens P t (Kd.iso d f) (fun b => G (f b)) := by
  intro H enc w base sp held fuel cs x h hw
  obtain ⟨v, hK, hG⟩ := ho H enc w base sp held fuel cs x h hw
  refine ⟨g v, ?_, ?_⟩
  · show d.K w (f (g v)) cs
    rw [hfg]; exact hK
  · show G (f (g v))
    rw [hfg]; exact hG
theorem opens_arg {P : Program} {t : TypeId} {α : Type} {d : Kd α} {G : α → Prop} (ho : Opens P t d G) {H : Type} {enc : TypeId × Value → H} {w : World} {v : Value} {x : DataW H} {ps : List MemPlace} {ts : List TypeId} {ds : List (DataW H)} {j : Nat}
    (hsz : (DataW.weightsEach P ts ds).all (· ≤ reachBytes) = true) (ht : ts[j]? = some t) (hd : ds[j]? = some x) (h : DataW.Trod enc P w 0 (fun _ => true) true t v x ps) : ∃ y : α, d.K w y v.cells.toList ∧ G y := by
  obtain ⟨fuel, hf⟩ := h
  refine ho H enc w 0 _ _ fuel _ _ hf (fun z hz => ?_)
  have := List.all_eq_true.1 hsz z (DataW.weights_mem_each ht hd z hz)
  simpa using this
theorem okWide_agg {P : Program} {w : World} {r : Reach} {base : Nat} {t : TypeId} {fs : Array Field} {v : Value} (ht : P.underlying t = some (.struct fs)) (h : Value.okWide P w r base t v) : ∃ cs, v = .agg cs := by
  simp only [Value.okWide, ht] at h
  obtain ⟨cs, h, _⟩ := h
  exact ⟨cs, h⟩
theorem agg_of_cells {cs : Array Value} {l : List Value} (h : (Value.agg cs).cells.toList = l) : Value.agg cs = .agg l.toArray := by
  have : cs.toList = l := h
  rw [← this]
theorem slice_of_cells {a : Option Addr} {n c : Nat} {l : List Value} (h : (Value.slice a n c).cells.toList = l) : [Value.slice a n c] = l := h
end Go.Proofs.Ytflefelgdcblgaa.Opener
