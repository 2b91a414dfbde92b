/- The value machine, part 2 of 9. -/
import Derived.Test.YtjddmekfeckphaaGreatVm0
import Derived.Below
import Derived.ChangeKeysEq
import Derived.Laws.Bits
set_option linter.unusedVariables false
set_option linter.unusedSimpArgs false
set_option linter.unnecessarySimpa false
set_option linter.unusedVariables false
namespace Go.Vm
open Go Go.RowKit
def Ahead (w w' : World) : Prop := w'.tape = w.tape ∧ w.drawn ≤ w'.drawn
theorem Ahead.refl (w : World) : Ahead w w := ⟨rfl, Nat.le_refl _⟩
theorem Ahead.trans {w0 w w' : World} (h : Ahead w w') (k : Ahead w0 w) : Ahead w0 w' := ⟨h.1.trans k.1, Nat.le_trans k.2 h.2⟩
def hv (w : World) (b : Nat) : Option (List Value) := match w.heap[b]? with
  | some (.cells arr _ (0, 0)) => some arr.toList
  | _ => none
def cv (w : World) (b o : Nat) : Option Value := w.cell? ⟨b, o, none⟩
theorem hv_eq {w : World} {b : Nat} {l : List Value} (h : hv w b = some l) : ∃ e, w.heap[b]? = some (.cells l.toArray e (0, 0)) := by
  unfold hv at h
  split at h
  · rename_i arr e hh
    cases h
    exact ⟨e, by simpa using hh⟩
  · cases h
theorem hv_of {w : World} {b : Nat} {arr : Array Value} {e : TypeId} (h : w.heap[b]? = some (.cells arr e (0, 0))) : hv w b = some arr.toList := by
  unfold hv; rw [h]; rfl
theorem hv_lt {w : World} {b : Nat} {l : List Value} (h : hv w b = some l) : b < w.heap.size := by
  obtain ⟨e, h⟩ := hv_eq h
  exact (Array.getElem?_eq_some_iff.1 h).1
theorem hv_cv {w : World} {b : Nat} {l : List Value} (h : hv w b = some l) (o : Nat) : cv w b o = l[o]? := by
  obtain ⟨e, h⟩ := hv_eq h
  unfold cv World.cell?
  simp [h]
theorem hv_frozen {w : World} {b : Nat} {l : List Value} (h : hv w b = some l) (o : Nat) : w.frozen? ⟨b, o, none⟩ = false := by
  obtain ⟨e, h⟩ := hv_eq h
  unfold World.frozen?
  simp [h]
theorem hv_same {w w' : World} {b : Nat} (h : w'.heap[b]? = w.heap[b]?) : hv w' b = hv w b := by unfold hv; rw [h]
theorem cv_same {w w' : World} {b : Nat} (h : w'.heap[b]? = w.heap[b]?) (o : Nat) : cv w' b o = cv w b o := World.cell?_of_block (a := ⟨b, o, none⟩) h
def Rows {α : Type} (R : List Value → α → Prop) (sz : Nat) : List Value → List α → Prop
  | _, [] => True
  | cs, x :: xs => ∃ c1 c2, cs = c1 ++ c2 ∧ c1.length = sz ∧ R c1 x ∧ Rows R sz c2 xs
def lies (c : Nat → Nat → Option Value) (b off : Nat) (cs : List Value) : Prop := ∀ j v, cs[j]? = some v → c b (off + j) = some v
def RO (ok : Nat → Prop) (c : Nat → Nat → Option Value) : (t : Ty) → List Value → t.D → Prop
  | .int k, cs, n => cs = [.int k n]
  | .bool, cs, b => cs = [.bool b]
  | .str, cs, s => cs = [.string s]
  | .sl t, cs, xs => ∃ A cap, cs = [.slice A (List.length xs) cap] ∧ List.length xs ≤ cap ∧ (xs ≠ [] → ∃ b off, A = some ⟨b, off, none⟩ ∧ ok b ∧ ∃ ccs, ccs.length = List.length xs * t.cells ∧ lies c b off ccs ∧ Rows (RO ok c t) t.cells ccs xs)
  | .pr a b, cs, x => ∃ c1 c2, cs = c1 ++ c2 ∧ RO ok c a c1 x.1 ∧ RO ok c b c2 x.2
  | .un, cs, _ => cs = []
  | .op, _, _ => False
def RowsF {α : Type} (R : List Value → α → List Nat → Prop) (sz : Nat) : List Value → List α → List Nat → Prop
  | _, [], F => F = []
  | cs, x :: xs, F => ∃ c1 c2 F1 F2, cs = c1 ++ c2 ∧ c1.length = sz ∧ F = F1 ++ F2 ∧ R c1 x F1 ∧ RowsF R sz c2 xs F2
def OwnS {α : Type} (H : Nat → Option (List Value)) (R : List Value → α → List Nat → Prop) (sz : Nat) (A : Option Addr) (cap : Nat) (xs : List α) (F : List Nat) : Prop :=
  (cap = 0 ∧ xs = [] ∧ F = []) ∨ ∃ b off l G, A = some ⟨b, off, none⟩ ∧ H b = some l ∧ off + cap * sz ≤ l.length ∧ xs.length ≤ cap ∧ RowsF R sz (l.drop off) xs G ∧ F = b :: G
def Own (H : Nat → Option (List Value)) : (t : Ty) → List Value → t.D → List Nat → Prop
  | .int k, cs, n, F => cs = [.int k n] ∧ F = []
  | .bool, cs, b, F => cs = [.bool b] ∧ F = []
  | .str, cs, s, F => cs = [.string s] ∧ F = []
  | .sl t, cs, xs, F => ∃ A cap, cs = [.slice A (List.length xs) cap] ∧ OwnS H (Own H t) t.cells A cap xs F
  | .pr a b, cs, x, F => ∃ c1 c2 F1 F2, cs = c1 ++ c2 ∧ F = F1 ++ F2 ∧ Own H a c1 x.1 F1 ∧ Own H b c2 x.2 F2
  | .un, cs, _, F => cs = [] ∧ F = []
  | .op, _, _, _ => False
theorem RO_len {ok : Nat → Prop} {c : Nat → Nat → Option Value} : ∀ {t : Ty} {cs : List Value} {x : t.D}, RO ok c t cs x → cs.length = t.cells
  | .int _, _, _, h | .bool, _, _, h | .str, _, _, h => by simp only [RO] at h; subst h; rfl
  | .sl _, _, _, h => by obtain ⟨A, cap, rfl, _⟩ := h; rfl
  | .pr a b, _, _, h => by
    obtain ⟨c1, c2, rfl, h1, h2⟩ := h
    simp [Ty.cells, RO_len h1, RO_len h2]
  | .un, _, _, h => by simp only [RO] at h; subst h; rfl
  | .op, _, _, h => h.elim
theorem Own_len {H : Nat → Option (List Value)} : ∀ {t : Ty} {cs : List Value} {x : t.D} {F : List Nat}, Own H t cs x F → cs.length = t.cells
  | .int _, _, _, _, h | .bool, _, _, _, h | .str, _, _, _, h => by obtain ⟨rfl, _⟩ := h; rfl
  | .sl _, _, _, _, h => by obtain ⟨A, cap, rfl, _⟩ := h; rfl
  | .pr a b, _, _, _, h => by
    obtain ⟨c1, c2, F1, F2, rfl, _, h1, h2⟩ := h
    simp [Ty.cells, Own_len h1, Own_len h2]
  | .un, _, _, _, h => by obtain ⟨rfl, _⟩ := h; rfl
  | .op, _, _, _, h => h.elim
theorem Rows_mono {α : Type} {R R' : List Value → α → Prop} {sz : Nat} : ∀ {xs : List α} {cs : List Value}, (∀ cs, ∀ x ∈ xs, R cs x → R' cs x) → Rows R sz cs xs → Rows R' sz cs xs
  | [], _, _, _ => trivial
  | x :: xs, _, h, ⟨c1, c2, e, l, h1, h2⟩ => ⟨c1, c2, e, l, h _ x (by simp) h1, Rows_mono (fun cs y hy => h cs y (by simp [hy])) h2⟩
theorem RO_mono {ok ok' : Nat → Prop} {c c' : Nat → Nat → Option Value} (hok : ∀ b, ok b → ok' b) (hc : ∀ b, ok b → ∀ o, c' b o = c b o) : ∀ {t : Ty} {cs : List Value} {x : t.D}, RO ok c t cs x → RO ok' c' t cs x
  | .int _, _, _, h | .bool, _, _, h | .str, _, _, h => h
  | .sl t, _, xs, ⟨A, cap, e, hl, h⟩ => ⟨A, cap, e, hl, fun hx => by
    obtain ⟨b, off, hA, hb, ccs, hn, hli, hr⟩ := h hx
    exact ⟨b, off, hA, hok b hb, ccs, hn, fun j v hv => by rw [hc b hb]; exact hli j v hv, Rows_mono (fun cs x _ hx => RO_mono hok hc hx) hr⟩⟩
  | .pr a b, _, _, ⟨c1, c2, e, h1, h2⟩ => ⟨c1, c2, e, RO_mono hok hc h1, RO_mono hok hc h2⟩
  | .un, _, _, h => h
  | .op, _, _, h => h.elim
theorem RowsF_mono {α : Type} {R R' : List Value → α → List Nat → Prop} {sz : Nat} : ∀ {xs : List α} {cs : List Value} {F : List Nat}, (∀ cs x G, (∀ b ∈ G, b ∈ F) → R cs x G → R' cs x G) → RowsF R sz cs xs F → RowsF R' sz cs xs F
  | [], _, _, _, h => h
  | x :: xs, _, F, h, ⟨c1, c2, F1, F2, e, l, eF, h1, h2⟩ => ⟨c1, c2, F1, F2, e, l, eF, h _ _ _ (fun b hb => by rw [eF]; simp [hb]) h1, RowsF_mono (fun cs y G hG => h cs y G (fun b hb => by rw [eF]; simp [hG b hb])) h2⟩
theorem Own_mono {H H' : Nat → Option (List Value)} : ∀ {t : Ty} {cs : List Value} {x : t.D} {F : List Nat}, (∀ b ∈ F, H' b = H b) → Own H t cs x F → Own H' t cs x F
  | .int _, _, _, _, _, h | .bool, _, _, _, _, h | .str, _, _, _, _, h => h
  | .sl t, _, xs, F, hH, ⟨A, cap, e, h⟩ => by
    refine ⟨A, cap, e, h.imp id ?_⟩
    rintro ⟨b, off, l, G, hA, hb, h1, h2, hr, rfl⟩
    exact ⟨b, off, l, G, hA, (hH b (by simp)).trans hb, h1, h2, RowsF_mono (fun cs x G' hG h => Own_mono (fun b' hb' => hH b' (by simp [hG b' hb'])) h) hr, rfl⟩
  | .pr a b, _, _, F, hH, ⟨c1, c2, F1, F2, e, eF, h1, h2⟩ => by
    subst eF
    exact ⟨c1, c2, F1, F2, e, rfl, Own_mono (fun b hb => hH b (by simp [hb])) h1, Own_mono (fun b hb => hH b (by simp [hb])) h2⟩
  | .un, _, _, _, _, h => h
  | .op, _, _, _, _, h => h.elim
theorem OwnS_mono {H H' : Nat → Option (List Value)} {t : Ty} {A : Option Addr} {cap : Nat} {xs : List t.D} {F : List Nat} (hH : ∀ b ∈ F, H' b = H b)
    (h : OwnS H (Own H t) t.cells A cap xs F) : OwnS H' (Own H' t) t.cells A cap xs F := by
  have := Own_mono (t := .sl t) (cs := [.slice A xs.length cap]) (x := xs) hH ⟨A, cap, rfl, h⟩
  obtain ⟨A', cap', e, h'⟩ := this
  injection e with e
  injection e with e1 e2 e3
  subst e1; subst e3
  exact h'
theorem Rows_of_F {α : Type} {R : List Value → α → List Nat → Prop} {R' : List Value → α → Prop} {sz : Nat} : ∀ {xs : List α} {cs : List Value} {F : List Nat}, (∀ cs x G, (∀ b ∈ G, b ∈ F) → R cs x G → R' cs x) → RowsF R sz cs xs F → Rows R' sz cs xs
  | [], _, _, _, _ => trivial
  | x :: xs, _, F, h, ⟨c1, c2, F1, F2, e, l, eF, h1, h2⟩ => ⟨c1, c2, e, l, h _ _ _ (fun b hb => by rw [eF]; simp [hb]) h1, Rows_of_F (fun cs y G hG => h cs y G (fun b hb => by rw [eF]; simp [hG b hb])) h2⟩
theorem RowsF_len {α : Type} {R : List Value → α → List Nat → Prop} {sz : Nat} : ∀ {xs : List α} {cs : List Value} {F : List Nat}, RowsF R sz cs xs F → xs.length * sz ≤ cs.length
  | [], _, _, _ => by simp
  | x :: xs, _, F, ⟨c1, c2, F1, F2, e, l, eF, h1, h2⟩ => by
    subst e
    have := RowsF_len h2
    simp [Nat.succ_mul, l]
    omega
theorem Rows_take {α : Type} {R : List Value → α → Prop} {sz : Nat} : ∀ {xs : List α} {cs : List Value} (n : Nat), xs.length * sz ≤ n → Rows R sz cs xs → Rows R sz (cs.take n) xs
  | [], _, _, _, _ => trivial
  | x :: xs, _, n, hn, ⟨c1, c2, e, l, h1, h2⟩ => by
    subst e
    simp [Nat.succ_mul] at hn
    refine ⟨c1, c2.take (n - sz), ?_, l, h1, Rows_take (n - sz) (by omega) h2⟩
    rw [List.take_append, l, List.take_of_length_le (by omega)]
theorem Own_RO {H : Nat → Option (List Value)} {ok : Nat → Prop} {c : Nat → Nat → Option Value} : ∀ {t : Ty} {cs : List Value} {x : t.D} {F : List Nat}, (∀ b ∈ F, ok b) → (∀ b ∈ F, ∀ l, H b = some l → ∀ o, c b o = l[o]?) → Own H t cs x F → RO ok c t cs x
  | .int _, _, _, _, _, _, h | .bool, _, _, _, _, _, h | .str, _, _, _, _, _, h => h.1
  | .sl t, _, xs, F, hok, hc, ⟨A, cap, e, h⟩ => by
    rcases h with ⟨rfl, rfl, rfl⟩ | ⟨b, off, l, G, hA, hb, h1, h2, hr, rfl⟩
    · exact ⟨A, 0, e, by simp, fun h => absurd rfl h⟩
    · refine ⟨A, cap, e, h2, fun _ => ⟨b, off, hA, hok b (by simp), (l.drop off).take (List.length xs * t.cells), ?_, ?_, ?_⟩⟩
      · have := RowsF_len hr
        rw [List.length_take]; omega
      · intro j v hv
        rw [List.getElem?_take] at hv
        split at hv
        · rw [hc b (by simp) l hb]; simpa [List.getElem?_drop] using hv
        · cases hv
      · exact Rows_take _ (Nat.le_refl _) (Rows_of_F (fun cs x G' hG h => Own_RO (fun b hb => hok b (by simp [hG b hb])) (fun b hb => hc b (by simp [hG b hb])) h) hr)
  | .pr a b, _, _, F, hok, hc, ⟨c1, c2, F1, F2, e, eF, h1, h2⟩ => by
    subst eF
    exact ⟨c1, c2, e, Own_RO (fun b hb => hok b (by simp [hb])) (fun b hb => hc b (by simp [hb])) h1, Own_RO (fun b hb => hok b (by simp [hb])) (fun b hb => hc b (by simp [hb])) h2⟩
  | .un, _, _, _, _, _, h => h.1
  | .op, _, _, _, _, _, h => h.elim
theorem RO_flat {ok : Nat → Prop} {c : Nat → Nat → Option Value} : ∀ {t : Ty} {cs : List Value} {x : t.D}, t.flat = true → (RO ok c t cs x ↔ cs = t.enc x)
  | .int _, _, _, _ | .bool, _, _, _ | .str, _, _, _ | .un, _, _, _ => Iff.rfl
  | .sl _, _, _, h => by simp [Ty.flat] at h
  | .op, _, _, h => by simp [Ty.flat] at h
  | .pr a b, cs, x, h => by
    simp [Ty.flat] at h
    constructor
    · rintro ⟨c1, c2, rfl, h1, h2⟩
      rw [(RO_flat h.1).1 h1, (RO_flat h.2).1 h2]; rfl
    · rintro rfl
      exact ⟨_, _, rfl, (RO_flat h.1).2 rfl, (RO_flat h.2).2 rfl⟩
theorem Own_flat {H : Nat → Option (List Value)} : ∀ {t : Ty} {cs : List Value} {x : t.D} {F : List Nat}, t.flat = true → (Own H t cs x F ↔ cs = t.enc x ∧ F = [])
  | .int _, _, _, _, _ | .bool, _, _, _, _ | .str, _, _, _, _ | .un, _, _, _, _ => Iff.rfl
  | .sl _, _, _, _, h => by simp [Ty.flat] at h
  | .op, _, _, _, h => by simp [Ty.flat] at h
  | .pr a b, cs, x, F, h => by
    simp [Ty.flat] at h
    constructor
    · rintro ⟨c1, c2, F1, F2, rfl, rfl, h1, h2⟩
      obtain ⟨rfl, rfl⟩ := (Own_flat h.1).1 h1
      obtain ⟨rfl, rfl⟩ := (Own_flat h.2).1 h2
      exact ⟨rfl, rfl⟩
    · rintro ⟨rfl, rfl⟩
      exact ⟨_, _, [], [], rfl, rfl, (Own_flat h.1).2 ⟨rfl, rfl⟩, (Own_flat h.2).2 ⟨rfl, rfl⟩⟩
theorem enc_len : ∀ {t : Ty} {x : t.D}, (t.enc x).length = t.cells
  | .int _, _ | .bool, _ | .str, _ | .un, _ | .sl _, _ | .op, _ => rfl
  | .pr a b, x => by simp [Ty.enc, Ty.cells, enc_len]
theorem RowsF_get {α : Type} {R : List Value → α → List Nat → Prop} {sz : Nat} : ∀ {xs : List α} {cs : List Value} {F : List Nat} (i : Nat) (d : α), i < xs.length → RowsF R sz cs xs F →
    ∃ p c q F1 F2 F3, cs = p ++ (c ++ q) ∧ p.length = i * sz ∧ c.length = sz ∧ F = F1 ++ (F2 ++ F3) ∧ R c (xs.getD i d) F2 ∧
      (∀ (R' : List Value → α → List Nat → Prop) c' y F', (∀ cs x G, (∀ b ∈ G, b ∈ F1 ++ F3) → R cs x G → R' cs x G) → c'.length = sz → R' c' y F' → RowsF R' sz (p ++ (c' ++ q)) (xs.set i y) (F1 ++ (F' ++ F3)))
  | [], _, _, i, _, hi, _ => by simp at hi
  | x :: xs, _, F, 0, d, _, ⟨c1, c2, F1, F2, e, l, eF, h1, h2⟩ => ⟨[], c1, c2, [], F1, F2, by simpa using e, by simp, l, by simpa using eF, by simpa using h1,
      fun R' c' y F' hm hl hr => ⟨c', c2, F', F2, by simp, hl, by simp, hr, RowsF_mono (fun cs x G hG h => hm cs x G (by simpa using hG) h) h2⟩⟩
  | x :: xs, _, F, i + 1, d, hi, ⟨c1, c2, F1, F2, e, l, eF, h1, h2⟩ => by
    obtain ⟨p, c, q, G1, G2, G3, e2, hp, hc, eG, hr, hs⟩ := RowsF_get i d (by simpa using hi) h2
    refine ⟨c1 ++ p, c, q, F1 ++ G1, G2, G3, by simp [e, e2], by simp [l, hp, Nat.succ_mul]; omega, hc, by simp [eF, eG], by simpa using hr, fun R' c' y F' hm hl hr' => ?_⟩
    refine ⟨c1, p ++ (c' ++ q), F1, G1 ++ (F' ++ G3), by simp, l, by simp, hm _ _ _ (fun b hb => by simp [hb]) h1, hs R' c' y F' (fun cs x G hG h => hm cs x G (fun b hb => ?_) h) hl hr'⟩
    have := hG b hb
    simp at this ⊢
    grind
theorem Rows_get {α : Type} {R : List Value → α → Prop} {sz : Nat} : ∀ {xs : List α} {cs : List Value} (i : Nat) (d : α), i < xs.length → Rows R sz cs xs →
    ∃ p c q, cs = p ++ (c ++ q) ∧ p.length = i * sz ∧ c.length = sz ∧ R c (xs.getD i d)
  | [], _, i, _, hi, _ => by simp at hi
  | x :: xs, _, 0, d, _, ⟨c1, c2, e, l, h1, h2⟩ => ⟨[], c1, c2, by simpa using e, by simp, l, by simpa using h1⟩
  | x :: xs, _, i + 1, d, hi, ⟨c1, c2, e, l, h1, h2⟩ => by
    obtain ⟨p, c, q, e2, hp, hc, hr⟩ := Rows_get i d (by simpa using hi) h2
    exact ⟨c1 ++ p, c, q, by simp [e, e2], by simp [l, hp, Nat.succ_mul]; omega, hc, by simpa using hr⟩
theorem RowsF_append {α : Type} {R : List Value → α → List Nat → Prop} {sz : Nat} : ∀ {xs ys : List α} {cs ds : List Value} {F G : List Nat}, cs.length = xs.length * sz → RowsF R sz cs xs F → RowsF R sz ds ys G → RowsF R sz (cs ++ ds) (xs ++ ys) (F ++ G)
  | [], _, cs, _, _, _, hl, h, h' => by
    simp at hl
    cases h
    subst hl
    simpa using h'
  | x :: xs, ys, _, ds, F, G, hl, ⟨c1, c2, F1, F2, e, l, eF, h1, h2⟩, h' => by
    subst e; subst eF
    simp [Nat.succ_mul, l] at hl
    exact ⟨c1, c2 ++ ds, F1, F2 ++ G, by simp, l, by simp, h1, RowsF_append (by omega) h2 h'⟩
theorem RowsF_cut {α : Type} {R : List Value → α → List Nat → Prop} {sz : Nat} : ∀ {xs : List α} {cs : List Value} {F : List Nat} (n : Nat), xs.length * sz ≤ n → RowsF R sz cs xs F → RowsF R sz (cs.take n) xs F
  | [], _, _, _, _, h => h
  | x :: xs, _, F, n, hn, ⟨c1, c2, F1, F2, e, l, eF, h1, h2⟩ => by
    subst e
    simp [Nat.succ_mul] at hn
    refine ⟨c1, c2.take (n - sz), F1, F2, ?_, l, eF, h1, RowsF_cut (n - sz) (by omega) h2⟩
    rw [List.take_append, l, List.take_of_length_le (by omega)]
theorem RowsF_of_prefix {α : Type} {R : List Value → α → List Nat → Prop} {sz : Nat} : ∀ {xs : List α} {cs ds : List Value} {F : List Nat}, cs.take (xs.length * sz) = ds.take (xs.length * sz) → xs.length * sz ≤ ds.length → RowsF R sz cs xs F → RowsF R sz ds xs F
  | [], _, _, _, _, _, h => h
  | x :: xs, _, ds, F, he, hd, ⟨c1, c2, F1, F2, e, l, eF, h1, h2⟩ => by
    subst e
    simp only [List.length_cons, Nat.succ_mul] at he hd
    have hc1 : ds.take sz = c1 := by
      have := congrArg (List.take sz) he
      rw [List.take_take, List.take_take, Nat.min_eq_left (by omega), ← l] at this
      rw [← l, ← this]; simp
    refine ⟨c1, ds.drop sz, F1, F2, ?_, l, eF, h1, RowsF_of_prefix ?_ ?_ h2⟩
    · rw [← hc1, List.take_append_drop]
    · have := congrArg (List.drop sz) he
      rw [List.drop_take, List.drop_take, ← l] at this
      simp at this
      rw [l] at this
      exact this
    · rw [List.length_drop]; omega
theorem RowsF_replicate {α : Type} {R : List Value → α → List Nat → Prop} {sz : Nat} {x : α} {c : List Value} (hc : c.length = sz) (h : R c x []) : ∀ n, RowsF R sz (List.replicate n c).flatten (List.replicate n x) []
  | 0 => rfl
  | n + 1 => ⟨c, (List.replicate n c).flatten, [], [], by simp [List.replicate_succ], hc, rfl, h, RowsF_replicate hc h n⟩
end Go.Vm
set_option linter.unusedVariables false
namespace Go.Vm
open Go Go.RowKit
def cellAt (H : Nat → Option (List Value)) (b o : Nat) : Option Value := (H b).bind (·[o]?)
def walk (H : Nat → Option (List Value)) : (t : Ty) → (b off : Nat) → List Stp → Option (Nat × Nat)
  | _, b, off, [] => some (b, off)
  | .pr a _, b, off, .f 0 :: p => walk H a b off p
  | .pr a d, b, off, .f (j + 1) :: p => walk H d b (off + a.cells) (.f j :: p)
  | .sl t, b, off, .i n :: p => match cellAt H b off with
    | some (.slice (some ⟨b1, o1, none⟩) len _) => if n < len then walk H t b1 (o1 + n * t.cells) p else none
    | _ => none
  | _, _, _, _ => none
def isSl : Value → Bool
  | .slice _ _ _ => true
  | _ => false
theorem walk_mono {H H2 : Nat → Option (List Value)} (h : ∀ b o v, cellAt H b o = some v → isSl v = true → cellAt H2 b o = some v) : ∀ {t : Ty} {p : List Stp} {b off : Nat} {r : Nat × Nat}, walk H t b off p = some r → walk H2 t b off p = some r
  | t, [], _, _, _, hw => by cases t <;> exact hw
  | .pr a d, .f 0 :: p, _, _, _, hw => walk_mono (t := a) h hw
  | .pr a d, .f (j + 1) :: p, _, _, _, hw => walk_mono (t := d) h hw
  | .sl t, .i n :: p, b, off, r, hw => by
    simp only [walk] at hw ⊢
    split at hw
    · rename_i b1 o1 len cap hc
      rw [h b off _ hc rfl]
      simp only
      split at hw
      · rename_i hn
        rw [if_pos hn]
        exact walk_mono (t := t) h hw
      · cases hw
    · cases hw
  | .int _, _ :: _, _, _, _, hw | .bool, _ :: _, _, _, _, hw | .str, _ :: _, _, _, _, hw | .un, _ :: _, _, _, _, hw | .op, _ :: _, _, _, _, hw => by simp [walk] at hw
  | .pr a d, .i _ :: _, _, _, _, hw => by simp [walk] at hw
  | .sl t, .f _ :: _, _, _, _, hw => by simp [walk] at hw
def sits (H : Nat → Option (List Value)) (b off : Nat) (cs : List Value) : Prop := ∃ l, H b = some l ∧ off + cs.length ≤ l.length ∧ (l.drop off).take cs.length = cs
theorem sits_cell {H : Nat → Option (List Value)} {b off : Nat} {cs : List Value} (h : sits H b off cs) {j : Nat} {v : Value} (hv : cs[j]? = some v) : cellAt H b (off + j) = some v := by
  obtain ⟨l, hl, hn, he⟩ := h
  have hj : j < cs.length := (List.getElem?_eq_some_iff.1 hv).1
  rw [← he, List.getElem?_take] at hv
  rw [if_pos hj, List.getElem?_drop] at hv
  simp [cellAt, hl, hv]
theorem sits_left {H : Nat → Option (List Value)} {b off : Nat} {c1 c2 : List Value} (h : sits H b off (c1 ++ c2)) : sits H b off c1 := by
  obtain ⟨l, hl, hn, he⟩ := h
  simp at hn
  refine ⟨l, hl, by omega, ?_⟩
  have := congrArg (List.take c1.length) he
  rw [List.take_take] at this
  simpa [Nat.min_eq_left] using this
theorem sits_right {H : Nat → Option (List Value)} {b off : Nat} {c1 c2 : List Value} (h : sits H b off (c1 ++ c2)) : sits H b (off + c1.length) c2 := by
  obtain ⟨l, hl, hn, he⟩ := h
  simp at hn
  refine ⟨l, hl, by omega, ?_⟩
  have := congrArg (List.drop c1.length) he
  rw [List.drop_take, List.drop_drop] at this
  simpa using this
theorem sits_same {H H2 : Nat → Option (List Value)} {b off : Nat} {cs : List Value} (h : sits H b off cs) (e : H2 b = H b) : sits H2 b off cs := by
  obtain ⟨l, hl, r⟩ := h
  exact ⟨l, e.trans hl, r⟩
theorem sits_rows {H : Nat → Option (List Value)} {b off : Nat} {l p c q : List Value} (hl : H b = some l) (e : l.drop off = p ++ (c ++ q)) (hoff : off ≤ l.length) : sits H b (off + p.length) c := by
  refine ⟨l, hl, ?_, ?_⟩
  · have := congrArg List.length e
    simp at this; omega
  · rw [← List.drop_drop, e]; simp
def setC (l : List Value) (off : Nat) (cs : List Value) : List Value := l.take off ++ (cs ++ l.drop (off + cs.length))
theorem setC_len {l : List Value} {off : Nat} {cs : List Value} (h : off + cs.length ≤ l.length) : (setC l off cs).length = l.length := by
  simp [setC]; omega
theorem setC_at {l : List Value} {off : Nat} {cs : List Value} (h : off + cs.length ≤ l.length) : ((setC l off cs).drop off).take cs.length = cs := by
  unfold setC
  rw [List.drop_append, List.drop_take]
  simp [Nat.min_eq_left (show off ≤ l.length by omega)]
theorem setC_get {l : List Value} {off : Nat} {cs : List Value} (h : off + cs.length ≤ l.length) (j : Nat) (hj : j < off ∨ off + cs.length ≤ j) : (setC l off cs)[j]? = l[j]? := by
  unfold setC
  rcases hj with hj | hj
  · rw [List.getElem?_append_left (by simp; omega), List.getElem?_take, if_pos hj]
  · rw [List.getElem?_append_right (by simp; omega), List.getElem?_append_right (by simp; omega), List.getElem?_drop]
    simp; congr 1; omega
theorem setC_in {l : List Value} {off : Nat} {cs : List Value} (h : off + cs.length ≤ l.length) (j : Nat) (hj : j < cs.length) : (setC l off cs)[off + j]? = cs[j]? := by
  have := congrArg (fun x => x[j]?) (setC_at h)
  simp only [List.getElem?_take, hj, if_true, List.getElem?_drop] at this
  exact this
theorem eq_of_range {l m : List Value} {off n : Nat} (hl : off + n ≤ l.length) (hm : off + n ≤ m.length) (h : ∀ j, off ≤ j → j < off + n → m[j]? = l[j]?) : (m.drop off).take n = (l.drop off).take n := by
  apply List.ext_getElem?
  intro j
  rw [List.getElem?_take, List.getElem?_take]
  split
  · rename_i hj
    rw [List.getElem?_drop, List.getElem?_drop]
    exact h (off + j) (by omega) (by omega)
  · rfl
theorem sits_setC {H H2 : Nat → Option (List Value)} {b off : Nat} {cs : List Value} (h : sits H b off cs) {l : List Value} {o : Nat} {ds : List Value} (hl : H b = some l) (h2 : H2 b = some (setC l o ds)) (hd : o + ds.length ≤ l.length)
    (hap : off + cs.length ≤ o ∨ o + ds.length ≤ off) : sits H2 b off cs := by
  obtain ⟨l', hl', hn, he⟩ := h
  obtain rfl : l = l' := Option.some.inj (hl.symm.trans hl')
  refine ⟨_, h2, by rw [setC_len hd]; exact hn, ?_⟩
  rw [← he]
  simp only [List.length_take, List.length_drop]
  rw [Nat.min_eq_left (by omega)]
  exact eq_of_range (by omega) (by rw [setC_len hd]; omega) (fun j h1 h2 => setC_get hd j (by omega))
theorem nodup_mid {P M Q : List Nat} (h : (P ++ (M ++ Q)).Nodup) : ∀ b ∈ M, b ∉ P ++ Q := by
  intro b hb hq
  rw [List.nodup_append] at h
  obtain ⟨_, h2, h3⟩ := h
  rw [List.nodup_append] at h2
  rcases List.mem_append.1 hq with hq | hq
  · exact h3 b hq b (List.mem_append.2 (.inl hb)) rfl
  · exact h2.2.2 b hb b hq rfl
theorem Dy_as_self (t : Ty) (x : t.D) : Dy.as ⟨t, x⟩ t = some x := by simp [Dy.as]
theorem Dy_as {d : Dy} {t : Ty} {x : t.D} (h : d.as t = some x) : d = ⟨t, x⟩ := by
  obtain ⟨t', y⟩ := d
  unfold Dy.as at h
  split at h
  · rename_i e
    dsimp at e
    subst e
    cases h
    rfl
  · cases h
theorem path_set {H : Nat → Option (List Value)} : ∀ (t : Ty) {cs : List Value} {x : t.D} {F : List Nat} {b off : Nat} {p : List Stp} {t' : Ty} {x' : t'.D} {b' off' : Nat},
    sits H b off cs → Own H t cs x F → b ∉ F → F.Nodup → getP t x p = some ⟨t', x'⟩ → walk H t b off p = some (b', off') →
    ∃ l' cs' P F' Q, H b' = some l' ∧ off' + t'.cells ≤ l'.length ∧ sits H b' off' cs' ∧ Own H t' cs' x' F' ∧ F = P ++ (F' ++ Q) ∧ b' ∈ b :: (P ++ Q) ∧ b' ∉ F' ∧
      (b' = b → off ≤ off' ∧ off' + t'.cells ≤ off + t.cells) ∧
      ∀ (H2 : Nat → Option (List Value)) cs2 (x2 : t'.D) F2, cs2.length = t'.cells → H2 b' = some (setC l' off' cs2) → (∀ c ∈ b :: (P ++ Q), c ≠ b' → H2 c = H c) → Own H2 t' cs2 x2 F2 →
        ∃ y csN, setP t x p ⟨t', x2⟩ = some y ∧ sits H2 b off csN ∧ Own H2 t csN y (P ++ (F2 ++ Q)) := by
  intro t
  have base : ∀ (t : Ty) {cs : List Value} {x : t.D} {F : List Nat} {b off : Nat} {t' : Ty} {x' : t'.D} {b' off' : Nat},
    sits H b off cs → Own H t cs x F → b ∉ F → getP t x [] = some ⟨t', x'⟩ → walk H t b off [] = some (b', off') →
    ∃ l' cs' P F' Q, H b' = some l' ∧ off' + t'.cells ≤ l'.length ∧ sits H b' off' cs' ∧ Own H t' cs' x' F' ∧ F = P ++ (F' ++ Q) ∧ b' ∈ b :: (P ++ Q) ∧ b' ∉ F' ∧
      (b' = b → off ≤ off' ∧ off' + t'.cells ≤ off + t.cells) ∧
      ∀ (H2 : Nat → Option (List Value)) cs2 (x2 : t'.D) F2, cs2.length = t'.cells → H2 b' = some (setC l' off' cs2) → (∀ c ∈ b :: (P ++ Q), c ≠ b' → H2 c = H c) → Own H2 t' cs2 x2 F2 →
        ∃ y csN, setP t x [] ⟨t', x2⟩ = some y ∧ sits H2 b off csN ∧ Own H2 t csN y (P ++ (F2 ++ Q)) := by
    intro t cs x F b off t' x' b' off' hs ho hb hg hw
    have e1 : getP t x [] = some ⟨t, x⟩ := by cases t <;> rfl
    have e2 : walk H t b off [] = some (b, off) := by cases t <;> rfl
    have e3 : ∀ v, setP t x [] v = v.as t := by intro v; cases t <;> rfl
    rw [e1] at hg; rw [e2] at hw
    injection hg with hg
    injection hg with h1 h2
    subst h1
    cases h2
    injection hw with hw
    injection hw with hw1 hw2
    subst hw1; subst hw2
    obtain ⟨l, hl, hn, he⟩ := hs
    rw [Own_len ho] at hn he
    refine ⟨l, cs, [], F, [], hl, hn, ⟨l, hl, by rw [Own_len ho]; exact hn, by rw [Own_len ho]; exact he⟩, ho, by simp, by simp, hb, fun _ => ⟨Nat.le_refl _, Nat.le_refl _⟩, ?_⟩
    intro H2 cs2 x2 F2 hc h2 hsame hown
    refine ⟨x2, cs2, by rw [e3, Dy_as_self], ⟨_, h2, by rw [setC_len (by omega)]; omega, setC_at (by omega)⟩, by simpa using hown⟩
  induction t with
  | int k | bool | str | un | op =>
    intro cs x F b off p t' x' b' off' hs ho hb hnd hg hw
    cases p with
    | nil => exact base _ hs ho hb hg hw
    | cons s p => simp [walk] at hw
  | pr a d iha ihd =>
    intro cs x F b off p t' x' b' off' hs ho hb hnd hg hw
    cases p with
    | nil => exact base _ hs ho hb hg hw
    | cons s p =>
      obtain ⟨c1, c2, F1, F2, rfl, rfl, h1, h2⟩ := ho
      have hl1 := Own_len h1
      have hl2 := Own_len h2
      have hnd1 := (List.nodup_append.1 hnd).1
      have hnd2 := (List.nodup_append.1 hnd).2.1
      have hdis := (List.nodup_append.1 hnd).2.2
      cases s with
      | i n => simp [walk] at hw
      | f j =>
        cases j with
        | zero =>
          obtain ⟨l', cs', P, F', Q, hl', hn', hs', ho', hF, hmem, hnot, hin, hput⟩ := iha (sits_left hs) h1 (fun h => hb (by simp [h])) hnd1 hg hw
          have hb'2 : b' ∉ F2 := by
            intro hm
            rcases List.mem_cons.1 hmem with rfl | hm'
            · exact hb (by simp [hm])
            · have : b' ∈ F1 := by rw [hF]; simp at hm' ⊢; grind
              exact hdis b' this b' hm rfl
          refine ⟨l', cs', P, F', Q ++ F2, hl', hn', hs', ho', by rw [hF]; simp, by simp at hmem ⊢; grind, hnot, fun e => ⟨(hin e).1, by have := (hin e).2; simp only [Ty.cells]; omega⟩, ?_⟩
          intro H2 cs2 x2 G hc hH2 hsame hown
          obtain ⟨y, csN, hy, hsN, hoN⟩ := hput H2 cs2 x2 G hc hH2 (fun c hm hne => hsame c (by simp at hm ⊢; grind) hne) hown
          have hlN := Own_len hoN
          refine ⟨(y, x.2), csN ++ c2, by simp [setP, hy], ?_, ⟨csN, c2, P ++ (G ++ Q), F2, rfl, by simp, hoN, Own_mono (fun c hm => hsame c (by simp; grind) (fun e => hb'2 (e ▸ hm))) h2⟩⟩
          -- the right neighbour stays
          have hr : sits H2 b (off + c1.length) c2 := by
            by_cases e : b' = b
            · subst e
              have := hin rfl
              exact sits_setC (sits_right hs) hl' hH2 (by omega) (.inr (by rw [hl1]; omega))
            · exact sits_same (sits_right hs) (hsame b (by simp) (fun h => e h.symm))
          obtain ⟨m, hm, hmn, hme⟩ := hsN
          obtain ⟨m', hm', hmn', hme'⟩ := hr
          obtain rfl : m = m' := Option.some.inj (hm.symm.trans hm')
          refine ⟨m, hm, by simp; omega, ?_⟩
          rw [hl1] at hme' hmn'
          rw [hlN] at hme hmn
          rw [List.length_append, hlN, List.take_add, List.drop_drop, hme, hme']
        | succ j =>
          obtain ⟨l', cs', P, F', Q, hl', hn', hs', ho', hF, hmem, hnot, hin, hput⟩ := ihd (off := off + a.cells) (by have := sits_right hs; rwa [hl1] at this) h2 (fun h => hb (by simp [h])) hnd2 hg hw
          have hb'2 : b' ∉ F1 := by
            intro hm
            rcases List.mem_cons.1 hmem with rfl | hm'
            · exact hb (by simp [hm])
            · have : b' ∈ F2 := by rw [hF]; simp at hm' ⊢; grind
              exact hdis b' hm b' this rfl
          refine ⟨l', cs', F1 ++ P, F', Q, hl', hn', hs', ho', by rw [hF]; simp, by simp at hmem ⊢; grind, hnot, fun e => ⟨by have := (hin e).1; omega, by have := (hin e).2; simp only [Ty.cells]; omega⟩, ?_⟩
          intro H2 cs2 x2 G hc hH2 hsame hown
          obtain ⟨y, csN, hy, hsN, hoN⟩ := hput H2 cs2 x2 G hc hH2 (fun c hm hne => hsame c (by simp at hm ⊢; grind) hne) hown
          have hlN := Own_len hoN
          refine ⟨(x.1, y), c1 ++ csN, by simp [setP, hy], ?_, ⟨c1, csN, F1, P ++ (G ++ Q), rfl, by simp, Own_mono (fun c hm => hsame c (by simp; grind) (fun e => hb'2 (e ▸ hm))) h1, hoN⟩⟩
          have hr : sits H2 b off c1 := by
            by_cases e : b' = b
            · subst e
              have := hin rfl
              exact sits_setC (sits_left hs) hl' hH2 (by omega) (.inl (by rw [hl1]; omega))
            · exact sits_same (sits_left hs) (hsame b (by simp) (fun h => e h.symm))
          obtain ⟨m, hm, hmn, hme⟩ := hsN
          obtain ⟨m', hm', hmn', hme'⟩ := hr
          obtain rfl : m = m' := Option.some.inj (hm.symm.trans hm')
          refine ⟨m, hm, by simp; omega, ?_⟩
          rw [hl1] at hme' hmn'
          rw [hlN] at hme hmn
          rw [List.length_append, hl1, hlN, List.take_add, List.drop_drop, hme, hme']
  | sl t ih =>
    intro cs x F b off p t' x' b' off' hs ho hb hnd hg hw
    cases p with
    | nil => exact base _ hs ho hb hg hw
    | cons s p =>
      cases s with
      | f j => simp [walk] at hw
      | i n =>
        obtain ⟨A, cap, rfl, ho⟩ := ho
        have hcell : cellAt H b off = some (.slice A (List.length x) cap) := by simpa using sits_cell hs (j := 0) rfl
        simp only [walk, hcell] at hw
        rcases ho with ⟨rfl, rfl, rfl⟩ | ⟨b1, o1, l1, G, rfl, hb1, hcap, hlen, hr, rfl⟩
        · cases A with
          | none => simp at hw
          | some A =>
            obtain ⟨A1, A2, A3⟩ := A
            cases A3 <;> simp at hw
        · simp only at hw
          split at hw
          case isFalse => cases hw
          rename_i hn
          obtain ⟨pp, c, q, G1, G2, G3, ec, hp, hcl, eG, hel, hset⟩ := RowsF_get n t.zero hn hr
          subst eG
          have hb1G : b1 ∉ G1 ++ (G2 ++ G3) := (List.nodup_cons.1 hnd).1
          have hGnd := (List.nodup_cons.1 hnd).2
          have hG2nd : G2.Nodup := (List.nodup_append.1 (List.nodup_append.1 hGnd).2.1).1
          have hmid := nodup_mid hGnd
          have ho1 : o1 ≤ l1.length := by omega
          have hsc : sits H b1 (o1 + n * t.cells) c := by have := sits_rows hb1 ec ho1; rwa [hp] at this
          have hge : getP t ((x : List t.D).getD n t.zero) p = some ⟨t', x'⟩ := hg
          obtain ⟨l', cs', P, F', Q, hl', hn', hs', ho', hF, hmem, hnot, hin, hput⟩ := ih hsc hel (fun h => hb1G (by simp [h])) hG2nd hge hw
          have hbne : b ≠ b1 := fun h => hb (by simp [h])
          have hb'b : b ≠ b' := by
            intro e
            rcases List.mem_cons.1 hmem with h | h
            · exact hbne (e.trans h)
            · exact hb (by rw [e]; simp [hF] at h ⊢; grind)
          have hout : b' ∉ G1 ++ G3 := by
            intro h
            rcases List.mem_cons.1 hmem with h' | h'
            · exact hb1G (by rw [← h']; simp at h ⊢; grind)
            · exact hmid b' (by rw [hF]; simp at h' ⊢; grind) h
          refine ⟨l', cs', b1 :: (G1 ++ P), F', Q ++ G3, hl', hn', hs', ho', by rw [hF]; simp, by simp at hmem ⊢; grind, hnot, fun e => absurd e.symm hb'b, ?_⟩
          intro H2 cs2 x2 F2 hc hH2 hsame hown
          obtain ⟨y, csN, hy, hsN, hoN⟩ := hput H2 cs2 x2 F2 hc hH2 (fun c hm hne => hsame c (by simp at hm ⊢; grind) hne) hown
          have hlN := Own_len hoN
          refine ⟨(x : List t.D).set n y, [.slice (some ⟨b1, o1, none⟩) (List.length x) cap], by simp only [setP, hy, Option.map_some], sits_same hs (hsame b (by simp) hb'b), _, cap, by rw [List.length_set], .inr ?_⟩
          have hothers : ∀ c ∈ G1 ++ G3, H2 c = H c := fun c hm => hsame c (by simp at hm ⊢; grind) (fun e => hout (e ▸ hm))
          -- the block of the rows
          obtain ⟨m, hm, hmn, hme⟩ := hsN
          have hmlen : m.length = l1.length ∧ m.drop o1 = pp ++ (csN ++ q) := by
            by_cases e : b' = b1
            · subst e
              obtain rfl : l1 = l' := Option.some.inj (hb1.symm.trans hl')
              obtain rfl : m = setC l1 off' cs2 := Option.some.inj (hm.symm.trans hH2)
              have hi := hin rfl
              have hlq := congrArg List.length ec
              simp [hp, hcl] at hlq
              refine ⟨setC_len (by omega), ?_⟩
              apply List.ext_getElem?
              intro j
              rw [List.getElem?_drop]
              by_cases h1 : j < n * t.cells
              · rw [List.getElem?_append_left (by rw [hp]; exact h1), setC_get (by omega) _ (.inl (by omega))]
                have := congrArg (fun z => z[j]?) ec
                simp only [List.getElem?_drop] at this
                rw [this, List.getElem?_append_left (by rw [hp]; exact h1)]
              · by_cases h2 : j < n * t.cells + t.cells
                · rw [List.getElem?_append_right (by rw [hp]; omega), List.getElem?_append_left (by rw [hp, hlN]; omega), hp]
                  have := congrArg (fun z => z[j - n * t.cells]?) hme
                  simp only [List.getElem?_take, List.getElem?_drop, hlN, show j - n * t.cells < t.cells by omega, if_true] at this
                  rw [← this]; congr 1; omega
                · rw [List.getElem?_append_right (by rw [hp]; omega), List.getElem?_append_right (by rw [hp, hlN]; omega), hp, hlN, setC_get (by omega) _ (.inr (by omega))]
                  have := congrArg (fun z => z[j]?) ec
                  simp only [List.getElem?_drop] at this
                  rw [this, List.getElem?_append_right (by rw [hp]; omega), List.getElem?_append_right (by rw [hp, hcl]; omega), hp, hcl]
            · have e1 : H2 b1 = H b1 := hsame b1 (by simp) (fun h => e h.symm)
              obtain rfl : m = l1 := Option.some.inj (hm.symm.trans (e1.trans hb1))
              refine ⟨rfl, ?_⟩
              have : csN = c := by
                rw [← hme, hlN, ← hp, ← List.drop_drop, ec]; simp [hcl]
              rw [this]; exact ec
          refine ⟨b1, o1, m, G1 ++ (P ++ (F2 ++ Q) ++ G3), rfl, hm, by omega, by rw [List.length_set]; exact hlen, ?_, by simp⟩
          rw [hmlen.2]
          exact hset (Own H2 t) csN y _ (fun cs z G hG h => Own_mono (fun b hb => hothers b (hG b hb)) h) hlN hoN
end Go.Vm
set_option linter.unusedVariables false
namespace Go.Vm
open Go Go.RowKit
structure Side where
  ok : Nat → Prop                       -- blocks that are only read
  hd : Nat → Option Addr × Nat          -- each object: where it lies, its capacity
  fp : Nat → List Nat                   -- each object's blocks
def locA (H : Nat → Option (List Value)) (hd : Option Addr × Nat) (t : Ty) (len : Nat) : List Stp → Option (Nat × Nat)
  | .i n :: p => match hd.1 with
    | some ⟨b, o, none⟩ => if n < len then walk H t b (o + n * t.cells) p else none
    | _ => none
  | _ => none
def VT.foff : Nat → VT → Option Nat
  | 0, .pr _ _ => some 0
  | 0, .va (.pr _ _) _ => some 0
  | j + 1, .pr a b => (VT.foff j b).map (a.cells + ·)
  | j + 1, .va (.pr a b) x => (VT.foff j (.va b x.2)).map (a.cells + ·)
  | _, _ => none
def VT.off : List Stp → VT → Option Nat
  | [], _ => some 0
  | .f j :: p, v => (VT.foff j v).bind fun k => (VT.fld j v).bind fun u => (VT.off p u).map (k + ·)
  | _, _ => none
def refOk (ob : List Obe) (o g h : Nat) : Prop := g < (getO ob o).g ∨ (g = (getO ob o).g ∧ h ≤ (getO ob o).h)
def winR (sz : Nat) (A : Option Addr) (n cap : Nat) : Option (Nat × Nat) → Value → Prop
  | none, v => v = .slice A n cap
  | some (lo, m), v => lo + m ≤ n ∧ ∃ A', v = .slice A' m (cap - lo) ∧ (m ≠ 0 → A' = A.map (·.add (lo * sz)))
def hdrR (S : Side) (w : World) (o : Nat) (t : Ty) (len : Nat) : List Stp → Option Addr → Nat → Nat → Prop
  | [], A, n, cap => S.hd o = (A, cap) ∧ n = len
  | p, A, n, cap => ∃ b off, locA (hv w) (S.hd o) t len p = some (b, off) ∧ cellAt (hv w) b off = some (.slice A n cap)
def slA (S : Side) (w : World) (o : Nat) (p : List Stp) (win : Option (Nat × Nat)) (t : Ty) (len : Nat) (v : Value) : Prop :=
  ∃ te A n cap, tyAt (.sl t) p = some (.sl te) ∧ hdrR S w o t len p A n cap ∧ winR te.cells A n cap win v
def slR (S : Side) (ob : List Obe) (w : World) (o g h : Nat) (p : List Stp) (win : Option (Nat × Nat)) (v : Value) : Prop :=
  (∀ t xs nn, (getO ob o).c = some (.arr t xs nn) → g = (getO ob o).g → (p = [] ∨ h = (getO ob o).h) → slA S w o p win t (List.length xs) v) ∧
  (∀ t xs nn j, (getO ob o).c = some (.arh t xs nn j) → g = (getO ob o).g → p = [] → slA S w o p win (.sl t) (List.length xs) v)
def ptR (S : Side) (ob : List Obe) (w : World) (o g h : Nat) (p : List Stp) (v : Value) : Prop :=
  (∀ c u, (getO ob o).c = some c → c.held = some u → g = (getO ob o).g → ∃ b k, (S.hd o).1 = some ⟨b, 0, none⟩ ∧ VT.off p u = some k ∧ v = .pointer (some ⟨b, k, none⟩)) ∧
  (∀ t xs nn, (getO ob o).c = some (.arr t xs nn) → g = (getO ob o).g → h = (getO ob o).h → ∃ b off, locA (hv w) (S.hd o) t (List.length xs) p = some (b, off) ∧ v = .pointer (some ⟨b, off, none⟩)) ∧
  (∀ k t es, (getO ob o).c = some (.mp k t es) → g = (getO ob o).g → ∃ b, (S.hd o).1 = some ⟨b, 0, none⟩ ∧ v = .map (some b)) ∧
  (∀ t xs nn j, (getO ob o).c = some (.arh t xs nn j) → g = (getO ob o).g → h = (getO ob o).h → ∀ i, p = [.i i] → ∃ b off, (S.hd o).1 = some ⟨b, off, none⟩ ∧ v = .pointer (some ⟨b, off + i, none⟩))
def isT : Value → Bool
  | .bool b => b
  | _ => false
def fnVal (f : Nat) (caps : List Value) : Value := cond (Nat.blt f boN) (.func (.func f) #[] caps.toArray) (cond (Nat.beq f boN) (.bool (isT (caps.headD undef))) (.iface (f - ifB) (caps.headD undef)))
theorem fnVal_fn {f : Nat} (h : Nat.blt f boN = true) (caps : List Value) : fnVal f caps = .func (.func f) #[] caps.toArray := by unfold fnVal; rw [h]; rfl
theorem fnVal_if (t : Nat) (u : Value) (l : List Value) : fnVal (ifB + t) (u :: l) = .iface t u := by
  unfold fnVal
  have h1 : Nat.blt (ifB + t) boN = false := by
    cases h : Nat.blt (ifB + t) boN
    · rfl
    · rw [Nat.blt_eq] at h; unfold ifB boN at h; omega
  have h2 : Nat.beq (ifB + t) boN = false := by
    cases h : Nat.beq (ifB + t) boN
    · rfl
    · have := Nat.eq_of_beq_eq_true h; unfold ifB boN at this; omega
  rw [h1, h2]
  simp
theorem fnVal_bo (b : Bool) : fnVal boN [.bool b] = .bool b := by
  unfold fnVal
  have h1 : Nat.blt boN boN = false := by
    cases h : Nat.blt boN boN
    · rfl
    · rw [Nat.blt_eq] at h; omega
  rw [h1, Nat.beq_refl]
  rfl
theorem fnVal_bool {f : Nat} (h : Nat.beq f boN = true) (caps : List Value) : ∃ b, fnVal f caps = .bool b := by
  have := Nat.eq_of_beq_eq_true h
  subst this
  unfold fnVal
  have h1 : Nat.blt boN boN = false := by
    cases h : Nat.blt boN boN
    · rfl
    · rw [Nat.blt_eq] at h; omega
  rw [h1, Nat.beq_refl]
  exact ⟨_, rfl⟩
theorem fnVal_one (f : Nat) (caps : List Value) : (fnVal f caps).oneCell' = true := by unfold fnVal; cases Nat.blt f boN <;> cases Nat.beq f boN <;> rfl
def VTC (S : Side) (ob : List Obe) (w : World) : VT → List Value → Prop
  | .va t x, cs => RO S.ok (cv w) t cs x
  | .rp t x, cs => ∃ b off ccs, cs = [.pointer (some ⟨b, off, none⟩)] ∧ S.ok b ∧ lies (cv w) b off ccs ∧ RO S.ok (cv w) t ccs x
  | .nl, cs => cs = [.slice none 0 0]
  | .em, cs => ∃ A, cs = [.slice A 0 0]
  | .np, cs => cs = [.pointer none]
  | .sl o g h p win, cs => ∃ v, cs = [v] ∧ v.oneCell' = true ∧ refOk ob o g h ∧ slR S ob w o g h p win v
  | .pt o g h p, cs => ∃ v, cs = [v] ∧ v.oneCell' = true ∧ refOk ob o g h ∧ ptR S ob w o g h p v
  | .pr a b, cs => ∃ c1 c2, cs = c1 ++ c2 ∧ VTC S ob w a c1 ∧ VTC S ob w b c2
  | .un, cs => cs = []
  | .tu _, _ => False
  | .fn f c, cs => ∃ caps : List Value, cs = [fnVal f caps] ∧ VTC S ob w c caps
  | .an, cs => ∃ v, cs = [v] ∧ v.oneCell' = true
  | .ud, _ => False
def mkV (v : VT) (cs : List Value) : Value := if v.isAgg then .agg cs.toArray else cs.headD undef
def VTT (S : Side) (ob : List Obe) (w : World) : VT → List Value → Prop
  | .pr a b, u :: us => (∃ cs, VTC S ob w a cs ∧ u = mkV a cs) ∧ VTT S ob w b us
  | .un, us => us = []
  | _, _ => False
def VTV (S : Side) (ob : List Obe) (w : World) : VT → Value → Prop
  | .tu v, u => ∃ us : List Value, u = .tuple us.toArray ∧ VTT S ob w v us
  | .ud, u => u = undef
  | v, u => ∃ cs, VTC S ob w v cs ∧ u = mkV v cs
def mval (t : Ty) (x : t.D) : Value := if t.agg then .agg (t.enc x).toArray else (t.enc x).headD undef
def MapR (k : IntKind) (t : Ty) : List MapEntry → List (Int × t.D) → Prop
  | [], [] => True
  | e :: es, x :: xs => e.key = .int k x.1 ∧ e.val = mval t x.2 ∧ MapR k t es xs
  | _, _ => False
def ObR (S : Side) (ob : List Obe) (w : World) (o : Nat) : Ob → Prop
  | .arr t xs nn => OwnS (hv w) (Own (hv w) t) t.cells (S.hd o).1 (S.hd o).2 xs (S.fp o) ∧ (nn = true → (S.hd o).1 ≠ none)
  | .var v => ∃ b l, (S.hd o).1 = some ⟨b, 0, none⟩ ∧ hv w b = some l ∧ VTC S ob w v l ∧ S.fp o = [b]
  | .rv v => ∃ b l, (S.hd o).1 = some ⟨b, 0, none⟩ ∧ hv w b = some l ∧ VTC S ob w v l ∧ S.fp o = [b]
  | .mp k t es => t.flat = true ∧ ∃ b arr cl, (S.hd o).1 = some ⟨b, 0, none⟩ ∧ w.heap[b]? = some (.map arr cl) ∧ MapR k t arr.toList es ∧ S.fp o = [b]
  | .arh t xs nn j => j < List.length xs ∧ ∃ b off l G1 G3, (S.hd o).1 = some ⟨b, off, none⟩ ∧ hv w b = some l ∧ off + j + 1 ≤ l.length ∧ S.fp o = b :: (G1 ++ G3) ∧
      ∀ (H2 : Nat → Option (List Value)) A2 cap2 (x2 : List t.D) F2, H2 b = some (setC l (off + j) [.slice A2 (List.length x2) cap2]) → (∀ c ∈ G1 ++ G3, H2 c = hv w c) → OwnS H2 (Own H2 t) t.cells A2 cap2 x2 F2 →
        OwnS H2 (Own H2 (.sl t)) 1 (S.hd o).1 (S.hd o).2 (xs.set j x2) (b :: (G1 ++ (F2 ++ G3)))
structure Ctx where
  w0 : World
  don : Nat → Prop     -- blocks of the caller's that may be written
  fx : Nat → Prop      -- objects of the caller's that come back
  hd0 : Nat → Option Addr × Nat
  sh0 : Nat → Option (Ty × Nat)
  ok0 : Nat → Prop     -- blocks of the caller's that are only read
def Ob.shape : Ob → Option (Ty × Nat)
  | .arr t xs _ => some (t, List.length xs)
  | .arh t xs _ _ => some (.sl t, List.length xs)
  | _ => none
def Ob.isRv : Ob → Bool
  | .rv _ => true
  | _ => false
structure Kept (C : Ctx) (w : World) : Prop where
  os : w.os = C.w0.os
  tape : Ahead C.w0 w
  output : w.output = C.w0.output
  size : C.w0.heap.size ≤ w.heap.size
  block : ∀ k, k < C.w0.heap.size → ¬ C.don k → w.heap[k]? = C.w0.heap[k]?
structure Inv (C : Ctx) (S : Side) (x : X) (a : Act) (w : World) : Prop where
  dfr : a.defers = []
  size : a.tmps.size = x.sl.length
  slots : ∀ t v, getL x.sl t = some v → ∃ u, a.tmps[t]? = some u ∧ VTV S x.ob w v u
  objs : ∀ o c, (getO x.ob o).c = some c → ObR S x.ob w o c ∧ (S.fp o).Nodup ∧ ∀ b ∈ S.fp o, ¬ S.ok b ∧ b < w.heap.size ∧ (C.w0.heap.size ≤ b ∨ C.don b ∨ c.isRv = true)
  sep : ∀ o o' c c', o ≠ o' → (getO x.ob o).c = some c → (getO x.ob o').c = some c' → ∀ b ∈ S.fp o, b ∉ S.fp o'
  okn : ∀ b, S.ok b → b < w.heap.size ∧ (C.ok0 b ∨ C.w0.heap.size ≤ b ∨ C.don b)
  kept : Kept C w
  fix : ∀ o c, C.fx o → (getO x.ob o).g = 0 → (getO x.ob o).c = some c → S.hd o = C.hd0 o ∧ c.shape = C.sh0 o
theorem Inv.okb {C : Ctx} {S : Side} {x : X} {a : Act} {w : World} (I : Inv C S x a w) : ∀ b, S.ok b → b < w.heap.size := fun b hb => (I.okn b hb).1
theorem getL_set {α : Type} : ∀ (l : List (Option α)) (n m : Nat) (v : Option α), getL (l.set n v) m = if n = m ∧ n < l.length then v else getL l m
  | [], _, _, _ => by simp [getL]
  | a :: l, 0, 0, v => by simp [getL]
  | a :: l, 0, m + 1, v => by simp [getL]
  | a :: l, n + 1, 0, v => by simp [getL]
  | a :: l, n + 1, m + 1, v => by simp [getL, getL_set l n m v]
theorem getO_set : ∀ (l : List Obe) (n m : Nat) (e : Obe), getO (l.set n e) m = if n = m ∧ n < l.length then e else getO l m
  | [], _, _, _ => by simp [getO]
  | a :: l, 0, 0, v => by simp [getO]
  | a :: l, 0, m + 1, v => by simp [getO]
  | a :: l, n + 1, 0, v => by simp [getO]
  | a :: l, n + 1, m + 1, v => by simp [getO, getO_set l n m v]
theorem getL_lt {α : Type} : ∀ {l : List (Option α)} {n : Nat} {v : α}, getL l n = some v → n < l.length
  | [], _, _, h => by simp [getL] at h
  | a :: l, 0, _, _ => by simp
  | a :: l, n + 1, _, h => by have := getL_lt (l := l) (n := n) (by simpa [getL] using h); simp; omega
theorem getO_lt : ∀ {l : List Obe} {n : Nat} {c : Ob}, (getO l n).c = some c → n < l.length
  | [], _, _, h => by simp [getO] at h
  | a :: l, 0, _, _ => by simp
  | a :: l, n + 1, _, h => by have := getO_lt (l := l) (n := n) (by simpa [getO] using h); simp; omega
theorem memN_iff : ∀ {l : List Nat} {n : Nat}, memN l n = true ↔ n ∈ l
  | [], n => by simp [memN]
  | a :: l, n => by
    have ih := memN_iff (l := l) (n := n)
    unfold memN
    cases h : Nat.beq a n
    · have : a ≠ n := fun e => by rw [e, Nat.beq_refl] at h; cases h
      simp only [cond_false, ih, List.mem_cons]
      constructor
      · exact .inr
      · rintro (rfl | h')
        · exact absurd rfl this
        · exact h'
    · have : a = n := Nat.eq_of_beq_eq_true h
      simp [this]
theorem nodupN_iff : ∀ {l : List Nat}, nodupN l = true ↔ l.Nodup
  | [] => by simp [nodupN]
  | a :: l => by
    unfold nodupN
    rw [List.nodup_cons]
    cases h : memN l a
    · have : a ∉ l := fun hm => by rw [memN_iff.2 hm] at h; cases h
      simp [this, nodupN_iff]
    · simp [memN_iff.1 h]
theorem subN_iff : ∀ {l m : List Nat}, subN l m = true ↔ ∀ a ∈ l, a ∈ m
  | [], m => by simp [subN]
  | a :: l, m => by
    unfold subN
    cases h : memN m a
    · have : a ∉ m := fun hm => by rw [memN_iff.2 hm] at h; cases h
      simp [this]
    · simp [memN_iff.1 h, subN_iff]
theorem apartN_iff : ∀ {l m : List Nat}, apartN l m = true ↔ ∀ a ∈ l, a ∉ m
  | [], m => by simp [apartN]
  | a :: l, m => by
    unfold apartN
    cases h : memN m a
    · have : a ∉ m := fun hm => by rw [memN_iff.2 hm] at h; cases h
      simp [this, apartN_iff]
    · simp [memN_iff.1 h]
theorem refOk_same {ob ob' : List Obe} {o g h : Nat} (e : getO ob' o = getO ob o) : refOk ob' o g h ↔ refOk ob o g h := by unfold refOk; rw [e]
theorem VTC_tr {S S' : Side} {ob ob' : List Obe} {w w' : World} (hok : ∀ b, S.ok b → S'.ok b) (hc : ∀ b, S.ok b → w'.heap[b]? = w.heap[b]?)
    (hs : ∀ o g h p win v, refOk ob o g h → slR S ob w o g h p win v → refOk ob' o g h ∧ slR S' ob' w' o g h p win v)
    (hp : ∀ o g h p v, refOk ob o g h → ptR S ob w o g h p v → refOk ob' o g h ∧ ptR S' ob' w' o g h p v) : ∀ {v : VT} {cs : List Value}, VTC S ob w v cs → VTC S' ob' w' v cs
  | .va t x, cs, h => RO_mono hok (fun b hb o => cv_same (hc b hb) o) h
  | .rp t x, cs, ⟨b, off, ccs, e, hb, hl, hr⟩ => ⟨b, off, ccs, e, hok b hb, fun j v hv => by rw [cv_same (hc b hb)]; exact hl j v hv, RO_mono hok (fun b hb o => cv_same (hc b hb) o) hr⟩
  | .nl, _, h | .em, _, h | .np, _, h | .un, _, h | .an, _, h => h
  | .sl o g h p win, _, ⟨v, e, h1, h2, h3⟩ => ⟨v, e, h1, (hs _ _ _ _ _ _ h2 h3).1, (hs _ _ _ _ _ _ h2 h3).2⟩
  | .pt o g h p, _, ⟨v, e, h1, h2, h3⟩ => ⟨v, e, h1, (hp _ _ _ _ _ h2 h3).1, (hp _ _ _ _ _ h2 h3).2⟩
  | .pr a b, _, ⟨c1, c2, e, h1, h2⟩ => ⟨c1, c2, e, VTC_tr hok hc hs hp h1, VTC_tr hok hc hs hp h2⟩
  | .tu _, _, h => h.elim
  | .fn f c, _, ⟨caps, e, h⟩ => ⟨caps, e, VTC_tr hok hc hs hp h⟩
  | .ud, _, h => h.elim
theorem VTT_tr {S S' : Side} {ob ob' : List Obe} {w w' : World} (h : ∀ v cs, VTC S ob w v cs → VTC S' ob' w' v cs) : ∀ {v : VT} {us : List Value}, VTT S ob w v us → VTT S' ob' w' v us
  | .pr a b, u :: us, ⟨⟨cs, h1, e⟩, h2⟩ => ⟨⟨cs, h _ _ h1, e⟩, VTT_tr h h2⟩
  | .un, _, e => e
  | .pr _ _, [], e => e.elim
  | .va _ _, _, e | .rp _ _, _, e | .nl, _, e | .em, _, e | .np, _, e | .an, _, e | .ud, _, e | .tu _, _, e | .fn _ _, _, e | .sl _ _ _ _ _, _, e | .pt _ _ _ _, _, e => e.elim
theorem VTV_tr {S S' : Side} {ob ob' : List Obe} {w w' : World} (h : ∀ v cs, VTC S ob w v cs → VTC S' ob' w' v cs) {v : VT} {u : Value} (hv : VTV S ob w v u) : VTV S' ob' w' v u := by
  cases v with
  | tu v => obtain ⟨us, e, ht⟩ := hv; exact ⟨us, e, VTT_tr h ht⟩
  | ud => exact hv
  | _ => obtain ⟨cs, hc, e⟩ := hv; exact ⟨cs, h _ _ hc, e⟩
theorem VTC_len {S : Side} {ob : List Obe} {w : World} : ∀ {v : VT} {cs : List Value}, VTC S ob w v cs → cs.length = v.cells
  | .va t x, _, h => RO_len h
  | .rp t x, _, ⟨_, _, _, e, _⟩ => by subst e; rfl
  | .nl, _, h => by simp only [VTC] at h; subst h; rfl
  | .em, _, ⟨_, h⟩ => by subst h; rfl
  | .np, _, h => by simp only [VTC] at h; subst h; rfl
  | .un, _, h => by simp only [VTC] at h; subst h; rfl
  | .an, _, ⟨_, h, _⟩ => by subst h; rfl
  | .sl o g h p win, _, ⟨v, e, _⟩ => by subst e; rfl
  | .pt o g h p, _, ⟨v, e, _⟩ => by subst e; rfl
  | .pr a b, _, ⟨c1, c2, e, h1, h2⟩ => by subst e; simp [VT.cells, VTC_len h1, VTC_len h2]
  | .tu _, _, h => h.elim
  | .fn f c, _, ⟨caps, e, h⟩ => by subst e; rfl
  | .ud, _, h => h.elim
theorem RO_one {ok : Nat → Prop} {c : Nat → Nat → Option Value} : ∀ {t : Ty} {cs : List Value} {x : t.D}, RO ok c t cs x → ∀ u ∈ cs, u.oneCell' = true
  | .int _, _, _, h | .bool, _, _, h | .str, _, _, h => by simp only [RO] at h; subst h; intro u hu; simp at hu; subst hu; rfl
  | .sl _, _, _, h => by obtain ⟨A, cap, rfl, _⟩ := h; intro u hu; simp at hu; subst hu; rfl
  | .pr a b, _, _, h => by
    obtain ⟨c1, c2, rfl, h1, h2⟩ := h
    intro u hu
    rcases List.mem_append.1 hu with hu | hu
    · exact RO_one h1 u hu
    · exact RO_one h2 u hu
  | .un, _, _, h => by simp only [RO] at h; subst h; intro u hu; simp at hu
  | .op, _, _, h => h.elim
theorem Own_one {H : Nat → Option (List Value)} : ∀ {t : Ty} {cs : List Value} {x : t.D} {F : List Nat}, Own H t cs x F → ∀ u ∈ cs, u.oneCell' = true
  | .int _, _, _, _, h | .bool, _, _, _, h | .str, _, _, _, h => by obtain ⟨rfl, _⟩ := h; intro u hu; simp at hu; subst hu; rfl
  | .sl _, _, _, _, h => by obtain ⟨A, cap, rfl, _⟩ := h; intro u hu; simp at hu; subst hu; rfl
  | .pr a b, _, _, _, h => by
    obtain ⟨c1, c2, F1, F2, rfl, _, h1, h2⟩ := h
    intro u hu
    rcases List.mem_append.1 hu with hu | hu
    · exact Own_one h1 u hu
    · exact Own_one h2 u hu
  | .un, _, _, _, h => by obtain ⟨rfl, _⟩ := h; intro u hu; simp at hu
  | .op, _, _, _, h => h.elim
theorem VTC_one {S : Side} {ob : List Obe} {w : World} : ∀ {v : VT} {cs : List Value}, VTC S ob w v cs → ∀ u ∈ cs, u.oneCell' = true
  | .va t x, _, h => RO_one h
  | .rp t x, _, ⟨_, _, _, e, _⟩ => by subst e; intro u hu; simp at hu; subst hu; rfl
  | .nl, _, h => by simp only [VTC] at h; subst h; intro u hu; simp at hu; subst hu; rfl
  | .em, _, ⟨_, h⟩ => by subst h; intro u hu; simp at hu; subst hu; rfl
  | .np, _, h => by simp only [VTC] at h; subst h; intro u hu; simp at hu; subst hu; rfl
  | .un, _, h => by simp only [VTC] at h; subst h; intro u hu; simp at hu
  | .an, _, ⟨_, h, h1⟩ => by subst h; intro u hu; simp at hu; subst hu; exact h1
  | .sl o g h p win, _, ⟨v, e, h1, _⟩ => by subst e; intro u hu; simp at hu; subst hu; exact h1
  | .pt o g h p, _, ⟨v, e, h1, _⟩ => by subst e; intro u hu; simp at hu; subst hu; exact h1
  | .pr a b, _, ⟨c1, c2, e, h1, h2⟩ => by
    subst e
    intro u hu
    rcases List.mem_append.1 hu with hu | hu
    · exact VTC_one h1 u hu
    · exact VTC_one h2 u hu
  | .tu _, _, h => h.elim
  | .fn f c, _, ⟨caps, e, h⟩ => by subst e; intro u hu; simp at hu; subst hu; exact fnVal_one f caps
  | .ud, _, h => h.elim
theorem walk_own {H H2 : Nat → Option (List Value)} : ∀ (t : Ty) {cs : List Value} {x : t.D} {F : List Nat} {b off : Nat} {p : List Stp} {r : Nat × Nat},
    sits H b off cs → sits H2 b off cs → Own H t cs x F → (∀ c ∈ F, H2 c = H c) → walk H t b off p = some r → walk H2 t b off p = some r ∧ (r.1 = b ∨ r.1 ∈ F) := by
  intro t
  induction t with
  | int k | bool | str | un | op =>
    intro cs x F b off p r _ _ _ _ hw
    cases p with
    | nil => simp only [walk] at hw ⊢; exact ⟨hw, .inl (by cases hw; rfl)⟩
    | cons s p => simp [walk] at hw
  | pr a d iha ihd =>
    intro cs x F b off p r hs hs2 ho hF hw
    cases p with
    | nil => simp only [walk] at hw ⊢; exact ⟨hw, .inl (by cases hw; rfl)⟩
    | cons s p =>
      obtain ⟨c1, c2, F1, F2, rfl, rfl, h1, h2⟩ := ho
      cases s with
      | i n => simp [walk] at hw
      | f j =>
        cases j with
        | zero =>
          obtain ⟨e, hr⟩ := iha (sits_left hs) (sits_left hs2) h1 (fun c hc => hF c (by simp [hc])) hw
          exact ⟨e, hr.imp id (fun h => by simp [h])⟩
        | succ j =>
          have hl := Own_len h1
          obtain ⟨e, hr⟩ := ihd (off := off + a.cells) (by have := sits_right hs; rwa [hl] at this) (by have := sits_right hs2; rwa [hl] at this) h2 (fun c hc => hF c (by simp [hc])) hw
          exact ⟨e, hr.imp id (fun h => by simp [h])⟩
  | sl t ih =>
    intro cs x F b off p r hs hs2 ho hF hw
    cases p with
    | nil => simp only [walk] at hw ⊢; exact ⟨hw, .inl (by cases hw; rfl)⟩
    | cons s p =>
      cases s with
      | f j => simp [walk] at hw
      | i n =>
        obtain ⟨A, cap, rfl, ho⟩ := ho
        have hcell : cellAt H b off = some (.slice A (List.length x) cap) := by simpa using sits_cell hs (j := 0) rfl
        have hcell2 : cellAt H2 b off = some (.slice A (List.length x) cap) := by simpa using sits_cell hs2 (j := 0) rfl
        simp only [walk, hcell, hcell2] at hw ⊢
        rcases ho with ⟨rfl, rfl, rfl⟩ | ⟨b1, o1, l1, G, rfl, hb1, hcap, hlen, hr, rfl⟩
        · cases A with
          | none => simp at hw
          | some A =>
            obtain ⟨A1, A2, A3⟩ := A
            cases A3 <;> simp at hw
        · simp only at hw ⊢
          split at hw
          case isFalse => cases hw
          rename_i hn
          rw [if_pos hn]
          obtain ⟨pp, c, q, G1, G2, G3, ec, hp, hcl, eG, hel, hset⟩ := RowsF_get n t.zero hn hr
          have ho1 : o1 ≤ l1.length := by omega
          have hsc : sits H b1 (o1 + n * t.cells) c := by have := sits_rows hb1 ec ho1; rwa [hp] at this
          have hsc2 : sits H2 b1 (o1 + n * t.cells) c := sits_same hsc (hF b1 (by simp))
          obtain ⟨e, hr'⟩ := ih hsc hsc2 hel (fun c hc => hF c (by simp [eG, hc])) hw
          refine ⟨e, .inr ?_⟩
          rcases hr' with h | h
          · simp [h]
          · simp [eG, h]
theorem locA_own {H H2 : Nat → Option (List Value)} {t : Ty} {hd : Option Addr × Nat} {xs : List t.D} {F : List Nat} (ho : OwnS H (Own H t) t.cells hd.1 hd.2 xs F) (hF : ∀ c ∈ F, H2 c = H c) {p : List Stp} {r : Nat × Nat}
    (hw : locA H hd t xs.length p = some r) : locA H2 hd t xs.length p = some r ∧ r.1 ∈ F := by
  unfold locA at hw ⊢
  split at hw
  · rename_i n p
    split at hw
    · rename_i b o hA
      split at hw
      case isFalse => cases hw
      rename_i hn
      rcases ho with ⟨_, rfl, _⟩ | ⟨b1, o1, l1, G, hA', hb1, hcap, hlen, hr, rfl⟩
      · simp at hn
      · rw [hA] at hA'
        injection hA' with hA'
        injection hA' with e1 e2 _
        subst e1; subst e2
        obtain ⟨pp, c, q, G1, G2, G3, ec, hp, hcl, eG, hel, hset⟩ := RowsF_get n t.zero hn hr
        have hsc : sits H b (o + n * t.cells) c := by have := sits_rows hb1 ec (by omega); rwa [hp] at this
        obtain ⟨e, hr'⟩ := walk_own t hsc (sits_same hsc (hF b (by simp))) hel (fun c hc => hF c (by simp [eG, hc])) hw
        simp only [hA, if_pos hn]
        refine ⟨e, ?_⟩
        rcases hr' with h | h
        · simp [h]
        · simp [eG, h]
    · cases hw
  · cases hw
end Go.Vm
set_option linter.unusedVariables false
namespace Go.Vm
open Go Go.RowKit
theorem hv_cellAt {w w' : World} {b : Nat} (h : hv w' b = hv w b) (o : Nat) : cellAt (hv w') b o = cellAt (hv w) b o := by unfold cellAt; rw [h]
theorem slR_keep {S S' : Side} {ob ob' : List Obe} {w w' : World} {o : Nat} (hobj : ∀ c, (getO ob o).c = some c → ObR S ob w o c) (eo : getO ob' o = getO ob o) (eh : S'.hd o = S.hd o)
    (hb : ∀ c, (getO ob o).c = some c → ∀ b ∈ S.fp o, w'.heap[b]? = w.heap[b]?) {g h : Nat} {p : List Stp} {win : Option (Nat × Nat)} {v : Value} (hs : slR S ob w o g h p win v) : slR S' ob' w' o g h p win v := by
  refine ⟨?_, fun t xs nn j hc hg hp => ?_⟩
  rotate_left
  · rw [eo] at hc hg
    obtain ⟨te, A, n, cap, h1, h2, h3⟩ := hs.2 t xs nn j hc hg hp
    subst hp
    exact ⟨te, A, n, cap, h1, ⟨by rw [eh]; exact h2.1, h2.2⟩, h3⟩
  intro t xs nn hc hg hp
  rw [eo] at hc hg hp
  obtain ⟨te, A, n, cap, h1, h2, h3⟩ := hs.1 t xs nn hc hg hp
  refine ⟨te, A, n, cap, h1, ?_, h3⟩
  cases p with
  | nil => exact ⟨by rw [eh]; exact h2.1, h2.2⟩
  | cons s p =>
    obtain ⟨b, off, hl, hcell⟩ := h2
    obtain ⟨hl', hm⟩ := locA_own (hobj _ hc).1 (H2 := hv w') (fun c hcm => hv_same (hb _ hc c hcm)) hl
    exact ⟨b, off, by rw [eh]; exact hl', by rw [hv_cellAt (hv_same (hb _ hc b hm))]; exact hcell⟩
theorem ptR_keep {S S' : Side} {ob ob' : List Obe} {w w' : World} {o : Nat} (hobj : ∀ c, (getO ob o).c = some c → ObR S ob w o c) (eo : getO ob' o = getO ob o) (eh : S'.hd o = S.hd o)
    (hb : ∀ c, (getO ob o).c = some c → ∀ b ∈ S.fp o, w'.heap[b]? = w.heap[b]?) {g h : Nat} {p : List Stp} {v : Value} (hs : ptR S ob w o g h p v) : ptR S' ob' w' o g h p v := by
  refine ⟨fun c u hc hh hg => ?_, fun t xs nn hc hg hh => ?_, fun k t es hc hg => ?_, fun t xs nn j hc hg hh i hp => ?_⟩
  · rw [eo] at hc hg
    rw [eh]
    exact hs.1 c u hc hh hg
  rotate_left
  · rw [eo] at hc hg
    rw [eh]
    exact hs.2.2.1 k t es hc hg
  · rw [eo] at hc hg hh
    rw [eh]
    exact hs.2.2.2 t xs nn j hc hg hh i hp
  · rw [eo] at hc hg hh
    obtain ⟨b, off, hl, e⟩ := hs.2.1 t xs nn hc hg hh
    obtain ⟨hl', hm⟩ := locA_own (hobj _ hc).1 (H2 := hv w') (fun c hcm => hv_same (hb _ hc c hcm)) hl
    exact ⟨b, off, by rw [eh]; exact hl', e⟩
theorem ObR_keep {S S' : Side} {ob ob' : List Obe} {w w' : World} {o : Nat} {c : Ob} (hv' : ∀ v cs, VTC S ob w v cs → VTC S' ob' w' v cs) (eh : S'.hd o = S.hd o) (ef : S'.fp o = S.fp o)
    (hb : ∀ b ∈ S.fp o, w'.heap[b]? = w.heap[b]?) (h : ObR S ob w o c) : ObR S' ob' w' o c := by
  cases c with
  | arr t xs nn =>
    obtain ⟨h1, h2⟩ := h
    refine ⟨?_, by rw [eh]; exact h2⟩
    rw [eh, ef]
    exact OwnS_mono (fun b hbm => hv_same (hb b hbm)) h1
  | var v =>
    obtain ⟨b, l, h1, h2, h3, h4⟩ := h
    exact ⟨b, l, by rw [eh]; exact h1, by rw [hv_same (hb b (by rw [h4]; simp))]; exact h2, hv' _ _ h3, by rw [ef]; exact h4⟩
  | rv v =>
    obtain ⟨b, l, h1, h2, h3, h4⟩ := h
    exact ⟨b, l, by rw [eh]; exact h1, by rw [hv_same (hb b (by rw [h4]; simp))]; exact h2, hv' _ _ h3, by rw [ef]; exact h4⟩
  | mp k t es =>
    obtain ⟨h0, b, arr, cl, h1, h2, h3, h4⟩ := h
    exact ⟨h0, b, arr, cl, by rw [eh]; exact h1, by rw [hb b (by rw [h4]; simp)]; exact h2, h3, by rw [ef]; exact h4⟩
  | arh t xs nn j =>
    obtain ⟨h0, b, off, l, G1, G3, h1, h2, h3, h4, h5⟩ := h
    refine ⟨h0, b, off, l, G1, G3, by rw [eh]; exact h1, by rw [hv_same (hb b (by rw [h4]; simp))]; exact h2, h3, by rw [ef]; exact h4, fun H2 A2 cap2 x2 F2 q1 q2 q3 => ?_⟩
    rw [eh]
    exact h5 H2 A2 cap2 x2 F2 q1 (fun c hc => by rw [q2 c hc]; exact hv_same (hb c (by rw [h4]; simp at hc ⊢; grind))) q3
def Turned (old new : Obe) : Prop := new.g = old.g + 1 ∨ (new.g = old.g ∧ new.h = old.h ∧ new.c = none)
theorem Turned.sl {S S' : Side} {ob ob' : List Obe} {w w' : World} {o : Nat} (ht : Turned (getO ob o) (getO ob' o)) {g h : Nat} {p : List Stp} {win : Option (Nat × Nat)} {v : Value} (hr : refOk ob o g h) : refOk ob' o g h ∧ slR S' ob' w' o g h p win v := by
  unfold refOk at *
  rcases ht with e | ⟨e1, e2, e3⟩
  · exact ⟨.inl (by omega), fun t xs nn hc hg => by omega, fun t xs nn j hc hg => by omega⟩
  · exact ⟨by omega, fun t xs nn hc => (by rw [e3] at hc; cases hc), fun t xs nn j hc => (by rw [e3] at hc; cases hc)⟩
theorem Turned.pt {S S' : Side} {ob ob' : List Obe} {w w' : World} {o : Nat} (ht : Turned (getO ob o) (getO ob' o)) {g h : Nat} {p : List Stp} {v : Value} (hr : refOk ob o g h) : refOk ob' o g h ∧ ptR S' ob' w' o g h p v := by
  unfold refOk at *
  rcases ht with e | ⟨e1, e2, e3⟩
  · refine ⟨.inl (by omega), fun u hc hg => ?_, fun t xs nn hc hg => ?_, fun k t es hc hg => ?_, fun t xs nn j hc hg => ?_⟩ <;> omega
  · refine ⟨by omega, fun c u hc => ?_, fun t xs nn hc => ?_, fun k t es hc => ?_, fun t xs nn j hc => ?_⟩ <;> (rw [e3] at hc; cases hc)
theorem Inv.turn {C : Ctx} {S : Side} {x : X} {a : Act} {w : World} (I : Inv C S x a w) {S' : Side} {ob' : List Obe} {w' : World} (T : Nat → Prop)
    (hkeep : ∀ o, ¬ T o → getO ob' o = getO x.ob o ∧ S'.hd o = S.hd o ∧ S'.fp o = S.fp o ∧ (∀ c, (getO x.ob o).c = some c → ∀ b ∈ S.fp o, w'.heap[b]? = w.heap[b]? ∧ ¬ S'.ok b))
    (hok : ∀ b, S.ok b → S'.ok b ∧ w'.heap[b]? = w.heap[b]?)
    (href : ∀ o, T o → (∀ g h p win v, refOk x.ob o g h → slR S x.ob w o g h p win v → refOk ob' o g h ∧ slR S' ob' w' o g h p win v) ∧ (∀ g h p v, refOk x.ob o g h → ptR S x.ob w o g h p v → refOk ob' o g h ∧ ptR S' ob' w' o g h p v))
    (hobj : (∀ v cs, VTC S x.ob w v cs → VTC S' ob' w' v cs) → ∀ o c, T o → (getO ob' o).c = some c → ObR S' ob' w' o c ∧ (S'.fp o).Nodup ∧ ∀ b ∈ S'.fp o, ¬ S'.ok b ∧ b < w'.heap.size ∧ (C.w0.heap.size ≤ b ∨ C.don b ∨ c.isRv = true))
    (hsep : ∀ o o' c c', T o → o ≠ o' → (getO ob' o).c = some c → (getO ob' o').c = some c' → ∀ b ∈ S'.fp o, b ∉ S'.fp o')
    (hsz : w.heap.size ≤ w'.heap.size) (hokb : ∀ b, S'.ok b → b < w'.heap.size) (hkept : Kept C w')
    (hfix : ∀ o c, T o → C.fx o → (getO ob' o).g = 0 → (getO ob' o).c = some c → S'.hd o = C.hd0 o ∧ c.shape = C.sh0 o)
    (hokn : ∀ b, S'.ok b → S.ok b ∨ C.w0.heap.size ≤ b ∨ C.don b := by first | (intro b hb; exact .inl hb) | (intro b hb; exact .inl (hb.resolve_right (fun h => h)))) :
    Inv C S' ⟨x.sl, ob'⟩ a w' ∧ (∀ v cs, VTC S x.ob w v cs → VTC S' ob' w' v cs) := by
  have hv : ∀ v cs, VTC S x.ob w v cs → VTC S' ob' w' v cs := by
    intro v cs
    refine VTC_tr (fun b hb => (hok b hb).1) (fun b hb => (hok b hb).2) ?_ ?_
    · intro o g h p win v hr hs
      by_cases ht : T o
      · exact (href o ht).1 g h p win v hr hs
      · obtain ⟨e1, e2, e3, e4⟩ := hkeep o ht
        exact ⟨(refOk_same e1).2 hr, slR_keep (fun c hc => (I.objs o c hc).1) e1 e2 (fun c hc b hb => (e4 c hc b hb).1) hs⟩
    · intro o g h p v hr hs
      by_cases ht : T o
      · exact (href o ht).2 g h p v hr hs
      · obtain ⟨e1, e2, e3, e4⟩ := hkeep o ht
        exact ⟨(refOk_same e1).2 hr, ptR_keep (fun c hc => (I.objs o c hc).1) e1 e2 (fun c hc b hb => (e4 c hc b hb).1) hs⟩
  refine ⟨⟨I.dfr, I.size, ?_, ?_, ?_, fun b hb => ⟨hokb b hb, (hokn b hb).elim (fun h => (I.okn b h).2) .inr⟩, hkept, ?_⟩, hv⟩
  · intro t v ht
    obtain ⟨u, hu, hvu⟩ := I.slots t v ht
    exact ⟨u, hu, VTV_tr hv hvu⟩
  · intro o c hc
    by_cases ht : T o
    · exact hobj hv o c ht hc
    · obtain ⟨e1, e2, e3, e4⟩ := hkeep o ht
      have hc' : (getO x.ob o).c = some c := by rw [← e1]; exact hc
      obtain ⟨h1, h2, h3⟩ := I.objs o c hc'
      refine ⟨ObR_keep hv e2 e3 (fun b hb => (e4 c hc' b hb).1) h1, by rw [e3]; exact h2, fun b hb => ?_⟩
      rw [e3] at hb
      exact ⟨(e4 c hc' b hb).2, Nat.lt_of_lt_of_le (h3 b hb).2.1 hsz, (h3 b hb).2.2⟩
  · intro o o' c c' hne hc hc' b hb hb'
    by_cases ht : T o
    · exact hsep o o' c c' ht hne hc hc' b hb hb'
    · by_cases ht' : T o'
      · exact hsep o' o c' c ht' (Ne.symm hne) hc' hc b hb' hb
      · obtain ⟨e1, _, e3, _⟩ := hkeep o ht
        obtain ⟨f1, _, f3, _⟩ := hkeep o' ht'
        rw [e3] at hb; rw [f3] at hb'
        exact I.sep o o' c c' hne (by rw [← e1]; exact hc) (by rw [← f1]; exact hc') b hb hb'
  · intro o c hf hg hc
    by_cases ht : T o
    · exact hfix o c ht hf hg hc
    · obtain ⟨e1, e2, _, _⟩ := hkeep o ht
      rw [e2]
      exact I.fix o c hf (by rw [← e1]; exact hg) (by rw [← e1]; exact hc)
theorem Inv.slot {C : Ctx} {S : Side} {x : X} {a : Act} {w : World} (I : Inv C S x a w) (d : Nat) (nv : Option VT) (u : Value) (h : ∀ v, nv = some v → VTV S x.ob w v u) :
    Inv C S ⟨x.sl.set d nv, x.ob⟩ (a.put (some d) u) w := by
  refine ⟨I.dfr, by simp [Act.put, I.size], ?_, I.objs, I.sep, I.okn, I.kept, I.fix⟩
  intro t v ht
  rw [getL_set] at ht
  split at ht
  · rename_i e
    obtain ⟨rfl, hd⟩ := e
    refine ⟨u, ?_, h v ht⟩
    simp [Act.put, I.size, hd]
  · rename_i e
    obtain ⟨u', hu', hv'⟩ := I.slots t v ht
    refine ⟨u', ?_, hv'⟩
    by_cases e' : d = t
    · subst e'
      have := getL_lt ht
      exact absurd ⟨rfl, this⟩ e
    · simp [Act.put, Array.getElem?_setIfInBounds_ne e', hu']
theorem Inv.put {C : Ctx} {S : Side} {x : X} {a : Act} {w : World} (I : Inv C S x a w) (dst : Option Nat) (nv : Option VT) (u : Value) (h : ∀ v, nv = some v → VTV S x.ob w v u) :
    Inv C S (x.app dst ⟨nv, []⟩) (a.put dst u) w := by
  cases dst with
  | none => exact I
  | some d => exact I.slot d nv u h
theorem Inv.same {C : Ctx} {S : Side} {x : X} {a : Act} {w w' : World} (I : Inv C S x a w) (hh : w'.heap = w.heap) (h1 : w'.os = w.os) (h2 : Ahead w w') (h3 : w'.output = w.output) : Inv C S x a w' := by
  have := (I.turn (S' := S) (ob' := x.ob) (w' := w') (fun _ => False) (fun o _ => ⟨rfl, rfl, rfl, fun c hc b hb => ⟨by rw [hh], ((I.objs o c hc).2.2 b hb).1⟩⟩) (fun b hb => ⟨hb, by rw [hh]⟩) (fun o h => h.elim) (fun _ o c h => h.elim) (fun o o' c c' h => h.elim)
    (by rw [hh]; exact Nat.le_refl _) (fun b hb => by rw [hh]; exact I.okb b hb) ⟨h1.trans I.kept.os, h2.trans I.kept.tape, h3.trans I.kept.output, by rw [hh]; exact I.kept.size, fun k hk hd => by rw [hh]; exact I.kept.block k hk hd⟩ (fun o c h => h.elim)).1
  exact this
theorem Inv.eval {C : Ctx} {S : Side} {x : X} {a : Act} {w : World} (I : Inv C S x a w) {y : Operand} {v : VT} (h : (rdOf x).v y = some v) : VTV S x.ob w v (a.eval y) := by
  cases y with
  | tmp t =>
    obtain ⟨u, hu, hv⟩ := I.slots t v h
    simpa [Act.eval, hu] using hv
  | const c =>
    simp only [rdOf] at h
    unfold constVT at h
    split at h <;> cases h
    · exact ⟨_, rfl, rfl⟩
    · exact ⟨_, rfl, rfl⟩
    · exact ⟨_, rfl, rfl⟩
    · exact ⟨_, rfl, rfl⟩
    · exact ⟨_, rfl, rfl⟩
    · exact ⟨_, ⟨_, rfl, rfl⟩, rfl⟩
    · exact ⟨_, ⟨_, rfl, rfl⟩, rfl⟩
  | global g => simp [rdOf] at h
  | func f =>
    simp only [rdOf] at h
    cases hb : Nat.blt f boN <;> rw [hb] at h <;> cases h
    exact ⟨[.func (.func f) #[] #[]], ⟨[], by rw [fnVal_fn hb], rfl⟩, rfl⟩
end Go.Vm
set_option linter.unusedVariables false
namespace Go.Vm
open Go Go.RowKit
theorem getP_nil (t : Ty) (x : t.D) : getP t x [] = some ⟨t, x⟩ := by cases t <;> rfl
theorem tyAt_nil (t : Ty) : tyAt t [] = some t := by cases t <;> rfl
theorem walk_nil (H : Nat → Option (List Value)) (t : Ty) (b off : Nat) : walk H t b off [] = some (b, off) := by cases t <;> rfl
theorem getP_ty : ∀ (t : Ty) {x : t.D} {p : List Stp} {d : Dy}, getP t x p = some d → tyAt t p = some d.t := by
  intro t
  induction t with
  | int k | bool | str | un | op =>
    intro x p d h
    cases p with
    | nil => simp only [getP] at h; cases h; rfl
    | cons s p => simp [getP] at h
  | pr a b iha ihb =>
    intro x p d h
    cases p with
    | nil => simp only [getP] at h; cases h; rfl
    | cons s p => cases s with
      | i n => simp [getP] at h
      | f j => cases j with
        | zero => exact iha h
        | succ j => exact ihb h
  | sl t ih =>
    intro x p d h
    cases p with
    | nil => simp only [getP] at h; cases h; rfl
    | cons s p => cases s with
      | f j => simp [getP] at h
      | i n => exact ih h
theorem root_set {H : Nat → Option (List Value)} {t : Ty} {A : Option Addr} {cap : Nat} {xs : List t.D} {F : List Nat} {p : List Stp} {t' : Ty} {x' : t'.D} {b' off' : Nat}
    (z : Nat) (hzF : z ∉ F) (ho : OwnS H (Own H t) t.cells A cap xs F) (hnd : F.Nodup) (hg : getP (.sl t) xs p = some ⟨t', x'⟩) (hw : locA H (A, cap) t xs.length p = some (b', off')) :
    ∃ l' cs' P F' Q, H b' = some l' ∧ off' + t'.cells ≤ l'.length ∧ sits H b' off' cs' ∧ Own H t' cs' x' F' ∧ F = P ++ (F' ++ Q) ∧ b' ∈ P ++ Q ∧ b' ∉ F' ∧
      ∀ (H2 : Nat → Option (List Value)) cs2 (x2 : t'.D) F2, cs2.length = t'.cells → H2 b' = some (setC l' off' cs2) → (∀ c ∈ P ++ Q, c ≠ b' → H2 c = H c) → z ∉ F2 → Own H2 t' cs2 x2 F2 →
        ∃ y : List t.D, setP (.sl t) xs p ⟨t', x2⟩ = some y ∧ y.length = xs.length ∧ OwnS H2 (Own H2 t) t.cells A cap y (P ++ (F2 ++ Q)) := by
  obtain ⟨hl0, hbF⟩ := locA_own (hd := (A, cap)) ho (H2 := H) (fun _ _ => rfl) hw
  have hne : b' ≠ z := fun e => hzF (e ▸ hbF)
  -- a block that holds the header
  let up (K : Nat → Option (List Value)) (c : Nat) : Option (List Value) := if c = z then some [.slice A xs.length cap] else K c
  have upz : ∀ K, up K z = some [.slice A xs.length cap] := fun K => by simp [up]
  have upo : ∀ K c, c ≠ z → up K c = K c := fun K c hc => by simp [up, hc]
  have inF : ∀ c ∈ F, up H c = H c := fun c hc => upo H c (fun e => hzF (e ▸ hc))
  have hs : sits (up H) z 0 [.slice A xs.length cap] := ⟨_, upz H, by simp, by simp⟩
  have ho' : Own (up H) (.sl t) [.slice A xs.length cap] xs F := Own_mono inF (⟨A, cap, rfl, ho⟩ : Own H (.sl t) _ xs F)
  have hw' : walk (up H) (.sl t) z 0 p = some (b', off') := by
    cases p with
    | nil => simp [locA] at hw
    | cons s p => cases s with
      | f j => simp [locA] at hw
      | i n =>
        have := (locA_own (hd := (A, cap)) ho (H2 := up H) inF hw).1
        have hc : cellAt (up H) z 0 = some (.slice A (List.length xs) cap) := by simpa using sits_cell hs (j := 0) rfl
        simp only [walk, hc]
        simp only [locA] at this
        cases A with
        | none => simp at this
        | some A =>
          obtain ⟨A1, A2, A3⟩ := A
          cases A3 with
          | none => exact this
          | some q => simp at this
  obtain ⟨l', cs', P, F', Q, h1, h2, h3, h4, h5, h6, h7, h8, h9⟩ := path_set (.sl t) hs ho' hzF hnd hg hw'
  have h6' : b' ∈ P ++ Q := by
    rcases List.mem_cons.1 h6 with h | h
    · exact absurd h hne
    · exact h
  rw [upo H b' hne] at h1
  have hzP : ∀ c ∈ P ++ Q, c ≠ z := fun c hc e => hzF (by rw [← e, h5]; simp at hc ⊢; grind)
  refine ⟨l', cs', P, F', Q, h1, h2, ?_, ?_, h5, h6', h7, ?_⟩
  · exact sits_same h3 (upo H b' hne).symm
  · exact Own_mono (fun c hc => (inF c (by rw [h5]; simp [hc])).symm) h4
  · intro H2 cs2 x2 F2 hc hH2 hsame hzF2 hown
    obtain ⟨y, csN, hy, hsN, hoN⟩ := h9 (up H2) cs2 x2 F2 hc (by rw [upo H2 b' hne]; exact hH2)
      (fun c hcm hcb => by
        rcases List.mem_cons.1 hcm with rfl | hcm
        · rw [upz, upz]
        · rw [upo H2 c (hzP c hcm), upo H c (hzP c hcm)]; exact hsame c hcm hcb)
      (Own_mono (fun c hcm => upo H2 c (fun e => hzF2 (e ▸ hcm))) hown)
    obtain ⟨A', cap', rfl, hoN⟩ := hoN
    obtain ⟨m, hm, hmn, hme⟩ := hsN
    rw [upz] at hm
    cases hm
    simp at hme
    obtain ⟨e1, e2, e3⟩ := hme
    subst e1; subst e3
    refine ⟨y, hy, e2.symm, ?_⟩
    exact OwnS_mono (fun c hcm => (upo H2 c (fun e => by
      subst e
      simp at hcm
      rcases hcm with h | h | h
      · exact hzP c (by simp [h]) rfl
      · exact hzF2 h
      · exact hzP c (by simp [h]) rfl)).symm) hoN
theorem Rows_drop {α : Type} {R : List Value → α → Prop} {sz : Nat} : ∀ {xs : List α} {cs : List Value} (n : Nat), n ≤ xs.length → Rows R sz cs xs → Rows R sz (cs.drop (n * sz)) (xs.drop n)
  | _, _, 0, _, h => by simpa using h
  | [], _, n + 1, h, _ => by simp at h
  | x :: xs, _, n + 1, hn, ⟨c1, c2, e, l, h1, h2⟩ => by
    subst e
    have := Rows_drop n (by simpa using hn) h2
    rw [show (n + 1) * sz = c1.length + n * sz by rw [l, Nat.succ_mul]; omega, ← List.drop_drop]
    simpa using this
theorem Rows_pre {α : Type} {R : List Value → α → Prop} {sz : Nat} : ∀ {xs : List α} {cs : List Value} (n : Nat), Rows R sz cs xs → Rows R sz cs (xs.take n)
  | _, _, 0, _ => by simp [Rows]
  | [], _, n + 1, _ => by simp [Rows]
  | x :: xs, _, n + 1, ⟨c1, c2, e, l, h1, h2⟩ => ⟨c1, c2, e, l, h1, Rows_pre n h2⟩
theorem lies_drop {c : Nat → Nat → Option Value} {b off : Nat} {cs : List Value} (h : lies c b off cs) (k : Nat) : lies c b (off + k) (cs.drop k) := by
  intro j v hv
  rw [List.getElem?_drop] at hv
  have := h _ _ hv
  rwa [← Nat.add_assoc] at this
theorem lies_take {c : Nat → Nat → Option Value} {b off : Nat} {cs : List Value} (h : lies c b off cs) (k : Nat) : lies c b off (cs.take k) := by
  intro j v hv
  rw [List.getElem?_take] at hv
  split at hv
  · exact h _ _ hv
  · cases hv
theorem add_plain (b o k : Nat) : (⟨b, o, none⟩ : Addr).add k = ⟨b, o + k, none⟩ := by unfold Addr.add; split <;> simp_all
def winL {α : Type} : Option (Nat × Nat) → List α → List α
  | none, ys => ys
  | some (lo, n), ys => (ys.drop lo).take n
theorem RO_win {ok : Nat → Prop} {c : Nat → Nat → Option Value} {t : Ty} {A : Option Addr} {cap n : Nat} {xs : List t.D} (hn : n = xs.length) (h : RO ok c (.sl t) [.slice A n cap] xs) {lo m : Nat} (hlm : lo + m ≤ n) {A' : Option Addr}
    (hA : m ≠ 0 → A' = A.map (·.add (lo * t.cells))) : RO ok c (.sl t) [.slice A' m (cap - lo)] ((xs.drop lo).take m) := by
  subst hn
  obtain ⟨A0, cap0, e, hl, h⟩ := h
  injection e with e
  injection e with e1 e2 e3
  subst e1; subst e3
  have hlen : ((xs.drop lo).take m).length = m := by rw [List.length_take, List.length_drop]; omega
  refine ⟨A', cap - lo, by rw [hlen], by rw [hlen]; omega, fun hx => ?_⟩
  have hm : m ≠ 0 := fun e => by rw [e] at hx; simp at hx
  have hx0 : xs ≠ [] := fun e => by rw [e] at hx; simp at hx
  obtain ⟨b, off, rfl, hb, ccs, hcl, hli, hr⟩ := h hx0
  rw [hA hm]
  refine ⟨b, off + lo * t.cells, by simp [add_plain], hb, (ccs.drop (lo * t.cells)).take (m * t.cells), ?_, lies_take (lies_drop hli _) _, ?_⟩
  · rw [hlen, List.length_take, List.length_drop, hcl]
    have : lo * t.cells + m * t.cells ≤ List.length xs * t.cells := by rw [← Nat.add_mul]; exact Nat.mul_le_mul_right _ hlm
    omega
  · exact Rows_take _ (by rw [hlen]; exact Nat.le_refl _) (Rows_pre m (Rows_drop lo (by omega) hr))
structure RdOk (r : Rd) (x : X) : Prop where
  v : ∀ y v, r.v y = some v → (rdOf x).v y = some v
  o : ∀ n c, (r.o n).c = some c → r.o n = getO x.ob n
theorem rdR_ok (x : X) (f : Fp) : RdOk (rdR x f) x := by
  refine ⟨fun y v h => ?_, fun n c h => ?_⟩
  · cases y with
    | tmp t =>
      simp only [rdR] at h
      cases hm : memN f.rs t <;> rw [hm] at h
      · cases h
      · exact h
    | _ => exact h
  · simp only [rdR] at h ⊢
    cases hm : memN f.ro n
    · rw [hm] at h; cases h
    · rfl
def okA (S : Side) (ob : List Obe) (b : Nat) : Prop := S.ok b ∨ ∃ o c, (getO ob o).c = some c ∧ b ∈ S.fp o
theorem slice_own {C : Ctx} {S : Side} {x : X} {a : Act} {w : World} (I : Inv C S x a w) {r : Rd} (R : RdOk r x) {o g h : Nat} {p : List Stp} {win : Option (Nat × Nat)} {d : Dy} (hd : r.slice o g h p win = some d) :
    ∃ t xs nn te A cap F', ∃ ys : List te.D, (getO x.ob o).c = some (.arr t xs nn) ∧ g = (getO x.ob o).g ∧ (p = [] ∨ h = (getO x.ob o).h) ∧ getP (.sl t) xs p = some ⟨.sl te, ys⟩ ∧ tyAt (.sl t) p = some (.sl te) ∧
      d = ⟨.sl te, winL win ys⟩ ∧ r.o o = getO x.ob o ∧
      (∀ v, slR S x.ob w o g h p win v → ∃ A n cap F', n = ys.length ∧ winR te.cells A n cap win v ∧ OwnS (hv w) (Own (hv w) te) te.cells A cap ys F' ∧ (∀ b ∈ F', b ∈ S.fp o) ∧ (p = [] → S.hd o = (A, cap) ∧ F' = S.fp o)) ∧
      A = (S.hd o).1 ∧ cap = (S.hd o).2 ∧ F' = S.fp o := by
  unfold Rd.slice at hd
  split at hd
  · rename_i g' h' t xs nn he
    have heq := R.o o (.arr t xs nn) (by rw [he])
    rw [he] at heq
    cases hc : (Nat.beq g g' && (p.isEmpty || Nat.beq h h')) <;> rw [hc] at hd
    · cases hd
    · simp only [cond_true] at hd
      simp only [Bool.and_eq_true, Bool.or_eq_true] at hc
      split at hd
      · rename_i te ys hg
        have hg' : g = (getO x.ob o).g := by rw [← heq]; exact Nat.eq_of_beq_eq_true hc.1
        have hph : p = [] ∨ h = (getO x.ob o).h := by
          rw [← heq]
          rcases hc.2 with h1 | h1
          · left; cases p with
            | nil => rfl
            | cons => simp at h1
          · right; exact Nat.eq_of_beq_eq_true h1
        have hob : (getO x.ob o).c = some (.arr t xs nn) := by rw [← heq]
        refine ⟨t, xs, nn, te, _, _, _, ys, hob, hg', hph, hg, getP_ty _ hg, ?_, by rw [he]; exact heq, ?_, rfl, rfl, rfl⟩
        · cases win with
          | none => simp at hd; exact hd.symm
          | some q => obtain ⟨lo, n⟩ := q; simp at hd; exact hd.symm
        · intro v hs
          obtain ⟨te', A, n, cap, hty, hh, hw⟩ := hs.1 t xs nn hob hg' hph
          have e : te' = te := by
            have := getP_ty _ hg
            rw [this] at hty
            injection hty with hty
            injection hty with hty
            exact hty.symm
          subst e
          obtain ⟨⟨hown, _⟩, hnd, hmine⟩ := I.objs o _ hob
          cases p with
          | nil =>
            rw [getP_nil] at hg
            injection hg with hg
            injection hg with h1 h2
            injection h1 with h1
            subst h1
            cases h2
            obtain ⟨e1, e2⟩ := hh
            rw [e1] at hown
            exact ⟨A, n, cap, S.fp o, e2, hw, hown, fun b hb => hb, fun _ => ⟨e1, rfl⟩⟩
          | cons s p =>
            obtain ⟨b, off, hl, hcell⟩ := hh
            obtain ⟨l', cs', P, F', Q, h1, h2, h3, h4, h5, h6, h7, h8⟩ := root_set w.heap.size (fun hm => by have := (hmine _ hm).2.1; omega) hown hnd hg hl
            obtain ⟨A2, cap2, rfl, h4⟩ := h4
            have := sits_cell h3 (j := 0) rfl
            rw [Nat.add_zero, hcell] at this
            injection this with this
            injection this with e1 e2 e3
            subst e1; subst e3
            exact ⟨A, n, cap, F', e2, hw, h4, fun b hb => by rw [h5]; simp [hb], fun e => by cases e⟩
      · cases hd
  · cases hd
theorem Own_okA {C : Ctx} {S : Side} {x : X} {a : Act} {w : World} (I : Inv C S x a w) {o : Nat} {c : Ob} (ho : (getO x.ob o).c = some c) {t : Ty} {cs : List Value} {y : t.D} {F : List Nat} (hF : ∀ b ∈ F, b ∈ S.fp o) (h : Own (hv w) t cs y F) : RO (okA S x.ob) (cv w) t cs y :=
  Own_RO (fun b hb => .inr ⟨o, c, ho, hF b hb⟩) (fun b _ l hl o => hv_cv hl o) h
theorem win_RO {C : Ctx} {S : Side} {x : X} {a : Act} {w : World} (I : Inv C S x a w) {o : Nat} {c : Ob} (ho : (getO x.ob o).c = some c) {te : Ty} {A : Option Addr} {n cap : Nat} {F' : List Nat} {ys : List te.D} (hn : n = ys.length)
    (hw : OwnS (hv w) (Own (hv w) te) te.cells A cap ys F') (hF : ∀ b ∈ F', b ∈ S.fp o) {win : Option (Nat × Nat)} {v : Value} (hwin : winR te.cells A n cap win v) :
    RO (okA S x.ob) (cv w) (.sl te) [v] (winL win ys) := by
  have hro : RO (okA S x.ob) (cv w) (.sl te) [.slice A n cap] ys := Own_okA I ho hF (by subst hn; exact ⟨A, cap, rfl, hw⟩)
  cases win with
  | none => simp only [winR] at hwin; subst hwin; exact hro
  | some q =>
    obtain ⟨lo, m⟩ := q
    obtain ⟨hlm, A', e, hA⟩ := hwin
    subst e
    exact RO_win hn hro hlm hA
theorem Rd_val {C : Ctx} {S : Side} {x : X} {a : Act} {w : World} (I : Inv C S x a w) {r : Rd} (R : RdOk r x) : ∀ {t : Ty} {v : VT} {y : t.D} {cs : List Value}, r.val t v = some y → VTC S x.ob w v cs → RO (okA S x.ob) (cv w) t cs y := by
  have hva : ∀ (t : Ty) (t' : Ty) (z : t'.D) (y : t.D) (cs : List Value), Dy.as ⟨t', z⟩ t = some y → VTC S x.ob w (.va t' z) cs → RO (okA S x.ob) (cv w) t cs y := by
    intro t t' z y cs h hc
    have := Dy_as h
    injection this with e1 e2
    subst e1
    cases e2
    exact RO_mono (fun b hb => .inl hb) (fun _ _ _ => rfl) hc
  intro t
  induction t with
  | int k | bool | str | op =>
    intro v y cs h hc
    cases v <;> simp only [Rd.val] at h <;> first | exact hva _ _ _ _ _ h hc | cases h
  | un =>
    intro v y cs h hc
    cases v <;> simp only [Rd.val] at h <;> first | exact hva _ _ _ _ _ h hc | cases h
    exact hc
  | pr a b iha ihb =>
    intro v y cs h hc
    cases v <;> simp only [Rd.val] at h <;> first | exact hva _ _ _ _ _ h hc | cases h | skip
    rename_i v u
    rw [Option.bind_eq_some_iff] at h
    obtain ⟨y1, h1, h⟩ := h
    rw [Option.map_eq_some_iff] at h
    obtain ⟨y2, h2, rfl⟩ := h
    obtain ⟨c1, c2, e, hc1, hc2⟩ := hc
    exact ⟨c1, c2, e, iha h1 hc1, ihb h2 hc2⟩
  | sl t ih =>
    intro v y cs h hc
    cases v <;> simp only [Rd.val] at h <;> first | exact hva _ _ _ _ _ h hc | (cases h; done) | skip
    · cases h
      exact ⟨none, 0, hc, by simp, fun h => absurd rfl h⟩
    · cases h
      obtain ⟨A, hc⟩ := hc
      exact ⟨A, 0, hc, by simp, fun h => absurd rfl h⟩
    · rename_i o g hh p win
      rw [Option.bind_eq_some_iff] at h
      obtain ⟨d, hd, h⟩ := h
      obtain ⟨v0, rfl, h1, h2, h3⟩ := hc
      obtain ⟨t0, xs, nn, te, _, _, _, ys, hob, hg, hph, hgp, hty, hdeq, hro, hall, _⟩ := slice_own I R hd
      obtain ⟨A, n, cap, F', hn, hwin, hown, hF, _⟩ := hall v0 h3
      have := Dy_as h
      rw [hdeq] at this
      injection this with e1 e2
      injection e1 with e1
      subst e1
      cases e2
      exact win_RO I hob hn hown hF hwin
end Go.Vm
set_option linter.unusedVariables false
namespace Go.Vm
open Go Go.RowKit
def Ty.zc : Ty → List Value
  | .int k => [.int k 0]
  | .bool => [.bool false]
  | .str => [.string ByteArray.empty]
  | .sl _ => [.slice none 0 0]
  | .pr a b => a.zc ++ b.zc
  | .un => []
  | .op => [.pointer none]
def zcI (k : IntKind) : List Value → Option (List Value)
  | .int k' n :: l => if k = k' ∧ n = 0 then some l else none
  | _ => none
def zcBo : List Value → Option (List Value)
  | .bool b :: l => if b = false then some l else none
  | _ => none
def zcS : List Value → Option (List Value)
  | .string s :: l => if s.size = 0 then some l else none
  | _ => none
def zcL : List Value → Option (List Value)
  | .slice none 0 0 :: l => some l
  | _ => none
def zcO : List Value → Option (List Value)
  | v :: l => if v.oneCell' then some l else none
  | _ => none
def zcB : Ty → List Value → Option (List Value)
  | .int k, l => zcI k l
  | .bool, l => zcBo l
  | .str, l => zcS l
  | .sl _, l => zcL l
  | .pr a b, l => (zcB a l).bind (zcB b)
  | .un, l => some l
  | .op, l => zcO l
def chainOk (T : Tab) : List Field → List Nat → Ty → Nat → Prop
  | [], [], .un, _ => True
  | f :: fl, i :: l, .pr a b, off => f.type = i ∧ f.offset = off ∧ (∃ te, T.find i = some te ∧ te.ty = a) ∧ chainOk T fl l b (off + a.cells)
  | _, _, _, _ => False
def arrTy : Nat → Ty → Ty
  | 0, _ => .un
  | n + 1, t => .pr t (arrTy n t)
def descOk (T : Tab) (te : TE) : TypeDesc → Prop
  | .int k => te.k = .one ∧ te.ty = .int k
  | .bool => te.k = .one ∧ te.ty = .bool
  | .string => te.k = .one ∧ te.ty = .str
  | .slice e => te.k = .sl e ∧ ∃ te', T.find e = some te' ∧ te.ty = .sl te'.ty
  | .struct fs => ∃ l, te.k = .st l ∧ chainOk T fs.toList l te.ty 0
  | .array n e => te.k = .ar n e ∧ ∃ te', T.find e = some te' ∧ te.ty = arrTy n te'.ty
  | .map k e => te.k = .mp k e ∧ te.ty = .op
  | .interface _ => False
  | _ => te.k = .one ∧ te.ty = .op
def aggV : Value → Bool
  | .agg _ => true
  | _ => false
def MsOk (P : Program) (t : Nat) (name : String) (f : Nat) : Prop := ∀ (v : Value) (w : World), (method (P.types.size + Made.depth) t v name).run P w = .ok (f, v) w
structure TEok (P : Program) (T : Tab) (te : TE) : Prop where
  info : ∃ i z, P.info? te.id = some i ∧ i.size = te.ty.cells ∧ i.bytes ≤ 131072 ∧ i.zero = some z ∧ zcB te.ty z.cells.toList = some []
  desc : ∃ d, P.underlying te.id = some d ∧ descOk T te d
  zag : ∀ i z, P.info? te.id = some i → i.zero = some z → aggV z = te.ty.agg
  meth : ∀ name f, msFind te.ms name = some f → MsOk P te.id name f
def TabOk (P : Program) (T : Tab) : Prop := ∀ t te, T.find t = some te → te.id = t ∧ TEok P T te
section
variable {P : Program}
theorem TabOk.und {T : Tab} (h : TabOk P T) {t : Nat} {te : TE} (ht : T.find t = some te) : ∃ d, P.underlying t = some d ∧ descOk T te d := by
  obtain ⟨e, h⟩ := h t te ht
  obtain ⟨d, h1, h2⟩ := h.desc
  exact ⟨d, e ▸ h1, h2⟩
theorem TabOk.inf {T : Tab} (h : TabOk P T) {t : Nat} {te : TE} (ht : T.find t = some te) : ∃ i z, P.info? t = some i ∧ i.size = te.ty.cells ∧ i.bytes ≤ 131072 ∧ i.zero = some z ∧ zcB te.ty z.cells.toList = some [] := by
  obtain ⟨e, h⟩ := h t te ht
  obtain ⟨i, z, h1, h2⟩ := h.info
  exact ⟨i, z, e ▸ h1, h2⟩
theorem run_size {T : Tab} (h : TabOk P T) {t : Nat} {te : TE} (ht : T.find t = some te) (w : World) : (sizeOf t).run P w = .ok te.ty.cells w := by
  obtain ⟨i, z, h1, h2, _⟩ := h.inf ht
  simp [sizeOf, typeInfo, h1, h2]
theorem run_agg {T : Tab} (h : TabOk P T) {t : Nat} {te : TE} (ht : T.find t = some te) (w : World) : (isAgg t).run P w = .ok te.ty.agg w := by
  obtain ⟨d, h1, h2⟩ := h.und ht
  unfold isAgg
  rw [Sem.run_bind, run_underlying h1]
  cases d <;> simp only [descOk] at h2 <;> simp
  case struct fs =>
    obtain ⟨l, _, h⟩ := h2
    cases hty : te.ty <;> rw [hty] at h <;> simp [Ty.agg]
    all_goals (cases hf : fs.toList <;> rw [hf] at h <;> cases l <;> simp [chainOk] at h)
  case array n e =>
    obtain ⟨_, te', _, h⟩ := h2
    rw [h]
    cases n <;> rfl
  all_goals first
    | exact h2.2.symm
    | (simp only [h2.2]; done)
    | (rw [h2.2]; rfl)
    | (obtain ⟨_, te', _, h⟩ := h2; rw [h]; rfl)
variable {S : Side} {ob : List Obe} {w : World}
theorem VTV_int {k : IntKind} {n : Int} {u : Value} (h : VTV S ob w (.va (.int k) n) u) : u = .int k n := by
  obtain ⟨cs, h, e⟩ := h
  simp only [VTC, RO] at h
  subst h
  exact e
theorem VTV_bool {b : Bool} {u : Value} (h : VTV S ob w (.va .bool b) u) : u = .bool b := by
  obtain ⟨cs, h, e⟩ := h
  simp only [VTC, RO] at h
  subst h
  exact e
theorem int_VTV (k : IntKind) (n : Int) : VTV S ob w (.va (.int k) n) (.int k n) := ⟨[.int k n], rfl, rfl⟩
theorem bool_VTV (b : Bool) : VTV S ob w (.va .bool b) (.bool b) := ⟨[.bool b], rfl, rfl⟩
theorem pure'_has {m : Br VT} {e : Eff} (h : (pure' m).has e) : ∃ v, m.has v ∧ e = ⟨some v, []⟩ := by
  induction m with
  | ret v => exact ⟨v, rfl, h.symm⟩
  | no => exact h.elim
  | chk c d t ih => obtain ⟨v, h1, h2⟩ := ih h.2; exact ⟨v, ⟨h.1, h1⟩, h2⟩
  | cnd b t f ih1 ih2 =>
    cases b
    · exact ih2 h
    · exact ih1 h
  | call y t ih =>
    obtain ⟨v, hv, h⟩ := h
    obtain ⟨u, h1, h2⟩ := ih v h
    exact ⟨u, ⟨v, hv, h1⟩, h2⟩
def Fine (P : Program) (C : Ctx) (o : Oper) (a : Act) (w : World) (x : X) (e : Eff) : Prop :=
  ∃ u w', ((execOp a.eval o).run P w = .ok (.value u) w' ∨ ((execOp a.eval o).run P w = .ok .skip w' ∧ u = undef)) ∧ ∃ S', Inv C S' (x.app o.dst e) (a.put o.dst u) w'
theorem Fine.pure {C : Ctx} {x : X} {a : Act} {w : World} {S : Side} (I : Inv C S x a w) {o : Oper} {v : VT} {u : Value} (h : (execOp a.eval o).run P w = .ok (.value u) w) (hv : VTV S x.ob w v u) : Fine P C o a w x ⟨some v, []⟩ :=
  ⟨u, w, .inl h, S, I.put o.dst (some v) u (fun v' e => by cases e; exact hv)⟩
theorem run_v {s : Sem Value} {u : Value} {w w' : World} (h : s.run P w = .ok u w') : (do Pure.pure (Next.value (← s)) : Sem Next).run P w = .ok (.value u) w' := by
  simp [Sem.run_bind, h]
theorem run_u {s : Sem Unit} {w w' : World} (h : s.run P w = .ok () w') : (do s; Pure.pure Next.skip : Sem Next).run P w = .ok .skip w' := by
  simp [Sem.run_bind, h]
theorem opBin_sound {op : BinOp} {a b v : VT} (h : (opBin op a b).has v) {ua ub : Value} (ha : VTV S ob w a ua) (hb : VTV S ob w b ub) (t : TypeId) (x y : Operand) :
    ∃ u, (do eqGuard op t x y ua ub; binOp op t ua ub : Sem Value).run P w = .ok u w ∧ VTV S ob w v u := by
  unfold opBin at h
  split at h
  · rename_i k n k' m
    obtain rfl := VTV_int ha
    obtain rfl := VTV_int hb
    have hg : ∀ op' k k' (n m : Int), (eqGuard op' t x y (.int k n) (.int k' m)).run P w = .ok () w := by
      intro op' k k' n m
      unfold eqGuard
      cases op' <;> simp
    split at h
    · obtain ⟨h0, h⟩ := h
      cases h
      have h0' : ¬ (m : Int) < 0 := Int.not_lt.2 h0
      exact ⟨_, by simp [hg, binOp, Op.shift, h0', shlW], int_VTV _ _⟩
    · obtain ⟨h0, h⟩ := h
      cases h
      have h0' : ¬ (m : Int) < 0 := Int.not_lt.2 h0
      exact ⟨_, by simp [hg, binOp, Op.shift, h0', shrW], int_VTV _ _⟩
    · rename_i hne1 hne2
      obtain ⟨hk, h⟩ := Br.when_has h
      have hk := of_decide_eq_true hk
      subst hk
      cases op <;> simp only at h <;> first | exact h.elim | skip
      all_goals first
        | (cases h; refine ⟨_, ?_, int_VTV _ _⟩; simp [hg, binOp, Op.intArith]; done)
        | (obtain ⟨h0, h⟩ := h; cases h; exact ⟨_, by simp [hg, binOp, Op.intDiv, h0], int_VTV _ _⟩)
        | (cases h; refine ⟨_, ?_, bool_VTV _⟩; simp [hg, binOp, Op.intCmp]; done)
        | (cases h; refine ⟨_, ?_, bool_VTV _⟩; simp [hg, binOp, Op.intCmp]; rfl)
        | (cases h; refine ⟨_, ?_, int_VTV _ _⟩; simp [hg, binOp]; rfl)
  · exact h.elim
theorem opUn_sound {op : UnOp} {a v : VT} (h : (opUn op a).has v) {ua : Value} (ha : VTV S ob w a ua) : ∃ u, (Op.unary op ua).run P w = .ok u w ∧ VTV S ob w v u := by
  unfold opUn at h
  split at h
  · obtain rfl := VTV_bool ha
    cases op <;> simp only at h <;> first | exact h.elim | (cases h; exact ⟨_, by simp [Op.unary], bool_VTV _⟩)
  · obtain rfl := VTV_int ha
    cases op <;> simp only at h <;> first | exact h.elim | (cases h; exact ⟨_, by simp [Op.unary, Op.intArith], int_VTV _ _⟩)
  · exact h.elim
end
end Go.Vm
set_option linter.unusedVariables false
set_option linter.unusedSimpArgs false
namespace Go.Vm
open Go Go.RowKit
def Ty.fo : Ty → Nat → Nat
  | .pr _ _, 0 => 0
  | .pr a b, j + 1 => a.cells + b.fo j
  | _, _ => 0
theorem walk_f (H : Nat → Option (List Value)) : ∀ (t : Ty) (j : Nat) {t' : Ty} (b off : Nat) (q : List Stp), tyAt t [.f j] = some t' → walk H t b off (.f j :: q) = walk H t' b (off + t.fo j) q
  | .pr a d, 0, t', b, off, q, h => by simp [tyAt, tyAt_nil] at h; subst h; rfl
  | .pr a d, j + 1, t', b, off, q, h => by
    have := walk_f H d j b (off + a.cells) q h
    simp only [walk, Ty.fo]
    rw [this, Nat.add_assoc]
  | .int _, _, _, _, _, _, h | .bool, _, _, _, _, _, h | .str, _, _, _, _, _, h | .un, _, _, _, _, _, h | .op, _, _, _, _, _, h | .sl _, _, _, _, _, _, h => by simp [tyAt] at h
theorem walk_app {H : Nat → Option (List Value)} : ∀ (t : Ty) {p q : List Stp} {t' : Ty} {b off b' off' : Nat}, walk H t b off p = some (b', off') → tyAt t p = some t' → walk H t b off (p ++ q) = walk H t' b' off' q := by
  intro t
  induction t with
  | int k | bool | str | un | op =>
    intro p q t' b off b' off' hw ht
    cases p with
    | nil => rw [walk_nil] at hw; rw [tyAt_nil] at ht; cases hw; cases ht; rfl
    | cons s p => simp [walk] at hw
  | pr a d iha ihd =>
    intro p q t' b off b' off' hw ht
    cases p with
    | nil => rw [walk_nil] at hw; rw [tyAt_nil] at ht; cases hw; cases ht; rfl
    | cons s p => cases s with
      | i n => simp [walk] at hw
      | f j => cases j with
        | zero => exact iha hw ht
        | succ j => exact ihd (p := .f j :: p) hw ht
  | sl t ih =>
    intro p q t' b off b' off' hw ht
    cases p with
    | nil => rw [walk_nil] at hw; rw [tyAt_nil] at ht; cases hw; cases ht; rfl
    | cons s p => cases s with
      | f j => simp [walk] at hw
      | i n =>
        simp only [List.cons_append, walk] at hw ⊢
        split at hw
        · split at hw
          · rename_i hn
            rw [if_pos hn]
            exact ih hw ht
          · cases hw
        · cases hw
theorem tyAt_app : ∀ (t : Ty) {p q : List Stp} {t' : Ty}, tyAt t p = some t' → tyAt t (p ++ q) = tyAt t' q := by
  intro t
  induction t with
  | int k | bool | str | un | op =>
    intro p q t' ht
    cases p with
    | nil => rw [tyAt_nil] at ht; cases ht; rfl
    | cons s p => simp [tyAt] at ht
  | pr a d iha ihd =>
    intro p q t' ht
    cases p with
    | nil => rw [tyAt_nil] at ht; cases ht; rfl
    | cons s p => cases s with
      | i n => simp [tyAt] at ht
      | f j => cases j with
        | zero => exact iha ht
        | succ j => exact ihd (p := .f j :: p) ht
  | sl t ih =>
    intro p q t' ht
    cases p with
    | nil => rw [tyAt_nil] at ht; cases ht; rfl
    | cons s p => cases s with
      | f j => simp [tyAt] at ht
      | i n => exact ih ht
theorem locA_app {H : Nat → Option (List Value)} {hd : Option Addr × Nat} {t : Ty} {len : Nat} {p q : List Stp} {t' : Ty} {b' off' : Nat} (hw : locA H hd t len p = some (b', off')) (ht : tyAt (.sl t) p = some t') :
    locA H hd t len (p ++ q) = walk H t' b' off' q := by
  cases p with
  | nil => simp [locA] at hw
  | cons s p => cases s with
    | f j => simp [locA] at hw
    | i n =>
      simp only [List.cons_append, locA] at hw ⊢
      split at hw
      · split at hw
        · rename_i hn
          rw [if_pos hn]
          exact walk_app t hw ht
        · cases hw
      · cases hw
theorem expT_sound {S : Side} {ob : List Obe} {w : World} {o g h : Nat} {t0 : Ty} {xs : List t0.D} {nn : Bool} (hob : (getO ob o).c = some (.arr t0 xs nn)) (hg : g = (getO ob o).g) (hh : h = (getO ob o).h) :
    ∀ (t : Ty) {x : t.D} {cs : List Value} {F : List Nat} {b off : Nat} {p : List Stp} (jo : Option Nat), Own (hv w) t cs x F → sits (hv w) b off cs → t.data = true →
      (match jo with
        | none => p ≠ [] ∧ (∀ q, locA (hv w) (S.hd o) t0 (List.length xs) (p ++ q) = walk (hv w) t b off q) ∧ (∀ q, tyAt (.sl t0) (p ++ q) = tyAt t q)
        | some j => t.agg = true ∧ p ≠ [] ∧ (∀ i q, locA (hv w) (S.hd o) t0 (List.length xs) (p ++ .f (j + i) :: q) = walk (hv w) t b off (.f i :: q)) ∧ (∀ i q, tyAt (.sl t0) (p ++ .f (j + i) :: q) = tyAt t (.f i :: q))) →
      VTC S ob w (expT o g h t x p jo) cs := by
  intro t
  induction t with
  | int k | bool | str =>
    intro x cs F b off p jo ho hs hd hl
    exact ho.1
  | un =>
    intro x cs F b off p jo ho hs hd hl
    exact ho.1
  | op =>
    intro x cs F b off p jo ho hs hd hl
    exact ho.elim
  | sl t ih =>
    intro x cs F b off p jo ho hs hd hl
    cases jo with
    | some j => simp [Ty.agg] at hl
    | none =>
      obtain ⟨hp, hl, hty⟩ := hl
      obtain ⟨A, cap, rfl, ho⟩ := ho
      refine ⟨_, rfl, rfl, .inr ⟨hg, by omega⟩, ?_, fun t1 xs1 nn1 j1 hc => by rw [hob] at hc; cases hc⟩
      intro t1 xs1 nn1 hc _ _
      rw [hob] at hc
      cases hc
      have h0 := hl []
      have t0' := hty []
      rw [List.append_nil, walk_nil] at h0
      rw [List.append_nil, tyAt_nil] at t0'
      refine ⟨t, A, List.length x, cap, t0', ?_, rfl⟩
      have hcell : cellAt (hv w) b off = some (.slice A (List.length x) cap) := by simpa using sits_cell hs (j := 0) rfl
      cases p with
      | nil => exact absurd rfl hp
      | cons s p => exact ⟨b, off, h0, hcell⟩
  | pr a d iha ihd =>
    intro x cs F b off p jo ho hs hd hl
    obtain ⟨c1, c2, F1, F2, rfl, rfl, h1, h2⟩ := ho
    simp [Ty.data] at hd
    have hlen := Own_len h1
    -- the fields from number j0 on
    have key : ∀ j0, p ≠ [] → (∀ i q, locA (hv w) (S.hd o) t0 (List.length xs) (p ++ .f (j0 + i) :: q) = walk (hv w) (.pr a d) b off (.f i :: q)) → (∀ i q, tyAt (.sl t0) (p ++ .f (j0 + i) :: q) = tyAt (.pr a d) (.f i :: q)) →
        VTC S ob w (.pr (expT o g h a x.1 (p ++ [.f j0]) none) (expT o g h d x.2 p (some (j0 + 1)))) (c1 ++ c2) := by
      intro j0 hp hloc hty
      refine ⟨c1, c2, rfl, iha none h1 (sits_left hs) hd.1 ⟨by simp, fun q => ?_, fun q => ?_⟩, ?_⟩
      · have := hloc 0 q; simpa [walk] using this
      · have := hty 0 q; simpa [tyAt] using this
      · have hs2 : sits (hv w) b (off + a.cells) c2 := by have := sits_right hs; rwa [hlen] at this
        refine ihd (some (j0 + 1)) h2 hs2 hd.2.1 ⟨hd.2.2, hp, fun i q => ?_, fun i q => ?_⟩
        · have := hloc (i + 1) q; rw [show j0 + 1 + i = j0 + (i + 1) by omega]; simpa [walk] using this
        · have := hty (i + 1) q; rw [show j0 + 1 + i = j0 + (i + 1) by omega]; simpa [tyAt] using this
    cases jo with
    | none =>
      obtain ⟨hp, hl, hty⟩ := hl
      exact key 0 hp (fun i q => by rw [Nat.zero_add]; exact hl _) (fun i q => by rw [Nat.zero_add]; exact hty _)
    | some j =>
      obtain ⟨_, hp, hl, hty⟩ := hl
      exact key j hp hl hty
section
variable {P : Program} {S : Side} {ob : List Obe} {w : World}
theorem run_loadV {T : Tab} (hT : TabOk P T) {t : Nat} {te : TE} (ht : T.find t = some te) {b off : Nat} {cs : List Value} (hl : cs.length = te.ty.cells) (h : lies (cv w) b off cs) :
    (loadVar t ⟨b, off, none⟩).run P w = .ok (if te.ty.agg then .agg cs.toArray else cs.headD undef) w := by
  have hc := run_loadCells_list (P := P) w ⟨b, off, none⟩ cs (fun j v hv => by rw [add_plain]; exact h j v hv)
  unfold loadVar
  rw [Sem.run_bind, run_agg hT ht]
  cases hag : te.ty.agg
  · have h1 : te.ty.cells = 1 := by
      cases hty : te.ty <;> rw [hty] at hag <;> simp [Ty.agg] at hag <;> rfl
    rw [h1] at hl
    obtain ⟨v, rfl⟩ := List.length_eq_one_iff.1 hl
    have := h 0 v rfl
    rw [Nat.add_zero] at this
    unfold cv at this
    simp [this]
  · rw [hl] at hc
    simp [run_size hT ht, hc]
theorem run_loadA {T : Tab} (hT : TabOk P T) {t : Nat} {te : TE} (ht : T.find t = some te) {b off : Nat} {cs : List Value} (hl : cs.length = te.ty.cells) (h : lies (cv w) b off cs) :
    (Instr.loadAt t (.pointer (some ⟨b, off, none⟩))).run P w = .ok (if te.ty.agg then .agg cs.toArray else cs.headD undef) w := run_loadV hT ht hl h
theorem fits_agg : ∀ {v : VT} {t : Ty}, v.fits t = true → v.isAgg = t.agg
  | .va t _, u, h => by have := of_decide_eq_true h; subst this; rfl
  | .nl, .sl _, _ | .em, .sl _, _ | .sl _ _ _ _ _, .sl _, _ | .pt _ _ _ _, .op, _ | .rp _ _, .op, _ | .np, .op, _ | .fn _ _, .op, _ | .an, .op, _ | .an, .sl _, _ | .pr _ _, .pr _ _, _ | .un, .un, _ => rfl
theorem fits_cells : ∀ {v : VT} {t : Ty}, v.fits t = true → v.cells = t.cells
  | .va t _, u, h => by have := of_decide_eq_true h; subst this; rfl
  | .nl, .sl _, _ | .em, .sl _, _ | .sl _ _ _ _ _, .sl _, _ | .pt _ _ _ _, .op, _ | .rp _ _, .op, _ | .np, .op, _ | .fn _ _, .op, _ | .an, .op, _ | .an, .sl _, _ | .un, .un, _ => rfl
  | .pr a b, .pr s t, h => by
    simp [VT.fits] at h
    simp [VT.cells, Ty.cells, fits_cells h.1, fits_cells h.2]
theorem fld_cells : ∀ {j : Nat} {v u : VT} {cs : List Value}, VT.fld j v = some u → VTC S ob w v cs → ∃ k c0 c1 c2, VT.foff j v = some k ∧ cs = c0 ++ (c1 ++ c2) ∧ c0.length = k ∧ VTC S ob w u c1
  | 0, .va (.pr a b) x, u, cs, h, hc => by
    cases h
    obtain ⟨c1, c2, e, h1, h2⟩ := hc
    exact ⟨0, [], c1, c2, rfl, by simpa using e, rfl, h1⟩
  | j + 1, .va (.pr a b) x, u, cs, h, hc => by
    obtain ⟨c1, c2, e, h1, h2⟩ := hc
    obtain ⟨k, d0, d1, d2, e1, e2, e3, e4⟩ := fld_cells (v := .va b x.2) h h2
    exact ⟨a.cells + k, c1 ++ d0, d1, d2, by simp [VT.foff, e1], by simp [e, e2], by simp [RO_len h1, e3], e4⟩
  | 0, .pr a b, u, cs, h, hc => by
    cases h
    obtain ⟨c1, c2, e, h1, h2⟩ := hc
    exact ⟨0, [], c1, c2, rfl, by simpa using e, rfl, h1⟩
  | j + 1, .pr a b, u, cs, h, hc => by
    obtain ⟨c1, c2, e, h1, h2⟩ := hc
    obtain ⟨k, d0, d1, d2, e1, e2, e3, e4⟩ := fld_cells (v := b) h h2
    exact ⟨a.cells + k, c1 ++ d0, d1, d2, by simp [VT.foff, e1], by simp [e, e2], by simp [VTC_len h1, e3], e4⟩
theorem path_cells : ∀ {p : List Stp} {v u : VT} {cs : List Value}, VT.getPath p v = some u → VTC S ob w v cs → ∃ k c0 c1 c2, VT.off p v = some k ∧ cs = c0 ++ (c1 ++ c2) ∧ c0.length = k ∧ VTC S ob w u c1
  | [], v, u, cs, h, hc => by cases h; exact ⟨0, [], cs, [], rfl, by simp, rfl, hc⟩
  | .i _ :: p, v, u, cs, h, hc => by simp [VT.getPath] at h
  | .f j :: p, v, u, cs, h, hc => by
    simp only [VT.getPath, Option.bind_eq_some_iff] at h
    obtain ⟨v1, h1, h2⟩ := h
    obtain ⟨k, c0, c1, c2, e1, e2, e3, e4⟩ := fld_cells h1 hc
    obtain ⟨k', d0, d1, d2, f1, f2, f3, f4⟩ := path_cells h2 e4
    exact ⟨k + k', c0 ++ d0, d1, d2 ++ c2, by simp [VT.off, e1, h1, f1], by simp [e2, f2], by simp [e3, f3], f4⟩
theorem lies_mid {c : Nat → Nat → Option Value} {b off : Nat} {c0 c1 c2 : List Value} (h : lies c b off (c0 ++ (c1 ++ c2))) : lies c b (off + c0.length) c1 := by
  intro j v hv
  have hj : j < c1.length := (List.getElem?_eq_some_iff.1 hv).1
  rw [Nat.add_assoc]
  apply h
  rw [List.getElem?_append_right (by omega), List.getElem?_append_left (by omega)]
  simpa using hv
theorem sits_lies {w : World} {b off : Nat} {cs : List Value} (h : sits (hv w) b off cs) : lies (cv w) b off cs := by
  intro j v hv
  have := sits_cell h hv
  obtain ⟨l, hl, _, _⟩ := h
  rw [hv_cv hl]
  simpa [cellAt, hl] using this
theorem hv_lies {w : World} {b : Nat} {l : List Value} (h : hv w b = some l) : lies (cv w) b 0 l := by
  intro j v hv
  rw [hv_cv h, Nat.zero_add, hv]
theorem VTV_of {v : VT} {u : Value} (h : VTV S ob w v u) (h1 : ∀ z, v ≠ .tu z) (h2 : v ≠ .ud) : ∃ cs, VTC S ob w v cs ∧ u = mkV v cs := by
  cases v with
  | tu z => exact absurd rfl (h1 z)
  | ud => exact absurd rfl h2
  | _ => exact h
theorem VTC_VTV {v : VT} {cs : List Value} (h : VTC S ob w v cs) : VTV S ob w v (mkV v cs) := by
  cases v with
  | tu z => exact h.elim
  | ud => exact h.elim
  | _ => exact ⟨cs, h, rfl⟩
theorem VTV_pt {o g h : Nat} {p : List Stp} {u : Value} (hv : VTV S ob w (.pt o g h p) u) : u.oneCell' = true ∧ refOk ob o g h ∧ ptR S ob w o g h p u := by
  obtain ⟨cs, ⟨v, rfl, h1, h2, h3⟩, e⟩ := hv
  have : u = v := e
  subst this
  exact ⟨h1, h2, h3⟩
theorem VTV_sl {o g h : Nat} {p : List Stp} {win : Option (Nat × Nat)} {u : Value} (hv : VTV S ob w (.sl o g h p win) u) : u.oneCell' = true ∧ refOk ob o g h ∧ slR S ob w o g h p win u := by
  obtain ⟨cs, ⟨v, rfl, h1, h2, h3⟩, e⟩ := hv
  have : u = v := e
  subst this
  exact ⟨h1, h2, h3⟩
theorem VTV_rp {t : Ty} {x : t.D} {u : Value} (hv : VTV S ob w (.rp t x) u) : ∃ b off ccs, u = .pointer (some ⟨b, off, none⟩) ∧ S.ok b ∧ lies (cv w) b off ccs ∧ RO S.ok (cv w) t ccs x := by
  obtain ⟨cs, ⟨b, off, ccs, rfl, h⟩, e⟩ := hv
  exact ⟨b, off, ccs, e, h⟩
theorem expT_ne : ∀ {o g h : Nat} {t : Ty} {x : t.D} {p : List Stp} {j : Option Nat}, t.data = true → (∀ z, expT o g h t x p j ≠ .tu z) ∧ expT o g h t x p j ≠ .ud ∧ (expT o g h t x p j).isAgg = t.agg := by
  intro o g h t x p j ht
  cases t <;> simp [expT, VT.isAgg, Ty.agg, Ty.data] at ht ⊢
theorem ok_eq {r : Rd} {x : X} (R : RdOk r x) {o : Nat} {g h : Nat} {c : Ob} (e : r.o o = ⟨g, h, some c⟩) : (getO x.ob o).g = g ∧ (getO x.ob o).h = h ∧ (getO x.ob o).c = some c := by
  have := R.o o c (by rw [e])
  rw [← this, e]
  exact ⟨rfl, rfl, rfl⟩
theorem beq_of {a b : Nat} (h : Nat.beq a b = true) : a = b := Nat.eq_of_beq_eq_true h
theorem part_own {C : Ctx} {x : X} {a : Act} (I : Inv C S x a w) {o : Nat} {t : Ty} {xs : List t.D} {nn : Bool} (hob : (getO x.ob o).c = some (.arr t xs nn)) {p : List Stp} {d : Dy} (hg : getP (.sl t) xs p = some d) {b off : Nat}
    (hl : locA (hv w) (S.hd o) t xs.length p = some (b, off)) : ∃ cs F, sits (hv w) b off cs ∧ Own (hv w) d.t cs d.x F ∧ ∀ c ∈ F, c ∈ S.fp o := by
  obtain ⟨⟨hown, _⟩, hnd, hmine⟩ := I.objs o _ hob
  obtain ⟨l', cs', Pp, F', Q, h1, h2, h3, h4, h5, _⟩ := root_set (t' := d.t) (x' := d.x) w.heap.size (fun hm => by have := (hmine _ hm).2.1; omega) hown hnd hg hl
  exact ⟨cs', F', h3, h4, fun c hc => by rw [h5]; simp [hc]⟩
theorem opLoad_sound {C : Ctx} {x : X} {a : Act} (I : Inv C S x a w) {T : Tab} (hT : TabOk P T) {t : Nat} {r : Rd} (R : RdOk r x) {v u : VT} (h : (opLoad T t r v).has u) {uv : Value} (hv : VTV S x.ob w v uv) :
    ∃ z, (Instr.loadAt t uv).run P w = .ok z w ∧ VTV S x.ob w u z := by
  unfold opLoad at h
  split at h
  · obtain ⟨te, ht, h⟩ := Br.opt_has h
    obtain ⟨he, h⟩ := Br.when_has h
    have he := of_decide_eq_true he
    cases h
    obtain ⟨b, off, ccs, rfl, hb, hl, hr⟩ := VTV_rp hv
    have hlen := RO_len hr
    rw [← he] at hlen
    refine ⟨_, run_loadA hT ht hlen hl, ccs, hr, ?_⟩
    subst he
    rfl
  · rename_i o g h0 p
    obtain ⟨te, ht, h⟩ := Br.opt_has h
    obtain ⟨_, href, hpt⟩ := VTV_pt hv
    split at h
    · rename_i g' h' c he
      obtain ⟨e1, e2, e3⟩ := ok_eq R he
      obtain ⟨hbeq, h⟩ := Br.when_has h
      obtain ⟨u0, hu0, h⟩ := Br.opt_has h
      obtain ⟨hfit, h⟩ := Br.when_has h
      cases h
      obtain ⟨b, k, hhd, hoff, rfl⟩ := hpt.1 _ c e3 rfl (by rw [e1]; exact beq_of hbeq)
      obtain ⟨b', l, hhd', hl, hc, _⟩ := (I.objs o _ e3).1
      rw [hhd] at hhd'
      cases hhd'
      obtain ⟨k', c0, c1, c2, f1, f2, f3, f4⟩ := path_cells hu0 hc
      rw [hoff] at f1
      cases f1
      have hlies : lies (cv w) b k c1 := by
        have := hv_lies hl
        rw [f2] at this
        have := lies_mid this
        rwa [Nat.zero_add, f3] at this
      have hlen : c1.length = te.ty.cells := by rw [VTC_len f4, fits_cells hfit]
      refine ⟨_, run_loadA hT ht hlen hlies, ?_⟩
      have := VTC_VTV f4
      unfold mkV at this
      rw [fits_agg hfit] at this
      exact this
    · rename_i g' h' c he
      obtain ⟨e1, e2, e3⟩ := ok_eq R he
      obtain ⟨hbeq, h⟩ := Br.when_has h
      obtain ⟨u0, hu0, h⟩ := Br.opt_has h
      obtain ⟨hfit, h⟩ := Br.when_has h
      cases h
      obtain ⟨b, k, hhd, hoff, rfl⟩ := hpt.1 _ c e3 rfl (by rw [e1]; exact beq_of hbeq)
      obtain ⟨b', l, hhd', hl, hc, _⟩ := (I.objs o _ e3).1
      rw [hhd] at hhd'
      cases hhd'
      obtain ⟨k', c0, c1, c2, f1, f2, f3, f4⟩ := path_cells hu0 hc
      rw [hoff] at f1
      cases f1
      have hlies : lies (cv w) b k c1 := by
        have := hv_lies hl
        rw [f2] at this
        have := lies_mid this
        rwa [Nat.zero_add, f3] at this
      have hlen : c1.length = te.ty.cells := by rw [VTC_len f4, fits_cells hfit]
      refine ⟨_, run_loadA hT ht hlen hlies, ?_⟩
      have := VTC_VTV f4
      unfold mkV at this
      rw [fits_agg hfit] at this
      exact this
    · rename_i g' h' t' xs nn he
      obtain ⟨e1, e2, e3⟩ := ok_eq R he
      obtain ⟨hbeq, h⟩ := Br.when_has h
      simp only [Bool.and_eq_true] at hbeq
      obtain ⟨d, hd, h⟩ := Br.opt_has h
      obtain ⟨hty, h⟩ := Br.when_has h
      simp only [Bool.and_eq_true] at hty
      cases h
      obtain ⟨b, off, hloc, rfl⟩ := hpt.2.1 t' xs nn e3 (by rw [e1]; exact beq_of hbeq.1) (by rw [e2]; exact beq_of hbeq.2)
      obtain ⟨cs, F, hs, ho, hF⟩ := part_own I e3 hd hloc
      have hdt : d.t = te.ty := of_decide_eq_true hty.1
      have hlen : cs.length = te.ty.cells := by rw [Own_len ho, hdt]
      have hdata : d.t.data = true := by rw [hdt]; exact hty.2
      have hpne : p ≠ [] := by intro e; subst e; simp [locA] at hloc
      have hvt := expT_sound (g := g) (h := h0) e3 (by rw [e1]; exact beq_of hbeq.1) (by rw [e2]; exact beq_of hbeq.2) d.t (p := p) none ho hs hdata
        ⟨hpne, fun q => locA_app hloc (getP_ty _ hd), fun q => tyAt_app _ (getP_ty _ hd)⟩
      refine ⟨_, run_loadA hT ht hlen (sits_lies hs), ?_⟩
      obtain ⟨n1, n2, n3⟩ := expT_ne (o := o) (g := g) (h := h0) (x := d.x) (p := p) (j := none) hdata
      have e : mkV (expT o g h0 d.t d.x p none) cs = (if te.ty.agg then .agg cs.toArray else cs.headD undef) := by
        unfold mkV
        rw [n3, hdt]
      rw [← e]
      exact VTC_VTV hvt
    · exact h.elim
  · exact h.elim
end
end Go.Vm
set_option linter.unusedVariables false
set_option linter.unusedSimpArgs false
namespace Go.Vm
open Go Go.RowKit
section
variable {P : Program} {S : Side} {ob : List Obe} {w : World}
theorem toNat_lt {n : Int} {m : Nat} (h0 : 0 ≤ n) (h1 : n < (m : Int)) : n.toNat < m := by omega
theorem chain_get {T : Tab} : ∀ {fl : List Field} {l : List Nat} {ty : Ty} {off : Nat} {j : Nat} {t' : Ty}, chainOk T fl l ty off → tyAt ty [.f j] = some t' → ∃ f, fl[j]? = some f ∧ f.offset = off + ty.fo j ∧ ∃ te, T.find f.type = some te ∧ te.ty = t'
  | [], [], .un, off, j, t', _, h => by simp [tyAt] at h
  | f :: fl, i :: l, .pr a b, off, 0, t', ⟨h1, h2, ⟨te, h3, h4⟩, h5⟩, h => by
    simp [tyAt, tyAt_nil] at h
    subst h
    exact ⟨f, rfl, by simp [h2, Ty.fo], te, by rw [h1]; exact h3, h4⟩
  | f :: fl, i :: l, .pr a b, off, j + 1, t', ⟨h1, h2, h3, h5⟩, h => by
    obtain ⟨g, g1, g2, g3⟩ := chain_get (j := j) h5 h
    exact ⟨g, g1, by simp [g2, Ty.fo]; omega, g3⟩
  | [], [], .pr _ _, _, _, _, h, _ | [], _ :: _, _, _, _, _, h, _ | _ :: _, [], _, _, _, _, h, _ => by simp [chainOk] at h
  | [], [], .int _, _, _, _, h, _ | [], [], .bool, _, _, _, h, _ | [], [], .str, _, _, _, h, _ | [], [], .sl _, _, _, _, h, _ | [], [], .op, _, _, _, h, _ => by simp [chainOk] at h
  | _ :: _, _ :: _, .int _, _, _, _, h, _ | _ :: _, _ :: _, .bool, _, _, _, h, _ | _ :: _, _ :: _, .str, _, _, _, h, _ | _ :: _, _ :: _, .sl _, _, _, _, h, _ | _ :: _, _ :: _, .op, _, _, _, h, _ | _ :: _, _ :: _, .un, _, _, _, h, _ => by simp [chainOk] at h
theorem st_fields {T : Tab} (hT : TabOk P T) {s : Nat} {te : TE} (ht : T.find s = some te) {l : List Nat} (hk : te.k = .st l) : ∃ fs : Array Field, P.underlying s = some (.struct fs) ∧ chainOk T fs.toList l te.ty 0 := by
  obtain ⟨d, h1, h2⟩ := hT.und ht
  cases d <;> simp only [descOk] at h2
  case struct fs =>
    obtain ⟨l', e, h⟩ := h2
    rw [hk] at e
    cases e
    exact ⟨fs, h1, h⟩
  all_goals (first | (rw [hk] at h2; simp at h2; done) | (obtain ⟨e, _⟩ := h2; rw [hk] at e; cases e))
theorem run_fieldAt {T : Tab} (hT : TabOk P T) {s : Nat} {te : TE} (ht : T.find s = some te) {l : List Nat} (hk : te.k = .st l) {j : Nat} {t' : Ty} (hj : tyAt te.ty [.f j] = some t') (hne : t'.cells ≠ 0) (b off : Nat) :
    (Instr.fieldAt s (.pointer (some ⟨b, off, none⟩)) j).run P w = .ok (.pointer (some ⟨b, off + te.ty.fo j, none⟩)) w := by
  obtain ⟨fs, hu, hc⟩ := st_fields hT ht hk
  obtain ⟨f, h1, h2, tf, h3, h4⟩ := chain_get hc hj
  have h1' : fs[j]? = some f := by simpa using h1
  have hsz := run_size (P := P) hT h3 w
  rw [h4] at hsz
  unfold Instr.fieldAt
  rw [Sem.run_bind, run_underlying hu]
  simp [h1', Instr.sureAddr, fieldPlace, hsz, hne, h2, add_plain]
theorem fld_ty : ∀ {j : Nat} {t : Ty} {y : t.D} {t' : Ty} {y' : t'.D}, VT.fld j (.va t y) = some (.va t' y') → tyAt t [.f j] = some t'
  | 0, .pr a b, y, t', y', h => by
    simp [VT.fld] at h
    obtain ⟨h, _⟩ := h
    subst h
    simp [tyAt, tyAt_nil]
  | j + 1, .pr a b, y, t', y', h => fld_ty (j := j) (t := b) h
  | 0, .int _, _, _, _, h | 0, .bool, _, _, _, h | 0, .str, _, _, _, h | 0, .un, _, _, _, h | 0, .op, _, _, _, h | 0, .sl _, _, _, _, h => by simp [VT.fld] at h
  | _ + 1, .int _, _, _, _, h | _ + 1, .bool, _, _, _, h | _ + 1, .str, _, _, _, h | _ + 1, .un, _, _, _, h | _ + 1, .op, _, _, _, h | _ + 1, .sl _, _, _, _, h => by simp [VT.fld] at h
theorem foff_fits : ∀ {j : Nat} {v : VT} {t t' : Ty}, v.fits t = true → tyAt t [.f j] = some t' → VT.foff j v = some (t.fo j)
  | 0, .pr _ _, .pr _ _, _, _, _ => rfl
  | 0, .va s x, t, t', h, h' => by
    have := of_decide_eq_true h
    subst this
    cases s <;> simp [tyAt] at h'
    rfl
  | j + 1, .pr a b, .pr s t, t', h, h' => by
    simp [VT.fits] at h
    have := foff_fits (j := j) h.2 h'
    simp [VT.foff, this, Ty.fo, fits_cells h.1]
  | j + 1, .va s x, t, t', h, h' => by
    have := of_decide_eq_true h
    subst this
    cases s <;> simp [tyAt] at h'
    rename_i a b
    have := foff_fits (j := j) (v := .va b x.2) (t := b) (by simp [VT.fits]) h'
    simp [VT.foff, this, Ty.fo]
  | _, .nl, t, _, h, h' | _, .em, t, _, h, h' | _, .np, t, _, h, h' | _, .an, t, _, h, h' | _, .ud, t, _, h, h' | _, .un, t, _, h, h' | _, .rp _ _, t, _, h, h' | _, .sl _ _ _ _ _, t, _, h, h' | _, .pt _ _ _ _, t, _, h, h' | _, .tu _, t, _, h, h' | _, .fn _ _, t, _, h, h' => by
    cases t <;> simp [VT.fits, tyAt] at h h'
  | _, .pr _ _, .int _, _, h, _ | _, .pr _ _, .bool, _, h, _ | _, .pr _ _, .str, _, h, _ | _, .pr _ _, .sl _, _, h, _ | _, .pr _ _, .un, _, h, _ | _, .pr _ _, .op, _, h, _ => by simp [VT.fits] at h
theorem off_app : ∀ {p : List Stp} {v u : VT} {k j m : Nat}, VT.off p v = some k → VT.getPath p v = some u → VT.foff j u = some m → (VT.fld j u).isSome → VT.off (p ++ [.f j]) v = some (k + m)
  | [], v, u, k, j, m, h1, h2, h3, h4 => by
    cases h1; cases h2
    obtain ⟨z, hz⟩ := Option.isSome_iff_exists.1 h4
    simp [VT.off, h3, hz]
  | .i _ :: p, v, u, k, j, m, h1, h2, h3, h4 => by simp [VT.getPath] at h2
  | .f i :: p, v, u, k, j, m, h1, h2, h3, h4 => by
    simp only [VT.getPath, Option.bind_eq_some_iff] at h2
    obtain ⟨v1, e1, e2⟩ := h2
    simp only [VT.off, Option.bind_eq_some_iff] at h1
    obtain ⟨k1, f1, v2, f2, h1⟩ := h1
    rw [e1] at f2
    cases f2
    rw [Option.map_eq_some_iff] at h1
    obtain ⟨k2, f3, rfl⟩ := h1
    have := off_app f3 e2 h3 h4
    simp [VT.off, f1, e1, this]
    omega
theorem fld_some : ∀ {j : Nat} {v : VT} {t t' : Ty}, v.fits t = true → tyAt t [.f j] = some t' → ∃ u, VT.fld j v = some u ∧ u.fits t' = true
  | 0, .pr a _, .pr s _, t', h, h' => by
    simp [VT.fits] at h
    simp [tyAt, tyAt_nil] at h'
    subst h'
    exact ⟨a, rfl, h.1⟩
  | 0, .va s x, t, t', h, h' => by
    have := of_decide_eq_true h
    subst this
    cases s <;> simp [tyAt, tyAt_nil] at h'
    subst h'
    exact ⟨_, rfl, by simp [VT.fits]⟩
  | j + 1, .pr a b, .pr s t, t', h, h' => by
    simp [VT.fits] at h
    exact fld_some (j := j) h.2 h'
  | j + 1, .va s x, t, t', h, h' => by
    have := of_decide_eq_true h
    subst this
    cases s <;> simp [tyAt] at h'
    rename_i a b
    exact fld_some (j := j) (v := .va b x.2) (t := b) (by simp [VT.fits]) h'
  | _, .nl, t, _, h, h' | _, .em, t, _, h, h' | _, .np, t, _, h, h' | _, .an, t, _, h, h' | _, .ud, t, _, h, h' | _, .un, t, _, h, h' | _, .rp _ _, t, _, h, h' | _, .sl _ _ _ _ _, t, _, h, h' | _, .pt _ _ _ _, t, _, h, h' | _, .tu _, t, _, h, h' | _, .fn _ _, t, _, h, h' => by
    cases t <;> simp [VT.fits, tyAt] at h h'
  | _, .pr _ _, .int _, _, h, _ | _, .pr _ _, .bool, _, h, _ | _, .pr _ _, .str, _, h, _ | _, .pr _ _, .sl _, _, h, _ | _, .pr _ _, .un, _, h, _ | _, .pr _ _, .op, _, h, _ => by simp [VT.fits] at h
theorem pt_VTV {o g h : Nat} {p : List Stp} {b off : Nat} (hr : refOk ob o g h) (hp : ptR S ob w o g h p (.pointer (some ⟨b, off, none⟩))) : VTV S ob w (.pt o g h p) (.pointer (some ⟨b, off, none⟩)) :=
  ⟨_, ⟨_, rfl, rfl, hr, hp⟩, rfl⟩
theorem opFieldAddr_sound {C : Ctx} {x : X} {a : Act} (I : Inv C S x a w) {T : Tab} (hT : TabOk P T) {s j : Nat} {r : Rd} (R : RdOk r x) {v u : VT} (h : (opFieldAddr T s r j v).has u) {uv : Value} (hv : VTV S x.ob w v uv) :
    ∃ z, (Instr.fieldAt s uv j).run P w = .ok z w ∧ VTV S x.ob w u z := by
  unfold opFieldAddr at h
  split at h
  · rename_i t y
    obtain ⟨te, ht, h⟩ := Br.opt_has h
    obtain ⟨he, h⟩ := Br.when_has h
    have he := of_decide_eq_true he
    subst he
    split at h
    · rename_i l t' y' hk hf
      obtain ⟨hne, h⟩ := Br.when_has h
      cases h
      obtain ⟨b, off, ccs, rfl, hb, hl, hr⟩ := VTV_rp hv
      have hty := fld_ty hf
      have hne' : t'.cells ≠ 0 := by simpa using hne
      refine ⟨_, run_fieldAt hT ht hk hty hne' b off, ?_⟩
      obtain ⟨k, c0, c1, c2, f1, f2, f3, f4⟩ := fld_cells (S := S) (ob := x.ob) (w := w) (v := .va te.ty y) hf hr
      rw [foff_fits (t := te.ty) (by simp [VT.fits]) hty] at f1
      cases f1
      refine ⟨_, ⟨b, off + te.ty.fo j, c1, rfl, hb, ?_, f4⟩, rfl⟩
      rw [f2] at hl
      have := lies_mid hl
      rwa [f3] at this
    · exact h.elim
  · rename_i o g h0 p
    obtain ⟨te, ht, h⟩ := Br.opt_has h
    split at h
    · rename_i l t' hk hty
      obtain ⟨hc, h⟩ := Br.when_has h
      simp only [Bool.and_eq_true] at hc
      have hne' : t'.cells ≠ 0 := by simpa using hc.2
      cases h
      obtain ⟨_, href, hpt⟩ := VTV_pt hv
      have hc1 := hc.1
      unfold ptTy at hc1
      split at hc1
      · rename_i g' h' c he
        obtain ⟨e1, e2, e3⟩ := ok_eq R he
        simp only [Bool.and_eq_true] at hc1
        obtain ⟨b, k, hhd, hoff, rfl⟩ := hpt.1 _ c e3 rfl (by rw [e1]; exact beq_of hc1.1)
        refine ⟨_, run_fieldAt hT ht hk hty hne' b k, pt_VTV href ⟨fun c0 c' hc' hh' hg' => ?_, fun t1 xs nn hc' => ?_, fun k3 t3 es3 hc3 => (by rw [e3] at hc3; cases hc3), fun t4 xs4 nn4 j4 hc4 => (by rw [e3] at hc4; cases hc4)⟩⟩
        · rw [e3] at hc'
          cases hc'
          cases hh'
          have hfit := hc1.2
          split at hfit
          · rename_i u0 hu0
            obtain ⟨z, hz, _⟩ := fld_some hfit hty
            exact ⟨b, _, hhd, off_app hoff hu0 (foff_fits hfit hty) (by simp [hz]), rfl⟩
          · cases hfit
        · rw [e3] at hc'; cases hc'
      · rename_i g' h' c he
        obtain ⟨e1, e2, e3⟩ := ok_eq R he
        simp only [Bool.and_eq_true] at hc1
        obtain ⟨b, k, hhd, hoff, rfl⟩ := hpt.1 _ c e3 rfl (by rw [e1]; exact beq_of hc1.1)
        refine ⟨_, run_fieldAt hT ht hk hty hne' b k, pt_VTV href ⟨fun c0 c' hc' hh' hg' => ?_, fun t1 xs nn hc' => ?_, fun k3 t3 es3 hc3 => (by rw [e3] at hc3; cases hc3), fun t4 xs4 nn4 j4 hc4 => (by rw [e3] at hc4; cases hc4)⟩⟩
        · rw [e3] at hc'
          cases hc'
          cases hh'
          have hfit := hc1.2
          split at hfit
          · rename_i u0 hu0
            obtain ⟨z, hz, _⟩ := fld_some hfit hty
            exact ⟨b, _, hhd, off_app hoff hu0 (foff_fits hfit hty) (by simp [hz]), rfl⟩
          · cases hfit
        · rw [e3] at hc'; cases hc'
      · rename_i g' h' t1 xs nn he
        obtain ⟨e1, e2, e3⟩ := ok_eq R he
        simp only [Bool.and_eq_true] at hc1
        obtain ⟨b, off, hloc, rfl⟩ := hpt.2.1 t1 xs nn e3 (by rw [e1]; exact beq_of hc1.1.1) (by rw [e2]; exact beq_of hc1.1.2)
        refine ⟨_, run_fieldAt hT ht hk hty hne' b off, pt_VTV href ⟨fun c0 c' hc' hh' => ?_, fun t2 xs2 nn2 hc' _ _ => ?_, fun k3 t3 es3 hc3 => (by rw [e3] at hc3; cases hc3), fun t4 xs4 nn4 j4 hc4 => (by rw [e3] at hc4; cases hc4)⟩⟩
        · rw [e3] at hc'; cases hc'; cases hh'
        · rw [e3] at hc'
          cases hc'
          refine ⟨b, off + te.ty.fo j, ?_, rfl⟩
          rw [locA_app hloc (of_decide_eq_true hc1.2), walk_f _ _ _ _ _ _ hty, walk_nil]
      · cases hc1
    · exact h.elim
  · exact h.elim
theorem sl_elem {T : Tab} (hT : TabOk P T) {t : Nat} {te : TE} (ht : T.find t = some te) {e : Nat} (hk : te.k = .sl e) : P.underlying t = some (.slice e) ∧ ∃ te', T.find e = some te' ∧ te.ty = .sl te'.ty := by
  obtain ⟨d, h1, h2⟩ := hT.und ht
  cases d <;> simp only [descOk] at h2
  case slice e' =>
    obtain ⟨e1, te', h3, h4⟩ := h2
    rw [hk] at e1
    cases e1
    exact ⟨h1, te', h3, h4⟩
  all_goals (first | (rw [hk] at h2; simp at h2; done) | (obtain ⟨e, _⟩ := h2; rw [hk] at e; cases e) | (obtain ⟨l, e, _⟩ := h2; rw [hk] at e; cases e))
theorem sl_of {T : Tab} (hT : TabOk P T) {t : Nat} {te : TE} (ht : T.find t = some te) {t' : Ty} (hty : te.ty = .sl t') : ∃ e te', te.k = .sl e ∧ P.underlying t = some (.slice e) ∧ T.find e = some te' ∧ te'.ty = t' := by
  obtain ⟨d, h1, h2⟩ := hT.und ht
  cases d <;> simp only [descOk] at h2
  case slice e' =>
    obtain ⟨e1, te', h3, h4⟩ := h2
    rw [hty] at h4
    cases h4
    exact ⟨e', te', e1, h1, h3, rfl⟩
  case struct fs =>
    obtain ⟨l, _, h⟩ := h2
    rw [hty] at h
    cases hf : fs.toList <;> rw [hf] at h <;> cases l <;> simp [chainOk] at h
  case array n e =>
    obtain ⟨_, te', _, h⟩ := h2
    rw [hty] at h
    cases n <;> simp [arrTy] at h
  all_goals (rw [hty] at h2; simp at h2)
theorem run_indexAt {T : Tab} (hT : TabOk P T) {t : Nat} {te : TE} (ht : T.find t = some te) {e : Nat} (hk : te.k = .sl e) {t' : Ty} (hty : te.ty = .sl t') {k : IntKind} {i : Int} {b off len cap : Nat} (h0 : 0 ≤ i) (h1 : i < len) :
    (Instr.indexAt t (.slice (some ⟨b, off, none⟩) len cap) (.int k i)).run P w = .ok (.pointer (some ⟨b, off + i.toNat * t'.cells, none⟩)) w := by
  obtain ⟨hu, te', h3, h4⟩ := sl_elem hT ht hk
  rw [hty] at h4
  cases h4
  have hsz := run_size (P := P) hT h3 w
  unfold Instr.indexAt
  simp [asIntOf, run_underlying hu, h0, h1, hsz, add_plain]
theorem opIndexAddr0_sound {C : Ctx} {x : X} {a : Act} (I : Inv C S x a w) {T : Tab} (hT : TabOk P T) {t : Nat} {r : Rd} (R : RdOk r x) {v i u : VT} (h : (opIndexAddr0 T t r v i).has u) {uv ui : Value} (hv : VTV S x.ob w v uv) (hi : VTV S x.ob w i ui) :
    ∃ z, (Instr.indexAt t uv ui).run P w = .ok z w ∧ VTV S x.ob w u z := by
  unfold opIndexAddr0 at h
  obtain ⟨te, ht, h⟩ := Br.opt_has h
  split at h
  · rename_i k n _
    obtain rfl := VTV_int hi
    split at h
    · rename_i t' xs e hk _
      obtain ⟨hty, h⟩ := Br.when_has h
      have hty := of_decide_eq_true hty
      obtain ⟨⟨h0, h1⟩, h⟩ := h
      cases h
      obtain ⟨cs, hro, rfl⟩ := hv
      obtain ⟨A, cap, rfl, hcap, hro⟩ := hro
      have hn : (n : Int).toNat < List.length xs := toNat_lt h0 h1
      have hne : xs ≠ [] := fun e => by subst e; simp at hn
      obtain ⟨b, off, rfl, hb, ccs, hcl, hli, hr⟩ := hro hne
      refine ⟨_, run_indexAt hT ht hk hty h0 h1, ?_⟩
      obtain ⟨pp, c, q, e1, e2, e3, e4⟩ := Rows_get (n : Int).toNat t'.zero hn hr
      refine ⟨_, ⟨b, off + (n : Int).toNat * t'.cells, c, rfl, hb, ?_, e4⟩, rfl⟩
      rw [e1] at hli
      have := lies_mid hli
      rwa [e2] at this
    · rename_i o g h0 p e hk _
      obtain ⟨d, hd, h⟩ := Br.opt_has h
      split at h
      · rename_i t' xs
        obtain ⟨hty, h⟩ := Br.when_has h
        have hty := of_decide_eq_true hty
        obtain ⟨⟨h1, h2⟩, h⟩ := h
        cases h
        obtain ⟨_, href, hsl⟩ := VTV_sl hv
        obtain ⟨t0, xs0, nn, te0, _, _, _, ys, hob, hg, hph, hgp, htyp, hdeq, hro, hall, _⟩ := slice_own I R hd
        obtain ⟨A, m, cap, F', hn, hwin, hown, hF, hnil⟩ := hall uv hsl
        injection hdeq with e1 e2
        injection e1 with e1
        subst e1
        cases e2
        simp only [winR, winL] at *
        subst hwin
        subst hn
        have hlt : (n : Int).toNat < List.length ys := toNat_lt h1 h2
        rcases hown with ⟨_, rfl, _⟩ | ⟨b, off, l, G, rfl, hb, hcap, hlen, hrows, hFe⟩
        · simp at hlt
        · refine ⟨_, run_indexAt hT ht hk hty h1 h2, pt_VTV (by rw [hro]; unfold refOk at href ⊢; omega) ⟨fun c0 c' hc' hh' => ?_, fun t2 xs2 nn2 hc' hg' hh' => ?_, fun k3 t3 es3 hc3 => (by rw [hob] at hc3; cases hc3), fun t4 xs4 nn4 j4 hc4 => (by rw [hob] at hc4; cases hc4)⟩⟩
          · rw [hob] at hc'; cases hc'; cases hh'
          · rw [hob] at hc'
            cases hc'
            refine ⟨b, _, ?_, rfl⟩
            obtain ⟨te1, A1, m1, cap1, hty1, hh1, hw1⟩ := hsl.1 t0 xs0 nn hob hg hph
            rw [htyp] at hty1
            cases hty1
            simp only [winR] at hw1
            injection hw1 with w1 w2 w3
            subst w1; subst w2; subst w3
            cases p with
            | nil =>
              obtain ⟨q1, q2⟩ := hh1
              rw [getP_nil] at hgp
              injection hgp with hgp
              injection hgp with g1 g2
              injection g1 with g1
              subst g1
              cases g2
              simp only [List.nil_append, locA, q1, if_pos hlt, walk_nil]
            | cons s p =>
              obtain ⟨b1, o1, hloc, hcell⟩ := hh1
              rw [locA_app hloc htyp]
              simp only [walk, hcell, if_pos hlt, walk_nil]
      · exact h.elim
    · exact h.elim
  · exact h.elim
end
end Go.Vm
