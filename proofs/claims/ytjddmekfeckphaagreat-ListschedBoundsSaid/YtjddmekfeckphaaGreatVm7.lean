/- The value machine, part 8 of 9. -/
import Derived.Test.YtjddmekfeckphaaGreatVm4
import Derived.Shelf.Sort.Plain
import Derived.Shelf.Slices.In.SortNone
import Derived.Shelf.SlSortCmp.NoneTotal
import Derived.Shelf.Slices.CompactI
set_option linter.unusedVariables false
set_option linter.unusedSimpArgs false
set_option linter.unnecessarySimpa false
set_option linter.unusedVariables false
set_option linter.unusedSimpArgs false
namespace Go.Vm
open Go Go.RowKit Go.Sort Go.Shelf Go.Proofs
theorem holds_of {w : World} {b off : Nat} {l cs : List Value} (h : hv w b = some l) (hl : off + cs.length ≤ l.length) (ht : (l.drop off).take cs.length = cs) : Holds id w b off cs.toArray := by
  intro j hj
  have hj : j < cs.length := by simpa using hj
  obtain ⟨e, he⟩ := hv_eq h
  have h1 : l[off + j]? = some cs[j] := by
    have := congrArg (fun z => z[j]?) ht
    simp only [List.getElem?_take, List.getElem?_drop, if_pos hj] at this
    rw [this, List.getElem?_eq_getElem hj]
  constructor
  · show cv w b (off + j) = _
    rw [hv_cv h, h1]
    simp [hj]
  · simp [World.frozen?, he]
theorem putCells_list (F : Array Value) (off : Nat) (l : List Value) (h : off + F.size ≤ l.length) : (putCells id off F l.toArray).toList = setC l off F.toList := by
  apply List.ext_getElem?
  intro k
  have e : (putCells id off F l.toArray).toList[k]? = (l[k]?).map fun x => if off ≤ k ∧ k < off + F.size then F[k - off]! else x := by
    simp [putCells]
  rw [e]
  by_cases hk : off ≤ k ∧ k < off + F.size
  · have := setC_in (l := l) (off := off) (cs := F.toList) (by simpa using h) (k - off) (by simp; omega)
    rw [show off + (k - off) = k by omega] at this
    rw [this, List.getElem?_eq_getElem (by omega : k < l.length)]
    simp [hk]
    rw [Array.getElem?_eq_getElem (by omega)]
    simp [getElem!_pos F (k - off) (by omega)]
  · rw [setC_get (by simpa using h) k (by simp; omega)]
    cases l[k]? with
    | none => rfl
    | some y => simp [hk]
theorem put_hv {w w' : World} {b off : Nat} {l : List Value} {F : Array Value} {n : Nat} {os : Array Obj} (h : hv w b = some l) (hl : off + F.size ≤ l.length) (hw : w' = grow (putRow id (Sort.ahead w n) b off F) os) :
    w'.os = w.os ∧ Ahead w w' ∧ w'.output = w.output ∧ w.heap.size ≤ w'.heap.size ∧ hv w' b = some (setC l off F.toList) ∧ ∀ c, c < w.heap.size → c ≠ b → w'.heap[c]? = w.heap[c]? := by
  subst hw
  obtain ⟨e, he⟩ := hv_eq h
  have hb : b < w.heap.size := by
    rcases Nat.lt_or_ge b w.heap.size with h' | h'
    · exact h'
    · rw [Array.getElem?_eq_none h'] at he; cases he
  refine ⟨rfl, ⟨rfl, Nat.le_add_right _ _⟩, rfl, by simp, ?_, fun c hc hcb => ?_⟩
  · refine (hv_of (e := e) (arr := putCells id off F l.toArray) ?_).trans (by rw [putCells_list F off l hl])
    rw [heap_grow_old _ _ (by simpa using hb)]
    simp [putRow, mapBlock, Array.getElem?_modify, he, onCells]
  · rw [heap_grow_old _ _ (by simpa using hc)]
    simp [putRow, mapBlock, Array.getElem?_modify, Ne.symm hcb]
theorem holds_map {α : Type} [Inhabited α] {enc : α → Value} {w : World} {b off : Nat} {d : Array α} : Holds id w b off (d.map enc) → Holds enc w b off d := by
  intro h j hj
  have := h j (by simpa using hj)
  simpa [getElem!_pos, hj] using this
theorem putRow_map {α : Type} [Inhabited α] (enc : α → Value) (w : World) (b off : Nat) (d : Array α) : putRow enc w b off d = putRow id w b off (d.map enc) := by
  unfold putRow
  refine mapBlock_congr _ _ _ _ fun c _ _ _ => ?_
  apply Array.ext_getElem?
  intro k
  simp only [putCells, Array.getElem?_mapIdx, Array.size_map]
  cases c[k]? with
  | none => rfl
  | some y =>
    simp only [Option.map_some]
    split
    · rename_i hk
      rw [getElem!_pos d _ (by omega), getElem!_pos (d.map enc) _ (by simp; omega)]
      simp
    · rfl
def sortI (xs : List Int) : List Int := xs.mergeSort fun x y => decide (x ≤ y)
theorem encs_int (xs : List Int) : encs (.int .i64) xs = xs.map (Value.int .i64) := by
  induction xs with
  | nil => rfl
  | cons x xs ih => rw [encs_cons, ih]; rfl
variable {P : Program} {ρ : Go.Shelf.Ren}
theorem sortI_ok (L : Lays.n189 P ρ) (hfn : ∃ fn c, P.funcs[ρ.f 189]? = some fn ∧ fn.name ≠ "runtime.NumGoroutine" ∧ fn.body = some c) : SoOk P ⟨ρ.f 189, .int .i64, [], sortI⟩ := by
  refine ⟨rfl, fun xs => List.length_mergeSort .., hfn, fun w A cap => Any.slices_Sort_int_none L A cap w, ?_⟩
  intro w b off cap l xs hne hlim hb hl ht
  simp only [Ty.cells, Nat.mul_one] at hl ht
  have hlen : (encs (.int .i64) xs).length = xs.length := by rw [encs_len]; simp [Ty.cells]
  have hH := holds_of (cs := encs (.int .i64) xs) hb (by rw [hlen]; exact hl) (by rw [hlen]; exact ht)
  have e1 : (encs (.int .i64) xs).toArray = xs.toArray.map (Value.int .i64) := by rw [encs_int]; simp
  rw [e1] at hH
  obtain ⟨e, he⟩ := hv_eq hb
  have hblk : b < w.heap.size := by
    rcases Nat.lt_or_ge b w.heap.size with h' | h'
    · exact h'
    · rw [Array.getElem?_eq_none h'] at he; cases he
  refine (Any.slices_Sort_int L b off cap xs w (holds_map hH) hblk (by omega)).mono ?_
  rintro e w' ⟨he, n, os, hw⟩
  rw [putRow_map] at hw
  have hsz : (Array.map (Value.int .i64) (xs.mergeSort fun x y => decide (x ≤ y)).toArray).toList = encs (.int .i64) (sortI xs) := by rw [encs_int]; simp [sortI]
  have := put_hv hb (by rw [← Array.length_toList, hsz, encs_len]; simp [Ty.cells, sortI]; omega) hw
  rw [hsz] at this
  exact ⟨he, this⟩
theorem flatK_enc {t : Ty} [Inhabited t.D] (d : List t.D) : (flatK t.enc t.cells d.toArray).toList = encs t d := by
  apply List.ext_getElem
  · simp [flatK, encs_len]
  · intro i h1 h2
    have hi : i < d.length * t.cells := by simpa [flatK] using h1
    have hk : 0 < t.cells := by
      rcases Nat.eq_zero_or_pos t.cells with h | h
      · rw [h] at hi; omega
      · exact h
    have hq : i / t.cells < d.length := (Nat.div_lt_iff_lt_mul hk).2 hi
    have e1 : (flatK t.enc t.cells d.toArray).toList[i] = (t.enc d[i / t.cells])[i % t.cells]'(by rw [enc_len]; exact Nat.mod_lt _ hk) := by
      simp only [flatK, Array.toList_map, List.getElem_map, Array.getElem_toList, Array.getElem_range]
      have e0 : d.toArray[i / t.cells]! = d[i / t.cells] := by
        rw [getElem!_pos d.toArray _ (by simpa using hq)]
        simp
      rw [getElem!_pos _ (i % t.cells) (by rw [enc_len]; exact Nat.mod_lt _ hk)]
      simp only [e0]
    rw [e1]
    clear e1 h1
    induction d generalizing i with
    | nil => simp at hi; 
    | cons x d ih =>
      by_cases hlt : i < t.cells
      · have hz : i / t.cells = 0 := Nat.div_eq_of_lt hlt
        have hm : i % t.cells = i := Nat.mod_eq_of_lt hlt
        have : (encs t (x :: d))[i] = (t.enc x)[i]'(by rw [enc_len]; exact hlt) := by
          simp only [encs_cons]
          rw [List.getElem_append_left]
        rw [this]
        congr 1
        simp [hz]
      · have hge : t.cells ≤ i := by omega
        have e2 : i / t.cells = (i - t.cells) / t.cells + 1 := by
          conv => lhs; rw [show i = (i - t.cells) + t.cells by omega, Nat.add_div_right _ hk]
        have e3 : i % t.cells = (i - t.cells) % t.cells := (Nat.mod_eq_sub_mod hge)
        have h4 : i - t.cells < d.length * t.cells := by simp [Nat.add_mul] at hi; omega
        have := ih (i - t.cells) (by rw [encs_len]; exact h4) h4 ((Nat.div_lt_iff_lt_mul hk).2 h4)
        have e5 : (encs t (x :: d))[i] = (encs t d)[i - t.cells]'(by rw [encs_len]; exact h4) := by
          simp only [encs_cons]
          rw [List.getElem_append_right (by rw [enc_len]; exact hge)]
          congr 1
          rw [enc_len]
        rw [e5, ← this]
        simp only [e3]
        congr 1
        simp [e2]
theorem sortF_ok {t : Ty} (hf : t.flat = true) (hagg : t.agg = true) (L : SlLaysF0.n6 P ρ) (aE : ∀ w, (isAgg (ρ.t 24)).run P w = .ok true w) (zE : ∀ w, (Go.sizeOf (ρ.t 24)).run P w = .ok t.cells w)
    {g : Nat} {F : (Ty.pr t (.pr t .un)).D → Option Int} (cf : t.D → t.D → Int) (hO : SWO (ltOf cf)) (hT : ∀ x y, (ltOf cf) x y = false → (ltOf cf) y x = false → x = y)
    (hg : FnOk P ⟨g, .pr t (.pr t .un), false, .fl (.int .i64), F⟩) (hF : ∀ x y, F (x, y, ()) = some (cf x y)) : SoOk P ⟨ρ.f 6, t, [g], fun xs => xs.mergeSort fun x y => !(ltOf cf) y x⟩ := by
  letI : Inhabited t.D := ⟨t.zero⟩
  refine ⟨hf, fun xs => List.length_mergeSort .., ?_, fun w A cap => AnyF.slices_SortFunc_none L A cap _ w, ?_⟩
  · obtain ⟨nm, hn, h6⟩ := L.f6
    exact ⟨_, _, h6, by simpa using hn, rfl⟩
  intro w b off cap l xs hne hlim hb hl ht
  have hlen : (encs t xs).length = xs.length * t.cells := encs_len
  have hH := holds_of (cs := encs t xs) hb (by rw [hlen]; exact hl) (by rw [hlen]; exact ht)
  have e1 : (encs t xs).toArray = flatK t.enc t.cells xs.toArray := by rw [← flatK_enc]
  rw [e1] at hH
  obtain ⟨e, he⟩ := hv_eq hb
  have hblk : b < w.heap.size := by
    rcases Nat.lt_or_ge b w.heap.size with h' | h'
    · exact h'
    · rw [Array.getElem?_eq_none h'] at he; cases he
  have hcall : ∀ (W : World) (x y : t.D), (∃ fn c, P.funcs[g]? = some fn ∧ fn.name ≠ "runtime.NumGoroutine" ∧ fn.body = some c) ∧
      Calls P g #[.agg (t.enc x).toArray, .agg (t.enc y).toArray] W fun e w' => e = .returned (.int .i64 (cf x y)) ∧ Grown W w' := by
    intro W x y
    have va : ∀ z : t.D, Value.agg (t.enc z).toArray = vOf t (t.enc z) := fun z => by simp [vOf, hagg]
    obtain ⟨h1, h2⟩ := hg (fun _ => False) W (x, y, ()) [.agg (t.enc x).toArray, .agg (t.enc y).toArray] (cf x y) (fun b h => h.elim) ⟨⟨t.enc x, (RO_flat hf).2 rfl, va x⟩, ⟨t.enc y, (RO_flat hf).2 rfl, va y⟩, rfl⟩ (hF x y)
    refine ⟨h1, h2.mono ?_⟩
    rintro (v | ch | _) w' h
    · obtain ⟨hgr, okr, F', hres, _⟩ := h
      refine ⟨?_, hgr⟩
      simp only [ResR] at hres
      obtain ⟨cs, ⟨_, _, hcs⟩, e2⟩ := hres
      simp only [RO] at hcs
      subst hcs
      rw [e2]
      rfl
    · exact h.elim
    · exact h.elim
  have eg : ∀ args w, (callFunc g args).run P w = .ok (.enter g args) w := by
    obtain ⟨fn, c, h1, h2, h3⟩ := (hcall w t.zero t.zero).1
    exact enters_of h1 (by simpa using h2) h3
  have hcmp : CmpLays P g #[] t.enc t.cells cf b off xs.toArray.size w := by
    intro m os dk hdk x y
    refine (hcall _ x y).2.mono ?_
    rintro e w' ⟨h1, h2⟩
    refine ⟨h1, w'.drawn - (sortWorldK t.enc t.cells w b off m dk os).drawn, w'.heap.extract (sortWorldK t.enc t.cells w b off m dk os).heap.size w'.heap.size, ?_⟩
    obtain ⟨g1, ⟨g2, g2'⟩, g3, g4, g5⟩ := h2
    generalize sortWorldK t.enc t.cells w b off m dk os = W at *
    cases w'
    cases W
    simp only [World.drewN, grow] at *
    subst g1; subst g2; subst g3
    congr 1
    · apply Array.ext_getElem?
      intro k
      rw [Array.getElem?_append]
      split
      · rename_i hk; exact (g5 k hk)
      · rename_i hk
        rw [Array.getElem?_extract]
        simp
        grind
    · omega
  refine (AnyQ.slices_SortFunc_total L t.cells aE zE t.enc (fun x => enc_len) (fun x v hv => ?_) cf hO g #[] b off cap xs.toArray w eg (by simpa using hcmp) hH hblk (by simp; omega) hT).mono ?_
  · have := (RO_flat (ok := fun _ => False) (c := fun _ _ => none) hf (cs := t.enc x) (x := x)).2 rfl
    exact RO_one this v hv
  rintro e w' ⟨he, n, os, hw⟩
  have hw' : w' = grow (putRow id (Sort.ahead w n) b off (flatK t.enc t.cells (xs.mergeSort fun x y => !(ltOf cf) y x).toArray)) os := hw
  have hsz := flatK_enc (t := t) (xs.mergeSort fun x y => !(ltOf cf) y x)
  have := put_hv hb (by rw [← Array.length_toList, hsz, encs_len]; simpa using hl) hw'
  rw [hsz] at this
  exact ⟨he, this⟩
end Go.Vm
set_option linter.unusedVariables false
set_option linter.unusedSimpArgs false
namespace Go.Vm
open Go Go.RowKit Go.Sort Go.Shelf Go.Proofs
def rowFg (id : Nat) (t : Ty) (F : List t.D → List t.D) : Fg :=
  ⟨id, ⟨1, 1, [(0, .sl 0)], [(0, .arr t false)]⟩, [], false, .os t, [], fun d => bif Nat.ble (List.length d.2.1) 1073741824 then some (F d.2.1, ()) else none⟩
variable {P : Program}
theorem rowFg_ok {id : Nat} {t : Ty} {F : List t.D → List t.D} (hf : t.flat = true) (hFl : ∀ xs, (F xs).length ≤ xs.length) (hfn : ∃ fn c, P.funcs[id]? = some fn ∧ fn.name ≠ "runtime.NumGoroutine" ∧ fn.body = some c)
    (hnone : ∀ (w : World) (A : Option Addr) (cap : Nat), Calls P id #[.slice A 0 cap] w fun e w' => e = .returned (.slice A 0 cap) ∧ w' = w)
    (hsome : ∀ (w : World) (b off cap : Nat) (l : List Value) (xs : List t.D), xs ≠ [] → List.length xs ≤ 1073741824 → List.length xs ≤ cap → hv w b = some l → off + List.length xs * t.cells ≤ l.length → (l.drop off).take (List.length xs * t.cells) = encs t xs →
      Calls P id #[.slice (some ⟨b, off, none⟩) (List.length xs) cap] w fun e w' => e = .returned (.slice (some ⟨b, off, none⟩) (F xs).length cap) ∧ w'.os = w.os ∧ Ahead w w' ∧ w'.output = w.output ∧ w.heap.size ≤ w'.heap.size ∧
        (∃ zs, (F xs).length + zs.length = xs.length ∧ hv w' b = some (setC l off (encs t (F xs ++ zs)))) ∧ ∀ c, c < w.heap.size → c ≠ b → w'.heap[c]? = w.heap[c]?) :
    FgOk P (rowFg id t F) := by
  refine ⟨rfl, ?_⟩
  intro C S w d vs y hlen hw0 hfx I hy
  refine ⟨hfn, ?_⟩
  have hxs : ∃ xs : List t.D, d.2.1 = xs := ⟨_, rfl⟩
  obtain ⟨xs, hxs⟩ := hxs
  have hy1 : (bif Nat.ble (List.length d.2.1) 1073741824 then some (F d.2.1, ()) else none) = some y := hy
  rw [hxs] at hy1
  have hlim : List.length xs ≤ 1073741824 ∧ y = (F xs, ()) := by
    cases h : Nat.ble (List.length xs) 1073741824 with
    | false => rw [h] at hy1; cases hy1
    | true => rw [h] at hy1; exact ⟨Nat.le_of_ble_eq_true h, (Option.some.inj hy1).symm⟩
  obtain ⟨hlim, rfl⟩ := hlim
  obtain ⟨u, hu, huv⟩ := I.slots 0 (.sl 0 0 0 [] none) rfl
  have hob : (getO ((rowFg id t F).pat.mk' d).ob 0) = ⟨0, 0, some (.arr t xs false)⟩ := by subst hxs; rfl
  have hvs : vs = [u] := by
    have hl1 : vs.length ≤ 1 := hlen
    cases vs with
    | nil =>
      have : u = undef := by
        have h2 : (actOf [] (rowFg id t F).pat.n).tmps[0]? = some undef := rfl
        rw [h2] at hu
        exact (Option.some.inj hu).symm
      subst this
      obtain ⟨_, _, h⟩ := VTV_sl huv
      obtain ⟨_, _, _, _, _, hh, _⟩ := h.1 t xs false (by rw [hob]) (by rw [hob]) (.inl rfl)
      exfalso
      obtain ⟨cs, ⟨v, e1, e2, _, e3⟩, e4⟩ := huv
      subst e1
      obtain ⟨te, A, n, cap, _, _, e5⟩ := e3.1 t xs false (by rw [hob]) (by rw [hob]) (.inl rfl)
      have e5 : v = .slice A n cap := e5
      subst e5
      cases e4
    | cons v l => cases l with
      | cons _ _ => simp at hl1
      | nil =>
        have h2 : (actOf [v] (rowFg id t F).pat.n).tmps[0]? = some v := rfl
        rw [h2] at hu
        rw [Option.some.inj hu]
  subst hvs
  have hsl := (VTV_sl huv).2.2
  obtain ⟨⟨hownO, hnnO⟩, hfnO, hmineO⟩ := I.objs 0 (.arr t xs false) (by rw [hob])
  obtain ⟨te, A, n, cap, hty, hh, hwv⟩ := hsl.1 t xs false (by rw [hob]) (by rw [hob]) (.inl rfl)
  have hty : tyAt (.sl t) [] = some (.sl te) := hty
  simp only [tyAt] at hty
  injection hty with hty
  injection hty with hty
  subst hty
  obtain ⟨hhd, hn⟩ := hh
  have hwv : u = .slice A n cap := hwv
  subst hwv hn
  have keptOf : ∀ w' : World, w'.os = w.os → Ahead w w' → w'.output = w.output → w.heap.size ≤ w'.heap.size → (∀ c, c < w.heap.size → c ∉ S.fp 0 → w'.heap[c]? = w.heap[c]?) → Kept C w' := fun w' h1 h2 h3 h4 h5 =>
    ⟨h1.trans I.kept.os, h2.trans I.kept.tape, h3.trans I.kept.output, Nat.le_trans I.kept.size h4, fun k hk hd => by
      rw [← I.kept.block k hk hd]
      refine h5 k (Nat.lt_of_lt_of_le hk I.kept.size) (fun hm => ?_)
      rcases (hmineO k hm).2.2 with h | h | h
      · omega
      · exact hd h
      · cases h⟩
  have invOf : ∀ w' : World, Kept C w' → Inv C ⟨fun _ => False, S.hd, S.fp⟩ ⟨[], mkObjs [] () (List.replicate 1 ⟨0, 0, none⟩)⟩ { tmps := #[], defers := [] } w' := fun w' hk => by
    have no : ∀ o (c : Ob), (getO (mkObjs [] () (List.replicate 1 ⟨0, 0, none⟩)) o).c = some c → False := by
      intro o c h
      match o, h with
      | 0, h => cases h
      | 1, h => cases h
      | _ + 2, h => cases h
    exact ⟨rfl, rfl, fun t v h => (by cases h), fun o c h => (no o c h).elim, fun o _ c _ _ h => (no o c h).elim, fun b h => h.elim, hk, fun o c _ _ h => (no o c h).elim⟩
  have noO : ∀ o (c : Ob), (getO (mkObjs (rowFg id t F).xo () (List.replicate (rowFg id t F).pat.m ⟨0, 0, none⟩)) o).c = some c → False := by
    intro o c h
    match o, h with
    | 0, h => cases h
    | 1, h => cases h
    | _ + 2, h => cases h
  have e0 : (S.hd 0).1 = A ∧ (S.hd 0).2 = cap := by rw [hhd]; exact ⟨rfl, rfl⟩
  rw [e0.1, e0.2] at hownO
  have nil_case : xs = [] → (∃ F', OwnS (hv w) (Own (hv w) t) t.cells A cap ([] : List t.D) F' ∧ F'.Nodup ∧ ∀ b ∈ F', b ∈ S.fp 0) → Calls P id [Value.slice A (List.length xs) cap].toArray w (fun
    | .returned v, w' => ∃ S1 F2, Inv C S1 ⟨[], mkObjs (rowFg id t F).xo () (List.replicate (rowFg id t F).pat.m ⟨0, 0, none⟩)⟩ { tmps := #[], defers := [] } w' ∧ ResR (fun _ => False) w' (rowFg id t F).tup (rowFg id t F).rs (F xs) v F2 ∧ F2.Nodup ∧
        ∀ b ∈ F2, b < w'.heap.size ∧ (w.heap.size ≤ b ∨ C.don b) ∧ ∀ o c, (getO (mkObjs (rowFg id t F).xo () (List.replicate (rowFg id t F).pat.m ⟨0, 0, none⟩)) o).c = some c → b ∉ S1.fp o
    | _, _ => False) := by
    rintro rfl ⟨F', ho, hnd, hsub⟩
    have hF0 : F [] = [] := List.eq_nil_of_length_eq_zero (by have := hFl []; simpa using this)
    refine (hnone w A cap).mono ?_
    rintro e w' ⟨rfl, rfl⟩
    refine ⟨_, F', invOf w' (keptOf w' rfl (Ahead.refl _) rfl (Nat.le_refl _) (fun _ _ _ => rfl)), ?_, hnd, fun b hb => ?_⟩
    · show ResV _ w' (.os t) (F []) _ F'
      rw [hF0]
      exact ⟨_, ⟨A, cap, rfl, ho⟩, rfl⟩
    · have := hmineO b (hsub b hb)
      refine ⟨this.2.1, ?_, fun o c h => (noO o c h).elim⟩
      rcases this.2.2 with h | h | h
      · exact .inl (by rw [← hw0]; exact h)
      · exact .inr h
      · cases h
  rcases hownO with ⟨hc0, hx0, hF0⟩ | ⟨b, off, l, G, hA, hb, hcap, hlen', hrows, hF'⟩
  · exact nil_case hx0 ⟨[], .inl ⟨hc0, rfl, rfl⟩, List.nodup_nil, fun b hb => (by cases hb)⟩
  · obtain ⟨q1, rr, q2⟩ := (rowsF_enc hf).1 hrows
    subst q1
    subst hA
    have hmul : List.length xs * t.cells ≤ cap * t.cells := Nat.mul_le_mul_right _ hlen'
    have htake : (l.drop off).take (List.length xs * t.cells) = encs t xs := by
      rw [q2, List.take_append_of_le_length (by rw [encs_len]; exact Nat.le_refl _), List.take_of_length_le (by rw [encs_len]; exact Nat.le_refl _)]
    have hbO : b ∈ S.fp 0 := by rw [hF']; simp
    by_cases hne : xs = []
    · exact nil_case hne ⟨[b], .inr ⟨b, off, l, [], rfl, hb, hcap, by simp, (rowsF_enc hf).2 ⟨rfl, l.drop off, by simp [encs]⟩, rfl⟩, by simp, fun c hc => by simp at hc; rw [hc]; exact hbO⟩
    refine (hsome w b off cap l xs hne hlim hlen' hb (by omega) htake).mono ?_
    rintro e w' ⟨rfl, w1, w2, w3, w4, ⟨zs, hz, w5⟩, w6⟩
    have hel : (encs t (F xs ++ zs)).length = List.length xs * t.cells := by rw [encs_len, List.length_append, hz]
    refine ⟨_, [b], invOf w' (keptOf w' w1 w2 w3 w4 (fun c hc hn => w6 c hc (fun e => hn (e ▸ hbO)))), ?_, by simp, fun c hc => ?_⟩
    · refine ⟨_, ⟨_, cap, rfl, .inr ⟨b, off, _, [], rfl, w5, by rw [setC_len (by rw [hel]; omega)]; exact hcap, Nat.le_trans (hFl xs) hlen', ?_, rfl⟩⟩, rfl⟩
      refine (rowsF_enc hf).2 ⟨rfl, encs t zs ++ l.drop (off + (encs t (F xs ++ zs)).length), ?_⟩
      unfold setC
      rw [List.drop_append]
      have : (l.take off).length = off := by rw [List.length_take]; omega
      rw [this, Nat.sub_self, List.drop_zero, List.drop_eq_nil_of_le (by omega), encs_app]
      simp
    · simp at hc
      subst hc
      have := hmineO c hbO
      refine ⟨Nat.lt_of_lt_of_le this.2.1 w4, ?_, fun o c h => (noO o c h).elim⟩
      rcases this.2.2 with h | h | h
      · exact .inl (by rw [← hw0]; exact h)
      · exact .inr h
      · cases h
def compactI (xs : List Int) : List Int := Lib.compact xs
theorem compact_le (xs : List Int) : (compactI xs).length ≤ xs.length := by
  unfold compactI Lib.compact Lib.compactUpTo
  rw [List.length_map]
  exact Nat.le_trans (List.length_filter_le _ _) (by simp)
variable {ρ : Go.Shelf.Ren}
theorem compactI_ok (L : Lays2.n20 P ρ) (hfn : ∃ fn c, P.funcs[ρ.f 20]? = some fn ∧ fn.name ≠ "runtime.NumGoroutine" ∧ fn.body = some c) : FgOk P (rowFg (ρ.f 20) (.int .i64) compactI) := by
  refine rowFg_ok rfl compact_le hfn (fun w A cap => Any.slices_Compact_int_empty L A cap w) ?_
  intro w b off cap l xs hne hlim hcap hb hl ht
  simp only [Ty.cells, Nat.mul_one] at hl ht
  have hlen : (encs (.int .i64) xs).length = xs.length := by rw [encs_len]; simp [Ty.cells]
  have hH := holds_of (cs := encs (.int .i64) xs) hb (by rw [hlen]; exact hl) (by rw [hlen]; exact ht)
  have e1 : (encs (.int .i64) xs).toArray = xs.toArray.map (Value.int .i64) := by rw [encs_int]; simp
  rw [e1] at hH
  refine (Any.slices_Compact_int L b off cap xs w (holds_map hH) (by omega) hcap).mono ?_
  rintro e w' ⟨he, n, hw⟩
  rw [putRow_map] at hw
  have hw : w' = grow (putRow id (Sort.ahead w n) b off ((Lib.compact xs ++ List.replicate (xs.length - (Lib.compact xs).length) 0).toArray.map (Value.int .i64))) #[] := by rw [grow_empty]; exact hw
  have hsz : (Array.map (Value.int .i64) (Lib.compact xs ++ List.replicate (xs.length - (Lib.compact xs).length) 0).toArray).toList = encs (.int .i64) (compactI xs ++ List.replicate (xs.length - (compactI xs).length) 0) := by rw [encs_int]; simp [compactI]
  have hle := compact_le xs
  have := put_hv hb (by rw [← Array.length_toList, hsz, encs_len]; simp [Ty.cells]; omega) hw
  rw [hsz] at this
  obtain ⟨h1, h2, h3, h4, h5, h6⟩ := this
  exact ⟨he, h1, h2, h3, h4, ⟨_, by simp; omega, h5⟩, h6⟩
end Go.Vm
