/- The value machine, part 4 of 9. -/
import Derived.Test.YtjddmekfeckphaaGreatVm2
import Derived.ChangeKeysEq
import Derived.MapKept
set_option linter.unusedVariables false
set_option linter.unusedSimpArgs false
set_option linter.unnecessarySimpa false
set_option linter.unusedVariables false
set_option linter.unusedSimpArgs false
namespace Go.Vm
open Go Go.RowKit
section
variable {P : Program} {S : Side} {w : World} {ob : List Obe}
theorem foldl_setC : ∀ (cs : List Value) (k off : Nat) (arr : Array Value), off + k + cs.length ≤ arr.size →
    (((cs.zipIdx k).foldl (fun (a : Array Value) (q : Value × Nat) => a.setIfInBounds (off + q.2) q.1) arr).toList = setC arr.toList (off + k) cs)
  | [], k, off, arr, h => by simp [setC]
  | v :: cs, k, off, arr, h => by
    simp at h
    rw [List.zipIdx_cons, List.foldl_cons, foldl_setC cs (k + 1) off _ (by simp; omega)]
    rw [setC_cons (by simp; omega)]
    simp [Nat.add_assoc]
theorem fill_step (place : Nat → Option (Nat × Nat)) (cells : Array Value) (i : Nat) (v : Value) (rest : List (Nat × Value)) {off : Nat} (hp : place i = some (off, v.cells.size)) (hb : off + v.cells.size ≤ cells.size) :
    ∃ arr : Array Value, arr.toList = setC cells.toList off v.cells.toList ∧ Instr.fill place cells ((i, v) :: rest) = Instr.fill place arr rest := by
  refine ⟨v.cells.zipIdx.foldl (fun cs (c, j) => cs.setIfInBounds (off + j) c) cells, ?_, ?_⟩
  · have := foldl_setC v.cells.toList 0 off cells (by simpa using hb)
    simp only [Nat.add_zero] at this
    rw [← this, ← Array.foldl_toList, Array.toList_zipIdx]
  · simp only [Instr.fill, hp]
    rw [if_neg (by simp; omega)]
def PartsV (S : Side) (ob : List Obe) (w : World) : List (Nat × VT) → List (Nat × Value) → Prop
  | [], us => us = []
  | (j, v) :: l, us => ∃ u us', us = (j, u) :: us' ∧ VTV S ob w v u ∧ PartsV S ob w l us'
theorem setFld_fits : ∀ {j : Nat} {u v u' : VT} {t t' : Ty}, u.fits t = true → tyAt t [.f j] = some t' → v.fits t' = true → VT.setFld j u v = some u' → u'.fits t = true
  | 0, .va (.pr a b) x, v, u', t, t', h1, h2, h3, h4 => by
    have := of_decide_eq_true h1
    subst this
    simp [tyAt, tyAt_nil] at h2
    subst h2
    cases h4
    simp [VT.fits, h3]
  | 0, .pr a b, v, u', .pr s t, t', h1, h2, h3, h4 => by
    simp [VT.fits] at h1
    simp [tyAt, tyAt_nil] at h2
    subst h2
    cases h4
    simp [VT.fits, h3, h1.2]
  | j + 1, .va (.pr a b) x, v, u', t, t', h1, h2, h3, h4 => by
    have := of_decide_eq_true h1
    subst this
    simp only [VT.setFld, Option.map_eq_some_iff] at h4
    obtain ⟨z, hz, rfl⟩ := h4
    have := setFld_fits (j := j) (u := .va b x.2) (t := b) (by simp [VT.fits]) h2 h3 hz
    simp [VT.fits, this]
  | j + 1, .pr a b, v, u', .pr s t, t', h1, h2, h3, h4 => by
    simp [VT.fits] at h1
    simp only [VT.setFld, Option.map_eq_some_iff] at h4
    obtain ⟨z, hz, rfl⟩ := h4
    have := setFld_fits (j := j) h1.2 h2 h3 hz
    simp [VT.fits, this, h1.1]
  | _, .pr _ _, _, _, .int _, _, h, _, _, _ | _, .pr _ _, _, _, .bool, _, h, _, _, _ | _, .pr _ _, _, _, .str, _, h, _, _, _ | _, .pr _ _, _, _, .sl _, _, h, _, _, _ | _, .pr _ _, _, _, .un, _, h, _, _, _ | _, .pr _ _, _, _, .op, _, h, _, _, _ => by simp [VT.fits] at h
  | 0, .va (.int _) _, _, _, _, _, _, _, _, h | 0, .va .bool _, _, _, _, _, _, _, _, h | 0, .va .str _, _, _, _, _, _, _, _, h | 0, .va (.sl _) _, _, _, _, _, _, _, _, h | 0, .va .un _, _, _, _, _, _, _, _, h | 0, .va .op _, _, _, _, _, _, _, _, h => by simp [VT.setFld] at h
  | _ + 1, .va (.int _) _, _, _, _, _, _, _, _, h | _ + 1, .va .bool _, _, _, _, _, _, _, _, h | _ + 1, .va .str _, _, _, _, _, _, _, _, h | _ + 1, .va (.sl _) _, _, _, _, _, _, _, _, h | _ + 1, .va .un _, _, _, _, _, _, _, _, h | _ + 1, .va .op _, _, _, _, _, _, _, _, h => by simp [VT.setFld] at h
  | 0, .nl, _, _, _, _, _, _, _, h | 0, .em, _, _, _, _, _, _, _, h | 0, .np, _, _, _, _, _, _, _, h | 0, .an, _, _, _, _, _, _, _, h | 0, .ud, _, _, _, _, _, _, _, h | 0, .un, _, _, _, _, _, _, _, h | 0, .rp _ _, _, _, _, _, _, _, _, h | 0, .sl _ _ _ _ _, _, _, _, _, _, _, _, h | 0, .pt _ _ _ _, _, _, _, _, _, _, _, h | 0, .tu _, _, _, _, _, _, _, _, h | 0, .fn _ _, _, _, _, _, _, _, _, h => by simp [VT.setFld] at h
  | _ + 1, .nl, _, _, _, _, _, _, _, h | _ + 1, .em, _, _, _, _, _, _, _, h | _ + 1, .np, _, _, _, _, _, _, _, h | _ + 1, .an, _, _, _, _, _, _, _, h | _ + 1, .ud, _, _, _, _, _, _, _, h | _ + 1, .un, _, _, _, _, _, _, _, h | _ + 1, .rp _ _, _, _, _, _, _, _, _, h | _ + 1, .sl _ _ _ _ _, _, _, _, _, _, _, _, h | _ + 1, .pt _ _ _ _, _, _, _, _, _, _, _, h | _ + 1, .tu _, _, _, _, _, _, _, _, h | _ + 1, .fn _ _, _, _, _, _, _, _, _, h => by simp [VT.setFld] at h
theorem fill_VT {ty : Ty} {place : Nat → Option (Nat × Nat)} (hp : ∀ j t', tyAt ty [.f j] = some t' → place j = some (ty.fo j, t'.cells)) : ∀ {l : List (Nat × VT)} {us : List (Nat × Value)} {zs v : VT} {cells : Array Value}, fillVT ty zs l = some v → PartsV S ob w l us → VTC S ob w zs cells.toList → zs.fits ty = true →
    ∃ cells' : Array Value, Instr.fill place cells us = some cells' ∧ VTC S ob w v cells'.toList ∧ v.fits ty = true
  | [], us, zs, v, cells, h, hus, hz, hf => by
    cases h
    simp only [PartsV] at hus
    subst hus
    exact ⟨cells, rfl, hz, hf⟩
  | (j, u) :: l, us, zs, v, cells, h, ⟨uv, us', e, hv, hus⟩, hz, hf => by
    subst e
    unfold fillVT at h
    split at h
    · rename_i t' ht
      cases hfu : u.fits t' <;> rw [hfu] at h
      · cases h
      · simp only [cond_true, Option.bind_eq_some_iff] at h
        obtain ⟨z', hset, h⟩ := h
        obtain ⟨c, hc, hcf⟩ := fld_some hf ht
        obtain ⟨k, c0, c1, c2, f1, f2, f3, f4⟩ := fld_cells hc hz
        rw [foff_fits hf ht] at f1
        cases f1
        obtain ⟨cs, hcs, rfl⟩ := VTV_of hv (fun q e => by subst e; cases t' <;> cases hfu) (fun e => by subst e; cases t' <;> cases hfu)
        have hmc := mkV_cells hcs
        have hsz : (mkV u cs).cells.size = t'.cells := by rw [← Array.length_toList, hmc, VTC_len hcs, fits_cells hfu]
        have hl1 : c1.length = t'.cells := by rw [VTC_len f4, fits_cells hcf]
        have hl2 : cs.length = t'.cells := by rw [VTC_len hcs, fits_cells hfu]
        have hcl : cells.size = c0.length + (c1.length + c2.length) := by rw [← Array.length_toList, f2]; simp
        obtain ⟨arr, ha, hfill⟩ := fill_step place cells j (mkV u cs) us' (off := ty.fo j) (by rw [hsz]; exact hp j t' ht) (by omega)
        rw [hfill]
        refine fill_VT hp h hus ?_ (setFld_fits hf ht hfu hset)
        rw [ha, hmc]
        have hsetC : setC cells.toList (ty.fo j) cs = c0 ++ (cs ++ c2) := by
          unfold setC
          rw [f2, ← f3]
          simp [hl1, hl2, List.drop_append]
        rw [hsetC]
        exact VTC_setFld hset (foff_fits hf ht) hc hz f2 f3 f4 (by omega) hcs
    · cases h
theorem chain_place {T : Tab} (hT : TabOk P T) : ∀ {fl : List Field} {l : List Nat} {ty : Ty} {off : Nat}, chainOk T fl l ty off → ∃ ps : List (Nat × Nat), (fl.mapM (fun f => do pure (f.offset, ← sizeOf f.type)) : Sem (List (Nat × Nat))).run P w = .ok ps w ∧ ∀ j t', tyAt ty [.f j] = some t' → ps[j]? = some (off + ty.fo j, t'.cells)
  | [], [], .un, off, h => ⟨[], rfl, fun j t' h => by simp [tyAt] at h⟩
  | f :: fl, i :: l, .pr a b, off, ⟨h1, h2, ⟨te, h3, h4⟩, h5⟩ => by
    obtain ⟨ps, g1, g2⟩ := chain_place hT h5
    have hsz := run_size (P := P) hT (t := f.type) (by rw [h1]; exact h3) w
    rw [h4] at hsz
    refine ⟨(off, a.cells) :: ps, ?_, fun j t' h => ?_⟩
    · rw [List.mapM_cons]
      simp only [Sem.run_bind, hsz, Result.andThen_ok, Sem.run_pure, g1, h2]
    · cases j with
      | zero => simp [tyAt, tyAt_nil] at h; subst h; simp [Ty.fo]
      | succ j =>
        have := g2 j t' h
        simp [Ty.fo, this]; omega
  | [], [], .pr _ _, _, h | [], _ :: _, _, _, h | _ :: _, [], _, _, h => by simp [chainOk] at h
  | [], [], .int _, _, h | [], [], .bool, _, h | [], [], .str, _, h | [], [], .sl _, _, h | [], [], .op, _, h => by simp [chainOk] at h
  | _ :: _, _ :: _, .int _, _, h | _ :: _, _ :: _, .bool, _, h | _ :: _, _ :: _, .str, _, h | _ :: _, _ :: _, .sl _, _, h | _ :: _, _ :: _, .op, _, h | _ :: _, _ :: _, .un, _, h => by simp [chainOk] at h
theorem arr_place : ∀ {n : Nat} {t : Ty} {j : Nat} {t' : Ty}, tyAt (arrTy n t) [.f j] = some t' → t' = t ∧ (arrTy n t).fo j = j * t.cells
  | 0, t, j, t', h => by cases j <;> simp [arrTy, tyAt] at h
  | n + 1, t, 0, t', h => by
    simp [arrTy, tyAt, tyAt_nil] at h
    subst h
    simp [arrTy, Ty.fo]
  | n + 1, t, j + 1, t', h => by
    obtain ⟨h1, h2⟩ := arr_place (n := n) (j := j) h
    refine ⟨h1, ?_⟩
    simp only [arrTy, Ty.fo, h2, Nat.succ_mul]; omega
theorem build_sound {T : Tab} (hT : TabOk P T) {t : Nat} {te : TE} (ht : T.find t = some te) (hk : (match te.k with | .st _ | .ar _ _ => true | _ => false) = true) {l : List (Nat × VT)} {us : List (Nat × Value)} {v : VT} (h : fillVT te.ty (zeroVT te.ty) l = some v) (hus : PartsV S ob w l us) :
    ∃ u, (Instr.build t us.toArray).run P w = .ok u w ∧ VTV S ob w v u := by
  obtain ⟨i, z, hi, hsize, hby, hz, hzc⟩ := hT.inf ht
  obtain ⟨c, hc, hcv⟩ := zcB_VTC (S := S) (ob := ob) (w := w) hzc
  rw [List.append_nil] at hc
  have hzero : (zeroValue t).run P w = .ok z w := by simp [zeroValue, typeInfo, hi, hz]
  obtain ⟨d, hd, hdo⟩ := hT.und ht
  have fin : ∀ {place : Nat → Option (Nat × Nat)}, (∀ j t', tyAt te.ty [.f j] = some t' → place j = some (te.ty.fo j, t'.cells)) → ∃ cells' : Array Value, Instr.fill place z.cells us = some cells' ∧ VTV S ob w v (.agg cells') := by
    intro place hp
    obtain ⟨cells', h1, h2, h3⟩ := fill_VT hp h hus (by rw [hc]; exact hcv) zeroVT_fits
    refine ⟨cells', h1, ?_⟩
    have hag : v.isAgg = true := by
      rw [fits_agg h3]
      cases d <;> simp only [descOk] at hdo
      case struct fs => obtain ⟨_, _, h⟩ := hdo; exact st_agg h
      case array n e => obtain ⟨_, te', _, h⟩ := hdo; rw [h]; cases n <;> rfl
      all_goals first
        | (rw [hdo.1] at hk; cases hk)
    have := VTC_VTV h2
    unfold mkV at this
    rw [hag] at this
    exact this
  cases d <;> simp only [descOk] at hdo
  case struct fs =>
    obtain ⟨l', hk', hch⟩ := hdo
    obtain ⟨ps, h1, h2⟩ := chain_place hT (w := w) hch
    obtain ⟨cells', h3, h4⟩ := fin (place := fun i => ps.toArray[i]?) (fun j t' hj => by have := h2 j t' hj; simpa using this)
    refine ⟨.agg cells', ?_, h4⟩
    unfold Instr.build
    have hmm : (fs.mapM (fun f => do pure (f.offset, ← sizeOf f.type)) : Sem (Array (Nat × Nat))).run P w = .ok ps.toArray w := by
      rw [Array.mapM_eq_mapM_toList, Sem.run_map, h1]
      rfl
    simp only [Sem.run_bind, hzero, Result.andThen_ok, run_underlying hd, hmm, h3, Sem.run_pure]
  case array n e =>
    obtain ⟨_, te', he, hty⟩ := hdo
    have hsz := run_size (P := P) hT he w
    obtain ⟨cells', h3, h4⟩ := fin (place := fun i => some (i * te'.ty.cells, te'.ty.cells)) (fun j t' hj => by
      rw [hty] at hj ⊢
      obtain ⟨h1, h2⟩ := arr_place hj
      subst h1
      rw [h2])
    refine ⟨.agg cells', ?_, h4⟩
    unfold Instr.build
    simp only [Sem.run_bind, hzero, Result.andThen_ok, run_underlying hd, hsz, h3, Sem.run_pure]
  all_goals (rw [hdo.1] at hk; cases hk)
end
end Go.Vm
set_option linter.unusedVariables false
set_option linter.unusedSimpArgs false
namespace Go.Vm
open Go Go.RowKit
section
variable {P : Program} {S : Side} {w : World} {ob : List Obe}
theorem RowsF_setC {α : Type} {R : List Value → α → List Nat → Prop} {sz : Nat} {xs : List α} {cs : List Value} {F : List Nat} {i : Nat} (d : α) (hi : i < xs.length) (h : RowsF R sz cs xs F) {c' : List Value} {y : α} {F' : List Nat} (hl : c'.length = sz) (hr : R c' y F') :
    i * sz + sz ≤ cs.length ∧ ∃ F1 F2 F3, F = F1 ++ (F2 ++ F3) ∧ RowsF R sz (setC cs (i * sz) c') (xs.set i y) (F1 ++ (F' ++ F3)) := by
  obtain ⟨p, c, q, F1, F2, F3, e, hp, hc, eF, _, hset⟩ := RowsF_get i d hi h
  refine ⟨by rw [e]; simp [hp, hc], F1, F2, F3, eF, ?_⟩
  have := hset R c' y F' (fun _ _ _ _ h => h) hl hr
  have e2 : setC cs (i * sz) c' = p ++ (c' ++ q) := by
    unfold setC
    rw [e, ← hp, hl]
    simp [List.drop_append, hc]
  rw [e2]
  exact this
theorem Rows_setC {α : Type} {R : List Value → α → Prop} {sz : Nat} : ∀ {xs : List α} {cs : List Value} {i : Nat}, i < xs.length → Rows R sz cs xs → ∀ {c' : List Value} {y : α}, c'.length = sz → R c' y → i * sz + sz ≤ cs.length ∧ Rows R sz (setC cs (i * sz) c') (xs.set i y)
  | [], _, i, hi, _, _, _, _, _ => by simp at hi
  | x :: xs, _, 0, _, ⟨c1, c2, e, l, h1, h2⟩, c', y, hl, hr => by
    subst e
    refine ⟨by simp [l], c', c2, ?_, hl, hr, h2⟩
    simp [setC, hl, l]
  | x :: xs, _, i + 1, hi, ⟨c1, c2, e, l, h1, h2⟩, c', y, hl, hr => by
    subst e
    obtain ⟨g1, g2⟩ := Rows_setC (by simpa using hi) h2 hl hr
    refine ⟨by simp [l, Nat.succ_mul]; omega, c1, setC c2 (i * sz) c', ?_, l, h1, g2⟩
    unfold setC
    rw [Nat.succ_mul, List.take_append, List.take_of_length_le (by omega), l, List.append_assoc]
    congr 1
    rw [show i * sz + sz - sz = i * sz by omega, List.drop_append, List.drop_eq_nil_of_le (by omega), l]
    rw [List.nil_append, show i * sz + sz + c'.length - sz = i * sz + c'.length by omega]
theorem fill_own {C : Ctx} {x : X} {a : Act} (I : Inv C S x a w) {r : Rd} (R : RdOk r x) {t : Ty} : ∀ {l : List (Nat × VT)} {us : List (Nat × Value)} {zs : List (Nat × t.D)} {ids : List Nat} {xs : List t.D} {cells : Array Value} {F : List Nat}, ownAll r t l = some (zs, ids) → PartsV S x.ob w l us →
    RowsF (Own (hv w) t) t.cells cells.toList xs F → (∀ q ∈ l, q.1 < xs.length) → F.Nodup → ids.Nodup → (∀ b ∈ F, b ∉ ids.flatMap S.fp) →
    ∃ (cells' : Array Value) (F' : List Nat), Instr.fill (fun i => some (i * t.cells, t.cells)) cells us = some cells' ∧ RowsF (Own (hv w) t) t.cells cells'.toList (setAll xs zs) F' ∧ F'.Nodup ∧ (∀ b ∈ F', b ∈ F ∨ b ∈ ids.flatMap S.fp) ∧ cells'.size = cells.size ∧ AllLive r x ids ∧ (setAll xs zs).length = xs.length
  | [], us, zs, ids, xs, cells, F, h, hus, hr, hq, hn, hin, hd => by
    cases h
    simp only [PartsV] at hus
    subst hus
    exact ⟨cells, F, rfl, hr, hn, fun b hb => .inl hb, rfl, (fun o ho => by cases ho), rfl⟩
  | (j, v) :: l, us, zs, ids, xs, cells, F, h, ⟨uv, us', e, hv', hus⟩, hr, hq, hn, hin, hd => by
    subst e
    simp only [ownAll, Option.bind_eq_some_iff, Option.map_eq_some_iff] at h
    obtain ⟨⟨y, l1⟩, h1, ⟨zs', ids'⟩, h2, e⟩ := h
    injection e with e1 e2
    subst e1; subst e2
    obtain ⟨cs, hcs, rfl⟩ := VTV_of hv' (fun q e => by subst e; rw [own_tu] at h1; cases h1) (fun e => by subst e; rw [own_ud] at h1; cases h1)
    obtain ⟨ho, hlive⟩ := Rd_own I R h1 hcs
    have hlen := Own_len ho
    obtain ⟨g1, F1, F2, F3, eF, g2⟩ := RowsF_setC t.zero (hq (j, v) (by simp)) hr hlen ho
    have hmc := mkV_cells hcs
    have hsz : (mkV v cs).cells.size = t.cells := by rw [← Array.length_toList, hmc, hlen]
    rw [Array.length_toList] at g1
    replace g1 : j * t.cells + t.cells ≤ cells.size := by simpa using g1
    obtain ⟨arr, ha, hfill⟩ := fill_step (fun i => some (i * t.cells, t.cells)) cells j (mkV v cs) us' (off := j * t.cells) (by rw [hsz]) (by omega)
    have hinA := List.nodup_append.1 hin
    have hlive1 : (l1.flatMap S.fp).Nodup := fps_nodup I hlive hinA.1
    subst eF
    rw [hmc] at ha
    rw [← ha] at g2
    have hnF : (F1 ++ (l1.flatMap S.fp ++ F3)).Nodup := by
      have n1 := List.nodup_append.1 hn
      have n2 := List.nodup_append.1 n1.2.1
      rw [List.nodup_append, List.nodup_append]
      refine ⟨n1.1, ⟨hlive1, n2.2.1, ?_⟩, ?_⟩
      · intro b hb c hc e
        exact hd c (by simp [hc]) (by rw [← e]; simp only [List.flatMap_append, List.mem_append]; exact .inl hb)
      · intro b hb c hc e
        rcases List.mem_append.1 hc with h | h
        · exact hd b (by simp [hb]) (by rw [e]; simp only [List.flatMap_append, List.mem_append]; exact .inl h)
        · exact n1.2.2 b hb c (by simp [h]) e
    obtain ⟨cells', F', k1, k2, k3, k4, k5, k6, k7⟩ := fill_own I R h2 hus g2 (fun q hq' => by rw [List.length_set]; exact hq q (by simp [hq'])) hnF hinA.2.1 (fun b hb => by
      simp only [List.mem_append] at hb
      rcases hb with hb | hb | hb
      · exact fun h => hd b (by simp [hb]) (by simp only [List.flatMap_append, List.mem_append]; exact .inr h)
      · intro h
        rw [List.mem_flatMap] at hb h
        obtain ⟨o1, ho1, hb1⟩ := hb
        obtain ⟨o2, ho2, hb2⟩ := h
        obtain ⟨_, c1, hc1, _⟩ := hlive o1 ho1
        -- the later ones live as well
        have : ∀ {l : List (Nat × VT)} {us : List (Nat × Value)} {zs : List (Nat × t.D)} {ids : List Nat}, ownAll r t l = some (zs, ids) → PartsV S x.ob w l us → AllLive r x ids := by
          intro l
          induction l with
          | nil => intro us zs ids h _; cases h; exact fun o ho => by cases ho
          | cons q l ih =>
            intro us zs ids h hus
            obtain ⟨j, v⟩ := q
            obtain ⟨uv, us', e, hv', hus⟩ := hus
            simp only [ownAll, Option.bind_eq_some_iff, Option.map_eq_some_iff] at h
            obtain ⟨⟨y, l1⟩, h1, ⟨zs', ids'⟩, h2, e⟩ := h
            injection e with e1 e2
            subst e1; subst e2
            obtain ⟨cs, hcs, rfl⟩ := VTV_of hv' (fun q e => by subst e; rw [own_tu] at h1; cases h1) (fun e => by subst e; rw [own_ud] at h1; cases h1)
            have h3 := (Rd_own I R h1 hcs).2
            have h4 := ih h2 hus
            intro o ho
            rcases List.mem_append.1 ho with ho | ho
            · exact h3 o ho
            · exact h4 o ho
        obtain ⟨_, c2, hc2, _⟩ := this h2 hus o2 ho2
        exact I.sep o1 o2 c1 c2 (fun e => hinA.2.2 o1 ho1 o2 ho2 e) hc1 hc2 b hb1 hb2
      · exact fun h => hd b (by simp [hb]) (by simp only [List.flatMap_append, List.mem_append]; exact .inr h))
    refine ⟨cells', F', by rw [hfill]; exact k1, k2, k3, fun b hb => ?_, ?_, fun o ho => ?_, by rw [List.length_set] at k7; exact k7⟩
    · simp only [List.flatMap_append, List.mem_append]
      rcases k4 b hb with h | h
      · simp only [List.mem_append] at h ⊢
        rcases h with h | h | h
        · exact .inl (.inl h)
        · exact .inr (.inl h)
        · exact .inl (.inr (.inr h))
      · exact .inr (.inr h)
    · rw [k5, ← Array.length_toList, ha, setC_len (by simpa [hlen] using g1), Array.length_toList]
    · rcases List.mem_append.1 ho with ho | ho
      · exact hlive o ho
      · exact k6 o ho
theorem rov_RO {C : Ctx} {x : X} : ∀ {t : Ty} {v : VT} {y : t.D} {cs : List Value}, rov t v = some y → VTC S x.ob w v cs → RO S.ok (cv w) t cs y := by
  have hva : ∀ (t : Ty) (t' : Ty) (z : t'.D) (y : t.D) (cs : List Value), Dy.as ⟨t', z⟩ t = some y → VTC S x.ob w (.va t' z) cs → RO S.ok (cv w) t cs y := by
    intro t t' z y cs h hc
    have := Dy_as h
    injection this with e1 e2
    subst e1
    cases e2
    exact hc
  intro t
  induction t with
  | int k | bool | str | op =>
    intro v y cs h hc
    cases v <;> simp only [rov] at h <;> first | exact hva _ _ _ _ _ h hc | cases h
  | un =>
    intro v y cs h hc
    cases v <;> simp only [rov] at h <;> first | exact hva _ _ _ _ _ h hc | (cases h; done) | skip
    exact hc
  | pr a b iha ihb =>
    intro v y cs h hc
    cases v <;> simp only [rov] at h <;> first | exact hva _ _ _ _ _ h hc | (cases h; done) | skip
    rename_i v u
    rw [Option.bind_eq_some_iff] at h
    obtain ⟨y1, h1, h⟩ := h
    rw [Option.map_eq_some_iff] at h
    obtain ⟨y2, h2, rfl⟩ := h
    obtain ⟨c1, c2, e, hc1, hc2⟩ := hc
    exact ⟨c1, c2, e, iha h1 hc1, ihb h2 hc2⟩
  | sl t ih =>
    intro v y cs h hc
    cases v <;> simp only [rov] at h <;> first | exact hva _ _ _ _ _ h hc | (cases h; done) | skip
    · cases h
      exact ⟨none, 0, hc, by simp, fun h => absurd rfl h⟩
    · cases h
      obtain ⟨A, hc⟩ := hc
      exact ⟨A, 0, hc, by simp, fun h => absurd rfl h⟩
theorem rov_tu (t : Ty) (q : VT) : rov t (.tu q) = none := by cases t <;> rfl
theorem rov_ud (t : Ty) : rov t .ud = none := by cases t <;> rfl
theorem fill_ro {C : Ctx} {x : X} {t : Ty} : ∀ {l : List (Nat × VT)} {us : List (Nat × Value)} {zs : List (Nat × t.D)} {xs : List t.D} {cells : Array Value}, valAll t l = some zs → PartsV S x.ob w l us → Rows (RO S.ok (cv w) t) t.cells cells.toList xs → (∀ q ∈ l, q.1 < xs.length) →
    ∃ (cells' : Array Value), Instr.fill (fun i => some (i * t.cells, t.cells)) cells us = some cells' ∧ Rows (RO S.ok (cv w) t) t.cells cells'.toList (setAll xs zs) ∧ cells'.size = cells.size ∧ (setAll xs zs).length = xs.length
  | [], us, zs, xs, cells, h, hus, hr, hq => by
    cases h
    simp only [PartsV] at hus
    subst hus
    exact ⟨cells, rfl, hr, rfl, rfl⟩
  | (j, v) :: l, us, zs, xs, cells, h, ⟨uv, us', e, hv', hus⟩, hr, hq => by
    subst e
    simp only [valAll, Option.bind_eq_some_iff, Option.map_eq_some_iff] at h
    obtain ⟨y, h1, zs', h2, e⟩ := h
    subst e
    obtain ⟨cs, hcs, rfl⟩ := VTV_of hv' (fun q e => by subst e; rw [rov_tu] at h1; cases h1) (fun e => by subst e; rw [rov_ud] at h1; cases h1)
    have ho := rov_RO (C := C) h1 hcs
    have hlen := RO_len ho
    obtain ⟨g1, g2⟩ := Rows_setC (hq (j, v) (by simp)) hr hlen ho
    have hmc := mkV_cells hcs
    have hsz : (mkV v cs).cells.size = t.cells := by rw [← Array.length_toList, hmc, hlen]
    rw [Array.length_toList] at g1
    replace g1 : j * t.cells + t.cells ≤ cells.size := by simpa using g1
    obtain ⟨arr, ha, hfill⟩ := fill_step (fun i => some (i * t.cells, t.cells)) cells j (mkV v cs) us' (off := j * t.cells) (by rw [hsz]) (by omega)
    rw [hmc] at ha
    rw [← ha] at g2
    obtain ⟨cells', k1, k2, k3, k4⟩ := fill_ro (C := C) h2 hus g2 (fun q hq' => by rw [List.length_set]; exact hq q (by simp [hq']))
    refine ⟨cells', by rw [hfill]; exact k1, k2, ?_, by rw [List.length_set] at k4; exact k4⟩
    rw [k3, ← Array.length_toList, ha, setC_len (by simpa [hlen] using g1), Array.length_toList]
theorem run_buildSlice {T : Tab} (hT : TabOk P T) {t e : Nat} {te' : TE} (hu : P.underlying t = some (.slice e)) (he : T.find e = some te') (hd : te'.ty.data = true) {len : Nat} (hlim : len * te'.ty.cells ≤ 16777216) :
    ∃ row : Array Value, row.toList = (List.replicate len te'.ty.zc).flatten ∧ ∀ us cells', Instr.fill (fun i => some (i * te'.ty.cells, te'.ty.cells)) row us = some cells' → (Instr.buildSlice t len us.toArray).run P w = .ok (.slice (some ⟨w.heap.size, 0, none⟩) len len) (w.alloc (.cells cells' e)) := by
  obtain ⟨i, z, hi, hsize, hby, hz, hzc⟩ := hT.inf he
  have hzl := zcB_zc hzc hd
  rw [List.append_nil] at hzl
  have hzs : z.cells.size = te'.ty.cells := by rw [← Array.length_toList, hzl]; exact Own_len (zc_own (H := hv w) hd)
  have hsz := run_size (P := P) hT he w
  have hzero : (zeroValue e).run P w = .ok z w := by simp [zeroValue, typeInfo, hi, hz]
  by_cases h0 : len * te'.ty.cells = 0
  · refine ⟨(Array.range (len * te'.ty.cells)).map ((#[] : Array Value)[· % (#[] : Array Value).size]!), ?_, fun us cells' hf => ?_⟩
    · rw [h0]
      have : (List.replicate len te'.ty.zc).flatten.length = 0 := by rw [rep_len, ← hzl, Array.length_toList, hzs, h0]
      rw [List.eq_nil_of_length_eq_zero this]
      simp
    · unfold Instr.buildSlice
      rw [Sem.run_bind, run_underlying hu]
      simp only [Result.andThen_ok, Sem.run_bind, hsz]
      rw [if_neg (by omega), if_pos h0]
      simp only [Sem.run_pure, Sem.run_bind, Result.andThen_ok, hf]
      rfl
  · refine ⟨(Array.range (len * te'.ty.cells)).map (z.cells[· % z.cells.size]!), ?_, fun us cells' hf => ?_⟩
    · rw [← hzs, range_rep, hzl]
    · unfold Instr.buildSlice
      rw [Sem.run_bind, run_underlying hu]
      simp only [Result.andThen_ok, Sem.run_bind, hsz]
      rw [if_neg (by omega), if_neg h0]
      simp only [Sem.run_pure, Sem.run_bind, hzero, Result.andThen_ok, hf]
      rfl
end
end Go.Vm
set_option linter.unusedVariables false
set_option linter.unusedSimpArgs false
namespace Go.Vm
open Go Go.RowKit
section
variable {P : Program} {S : Side} {w : World}
theorem alloc_hv (w : World) (o : Obj) {b : Nat} (h : b < w.heap.size) : hv (w.alloc o) b = hv w b := hv_same (alloc_old w o h)
theorem buildSlice_own {C : Ctx} {x : X} {a : Act} (I : Inv C S x a w) {T : Tab} (hT : TabOk P T) {r : Rd} (R : RdOk r x) {n : Nat} {t e : Nat} {te' : TE} (hu : P.underlying t = some (.slice e)) (he : T.find e = some te') {t' : Ty} (hty : te'.ty = t') (hd : t'.data = true)
    {len : Nat} (hlim : len * t'.cells ≤ 16777216) {l : List (Nat × VT)} {us : List (Nat × Value)} {z : List (Nat × t'.D) × List Nat} (hz : ownAll r t' l = some z) (hus : PartsV S x.ob w l us) (hq : ∀ q ∈ l, q.1 < len)
    (hr : ∀ m ∈ n :: z.2, r.o m = getO x.ob m) (hlt : ∀ m ∈ n :: z.2, m < x.ob.length) (hnd : (n :: z.2).Nodup) :
    ∃ u w' S', (Instr.buildSlice t len us.toArray).run P w = .ok u w' ∧ Inv C S' ⟨x.sl, putO x.ob (gone r z.2 ++ [newO r n (.arr t' (setAll (List.replicate len t'.zero) z.1) true)])⟩ a w' ∧
      VTV S' (putO x.ob (gone r z.2 ++ [newO r n (.arr t' (setAll (List.replicate len t'.zero) z.1) true)])) w' (newSl r n) u := by
  subst hty
  obtain ⟨row, hrow, hrun⟩ := run_buildSlice (P := P) (w := w) hT hu he hd hlim
  have hzcl : te'.ty.zc.length = te'.ty.cells := Own_len (zc_own (H := hv w) hd)
  obtain ⟨hn1, hn2⟩ := List.nodup_cons.1 hnd
  obtain ⟨cells', F', h1, h2, h3, h4, h5, h6, h7⟩ := fill_own (C := C) I R (t := te'.ty) (l := l) (us := us) (zs := z.1) (ids := z.2) (xs := List.replicate len te'.ty.zero) (cells := row) (F := []) (by rw [hz]) hus
    (by rw [hrow]; exact RowsF_rep hzcl (zc_own hd) _ _ (Nat.le_refl _)) (fun q hq' => by simpa using hq q hq') (by simp) hn2 (by simp)
  have hF : ∀ b ∈ F', ∃ o ∈ z.2, ∃ c, (getO x.ob o).c = some c ∧ b ∈ S.fp o := by
    intro b hb
    rcases h4 b hb with h | h
    · simp at h
    · obtain ⟨o, ho, hbo⟩ := List.mem_flatMap.1 h
      obtain ⟨_, c, hc, _⟩ := h6 o ho
      exact ⟨o, ho, c, hc, hbo⟩
  have hFlt : ∀ b ∈ F', b < w.heap.size := by
    intro b hb
    obtain ⟨o, ho, c, hc, hbo⟩ := hF b hb
    exact ((I.objs o c hc).2.2 b hbo).2.1
  have hlen : (setAll (List.replicate len te'.ty.zero) z.1).length = len := by rw [h7]; simp
  have hcl : cells'.toList.length = len * te'.ty.cells := by
    rw [Array.length_toList, h5, ← Array.length_toList, hrow, rep_len, hzcl]
  have hown : OwnS (hv (w.alloc (.cells cells' e))) (Own (hv (w.alloc (.cells cells' e))) te'.ty) te'.ty.cells (some ⟨w.heap.size, 0, none⟩) len (setAll (List.replicate len te'.ty.zero) z.1) (w.heap.size :: F') := by
    refine .inr ⟨w.heap.size, 0, _, F', rfl, hv_alloc_new w _ e, by rw [hcl]; omega, by rw [hlen]; exact Nat.le_refl _, ?_, rfl⟩
    rw [List.drop_zero]
    exact RowsF_mono (fun cs y G hG ho => Own_mono (fun b hb => alloc_hv w _ (hFlt b (hG b hb))) ho) h2
  obtain ⟨I', hv'⟩ := new_arr I (r := r) (n := n) (l := z.2) hr hlt hn1 (AllLive.rv h6) (nn := true) (w' := w.alloc (.cells cells' e))
    (fun b hb _ => alloc_old w _ hb) (by rw [alloc_size]; omega) (fun b hb => by
      rcases List.mem_cons.1 hb with rfl | hb
      · exact .inr ⟨Nat.le_refl _, by rw [alloc_size]; omega⟩
      · exact .inl (hF b hb)) (List.nodup_cons.2 ⟨fun h => Nat.lt_irrefl _ (hFlt _ h), h3⟩) rfl ⟨rfl, Nat.le_refl _⟩ rfl hown (fun _ => by simp)
  rw [hlen] at hv'
  exact ⟨_, _, _, hrun _ _ h1, I', hv'⟩
theorem Inv.more {C : Ctx} {x : X} {a : Act} (I : Inv C S x a w) (o : Obj) :
    Inv C { S with ok := fun b => S.ok b ∨ b = w.heap.size } x a (w.alloc o) := by
  have := (I.turn (S' := { S with ok := fun b => S.ok b ∨ b = w.heap.size }) (ob' := x.ob) (w' := w.alloc o) (fun _ => False)
    (fun o' _ => ⟨rfl, rfl, rfl, fun c hc b hb => by
      obtain ⟨_, _, h⟩ := I.objs o' c hc
      obtain ⟨h1, h2, _⟩ := h b hb
      exact ⟨alloc_old w _ h2, fun hh => hh.elim h1 (fun e => by omega)⟩⟩)
    (fun b hb => ⟨.inl hb, alloc_old w _ (I.okb b hb)⟩) (fun o' h => h.elim) (fun _ o' c h => h.elim) (fun o' o'' c c' h => h.elim)
    (by rw [alloc_size]; omega) (fun b hb => by
      rw [alloc_size]
      rcases hb with hb | rfl
      · have := I.okb b hb; omega
      · omega) ⟨I.kept.os, I.kept.tape, I.kept.output, by rw [alloc_size]; have := I.kept.size; omega, fun k hk hd => by
        rw [alloc_old w _ (by have := I.kept.size; omega)]; exact I.kept.block k hk hd⟩ (fun o' c h => h.elim) (fun b hb => hb.elim .inl (fun h => .inr (.inl (by rw [h]; exact I.kept.size))))).1
  exact this
theorem RO_zc {ok : Nat → Prop} {c : Nat → Nat → Option Value} : ∀ {t : Ty}, t.data = true → RO ok c t t.zc t.zero
  | .int k, _ => rfl
  | .bool, _ => rfl
  | .str, _ => rfl
  | .sl t, _ => ⟨none, 0, rfl, Nat.le_refl _, fun h => absurd rfl h⟩
  | .pr a b, h => by
    have h' : a.data = true ∧ b.data = true := by
      simp [Ty.data] at h
      grind
    exact ⟨_, _, rfl, RO_zc h'.1, RO_zc h'.2⟩
  | .un, _ => rfl
  | .op, h => by simp [Ty.data] at h
theorem Rows_rep {α : Type} {R : List Value → α → Prop} {sz : Nat} {x : α} {c : List Value} (hc : c.length = sz) (h : R c x) : ∀ (n m : Nat), n ≤ m → Rows R sz (List.replicate m c).flatten (List.replicate n x)
  | 0, _, _ => trivial
  | n + 1, 0, h' => by omega
  | n + 1, m + 1, h' => ⟨c, (List.replicate m c).flatten, by simp [List.replicate_succ], hc, h, Rows_rep hc h n m (by omega)⟩
theorem buildSlice_ro {C : Ctx} {x : X} {a : Act} (I : Inv C S x a w) {T : Tab} (hT : TabOk P T) {t e : Nat} {te' : TE} (hu : P.underlying t = some (.slice e)) (he : T.find e = some te') {t' : Ty} (hty : te'.ty = t') (hd : t'.data = true)
    {len : Nat} (hlim : len * t'.cells ≤ 16777216) {l : List (Nat × VT)} {us : List (Nat × Value)} {z : List (Nat × t'.D)} (hz : valAll t' l = some z) (hus : PartsV S x.ob w l us) (hq : ∀ q ∈ l, q.1 < len) :
    ∃ u w' S', (Instr.buildSlice t len us.toArray).run P w = .ok u w' ∧ Inv C S' x a w' ∧ VTV S' x.ob w' (.va (.sl t') (setAll (List.replicate len t'.zero) z)) u := by
  subst hty
  obtain ⟨row, hrow, hrun⟩ := run_buildSlice (P := P) (w := w) hT hu he hd hlim
  have hzcl : te'.ty.zc.length = te'.ty.cells := Own_len (zc_own (H := hv w) hd)
  obtain ⟨cells', h1, h2, h5, h7⟩ := fill_ro (S := S) (w := w) (C := C) (x := x) (t := te'.ty) (l := l) (us := us) (zs := z) (xs := List.replicate len te'.ty.zero) (cells := row) hz hus
    (by rw [hrow]; exact Rows_rep hzcl (RO_zc hd) _ _ (Nat.le_refl _)) (fun q hq' => by simpa using hq q hq')
  have hlen : (setAll (List.replicate len te'.ty.zero) z).length = len := by rw [h7]; simp
  have hcl : cells'.toList.length = len * te'.ty.cells := by
    rw [Array.length_toList, h5, ← Array.length_toList, hrow, rep_len, hzcl]
  refine ⟨_, _, _, hrun _ _ h1, I.more _, [_], ⟨some ⟨w.heap.size, 0, none⟩, len, by rw [hlen], by rw [hlen]; exact Nat.le_refl _, fun _ => ⟨w.heap.size, 0, rfl, .inr rfl, cells'.toList, by rw [hlen, hcl], fun j v hj => ?_, ?_⟩⟩, rfl⟩
  · rw [hv_cv (hv_alloc_new w _ e)]
    simpa using hj
  · exact Rows_mono (fun cs y _ h => RO_mono (fun b hb => .inl hb) (fun b hb o => cv_same (alloc_old w _ (I.okb b hb)) o) h) h2
end
end Go.Vm
set_option linter.unusedVariables false
set_option linter.unusedSimpArgs false
namespace Go.Vm
open Go Go.RowKit
def Ty.dep : Ty → Nat
  | .pr a b => max (a.dep + 1) b.dep
  | _ => 1
structure EqOk (P : Program) (T : Tab) : Prop where
  st : ∀ t te, T.find t = some te → te.ty.cmp = true → (match te.k with | .st _ => true | _ => false) = true → P.stoodInHeld t = false ∧ ∀ f ∈ (P.fieldsOf t).toList, f.name ≠ "_"
  gd : ∀ t te, T.find t = some te → te.ty.cmp = true → te.ty.agg = true → P.eqGuardType P.depth t = false
  dp : ∀ t te, T.find t = some te → te.ty.cmp = true → te.ty.dep ≤ 1000
def vOf (t : Ty) (cs : List Value) : Value := if t.agg then .agg cs.toArray else cs.headD undef
section
variable {P : Program} {T : Tab}
def EqT (P : Program) (T : Tab) (d : Nat) : Prop := ∀ t te, T.find t = some te → te.ty.cmp = true → te.ty.dep ≤ d → ∀ (ok ok' : Nat → Prop) (c c' : Nat → Nat → Option Value) (w : World) cs ds (x y : te.ty.D), RO ok c te.ty cs x → RO ok' c' te.ty ds y →
  (Op.equalIn d t (vOf te.ty cs) (vOf te.ty ds)).run P w = .ok (eqB te.ty x y) w
theorem eqFields_sound (hT : TabOk P T) {d : Nat} (ih : EqT P T d) {ok ok' : Nat → Prop} {c c' : Nat → Nat → Option Value} {w : World} : ∀ {fl : List Field} {l : List Nat} {ty : Ty} {off : Nat}, chainOk T fl l ty off → ty.cmp = true → ty.dep ≤ d + 1 → (∀ f ∈ fl, f.name ≠ "_") →
    ∀ {p q cs ds : List Value} {x y : ty.D}, p.length = off → q.length = off → RO ok c ty cs x → RO ok' c' ty ds y → (Op.eqFields d (p ++ cs).toArray (q ++ ds).toArray fl).run P w = .ok (eqB ty x y) w
  | [], [], .un, off, _, _, _, _, p, q, cs, ds, x, y, _, _, _, _ => by simp [Op.eqFields, eqB]
  | f :: fl, i :: l, .pr a b, off, h, hc, hd, hn, p, q, cs, ds, x, y, hp, hq, hx, hy => by
    obtain ⟨e1, e2, ⟨te, hf, e3⟩, hrest⟩ := h
    simp only [Ty.cmp, Bool.and_eq_true] at hc
    simp only [Ty.dep] at hd
    obtain ⟨c1, c2, rfl, hx1, hx2⟩ := hx
    obtain ⟨d1, d2, rfl, hy1, hy2⟩ := hy
    subst e3
    have hl1 := RO_len hx1
    have hl2 := RO_len hy1
    have p1 := run_part hT hf (P := P) (w := w) (c0 := p) (c1 := c1) (c2 := c2) hl1
    have p2 := run_part hT hf (P := P) (w := w) (c0 := q) (c1 := d1) (c2 := d2) hl2
    rw [hp, ← e2] at p1
    rw [hq, ← e2] at p2
    have p3 := ih i te hf hc.1 (by omega) ok ok' c c' w _ _ _ _ hx1 hy1
    have p4 := eqFields_sound hT ih (w := w) hrest hc.2 (by omega) (fun f' hf' => hn f' (by simp [hf'])) (p := p ++ c1) (q := q ++ d1) (by simp [hp, hl1]) (by simp [hq, hl2]) hx2 hy2
    rw [List.append_assoc, List.append_assoc] at p4
    unfold vOf at p3
    rw [← e1] at p1 p2 p3
    simp only [Op.eqFields, hn f (by simp), ne_eq, not_false_eq_true, if_true, Sem.run_bind, p1, p2, p3, Result.andThen_ok, eqB]
    cases eqB te.ty x.1 y.1
    · simp
    · simpa using p4
  | [], _ :: _, _, _, h, _, _, _, _, _, _, _, _, _, _, _, _, _ => h.elim
  | [], [], .pr _ _, _, h, _, _, _, _, _, _, _, _, _, _, _, _, _ => h.elim
  | _ :: _, [], _, _, h, _, _, _, _, _, _, _, _, _, _, _, _, _ => h.elim
  | _ :: _, _ :: _, .un, _, h, _, _, _, _, _, _, _, _, _, _, _, _, _ => h.elim
  | _ :: _, _ :: _, .int _, _, h, _, _, _, _, _, _, _, _, _, _, _, _, _ => h.elim
  | _ :: _, _ :: _, .bool, _, h, _, _, _, _, _, _, _, _, _, _, _, _, _ => h.elim
  | _ :: _, _ :: _, .str, _, h, _, _, _, _, _, _, _, _, _, _, _, _, _ => h.elim
  | _ :: _, _ :: _, .sl _, _, h, _, _, _, _, _, _, _, _, _, _, _, _, _ => h.elim
  | _ :: _, _ :: _, .op, _, h, _, _, _, _, _, _, _, _, _, _, _, _, _ => h.elim
  | [], [], .int _, _, h, _, _, _, _, _, _, _, _, _, _, _, _, _ => h.elim
  | [], [], .bool, _, h, _, _, _, _, _, _, _, _, _, _, _, _, _ => h.elim
  | [], [], .str, _, h, _, _, _, _, _, _, _, _, _, _, _, _, _ => h.elim
  | [], [], .sl _, _, h, _, _, _, _, _, _, _, _, _, _, _, _, _ => h.elim
  | [], [], .op, _, h, _, _, _, _, _, _, _, _, _, _, _, _, _ => h.elim
theorem eqItems_sound (hT : TabOk P T) {d : Nat} (ih : EqT P T d) {ok ok' : Nat → Prop} {c c' : Nat → Nat → Option Value} {w : World} {e : Nat} {te : TE} (hf : T.find e = some te) : ∀ (n k : Nat), (arrTy n te.ty).cmp = true → (arrTy n te.ty).dep ≤ d + 1 →
    ∀ {p q cs ds : List Value} {x y : (arrTy n te.ty).D}, p.length = k * te.ty.cells → q.length = k * te.ty.cells → RO ok c (arrTy n te.ty) cs x → RO ok' c' (arrTy n te.ty) ds y → (Op.eqItems d e te.ty.cells (p ++ cs).toArray (q ++ ds).toArray (List.range' k n)).run P w = .ok (eqB (arrTy n te.ty) x y) w
  | 0, k, _, _, p, q, cs, ds, x, y, _, _, _, _ => by simp [Op.eqItems, arrTy, eqB]
  | n + 1, k, hc, hd, p, q, cs, ds, x, y, hp, hq, hx, hy => by
    simp only [arrTy, Ty.cmp, Bool.and_eq_true] at hc
    simp only [arrTy, Ty.dep] at hd
    obtain ⟨c1, c2, rfl, hx1, hx2⟩ := hx
    obtain ⟨d1, d2, rfl, hy1, hy2⟩ := hy
    have hl1 := RO_len hx1
    have hl2 := RO_len hy1
    have p1 := run_part hT hf (P := P) (w := w) (c0 := p) (c1 := c1) (c2 := c2) hl1
    have p2 := run_part hT hf (P := P) (w := w) (c0 := q) (c1 := d1) (c2 := d2) hl2
    rw [hp] at p1
    rw [hq] at p2
    have p3 := ih e te hf hc.1 (by omega) ok ok' c c' w _ _ _ _ hx1 hy1
    have p4 := eqItems_sound hT ih (w := w) hf n (k + 1) hc.2 (by omega) (p := p ++ c1) (q := q ++ d1) (by simp [hp, hl1, Nat.succ_mul]) (by simp [hq, hl2, Nat.succ_mul]) hx2 hy2
    rw [List.append_assoc, List.append_assoc] at p4
    unfold vOf at p3
    simp only [List.range'_succ, Op.eqItems, Sem.run_bind, p1, p2, p3, Result.andThen_ok, arrTy, eqB]
    cases eqB te.ty x.1 y.1
    · simp
    · simpa using p4
theorem eqT_all (hT : TabOk P T) (hE : EqOk P T) : ∀ d, EqT P T d
  | 0 => fun t te _ _ hd => by
    cases hty : te.ty <;> rw [hty] at hd <;> simp [Ty.dep] at hd
  | d + 1 => by
    intro t te ht hc hd ok ok' c c' w cs ds x y hx hy
    obtain ⟨e, hu, hdo⟩ := hT.und ht
    cases e <;> simp only [descOk] at hdo
    case int k =>
      obtain ⟨_, hty⟩ := hdo
      obtain ⟨id, ty, k', by'⟩ := te
      dsimp only at *
      subst hty
      simp only [RO] at hx hy
      subst hx; subst hy
      exact run_equalIn_int w d t k k x y hu
    case bool =>
      obtain ⟨_, hty⟩ := hdo
      obtain ⟨id, ty, k', by'⟩ := te
      dsimp only at *
      subst hty
      simp only [RO] at hx hy
      subst hx; subst hy
      exact run_equalIn_bool' w d t x y hu
    case struct fs =>
      obtain ⟨l, hk, hch⟩ := hdo
      have hag := st_agg hch
      obtain ⟨h1, h2⟩ := hE.st t te ht hc (by rw [hk])
      have hfs : P.fieldsOf t = fs := by simp [Program.fieldsOf, hu]
      simp only [vOf, hag, if_true]
      rw [run_equalIn_struct w d t _ _ (by rw [hfs]; exact hu) h1, hfs]
      rw [hfs] at h2
      have := eqFields_sound hT (eqT_all hT hE d) (w := w) hch hc hd h2 (p := []) (q := []) rfl rfl hx hy
      simpa using this
    case array n e =>
      obtain ⟨_, te', hf, hty⟩ := hdo
      have hag : te.ty.agg = true := by rw [hty]; cases n <;> rfl
      obtain ⟨i, z, hi, hsz, _⟩ := hT.inf hf
      simp only [vOf, hag, if_true]
      rw [run_equalIn_array w d _ _ hu hi, List.range_eq_range']
      have hcell : P.cellsOf e = te'.ty.cells := by simp [Program.cellsOf, hi, hsz]
      rw [hcell]
      obtain ⟨id, ty, k', by'⟩ := te
      dsimp only at *
      subst hty
      have := eqItems_sound hT (eqT_all hT hE d) (w := w) hf n 0 hc hd (p := []) (q := []) (by simp) (by simp) hx hy
      simpa using this
    case string => rw [hdo.2] at hc; cases hc
    case slice e => obtain ⟨_, te', _, h⟩ := hdo; rw [h] at hc; cases hc
    all_goals (rw [hdo.2] at hc; cases hc)
theorem viaB {t : Ty} {z : t.D} (h : (VT.va t z).viaEq = true) (h2 : t.agg = false) : t = .bool := by
  cases t <;> simp_all [VT.viaEq, Ty.agg]
theorem opEqS_sound {C : Ctx} {S : Side} {w : World} {x : X} {a : Act} (I : Inv C S x a w) (hT : TabOk P T) (hE : EqOk P T) {r : Rd} (R : RdOk r x) {op : BinOp} {t : Nat} {va vb v : VT} (hvi : va.viaEq = true) (h : (opEqS T op t r va vb).has v) {ua ub : Value} (ha : VTV S x.ob w va ua) (hb : VTV S x.ob w vb ub) (y z : Operand) :
    ∃ u, (do eqGuard op t y z ua ub; binOp op t ua ub : Sem Value).run P w = .ok u w ∧ VTV S x.ob w v u := by
  unfold opEqS at h
  obtain ⟨te, ht, h⟩ := Br.opt_has h
  obtain ⟨hc, h⟩ := Br.when_has h
  obtain ⟨m, hm, h⟩ := Br.opt_has h
  obtain ⟨n, hn, h⟩ := Br.opt_has h
  have nt : ∀ {v : VT} {t : Ty} {y : t.D}, r.val t v = some y → (∀ q, v ≠ .tu q) ∧ v ≠ .ud := by
    intro v t y h
    refine ⟨fun q e => ?_, fun e => ?_⟩ <;> (subst e; cases t <;> simp [Rd.val] at h)
  obtain ⟨cs, hca, rfl⟩ := VTV_of ha (nt hm).1 (nt hm).2
  obtain ⟨ds, hcb, rfl⟩ := VTV_of hb (nt hn).1 (nt hn).2
  have ra := Rd_val I R hm hca
  have rb := Rd_val I R hn hcb
  have heq := eqT_all hT hE 10000 t te ht hc (Nat.le_trans (hE.dp t te ht hc) (by omega)) _ _ _ _ w _ _ _ _ ra rb
  have ag : ∀ {v : VT} {t : Ty} {y : t.D}, t.cmp = true → r.val t v = some y → v.isAgg = t.agg := by
    intro v t y hc h
    cases v <;> cases t <;> simp [Rd.val, Ty.cmp, VT.isAgg, Ty.agg] at h hc ⊢ <;> (have := Dy_as h; injection this with e1 e2; rw [e1])
  have ea : mkV va cs = vOf te.ty cs := by unfold mkV vOf; rw [ag hc hm]
  have eb : mkV vb ds = vOf te.ty ds := by unfold mkV vOf; rw [ag hc hn]
  rw [ea, eb]
  cases hag : te.ty.agg
  · -- a truth value
    have hty : te.ty = .bool := by
      have h1 := ag hc hm
      rw [hag] at h1
      have tyof : ∀ {t t' : Ty} {z : t'.D} {y : t.D}, r.val t (.va t' z) = some y → t' = t := by
        intro t t' z y h
        cases t <;> simp only [Rd.val] at h <;> (have := Dy_as h; injection this with e1 e2)
      have hvt : ∀ t' z, va = .va t' z → t' = te.ty := fun t' z e => by subst e; exact tyof hm
      clear hm hca ha ea
      cases va with
      | va t' z =>
        rw [← hvt t' z rfl]
        exact viaB hvi h1
      | _ => first | (cases h1; done) | (cases hvi; done)
    obtain ⟨id, ty, k', by'⟩ := te
    dsimp only at *
    subst hty
    simp only [RO] at ra rb
    subst ra; subst rb
    have heq' : (Op.equal t (.bool m) (.bool n)).run P w = .ok (eqB .bool m n) w := heq
    cases op <;> simp only at h <;> first | exact h.elim | skip
    all_goals
      cases h
      refine ⟨_, ?_, bool_VTV _⟩
      show (do eqGuard _ t y z (.bool m) (.bool n); binOp _ t (.bool m) (.bool n) : Sem Value).run P w = _
      simp [eqGuard, binOp, Sem.run_bind, heq']
  · have hg := hE.gd t te ht hc hag
    have g1 := fun op => run_eqGuard_agg (P := P) w op t y z cs.toArray ds.toArray hg
    have e1 : vOf te.ty cs = .agg cs.toArray := by simp [vOf, hag]
    have e2 : vOf te.ty ds = .agg ds.toArray := by simp [vOf, hag]
    rw [e1, e2] at heq ⊢
    cases op <;> simp only at h <;> first | exact h.elim | skip
    · cases h
      exact ⟨_, by rw [Sem.run_bind, g1, Result.andThen_ok, run_eql_struct, heq, Result.andThen_ok], bool_VTV _⟩
    · cases h
      exact ⟨_, by rw [Sem.run_bind, g1, Result.andThen_ok, run_neq_struct, heq, Result.andThen_ok], bool_VTV _⟩
end
end Go.Vm
set_option linter.unusedVariables false
set_option linter.unusedSimpArgs false
namespace Go.Vm
open Go Go.RowKit
section
variable {P : Program} {S : Side} {w : World}
def Ends (P : Program) (C : Ctx) (x : X) (a : Act) (e : Eff) (s : Sem Value) (w : World) : Prop :=
  ∃ u w' S', s.run P w = .ok u w' ∧ Inv C S' ⟨x.sl, putO x.ob e.ob⟩ a w' ∧ ∃ nv, e.v = some nv ∧ VTV S' (putO x.ob e.ob) w' nv u
theorem Ends.fine {C : Ctx} {x : X} {a : Act} {e : Eff} {s : Sem Value} (h : Ends P C x a e s w) {o : Oper} (he : ∀ w, (execOp a.eval o).run P w = (do Pure.pure (Next.value (← s)) : Sem Next).run P w) : Fine P C o a w x e := by
  obtain ⟨u, w', S', h1, h2, nv, h3, h4⟩ := h
  obtain ⟨ev, eob⟩ := e
  cases h3
  exact Fine.of h2 (by rw [he]; exact run_v h1) h4
theorem Ends.same {C : Ctx} {x : X} {a : Act} {v : VT} {s : Sem Value} (I : Inv C S x a w) {u : Value} (h : s.run P w = .ok u w) (hv : VTV S x.ob w v u) : Ends P C x a ⟨some v, []⟩ s w :=
  ⟨u, w, S, h, I, v, rfl, hv⟩
theorem cutL_len {α : Type} {a b : Option Int} {xs : List α} (h : inB xs.length a b) : (cutL a b xs).length = bndH xs.length b - bndL a := by
  obtain ⟨h1, h2⟩ := inB_spec h
  rw [cutL_eq, List.length_drop, List.length_take]
  omega
theorem opSlice_sound {C : Ctx} {x : X} {a : Act} (I : Inv C S x a w) {E : Env} (hT : TabOk P E.T) {r : Rd} (R : RdOk r x) {t dst : Nat} {v : VT} {lo hi : Option VT} {e : Eff} (h : (opSlice E t dst r v lo hi).has e)
    (hw : ∀ m ∈ wrote e.ob, r.o m = getO x.ob m ∧ m < x.ob.length) {uv : Value} {ul uh : Option Value} (hv : VTV S x.ob w v uv) (hul : optR S x.ob w lo ul) (huh : optR S x.ob w hi uh) :
    Ends P C x a e (Instr.sliceAt t uv ul uh none) w := by
  unfold opSlice at h
  obtain ⟨te, ht, h⟩ := Br.opt_has h
  obtain ⟨la, ha, h⟩ := Br.opt_has h
  obtain ⟨lb, hb, h⟩ := Br.opt_has h
  split at h
  · rename_i t' xs
    obtain ⟨hty, h⟩ := Br.when_has h
    have hty := of_decide_eq_true hty
    obtain ⟨hin, h⟩ := h
    cases h
    obtain ⟨cs, ⟨A, cap, rfl, hlc, hro⟩, rfl⟩ := hv
    have hrun := run_sliceAt (P := P) (w := w) hT ht hty (A := A) hlc ha hb hul huh hin
    refine Ends.same I hrun ⟨_, cut_RO rfl ⟨A, cap, rfl, hlc, hro⟩ hin, rfl⟩
  · rename_i o g h0 p _ _ _
    obtain ⟨d, hd, h⟩ := Br.opt_has h
    obtain ⟨t1, xs1, nn1, te1, A1, cap1, F1, ys, hob, hg, hph, hgp, htp, rfl, hro, hsl, _, _, _⟩ := slice_own I R hd
    obtain ⟨cs, ⟨u, rfl, hone, href, hslr⟩, e1⟩ := hv
    have eu : uv = u := e1
    subst eu
    obtain ⟨A, n, cap, F', rfl, hwin, hown, hF, hnil⟩ := hsl _ hslr
    have hwin' : uv = .slice A ys.length cap := hwin
    subst hwin'
    simp only [winL] at h
    obtain ⟨hty, h⟩ := Br.when_has h
    have hty := of_decide_eq_true hty
    obtain ⟨hin, h⟩ := h
    have hlc : ys.length ≤ cap := by
      rcases hown with ⟨rfl, rfl, _⟩ | ⟨_, _, _, _, _, _, _, h, _⟩
      · exact Nat.le_refl _
      · exact h
    have hrun := run_sliceAt (P := P) (w := w) hT ht hty (A := A) hlc ha hb hul huh hin
    obtain ⟨q1, q2⟩ := inB_spec hin
    split at h
    · rename_i n0 rest hal
      obtain ⟨hc, h⟩ := Br.when_has h
      cases h
      simp only [Bool.and_eq_true, Bool.not_eq_true'] at hc
      have hp : p = [] := by cases p with
        | nil => rfl
        | cons => simp at hc
      have hne : n0 ≠ o := fun e => by rw [e, Nat.beq_refl] at hc; cases hc.2
      obtain ⟨e2, e3⟩ := hnil hp
      obtain ⟨G, hG, hsub⟩ := OwnS_cut hown hin
      subst e3
      have hnd := (I.objs o _ hob).2.1
      simp [gone, newO, wrote] at hw
      obtain ⟨I', hv'⟩ := new_arr I (r := r) (n := n0) (l := [o]) (by intro m hm; simp at hm; rcases hm with rfl | rfl; exact hw.2.1; exact hw.1.1) (by intro m hm; simp at hm; rcases hm with rfl | rfl; exact hw.2.2; exact hw.1.2) (by simpa using hne) (fun q hq k hk => by simp at hq; subst hq; rw [hob] at hk; cases hk; rfl) (nn := false) (w' := w)
        (fun b hb _ => rfl) (Nat.le_refl _) (fun b hb => .inl ⟨o, by simp, _, hob, hsub.subset hb⟩) (hsub.nodup hnd) rfl ⟨rfl, Nat.le_refl _⟩ rfl hG (by simp)
      rw [cutL_len hin] at hv'
      exact ⟨_, _, _, hrun, I', _, rfl, hv'⟩
    · cases h
      refine Ends.same I hrun (slice_VTC ?_ ?_)
      · rw [hro]
        exact .inr ⟨hg, Nat.le_refl _⟩
      · refine ⟨?_, fun t4 xs4 nn4 j4 hc4 => by rw [hob] at hc4; cases hc4⟩
        intro t2 xs2 nn2 hc2 hg2 hp2
        obtain ⟨te2, A2, n2, cap2, g1, g2, g3⟩ := hslr.1 t2 xs2 nn2 hc2 hg2 hph
        rw [hob] at hc2
        cases hc2
        rw [htp] at g1
        injection g1 with g1
        injection g1 with g1
        subst g1
        have g3' : (Value.slice A ys.length cap) = .slice A2 n2 cap2 := g3
        injection g3' with e1 e2 e3
        subst e1; subst e2; subst e3
        exact ⟨te1, A, ys.length, cap, htp, g2, by omega, _, rfl, fun hm => by rw [if_neg (by omega)]⟩
  · exact h.elim
end
end Go.Vm
set_option linter.unusedVariables false
set_option linter.unusedSimpArgs false
namespace Go.Vm
open Go Go.RowKit
section
variable {P : Program} {S : Side} {w : World}
theorem Rd_v {C : Ctx} {x : X} {a : Act} (I : Inv C S x a w) {r : Rd} (R : RdOk r x) {y : Operand} {v : VT} (h : r.v y = some v) : VTV S x.ob w v (a.eval y) := I.eval (R.v y v h)
theorem vs_all {C : Ctx} {x : X} {a : Act} (I : Inv C S x a w) {r : Rd} (R : RdOk r x) : ∀ {l : List Operand} {vs : List VT}, r.vs l = some vs → All2 (VTV S x.ob w) vs (l.map a.eval)
  | [], vs, h => by cases h; exact .nil
  | y :: l, vs, h => by
    simp only [Rd.vs, Option.bind_eq_some_iff, Option.map_eq_some_iff] at h
    obtain ⟨v, h1, m, h2, rfl⟩ := h
    exact .cons (Rd_v I R h1) (vs_all I R h2)
theorem parts_all {C : Ctx} {x : X} {a : Act} (I : Inv C S x a w) {r : Rd} (R : RdOk r x) : ∀ {l : List (Nat × Operand)} {m : List (Nat × VT)}, partsOf r l = some m → PartsV S x.ob w m (l.map fun q => (q.1, a.eval q.2))
  | [], m, h => by cases h; exact rfl
  | (j, y) :: l, m, h => by
    simp only [partsOf, Option.bind_eq_some_iff, Option.map_eq_some_iff] at h
    obtain ⟨v, h1, m', h2, rfl⟩ := h
    exact ⟨_, _, rfl, Rd_v I R h1, parts_all I R h2⟩
theorem opt_all {C : Ctx} {x : X} {a : Act} (I : Inv C S x a w) {r : Rd} (R : RdOk r x) {y : Option Operand} {v : Option VT} (h : optV r y = some v) : optR S x.ob w v (y.map a.eval) := by
  cases y with
  | none => cases h; rfl
  | some y =>
    simp only [optV, Option.map_eq_some_iff] at h
    obtain ⟨u, h1, rfl⟩ := h
    exact ⟨_, rfl, Rd_v I R h1⟩
theorem opStore_sound {C : Ctx} {x : X} {a : Act} (I : Inv C S x a w) {T : Tab} (hT : TabOk P T) {r : Rd} (R : RdOk r x) {t : Nat} {va v : VT} {e : Eff} (h : (opStore T t r va v).has e)
    (hw : ∀ m ∈ wrote e.ob, r.o m = getO x.ob m ∧ m < x.ob.length) {ua uv : Value} (ha : VTV S x.ob w va ua) (hv : VTV S x.ob w v uv) :
    e.v = none ∧ ∃ w' S', (Instr.storeAt t ua uv).run P w = .ok () w' ∧ Inv C S' ⟨x.sl, putO x.ob e.ob⟩ a w' := by
  unfold opStore at h
  split at h
  · rename_i o g h0 p
    obtain ⟨te, ht, h1⟩ := Br.opt_has h
    clear h
    split at h1
    · rename_i g' h' u he
      obtain ⟨hc, h2⟩ := Br.when_has h1
      obtain ⟨u0, hu0, h3⟩ := Br.opt_has h2
      obtain ⟨hf0, h4⟩ := Br.when_has h3
      obtain ⟨u', hu', h5⟩ := Br.opt_has h4
      cases h5
      simp only [Bool.and_eq_true] at hc
      obtain ⟨w', S', k1, k2⟩ := storeVar_sound I hT ht R he (Nat.eq_of_beq_eq_true hc.1) hc.2 hu0 hf0 hu' ha hv
      exact ⟨rfl, w', S', k1, k2⟩
    · rename_i g' h' t' xs nn he
      obtain ⟨hc, h2⟩ := Br.when_has h1
      obtain ⟨z, hz, h3⟩ := Br.opt_has h2
      obtain ⟨hnd, h4⟩ := Br.when_has h3
      obtain ⟨ys, hys, h5⟩ := Br.opt_has h4
      cases h5
      simp only [Bool.and_eq_true] at hc
      rw [wrote_app, wrote_gone] at hw
      obtain ⟨w', S', k1, k2⟩ := storeArr_sound I hT ht R he (Nat.eq_of_beq_eq_true hc.1.1) (Nat.eq_of_beq_eq_true hc.1.2) (of_decide_eq_true hc.2) hz (nodupN_iff.1 hnd) hys
        (fun m hm => (hw m (by rcases List.mem_cons.1 hm with rfl | hm <;> simp [wrote, *])).1) (fun m hm => (hw m (by rcases List.mem_cons.1 hm with rfl | hm <;> simp [wrote, *])).2) ha hv
      exact ⟨rfl, w', S', k1, k2⟩
    · rename_i g' h' t' xs nn j he
      split at h1
      · rename_i i
        obtain ⟨hc, h2⟩ := Br.when_has h1
        obtain ⟨z, hz, h3⟩ := Br.opt_has h2
        obtain ⟨hnd, h4⟩ := Br.when_has h3
        obtain ⟨hij, h5⟩ := h4
        cases h5
        simp only [Bool.and_eq_true] at hc
        rw [wrote_app, wrote_gone] at hw
        obtain ⟨w', S', k1, k2⟩ := fillRow_sound I hT ht R he (Nat.eq_of_beq_eq_true hc.1) (Nat.eq_of_beq_eq_true hc.2.1) hij (of_decide_eq_true hc.2.2) hz (nodupN_iff.1 hnd)
          (fun m hm => (hw m (by rcases List.mem_cons.1 hm with rfl | hm <;> simp [wrote, *])).1) (fun m hm => (hw m (by rcases List.mem_cons.1 hm with rfl | hm <;> simp [wrote, *])).2) ha hv
        exact ⟨rfl, w', S', k1, k2⟩
      · exact h1.elim
    · exact h1.elim
  · exact h.elim
theorem opAppend0_sound {C : Ctx} {x : X} {a : Act} (I : Inv C S x a w) {E : Env} (hT : TabOk P E.T) {r : Rd} (R : RdOk r x) {ty : Ty} {dst : Nat} {va vb : VT} {e : Eff} {as : List TypeId} {rt : TypeId} (h0 : argTy E.T as 0 = some ty) (h1 : isSlT (argTy E.T as 1) = true) (h : (opAppend0 E ty dst r va vb).has e)
    (hw : ∀ m ∈ wrote e.ob, r.o m = getO x.ob m ∧ m < x.ob.length) {ua ub : Value} (ha : VTV S x.ob w va ua) (hb : VTV S x.ob w vb ub) :
    Ends P C x a e (Builtin.append_ as.toArray rt #[ua, ub]) w := by
  unfold opAppend0 at h
  split at h
  · rename_i t n rest hal
    obtain ⟨hc, h2⟩ := Br.when_has h
    clear h
    simp only [Bool.and_eq_true, Bool.not_eq_true', decide_eq_false_iff_not] at hc
    obtain ⟨tid, el, te, g1, g2, g3, g4⟩ := argTy_sl hT h0
    obtain ⟨tx, e', k1, k2⟩ := isSlT_und hT h1
    have fresh : ∀ {A : Option Addr}, ua = .slice A 0 0 → (Br.opt (srcOf r t vb) fun ys => Br.when (nodupN (n :: ys.2)) (.cnd (Nat.ble (List.length ys.1) 1073741824) (.ret ⟨some (newSl r n), gone r ys.2 ++ [newO r n (.arr t ys.1 (!ys.1.isEmpty))]⟩) .no)).has e → Ends P C x a e (Builtin.append_ as.toArray rt #[ua, ub]) w := by
      intro A eu h3
      subst eu
      obtain ⟨ys, hys, h4⟩ := Br.opt_has h3
      obtain ⟨hnd, h5⟩ := Br.when_has h4
      obtain ⟨hl, h6⟩ := Br.cnd_has h5
      have hl := Nat.le_of_ble_eq_true hl
      cases h6
      rw [wrote_app, wrote_gone] at hw
      obtain ⟨G, news, s1, s2, s3, s4⟩ := source_of I R k2 hys hb
      obtain ⟨n1, n2⟩ := List.nodup_cons.1 (nodupN_iff.1 hnd)
      obtain ⟨u, w', S', q1, q2, q3⟩ := append_sound (A := A) (cap := 0) (xs := []) (F := []) (r := r) (n := n) (l := ys.2) I hT hc.2 hc.1 g2 g3 g4
        (fun m hm => (hw m (by rcases List.mem_cons.1 hm with rfl | hm <;> simp [wrote, newO, *])).1) (fun m hm => (hw m (by rcases List.mem_cons.1 hm with rfl | hm <;> simp [wrote, newO, *])).2)
        n1 (AllLive.rv s2) (.inl ⟨rfl, rfl, rfl⟩) (by simp) (by simp) (ty := rt) s1
        (fun b hb' => by
          obtain ⟨o, ho, hbo⟩ := List.mem_flatMap.1 (s4 b hb')
          obtain ⟨_, c, hc, _⟩ := s2 o ho
          exact ⟨o, ho, c, hc, hbo⟩) (s3 n2) (by simp) (by simp; omega)
      exact ⟨u, w', S', by rw [append_args g1 k1]; exact q1, q2, _, rfl, q3⟩
    split at h2
    · obtain ⟨cs, hcs, ecs⟩ := ha
      simp only [VTC] at hcs
      subst hcs
      exact fresh (A := none) ecs h2
    · obtain ⟨cs, ⟨A, hcs⟩, ecs⟩ := ha
      subst hcs
      exact fresh (A := A) ecs h2
    · rename_i o g h'
      obtain ⟨d, hd, h3⟩ := Br.opt_has h2
      obtain ⟨xs, hxs, h4⟩ := Br.opt_has h3
      obtain ⟨ys, hys, h5⟩ := Br.opt_has h4
      obtain ⟨hnd, h6⟩ := Br.when_has h5
      obtain ⟨hl, h7⟩ := Br.cnd_has h6
      have hl := Nat.le_of_ble_eq_true hl
      cases h7
      obtain ⟨t1, xs1, nn1, te1, A1, cap1, F1, zs, hob, hg, hph, hgp, htp, rfl, hro, hsl, _, _, _⟩ := slice_own I R hd
      obtain ⟨_, href, hslr⟩ := VTV_sl ha
      obtain ⟨A, m, cap, F', rfl, hwin, hown, hF, hnil⟩ := hsl _ hslr
      have hwin' : ua = .slice A zs.length cap := hwin
      subst hwin'
      have e1 := Dy_as hxs
      simp only [winL] at e1
      injection e1 with e1 e2
      injection e1 with e1
      subst e1
      cases e2
      obtain ⟨e2, e3⟩ := hnil rfl
      subst e3
      rw [wrote_app, wrote_gone] at hw
      obtain ⟨G, news, s1, s2, s3, s4⟩ := source_of I R k2 hys hb
      obtain ⟨n1, n2⟩ := List.nodup_cons.1 (nodupN_iff.1 hnd)
      obtain ⟨n3, n4⟩ := List.nodup_cons.1 n2
      have hmm : ∀ m ∈ n :: (o :: ys.2), r.o m = getO x.ob m ∧ m < x.ob.length := fun m hm => hw m (by simp [wrote, newO] at hm ⊢; grind)
      obtain ⟨u, w', S', q1, q2, q3⟩ := append_sound (A := A) (cap := cap) (xs := zs) (F := S.fp o) (r := r) (n := n) (l := o :: ys.2) I hT hc.2 hc.1 g2 g3 g4
        (fun m hm => (hmm m hm).1) (fun m hm => (hmm m hm).2)
        n1 (fun q hq c hc => by
          rcases List.mem_cons.1 hq with rfl | hq
          · rw [hob] at hc; cases hc; rfl
          · exact AllLive.rv s2 q hq c hc) hown (fun b hb' => ⟨o, by simp, _, hob, hb'⟩) (I.objs o _ hob).2.1 (ty := rt) s1
        (fun b hb' => by
          obtain ⟨o', ho, hbo⟩ := List.mem_flatMap.1 (s4 b hb')
          obtain ⟨_, c, hc, _⟩ := s2 o' ho
          exact ⟨o', by simp [ho], c, hc, hbo⟩) (s3 n4) (fun b hb1 hb2 => by
          obtain ⟨o', ho, hbo⟩ := List.mem_flatMap.1 (s4 b hb2)
          obtain ⟨_, c, hc, _⟩ := s2 o' ho
          exact I.sep o o' _ c (fun e => n3 (e ▸ ho)) hob hc b hb1 hbo) (by omega)
      exact ⟨u, w', S', by rw [append_args g1 k1]; exact q1, q2, _, rfl, q3⟩
    · exact h2.elim
  · exact h.elim
theorem opAppend_sound {C : Ctx} {x : X} {a : Act} (I : Inv C S x a w) {E : Env} (hT : TabOk P E.T) {r : Rd} (R : RdOk r x) {ty : Ty} {dst : Nat} {va vb : VT} {e : Eff} {as : List TypeId} {rt : TypeId} (h0 : argTy E.T as 0 = some ty) (h1 : isSlT (argTy E.T as 1) = true) (h : (opAppend E ty dst r va vb).has e)
    (hw : ∀ m ∈ wrote e.ob, r.o m = getO x.ob m ∧ m < x.ob.length) {ua ub : Value} (ha : VTV S x.ob w va ua) (hb : VTV S x.ob w vb ub) :
    Ends P C x a e (Builtin.append_ as.toArray rt #[ua, ub]) w := by
  unfold opAppend at h
  split at h
  · rename_i o g h' j
    split at h
    · rename_i n n0 rest hal
      obtain ⟨q, hq, h2⟩ := Br.opt_has h
      obtain ⟨e0, h3, rfl⟩ := Br.mapE_has h2
      have hn0 := hw n0 (by simp [wrote])
      obtain ⟨S', I1, hv1, hvr, R1, hne, hlo⟩ := rowOut_sound I R hq hn0.1 hn0.2 ha
      obtain ⟨u, w', S2, k1, k2, nv, k3, k4⟩ := opAppend0_sound I1 hT R1 h0 h1 h3 (fun m hm => by
        have := hw m (by simp [wrote, hm])
        exact ⟨put2_o hlo hn0.2 hne this.1, by rw [putO_length]; exact this.2⟩) hvr (VTV_tr hv1 hb)
      exact ⟨u, w', S2, k1, k2, nv, k3, k4⟩
    · exact h.elim
  · exact opAppend0_sound I hT R h0 h1 h hw ha hb
end
end Go.Vm
set_option linter.unusedVariables false
set_option linter.unusedSimpArgs false
namespace Go.Vm
open Go Go.RowKit
def encs (t : Ty) (xs : List t.D) : List Value := (xs.map t.enc).flatten
theorem encs_len {t : Ty} : ∀ {xs : List t.D}, (encs t xs).length = xs.length * t.cells
  | [] => by simp [encs]
  | x :: xs => by
    have := encs_len (t := t) (xs := xs)
    unfold encs at this ⊢
    rw [List.map_cons, List.flatten_cons, List.length_append, this, enc_len, List.length_cons, Nat.add_mul, Nat.one_mul, Nat.add_comm]
theorem encs_app {t : Ty} (xs ys : List t.D) : encs t (xs ++ ys) = encs t xs ++ encs t ys := by simp [encs]
theorem encs_cons {t : Ty} (x : t.D) (xs : List t.D) : encs t (x :: xs) = t.enc x ++ encs t xs := by simp [encs]
theorem rowsF_enc {H : Nat → Option (List Value)} {t : Ty} (hf : t.flat = true) : ∀ {xs : List t.D} {cs : List Value} {F : List Nat}, RowsF (Own H t) t.cells cs xs F ↔ F = [] ∧ ∃ r, cs = encs t xs ++ r
  | [], cs, F => ⟨fun h => ⟨h, cs, rfl⟩, fun h => h.1⟩
  | x :: xs, cs, F => by
    constructor
    · rintro ⟨c1, c2, F1, F2, rfl, _, rfl, h1, h2⟩
      obtain ⟨rfl, rfl⟩ := (Own_flat hf).1 h1
      obtain ⟨rfl, r, rfl⟩ := (rowsF_enc hf).1 h2
      exact ⟨rfl, r, by rw [encs_cons, List.append_assoc]⟩
    · rintro ⟨rfl, r, rfl⟩
      exact ⟨t.enc x, encs t xs ++ r, [], [], by rw [encs_cons, List.append_assoc], enc_len, rfl, (Own_flat hf).2 ⟨rfl, rfl⟩, (rowsF_enc hf).2 ⟨rfl, r, rfl⟩⟩
theorem rows_enc {ok : Nat → Prop} {c : Nat → Nat → Option Value} {t : Ty} (hf : t.flat = true) : ∀ {xs : List t.D} {cs : List Value}, Rows (RO ok c t) t.cells cs xs → ∃ r, cs = encs t xs ++ r
  | [], cs, _ => ⟨cs, rfl⟩
  | x :: xs, cs, ⟨c1, c2, e, _, h1, h2⟩ => by
    obtain ⟨r, rfl⟩ := rows_enc hf h2
    have := (RO_flat hf).1 h1
    subst this
    exact ⟨r, by rw [e, encs_cons, List.append_assoc]⟩
theorem encs_nosl {t : Ty} (hf : t.flat = true) {xs : List t.D} : ∀ v ∈ encs t xs, isSl v = false := by
  intro v hv
  unfold encs at hv
  obtain ⟨l, hl, hv⟩ := List.mem_flatten.1 hv
  obtain ⟨x, _, rfl⟩ := List.mem_map.1 hl
  exact enc_nosl hf v hv
theorem encs_one {t : Ty} (hf : t.flat = true) {xs : List t.D} : ∀ v ∈ encs t xs, v.oneCell' = true := by
  intro v hv
  unfold encs at hv
  obtain ⟨l, hl, hv⟩ := List.mem_flatten.1 hv
  obtain ⟨x, _, rfl⟩ := List.mem_map.1 hl
  exact Own_one (H := fun _ => none) (F := []) ((Own_flat hf).2 ⟨rfl, rfl⟩) v hv
theorem setC_app {A B R cs : List Value} (h : cs.length = B.length) : setC (A ++ (B ++ R)) A.length cs = A ++ (cs ++ R) := by
  unfold setC
  have e : List.drop (A.length + B.length) (A ++ (B ++ R)) = R := by
    rw [← List.append_assoc, ← List.length_append, List.drop_left]
  rw [List.take_left, h, e]
theorem setO_same : ∀ (l : List Obe) (o : Nat), l.set o (getO l o) = l
  | [], _ => rfl
  | a :: l, 0 => rfl
  | a :: l, o + 1 => by simp [getO, setO_same l o]
theorem val_tu' (r : Rd) (t : Ty) (q : VT) : r.val t (.tu q) = none := by cases t <;> rfl
theorem val_ud' (r : Rd) (t : Ty) : r.val t .ud = none := by cases t <;> rfl
theorem val_agg' {r : Rd} {v : VT} {t : Ty} {y : t.D} (h : r.val t v = some y) : v.isAgg = t.agg := by
  cases v <;> cases t <;> simp [Rd.val, VT.isAgg, Ty.agg] at h ⊢ <;> (have := Dy_as h; injection this with e1 e2; rw [e1])
section
variable {P : Program} {S : Side} {w : World}
theorem Inv.over {C : Ctx} {x : X} {a : Act} (I : Inv C S x a w) {o g h : Nat} {t : Ty} {xs ys : List t.D} {nn : Bool} (he : getO x.ob o = ⟨g, h, some (.arr t xs nn)⟩) (hlt : o < x.ob.length) (hlen : ys.length = xs.length) {b : Nat} {w' : World}
    (hb : S.fp o = [b]) (hoth : ∀ c, c ≠ b → w'.heap[c]? = w.heap[c]?) (hsz : w'.heap.size = w.heap.size) (hos : w'.os = w.os) (htape : Ahead w w') (hout : w'.output = w.output)
    (hown : OwnS (hv w') (Own (hv w') t) t.cells (S.hd o).1 (S.hd o).2 ys [b]) (hmono : ∀ c k v, cellAt (hv w) c k = some v → isSl v = true → cellAt (hv w') c k = some v) :
    Inv C S ⟨x.sl, putO x.ob [(o, ⟨g, h, some (.arr t ys nn)⟩)]⟩ a w' := by
  have hob : (getO x.ob o).c = some (.arr t xs nn) := by rw [he]
  obtain ⟨⟨_, hnn⟩, hnd, hmine⟩ := I.objs o _ hob
  have hbm := hmine b (by rw [hb]; simp)
  have hnew : getO (putO x.ob [(o, ⟨g, h, some (.arr t ys nn)⟩)]) o = ⟨g, h, some (.arr t ys nn)⟩ := by
    simp only [putO]
    rw [getO_set, if_pos ⟨rfl, hlt⟩]
  have hold : ∀ o', o' ≠ o → getO (putO x.ob [(o, ⟨g, h, some (.arr t ys nn)⟩)]) o' = getO x.ob o' := fun o' ho' => getO_putO_ne _ _ _ (by simp [wrote]; exact ho')
  have hne : ∀ c, (∃ o' k, o' ≠ o ∧ (getO x.ob o').c = some k ∧ c ∈ S.fp o') → c ≠ b := by
    rintro c ⟨o', k, ho', hk, hc⟩ e
    subst e
    exact I.sep o' o k _ ho' hk hob c hc (by rw [hb]; simp)
  refine (I.turn (S' := S) (ob' := putO x.ob [(o, ⟨g, h, some (.arr t ys nn)⟩)]) (w' := w') (fun m => m = o)
    (fun m hm => ⟨hold m hm, rfl, rfl, fun c hc c1 hc1 => ⟨hoth c1 (hne c1 ⟨m, c, hm, hc, hc1⟩), ((I.objs m c hc).2.2 c1 hc1).1⟩⟩)
    (fun c hc => ⟨hc, hoth c (fun e => hbm.1 (e ▸ hc))⟩)
    (fun m hm => ?_) (fun _ m c hm hc => ?_) (fun m m' c c' hm hne' hc hc' d hd hd' => ?_) (by rw [hsz]; exact Nat.le_refl _) (fun c hc => by rw [hsz]; exact I.okb c hc)
    ⟨hos.trans I.kept.os, htape.trans I.kept.tape, hout.trans I.kept.output, by rw [hsz]; exact I.kept.size, fun k hk hd => by
      rw [← I.kept.block k hk hd]
      refine hoth k (fun e => ?_)
      subst e
      rcases hbm.2.2 with h | h | h
      · omega
      · exact hd h
      · cases h⟩ (fun m c hm hf hg hc => ?_)).1
  · subst hm
    have hg0 : (getO (putO x.ob [(m, ⟨g, h, some (.arr t ys nn)⟩)]) m).g = (getO x.ob m).g := by rw [hnew, he]
    have hh0 : (getO (putO x.ob [(m, ⟨g, h, some (.arr t ys nn)⟩)]) m).h = (getO x.ob m).h := by rw [hnew, he]
    refine ⟨fun g1 h1' p1 win v1 hr1 hs1 => ⟨by unfold refOk at *; omega, fun t2 xs2 nn2 hc2' hg2 hp2 => ?_, fun t4 xs4 nn4 j4 hc4 => (by rw [hnew] at hc4; cases hc4)⟩, fun g1 h1' p1 v1 hr1 hs1 => ⟨by unfold refOk at *; omega, fun c0 u hc hh' => ?_, fun t2 xs2 nn2 hc2' hg2 hp2 => ?_, fun k3 t3 es3 hc3 => (by rw [hnew] at hc3; cases hc3), fun t4 xs4 nn4 j4 hc4 => (by rw [hnew] at hc4; cases hc4)⟩⟩
    · rw [hnew] at hc2'
      cases hc2'
      obtain ⟨te1, A1, n1, cap1, k1, k2, k3⟩ := hs1.1 t xs nn hob (by omega) (hp2.imp id (fun h => by omega))
      refine ⟨te1, A1, n1, cap1, k1, ?_, k3⟩
      cases p1 with
      | nil => exact ⟨k2.1, by rw [hlen]; exact k2.2⟩
      | cons s p1 =>
        obtain ⟨b1, o1, q1, q2⟩ := k2
        exact ⟨b1, o1, by rw [hlen]; exact locA_mono hmono q1, hmono _ _ _ q2 rfl⟩
    · rw [hnew] at hc; cases hc; cases hh'
    · rw [hnew] at hc2'
      cases hc2'
      obtain ⟨b1, o1, q1, q2⟩ := hs1.2.1 t xs nn hob (by omega) (by omega)
      exact ⟨b1, o1, by rw [hlen]; exact locA_mono hmono q1, q2⟩
  · subst hm
    rw [hnew] at hc
    cases hc
    refine ⟨⟨by rw [hb]; exact hown, hnn⟩, hnd, fun c hc => ?_⟩
    have := hmine c hc
    exact ⟨this.1, by rw [hsz]; exact this.2.1, this.2.2⟩
  · subst hm
    rw [hold m' (Ne.symm hne')] at hc'
    exact I.sep m m' _ c' hne' hob hc' d hd hd'
  · subst hm
    rw [hnew] at hg hc
    cases hc
    obtain ⟨f1, f2⟩ := I.fix m _ hf (by rw [he]; exact hg) hob
    refine ⟨f1, ?_⟩
    rw [← f2]
    simp [Ob.shape, hlen]
theorem run_copy0 {dT e : TypeId} {te : TE} {T : Tab} (hT : TabOk P T) (hu : P.underlying dT = some (.slice e)) (hte : T.find e = some te) {l : List TypeId} (h0 : l[0]? = some dT) {ty : TypeId} {d a : Option Addr} {dLen dCap sLen sCap : Nat} (hn : min sLen dLen = 0) :
    (Builtin.copy_ l.toArray ty #[.slice d dLen dCap, .slice a sLen sCap]).run P w = .ok (goInt 0) w := by
  have hl : ∀ (x : Addr), (loadCells x 0).run P w = .ok #[] w := fun x => by simpa using run_loadCells_list (P := P) w x [] (by simp)
  have hn' : Nat.min sLen dLen = 0 := hn
  cases d <;> cases a <;> simp [Builtin.copy_, h0, run_underlying hu, Builtin.lenOf, Builtin.firstCells, run_size hT hte, hn', storeCells, hl]
theorem run_copy1 {dT e : TypeId} {te : TE} {T : Tab} (hT : TabOk P T) (hu : P.underlying dT = some (.slice e)) (hte : T.find e = some te) {l : List TypeId} (h0 : l[0]? = some dT) {ty : TypeId} {b o b2 o2 dLen dCap sLen sCap : Nat} {cs ll : List Value} (hn : cs.length = min sLen dLen * te.ty.cells)
    (hsrc : lies (cv w) b2 o2 cs) (hl : hv w b = some ll) (hb : o + cs.length ≤ ll.length) (h1 : ∀ v ∈ cs, v.oneCell' = true) :
    (Builtin.copy_ l.toArray ty #[.slice (some ⟨b, o, none⟩) dLen dCap, .slice (some ⟨b2, o2, none⟩) sLen sCap]).run P w = .ok (goInt ((min sLen dLen : Nat) : Int)) (w.setCells b o cs) := by
  have hld := run_loadCells_list (P := P) w ⟨b2, o2, none⟩ cs (fun j v hv => by rw [add_plain]; exact hsrc j v hv)
  have hst := run_storeCells_cells (P := P) b o cs 0 w
    (fun j hj => by
      have := hv_cv hl (o + 0 + j)
      unfold cv at this
      rw [this, List.getElem?_eq_getElem (by omega)]; rfl)
    (fun j hj => hv_frozen hl _) h1
  simp only [Nat.add_zero] at hst
  have hn' : cs.length = Nat.min sLen dLen * te.ty.cells := hn
  simp [Builtin.copy_, h0, run_underlying hu, Builtin.lenOf, Builtin.firstCells, run_size hT hte, ← hn', hld, hst]
theorem splice_none {α : Type} (xs : List α) (lo m : Nat) (ys : List α) (h : min ys.length m = 0) : splice xs lo m ys = xs := by
  unfold splice
  have h' : min m ys.length = 0 := by rw [Nat.min_comm]; exact h
  rw [h']
  have : ys.take m = [] := by
    apply List.eq_nil_of_length_eq_zero
    rw [List.length_take, h']
  rw [this, List.nil_append, Nat.add_zero, List.take_append_drop]
theorem splice_len {α : Type} (xs : List α) (lo m : Nat) (ys : List α) (h : lo + m ≤ xs.length) : (splice xs lo m ys).length = xs.length := by
  unfold splice
  simp only [List.length_append, List.length_take, List.length_drop]
  omega
theorem copy_sound {C : Ctx} {x : X} {a : Act} (I : Inv C S x a w) {T : Tab} (hT : TabOk P T) {r : Rd} (R : RdOk r x) {o g h : Nat} {t : Ty} {xs ys : List t.D} {nn : Bool} (he : getO x.ob o = ⟨g, h, some (.arr t xs nn)⟩) (hlt : o < x.ob.length) (hf : t.flat = true) (hc0 : t.cells ≠ 0)
    {b : VT} (hy : r.val (.sl t) b = some ys) {ub : Value} (hv' : VTV S x.ob w b ub) {l : List TypeId} {dT e : TypeId} {te : TE} (h0 : l[0]? = some dT) (hu : P.underlying dT = some (.slice e)) (hte : T.find e = some te) (hty : te.ty = t) {rt : TypeId}
    {lo m : Nat} {A' : Option Addr} {c' : Nat} (hlm : lo + m ≤ xs.length) (hA' : m ≠ 0 → A' = (S.hd o).1.map (·.add (lo * t.cells))) :
    Ends P C x a ⟨some (.va (.int .i64) ((min ys.length m : Nat) : Int)), [(o, ⟨g, h, some (.arr t (splice xs lo m ys) nn)⟩)]⟩ (Builtin.copy_ l.toArray rt #[.slice A' m c', ub]) w := by
  obtain ⟨cs, hcs, rfl⟩ := VTV_of hv' (fun q e => by subst e; rw [val_tu'] at hy; cases hy) (fun e => by subst e; rw [val_ud'] at hy; cases hy)
  have hro := Rd_val I R hy hcs
  obtain ⟨B, sc, rfl, hsc, hrows⟩ := hro
  have hag : b.isAgg = false := val_agg' hy
  have emk : mkV b [Value.slice B (List.length ys) sc] = .slice B (List.length ys) sc := by unfold mkV; rw [hag]; rfl
  rw [emk]
  have hob : (getO x.ob o).c = some (.arr t xs nn) := by rw [he]
  obtain ⟨⟨hown, hnn⟩, hnd, hmine⟩ := I.objs o _ hob
  by_cases hn : min ys.length m = 0
  · rw [splice_none xs lo m ys hn, hn]
    have e1 : putO x.ob [(o, ⟨g, h, some (.arr t xs nn)⟩)] = x.ob := by
      show x.ob.set o _ = x.ob
      rw [← he]
      exact setO_same _ _
    refine ⟨goInt 0, w, S, run_copy0 hT hu hte h0 hn, by rw [e1]; exact I, _, rfl, ?_⟩
    rw [e1]
    exact int_VTV _ _
  · have hm0 : m ≠ 0 := fun e => hn (by rw [e]; exact Nat.min_zero _)
    have hyne : ys ≠ [] := fun e => hn (by rw [e]; exact Nat.zero_min _)
    obtain ⟨b2, o2, rfl, _, ccs, hcl, hlies, hr⟩ := hrows hyne
    obtain ⟨rr, hccs⟩ := rows_enc hf hr
    have hccs : ccs = encs t ys := by
      have := congrArg List.length hccs
      rw [List.length_append, hcl, encs_len] at this
      have : rr = [] := List.eq_nil_of_length_eq_zero (by omega)
      rw [hccs, this, List.append_nil]
    subst hccs
    rcases hown with ⟨_, e1, _⟩ | ⟨bb, off, ll, G, hA, hl, hcap, hxl, hrf, hF⟩
    · rw [e1] at hlm; simp at hlm; omega
    · obtain ⟨rfl, rest, hrest⟩ := (rowsF_enc hf).1 hrf
      rw [hA] at hA'
      have hA'' := hA' hm0
      simp only [Option.map_some, add_plain] at hA''
      subst hA''
      generalize hk : min ys.length m = k at *
      have hky : k ≤ ys.length := by omega
      have hkm : k ≤ m := by omega
      have exs : xs = xs.take lo ++ ((xs.drop lo).take k ++ xs.drop (lo + k)) := by
        rw [← List.drop_drop, List.take_append_drop, List.take_append_drop]
      have elen : (encs t (ys.take k)).length = k * t.cells := by rw [encs_len, List.length_take, Nat.min_eq_left hky]
      have eysk : encs t ys = encs t (ys.take k) ++ encs t (ys.drop k) := by rw [← encs_app, List.take_append_drop]
      have hlies' : lies (cv w) b2 o2 (encs t (ys.take k)) := fun j v hv => hlies j v (by
        rw [eysk, List.getElem?_append_left (List.getElem?_eq_some_iff.1 hv).1]
        exact hv)
      have ll1 : ll = ll.take off ++ (encs t (xs.take lo) ++ (encs t ((xs.drop lo).take k) ++ (encs t (xs.drop (lo + k)) ++ rest))) := by
        have : ll = ll.take off ++ ll.drop off := (List.take_append_drop off ll).symm
        rw [hrest] at this
        have e2 : encs t xs = encs t (xs.take lo) ++ (encs t ((xs.drop lo).take k) ++ encs t (xs.drop (lo + k))) := by rw [← encs_app, ← encs_app, ← exs]
        rw [e2] at this
        simpa [List.append_assoc] using this
      have hoff : off ≤ ll.length := by omega
      have hpos : (ll.take off ++ encs t (xs.take lo)).length = off + lo * t.cells := by
        rw [List.length_append, List.length_take, Nat.min_eq_left hoff, encs_len, List.length_take, Nat.min_eq_left (by omega)]
      have elen2 : (encs t ((xs.drop lo).take k)).length = k * t.cells := by rw [encs_len, List.length_take, List.length_drop, Nat.min_eq_left (by omega)]
      have hset : setC ll (off + lo * t.cells) (encs t (ys.take k)) = ll.take off ++ (encs t (splice xs lo m ys) ++ rest) := by
        have e3 : splice xs lo m ys = xs.take lo ++ (ys.take k ++ xs.drop (lo + k)) := by
          unfold splice
          rw [Nat.min_comm, hk]
          have : ys.take m = ys.take k := by
            rcases Nat.le_total ys.length m with h | h
            · rw [← hk, Nat.min_eq_left h, List.take_of_length_le h, List.take_length]
            · rw [← hk, Nat.min_eq_right h]
          rw [this]
        have : setC ((ll.take off ++ encs t (xs.take lo)) ++ (encs t ((xs.drop lo).take k) ++ (encs t (xs.drop (lo + k)) ++ rest))) (ll.take off ++ encs t (xs.take lo)).length (encs t (ys.take k)) = _ := setC_app (by rw [elen, elen2])
        rw [hpos, List.append_assoc, ← ll1] at this
        rw [this, e3, encs_app, encs_app]
        simp [List.append_assoc]
      have hlong : off + lo * t.cells + (encs t (ys.take k)).length ≤ ll.length := by
        have := congrArg List.length ll1
        simp only [List.length_append, encs_len, elen2, List.length_take, List.length_drop] at this
        rw [elen]
        rw [Nat.min_eq_left hoff, Nat.min_eq_left (show lo ≤ xs.length by omega)] at this
        omega
      have hrun := run_copy1 (w := w) (P := P) hT hu hte h0 (ty := rt) (b := bb) (o := off + lo * t.cells) (dLen := m) (dCap := c') (sLen := ys.length) (sCap := sc) (cs := encs t (ys.take k)) (by rw [elen, hk, hty]) hlies' hl hlong (encs_one hf)
      obtain ⟨w1, w2, w3, w4, w5, w6⟩ := setCells_heap (encs t (ys.take k)) (off + lo * t.cells) w hl hlong
      have hsits : sits (hv w) bb (off + lo * t.cells) (encs t ((xs.drop lo).take k)) := by
        refine ⟨ll, hl, by rw [elen2, ← elen]; exact hlong, ?_⟩
        have e5 : ll = (ll.take off ++ encs t (xs.take lo)) ++ (encs t ((xs.drop lo).take k) ++ (encs t (xs.drop (lo + k)) ++ rest)) := by rw [List.append_assoc]; exact ll1
        generalize hAA : ll.take off ++ encs t (xs.take lo) = AA at e5 hpos
        rw [e5, ← hpos, List.drop_left, List.take_left]
      have hmono := hdr_stay (H := hv w) (H2 := hv (w.setCells bb (off + lo * t.cells) (encs t (ys.take k)))) hl w1 hlong hsits (by rw [elen, elen2]) (encs_nosl hf) (fun c hc => hv_same (w3 c hc))
      have I' := I.over (ys := splice xs lo m ys) he hlt (splice_len xs lo m ys hlm) (b := bb) (w' := w.setCells bb (off + lo * t.cells) (encs t (ys.take k))) (by rw [hF]) w3 w2 w4 w5 w6
        (.inr ⟨bb, off, _, [], hA, w1, by rw [setC_len hlong]; exact hcap, by rw [splice_len xs lo m ys hlm]; exact hxl, (rowsF_enc hf).2 ⟨rfl, rest, by
          rw [hset]
          conv => lhs; arg 1; rw [show off = (ll.take off).length by rw [List.length_take, Nat.min_eq_left hoff]]
          rw [List.drop_left]⟩, rfl⟩) hmono
      rw [hk] at hrun
      refine ⟨_, _, S, hrun, I', _, rfl, int_VTV _ _⟩
theorem opCopy_sound {C : Ctx} {x : X} {a : Act} (I : Inv C S x a w) {T : Tab} (hT : TabOk P T) {r : Rd} (R : RdOk r x) {ty : Ty} {va vb : VT} {e : Eff} {l : List TypeId} {rt : TypeId} (h0 : argTy T l 0 = some ty) (h : (opCopy ty r va vb).has e)
    (hw : ∀ m ∈ wrote e.ob, r.o m = getO x.ob m ∧ m < x.ob.length) {ua ub : Value} (ha : VTV S x.ob w va ua) (hb : VTV S x.ob w vb ub) : Ends P C x a e (Builtin.copy_ l.toArray rt #[ua, ub]) w := by
  unfold opCopy at h
  split at h
  · rename_i o g hh win
    split at h
    · rename_i g' h' t xs nn hro
      obtain ⟨hc, h1⟩ := Br.when_has h
      simp only [Bool.and_eq_true, Bool.not_eq_true'] at hc
      obtain ⟨hg, hf, hcell, hty⟩ := hc
      obtain ⟨ys, hy, h2⟩ := Br.opt_has h1
      have hc0 : t.cells ≠ 0 := fun e => by rw [e] at hcell; cases hcell
      have heq := R.o o (.arr t xs nn) (by rw [hro])
      rw [hro] at heq
      have hty := of_decide_eq_true hty
      subst hty
      obtain ⟨dT, el, te, k1, k2, k3, k4⟩ := argTy_sl hT h0
      obtain ⟨_, href, hsl⟩ := VTV_sl ha
      obtain ⟨te1, A, n, cap, q1, q2, q3⟩ := hsl.1 t xs nn (by rw [← heq]) (by rw [← heq]; exact Nat.eq_of_beq_eq_true hg) (.inl rfl)
      have e1 : te1 = t := by
        rw [tyAt_nil] at q1
        injection q1 with q1
        injection q1 with q1
        exact q1.symm
      subst e1
      obtain ⟨q4, q5⟩ := q2
      split at h2
      · cases h2
        have hlt := (hw o (by simp [wrote])).2
        simp only [winR] at q3
        subst q3
        rw [q5]
        exact copy_sound I hT R heq.symm hlt hf hc0 hy hb k1 k2 k3 k4 (lo := 0) (by omega) (fun _ => by rw [q4]; cases A <;> simp [Addr.add])
      · rename_i lo m
        cases h2
        have hlt := (hw o (by simp [wrote])).2
        obtain ⟨j1, A', j2, j3⟩ := q3
        subst j2
        exact copy_sound I hT R heq.symm hlt hf hc0 hy hb k1 k2 k3 k4 (by omega) (fun hm => by rw [q4]; exact j3 hm)
    · exact h.elim
  · exact h.elim
end
end Go.Vm
set_option linter.unusedVariables false
set_option linter.unusedSimpArgs false
namespace Go.Vm
open Go Go.RowKit Go.MapKept
section
variable {P : Program} {S : Side} {w : World}
theorem mp_und {T : Tab} (hT : TabOk P T) {t : Nat} {te : TE} (ht : T.find t = some te) {a b : Nat} (hk : te.k = .mp a b) : P.underlying t = some (.map a b) := by
  obtain ⟨d, h1, h2⟩ := hT.und ht
  cases d <;> simp only [descOk] at h2
  case map k e =>
    obtain ⟨h3, _⟩ := h2
    rw [hk] at h3
    cases h3
    exact h1
  case struct fs => obtain ⟨l, e, _⟩ := h2; rw [hk] at e; cases e
  all_goals (obtain ⟨e, _⟩ := h2; rw [hk] at e; cases e)
theorem int_und {T : Tab} (hT : TabOk P T) {t : Nat} {te : TE} (ht : T.find t = some te) {k : IntKind} (hty : te.ty = .int k) : P.underlying t = some (.int k) := by
  obtain ⟨q', hq', hqo'⟩ := hT.und ht
  have e2 : q' = .int k := by
    cases q' <;> simp only [descOk] at hqo'
    case int k2 => have := hqo'.2; rw [hty] at this; cases this; rfl
    case struct fs => obtain ⟨l, _, hch⟩ := hqo'; have := st_agg hch; rw [hty] at this; cases this
    case array n e => obtain ⟨_, te', _, hh⟩ := hqo'; rw [hty] at hh; cases n <;> cases hh
    case slice e => obtain ⟨_, te', _, hh⟩ := hqo'; rw [hty] at hh; cases hh
    all_goals (have := hqo'.2; rw [hty] at this; cases this)
  rw [← e2]; exact hq'
theorem mval_VTV {ob : List Obe} {t : Ty} (hf : t.flat = true) (x : t.D) : VTV S ob w (.va t x) (mval t x) := ⟨t.enc x, (RO_flat hf).2 rfl, rfl⟩
theorem zero_mval {T : Tab} (hT : TabOk P T) {t : Nat} {te : TE} (ht : T.find t = some te) (hf : te.ty.flat = true) (hd : te.ty.data = true) : (zeroValue t).run P w = .ok (mval te.ty te.ty.zero) w := by
  obtain ⟨i, z, hi, _, _, hz, hzc⟩ := hT.inf ht
  have hcl := zcB_zc hzc hd
  rw [List.append_nil] at hcl
  have hen : te.ty.zc = te.ty.enc te.ty.zero := ((Own_flat hf).1 (zc_own (H := fun _ => none) hd)).1
  obtain ⟨hid, hok⟩ := hT t te ht
  have hag := hok.zag i z (by rw [hid]; exact hi) hz
  have e : z = mval te.ty te.ty.zero := by
    unfold mval
    rw [← hen, ← hcl, ← hag]
    cases z <;> rfl
  rw [← e]
  simp [zeroValue, typeInfo, hi, hz]
theorem val_mval {C : Ctx} {x : X} {a : Act} (I : Inv C S x a w) {r : Rd} (R : RdOk r x) {t : Ty} (hf : t.flat = true) {v : VT} {y : t.D} (h : r.val t v = some y) {u : Value} (hv : VTV S x.ob w v u) : u = mval t y := by
  have hs : v.isAgg = t.agg ∧ (∀ z, v ≠ .tu z) ∧ v ≠ .ud := by
    cases v with
    | va t' z =>
      have h' : Dy.as ⟨t', z⟩ t = some y := by cases t <;> exact h
      have e := Dy_as h'
      injection e with e1 _
      subst e1
      exact ⟨rfl, fun _ e => (by cases e), fun e => (by cases e)⟩
    | pr p q =>
      cases t with
      | pr s t => exact ⟨rfl, fun _ e => (by cases e), fun e => (by cases e)⟩
      | sl s => simp [Ty.flat] at hf
      | _ => simp [Rd.val] at h
    | un =>
      cases t with
      | un => exact ⟨rfl, fun _ e => (by cases e), fun e => (by cases e)⟩
      | sl s => simp [Ty.flat] at hf
      | _ => simp [Rd.val] at h
    | _ =>
      cases t with
      | sl s => simp [Ty.flat] at hf
      | _ => simp [Rd.val] at h
  obtain ⟨cs, hc, rfl⟩ := VTV_of hv hs.2.1 hs.2.2
  have := (RO_flat hf).1 (Rd_val I R h hc)
  subst this
  unfold mkV mval
  rw [hs.1]
theorem find_map {k : IntKind} {t : Ty} {n : Int} (y : t.D) : ∀ {l : List MapEntry} {es : List (Int × t.D)} (i : Nat), MapR k t l es →
    (mpGet es n = none ∧ Instr.findNow (.int k) (.int k n) l i = some none ∧ mpPut es n y = es ++ [(n, y)]) ∨
    ∃ j e x, mpGet es n = some x ∧ Instr.findNow (.int k) (.int k n) l i = some (some (i + j, e.val)) ∧ l[j]? = some e ∧ e.key = .int k n ∧ e.val = mval t x ∧ mpPut es n y = es.set j (n, y)
  | [], [], i, _ => .inl ⟨rfl, rfl, rfl⟩
  | [], _ :: _, _, h | _ :: _, [], _, h => h.elim
  | e :: l, (a, x) :: es, i, ⟨h1, h2, h3⟩ => by
    by_cases hn : a = n
    · subst hn
      exact .inr ⟨0, e, x, by simp [mpGet], by simp [Instr.findNow, Instr.sameNow, h1], rfl, h1, h2, by simp [mpPut]⟩
    · have hne : (n == a) = false := by simp [Ne.symm hn]
      have h1' : e.key = .int k a := h1
      rcases find_map y (i + 1) h3 with ⟨q1, q2, q3⟩ | ⟨j, e', x', q1, q2, q3, q4, q5, q6⟩
      · exact .inl ⟨by show cond (decide (a = n)) (some x) (mpGet es n) = none; rw [decide_eq_false hn]; exact q1, by
          unfold Instr.findNow
          simp only [Instr.sameNow, h1', if_true, hne]
          exact q2, by show cond (decide (a = n)) ((a, y) :: es) ((a, x) :: mpPut es n y) = (a, x) :: (es ++ [(n, y)]); rw [decide_eq_false hn, q3]; rfl⟩
      · exact .inr ⟨j + 1, e', x', by simp [mpGet, hn, q1], by simp [Instr.findNow, Instr.sameNow, h1', hne, q2]; omega, by simpa using q3, q4, q5, by simp [mpPut, hn, q6]⟩
theorem MapR_push {k : IntKind} {t : Ty} {n : Int} {y : t.D} {born : Nat} : ∀ {l : List MapEntry} {es : List (Int × t.D)}, MapR k t l es → MapR k t (l ++ [⟨.int k n, mval t y, born⟩]) (es ++ [(n, y)])
  | [], [], _ => ⟨rfl, rfl, trivial⟩
  | [], _ :: _, h | _ :: _, [], h => h.elim
  | e :: l, x :: es, ⟨h1, h2, h3⟩ => ⟨h1, h2, MapR_push h3⟩
theorem MapR_modify {k : IntKind} {t : Ty} {n : Int} {y : t.D} : ∀ {l : List MapEntry} {es : List (Int × t.D)} (j : Nat), MapR k t l es → MapR k t (l.modify j fun e => { e with key := .int k n, val := mval t y }) (es.set j (n, y))
  | [], [], _, _ => by simp [MapR]
  | [], _ :: _, _, h | _ :: _, [], _, h => h.elim
  | e :: l, x :: es, 0, ⟨h1, h2, h3⟩ => ⟨rfl, rfl, h3⟩
  | e :: l, x :: es, j + 1, ⟨h1, h2, h3⟩ => ⟨h1, h2, MapR_modify j h3⟩
theorem map_at {C : Ctx} {x : X} {a : Act} (I : Inv C S x a w) {r : Rd} (R : RdOk r x) {o g h g' h' : Nat} {k : IntKind} {t : Ty} {es : List (Int × t.D)} (he : r.o o = ⟨g', h', some (.mp k t es)⟩) (hg : g = g') {uv : Value} (hv : VTV S x.ob w (.pt o g h []) uv) :
    ∃ b arr cl, uv = .map (some b) ∧ (S.hd o).1 = some ⟨b, 0, none⟩ ∧ w.heap[b]? = some (.map arr cl) ∧ MapR k t arr.toList es ∧ S.fp o = [b] := by
  obtain ⟨e1, e2, e3⟩ := ok_eq R he
  obtain ⟨_, href, hpt⟩ := VTV_pt hv
  obtain ⟨b, hhd, rfl⟩ := hpt.2.2.1 k t es e3 (by rw [e1]; exact hg)
  obtain ⟨_, b', arr, cl, hhd', hb, hm, hfp⟩ := (I.objs o _ e3).1
  rw [hhd] at hhd'
  cases hhd'
  exact ⟨b, arr, cl, rfl, hhd, hb, hm, hfp⟩
theorem opLookup_sound {C : Ctx} {x : X} {a : Act} (I : Inv C S x a w) {T : Tab} (hT : TabOk P T) {r : Rd} (R : RdOk r x) {t : Nat} {ok : Bool} {v i u : VT} (h : (opLookup T t r v i ok).has u) {uv ui : Value} (hv : VTV S x.ob w v uv) (hi : VTV S x.ob w i ui) :
    ∃ z, (Instr.lookup t uv ui ok).run P w = .ok z w ∧ VTV S x.ob w u z := by
  unfold opLookup at h
  obtain ⟨te, ht, h1⟩ := Br.opt_has h
  clear h
  split at h1
  · rename_i ka0 eb0 o g h0 k' n hk
    obtain ⟨ka, hka, h2⟩ := Br.opt_has h1
    obtain ⟨eb, heb, h3⟩ := Br.opt_has h2
    clear h1 h2
    split at h3
    · rename_i g' h' k t' es he
      obtain ⟨hc, h4⟩ := Br.when_has h3
      simp only [Bool.and_eq_true] at hc
      obtain ⟨c1, c2, c3, c4, c5, c6⟩ := hc
      have c2 := of_decide_eq_true c2
      have c3 := of_decide_eq_true c3
      have c4 := of_decide_eq_true c4
      subst c2
      subst c4
      have hm := mp_und hT ht hk
      have hd := int_und hT hka c3
      obtain rfl := VTV_int hi
      obtain ⟨b, arr, cl, rfl, _, hb, hmr, _⟩ := map_at I R he (beq_of c1) hv
      have hz := zero_mval (w := w) hT heb c5 c6
      have hkey : IsKey (.int k') (.int k' n) := rfl
      have fin : ∀ (q : eb.ty.D) (f : Bool) , u = cond ok (.tu (.pr (.va eb.ty q) (.pr (.va .bool f) .un))) (.va eb.ty q) → (Instr.lookup t (.map (some b)) (.int k' n) ok).run P w = .ok (if ok = true then .tuple #[mval eb.ty q, .bool f] else mval eb.ty q) w →
          ∃ z, (Instr.lookup t (.map (some b)) (.int k' n) ok).run P w = .ok z w ∧ VTV S x.ob w u z := by
        intro q f e hrun
        refine ⟨_, hrun, ?_⟩
        subst e
        cases ok
        · exact mval_VTV c5 q
        · refine ⟨[mval eb.ty q, .bool f], rfl, ?_, ⟨[.bool f], rfl, rfl⟩, rfl⟩
          exact ⟨_, (RO_flat c5).2 rfl, rfl⟩
      rcases find_map eb.ty.zero (n := n) 0 hmr with ⟨q1, q2, _⟩ | ⟨j, e, y, q1, q2, q3, q4, q5, _⟩
      · refine fin eb.ty.zero false (by rw [q1] at h4; exact h4.symm) ?_
        unfold Instr.lookup
        simp [run_underlying hm, Go.MapKept.run_getObj_map hb, Go.MapKept.run_checkKey hd hkey, Go.MapKept.run_findKey hd q2, Result.andThen, hz]
      · refine fin y true (by rw [q1] at h4; exact h4.symm) ?_
        unfold Instr.lookup
        simp [run_underlying hm, Go.MapKept.run_getObj_map hb, Go.MapKept.run_checkKey hd hkey, Go.MapKept.run_findKey hd q2, Result.andThen, q5]
    · exact h3.elim
  · exact h1.elim
theorem opMakeMap_sound {C : Ctx} {x : X} {a : Act} (I : Inv C S x a w) {E : Env} (hT : TabOk P E.T) {r : Rd} {t dst : Nat} {e : Eff} (h : (opMakeMap E t dst r).has e) (hw : ∀ m ∈ wrote e.ob, r.o m = getO x.ob m ∧ m < x.ob.length)
    {res : Option Value} (hres : ∀ u, res = some u → ∃ k n, u = .int k n) : Ends P C x a e (Instr.makeMap t res) w := by
  unfold opMakeMap at h
  split at h
  · rename_i n rest hal
    obtain ⟨te, ht, h1⟩ := Br.opt_has h
    clear h
    split at h1
    · rename_i a0 b0 hk
      obtain ⟨ka, hka, h2⟩ := Br.opt_has h1
      obtain ⟨eb, heb, h3⟩ := Br.opt_has h2
      clear h1 h2
      split at h3
      · rename_i k hty
        obtain ⟨hc, h4⟩ := Br.when_has h3
        simp only [Bool.and_eq_true] at hc
        cases h4
        have hm := mp_und hT ht hk
        have hn := hw n (by simp [wrote, newO])
        have hrun : (Instr.makeMap t res).run P w = .ok (.map (some w.heap.size)) (w.alloc (.map #[] 0)) := by
          cases res with
          | none => simp [Instr.makeMap, Result.andThen]
          | some u =>
            obtain ⟨k, m, rfl⟩ := hres u rfl
            simp [Instr.makeMap, run_underlying hm, asInt, asIntOf, Result.andThen]
        obtain ⟨I', hv', hnew⟩ := I.make (r := r) (n := n) (l := []) (by simpa using hn.1) (by simpa using hn.2) (by simp) (fun o ho => by cases ho) (.mp k eb.ty []) (some ⟨w.heap.size, 0, none⟩, 0) [w.heap.size] (fun _ => False) (w' := w.alloc (.map #[] 0))
          (fun b hb _ => alloc_old w _ hb) (by rw [alloc_size]; omega) (fun b hb => by simp at hb; subst hb; exact .inr ⟨Nat.le_refl _, by rw [alloc_size]; omega⟩) (by simp) (fun b h => h.elim) rfl ⟨rfl, Nat.le_refl _⟩ rfl
          (fun hv' => ⟨hc.1, _, _, _, by rw [Side.put_hd], (Go.MapKept.heap_alloc w _).1, trivial, by rw [Side.put_fp]⟩)
        exact ⟨_, _, _, hrun, I', _, rfl, newMp_VTV hnew (Side.put_hd _ _ _ _ _)⟩
      · exact h3.elim
    · exact h1.elim
  · exact h.elim
theorem opMapPut_sound {C : Ctx} {x : X} {a : Act} (I : Inv C S x a w) {T : Tab} (hT : TabOk P T) {r : Rd} (R : RdOk r x) {t : Nat} {va vi v : VT} {e : Eff} (h : (opMapPut T t r va vi v).has e)
    (hw : ∀ m ∈ wrote e.ob, r.o m = getO x.ob m ∧ m < x.ob.length) {ua ui uv : Value} (ha : VTV S x.ob w va ua) (hi : VTV S x.ob w vi ui) (hv : VTV S x.ob w v uv) :
    e.v = none ∧ ∃ w' S', (Instr.mapUpdate t ua ui uv).run P w = .ok () w' ∧ Inv C S' ⟨x.sl, putO x.ob e.ob⟩ a w' := by
  unfold opMapPut at h
  obtain ⟨te, ht, h1⟩ := Br.opt_has h
  clear h
  split at h1
  · rename_i a0 b0 o g h0 k' n hk
    obtain ⟨ka, hka, h2⟩ := Br.opt_has h1
    clear h1
    split at h2
    · rename_i g' h' k t' es he
      obtain ⟨hc, h3⟩ := Br.when_has h2
      obtain ⟨y, hy, h4⟩ := Br.opt_has h3
      cases h4
      simp only [Bool.and_eq_true] at hc
      obtain ⟨c1, c2, c3, c5⟩ := hc
      have c2 := of_decide_eq_true c2
      have c3 := of_decide_eq_true c3
      subst c2
      have hm := mp_und hT ht hk
      have hd := int_und hT hka c3
      obtain rfl := VTV_int hi
      obtain rfl := val_mval I R c5 hy hv
      obtain ⟨b, arr, cl, rfl, hhd, hb, hmr, hfp⟩ := map_at I R he (beq_of c1) ha
      obtain ⟨e1, e2, e3⟩ := ok_eq R he
      have hkey : IsKey (.int k') (.int k' n) := rfl
      have hrun : ∃ arr' cl', (Instr.mapUpdate t (.map (some b)) (.int k' n) (mval t' y)).run P w = .ok () { w with heap := w.heap.setIfInBounds b (.map arr' cl') } ∧ MapR k' t' arr'.toList (mpPut es n y) := by
        rcases find_map y (n := n) 0 hmr with ⟨q1, q2, q3⟩ | ⟨j, e, z, q1, q2, q4, q5, q6, q3⟩
        · refine ⟨arr.push ⟨.int k' n, mval t' y, cl⟩, cl + 1, ?_, ?_⟩
          · simp [Instr.mapUpdate, run_underlying hm, Go.MapKept.run_getObj_map hb, Go.MapKept.run_checkKey hd hkey, Go.MapKept.run_findKey hd q2, Go.MapKept.run_setObj_map _ hb, Result.andThen]
          · rw [q3, Array.toList_push]
            exact MapR_push hmr
        · have hj : arr[j]? = some e := by simpa using q4
          rw [Nat.zero_add] at q2
          refine ⟨arr.modify j (fun e => { e with key := .int k' n, val := mval t' y }), cl, ?_, ?_⟩
          · simp [Instr.mapUpdate, run_underlying hm, Go.MapKept.run_getObj_map hb, Go.MapKept.run_checkKey hd hkey, Go.MapKept.run_findKey hd q2, hj, q5, Go.MapKept.run_keyThatStays hkey, Go.MapKept.run_setObj_map _ hb, Result.andThen]
          · rw [q3, Array.toList_modify]
            exact MapR_modify j hmr
      obtain ⟨arr', cl', hrun, hmr'⟩ := hrun
      obtain ⟨w1, w3⟩ := Go.MapKept.heap_set (o' := .map arr' cl') hb
      have w2 : (w.heap.setIfInBounds b (.map arr' cl')).size = w.heap.size := by simp
      obtain ⟨⟨hfl, _⟩, hfn, hmine⟩ := I.objs o _ e3
      have hnew : getO (putO x.ob [(o, ⟨g', h', some (.mp k' t' (mpPut es n y))⟩)]) o = ⟨g', h', some (.mp k' t' (mpPut es n y))⟩ := by
        simp only [putO]
        rw [getO_set, if_pos ⟨rfl, getO_lt e3⟩]
      have hold : ∀ m, m ≠ o → getO (putO x.ob [(o, ⟨g', h', some (.mp k' t' (mpPut es n y))⟩)]) m = getO x.ob m := by
        intro m hm
        exact getO_putO_ne _ _ _ (by simpa [wrote] using hm)
      have hbo : b ∈ S.fp o := by rw [hfp]; simp
      have hne : ∀ m c, m ≠ o → (getO x.ob m).c = some c → ∀ d ∈ S.fp m, d ≠ b := by
        intro m c hm hc d hd e
        subst e
        exact I.sep m o c _ hm hc e3 d hd hbo
      have hres := I.turn (S' := S) (ob' := putO x.ob [(o, ⟨g', h', some (.mp k' t' (mpPut es n y))⟩)]) (w' := { w with heap := w.heap.setIfInBounds b (.map arr' cl') }) (fun m => m = o)
        (fun m hm => ⟨hold m hm, rfl, rfl, fun c hc d hd => ⟨w3 d (hne m c hm hc d hd), ((I.objs m c hc).2.2 d hd).1⟩⟩)
        (fun c hc => ⟨hc, w3 c (fun e => (hmine b hbo).1 (e ▸ hc))⟩)
        (fun m hm => by
          subst hm
          refine ⟨fun g1 h1 p1 win v1 hr1 hs1 => ⟨by unfold refOk at *; rw [hnew]; rw [e1, e2] at hr1; exact hr1, fun t2 xs2 nn2 hc2' => (by rw [hnew] at hc2'; cases hc2'), fun t4 xs4 nn4 j4 hc4 => (by rw [hnew] at hc4; cases hc4)⟩,
            fun g1 h1 p1 v1 hr1 hs1 => ⟨by unfold refOk at *; rw [hnew]; rw [e1, e2] at hr1; exact hr1, fun c0 u2 hc hh2 hg2 => ?_, fun t2 xs2 nn2 hc2' => (by rw [hnew] at hc2'; cases hc2'), fun k3 t3 es3 hc3 hg3 => ?_, fun t4 xs4 nn4 j4 hc4 => (by rw [hnew] at hc4; cases hc4)⟩⟩
          · rw [hnew] at hc
            cases hc
            cases hh2
          · rw [hnew] at hg3
            exact hs1.2.2.1 k' t' es e3 (by rw [e1]; exact hg3))
        (fun hv m c hm hc => by
          subst hm
          rw [hnew] at hc
          cases hc
          exact ⟨⟨hfl, b, _, _, hhd, w1, hmr', hfp⟩, hfn, fun d hd => ⟨(hmine d hd).1, by show d < (w.heap.setIfInBounds b _).size; rw [w2]; exact (hmine d hd).2.1, (hmine d hd).2.2⟩⟩)
        (fun m m' c c' hm hne' hc hc' d hd hd' => by
          subst hm
          rw [hold m' (Ne.symm hne')] at hc'
          exact I.sep m m' _ c' hne' e3 hc' d hd hd')
        (by show w.heap.size ≤ (w.heap.setIfInBounds b _).size; rw [w2]; exact Nat.le_refl _) (fun c hc => by show c < (w.heap.setIfInBounds b _).size; rw [w2]; exact I.okb c hc)
        ⟨I.kept.os, I.kept.tape, I.kept.output, by show C.w0.heap.size ≤ (w.heap.setIfInBounds b _).size; rw [w2]; exact I.kept.size, fun k hk hd => by
          rw [← I.kept.block k hk hd]
          refine w3 k (fun e => ?_)
          subst e
          rcases (hmine k hbo).2.2 with h | h | h
          · omega
          · exact hd h
          · cases h⟩
        (fun m c hm hf hg hc => by
          subst hm
          rw [hnew] at hg hc
          cases hc
          obtain ⟨f1, f2⟩ := I.fix m _ hf (by rw [e1]; exact hg) e3
          exact ⟨f1, f2⟩)
      exact ⟨rfl, _, S, hrun, hres.1⟩
    · exact h2.elim
  · exact h1.elim
end
end Go.Vm
set_option linter.unusedVariables false
set_option linter.unusedSimpArgs false
namespace Go.Vm
open Go Go.RowKit
section
variable {P : Program} {S : Side} {w : World}
def Op.plain : Op → Bool
  | .call c => match c.callee with
    | .builtin _ => true
    | _ => false
  | _ => true
theorem cellV_mk {v : VT} (h : cellV v = true) {c : Value} : mkV v [c] = c ∧ v.cells = 1 ∧ (∀ q, v ≠ .tu q) ∧ v ≠ .ud := by
  cases v <;> first | cases h | skip
  case va t x =>
    have h' : (!t.agg && Nat.beq t.cells 1) = true := h
    rw [Bool.and_eq_true] at h'
    have e : t.agg = false := by simpa using h'.1
    refine ⟨?_, Nat.eq_of_beq_eq_true h'.2, fun q => by simp, by simp⟩
    unfold mkV
    have e2 : (VT.va t x).isAgg = false := e
    rw [e2]
    rfl
  all_goals exact ⟨rfl, rfl, fun q => by simp, by simp⟩
theorem cellV_C {S : Side} {ob : List Obe} {w : World} {v : VT} {u : Value} (h : cellV v = true) (hv : VTV S ob w v u) : VTC S ob w v [u] := by
  obtain ⟨cs, hc, e⟩ : ∃ cs, VTC S ob w v cs ∧ u = mkV v cs := by
    cases v with
    | tu _ => cases h
    | ud => cases h
    | _ => exact hv
  obtain ⟨z, rfl⟩ := List.length_eq_one_iff.1 ((VTC_len hc).trans (cellV_mk (c := undef) h).2.1)
  rw [e, (cellV_mk h).1]
  exact hc
theorem cellV_V {S : Side} {ob : List Obe} {w : World} {v : VT} {cs : List Value} (h : cellV v = true) (hc : VTC S ob w v cs) : ∃ z, cs = [z] ∧ VTV S ob w v z := by
  obtain ⟨z, rfl⟩ := List.length_eq_one_iff.1 ((VTC_len hc).trans (cellV_mk (c := undef) h).2.1)
  refine ⟨z, rfl, ?_⟩
  have := VTC_VTV hc
  rwa [(cellV_mk h).1] at this
theorem ble_le {n m : Nat} (h : Nat.ble n m = true) : n ≤ m := Nat.le_of_ble_eq_true h
theorem one_of {R : VT → Value → Prop} {v : VT} {us : List Value} (h : All2 R [v] us) : ∃ u, us = [u] ∧ R v u := by
  cases h with
  | cons h t => cases t; exact ⟨_, rfl, h⟩
theorem two_of {R : VT → Value → Prop} {v v' : VT} {us : List Value} (h : All2 R [v, v'] us) : ∃ u u', us = [u, u'] ∧ R v u ∧ R v' u' := by
  cases h with
  | cons h t => obtain ⟨u, rfl, h'⟩ := one_of t; exact ⟨_, _, rfl, h, h'⟩
theorem more_of {R : VT → Value → Prop} {v : VT} {l : List VT} {us : List Value} (h : All2 R (v :: l) us) : ∃ u m, us = u :: m ∧ R v u ∧ All2 R l m := by
  cases h with
  | cons h t => exact ⟨_, _, rfl, h, t⟩
theorem pure'_ends {C : Ctx} {x : X} {a : Act} (I : Inv C S x a w) {m : Br VT} {e : Eff} {s : Sem Value} (h : (pure' m).has e) (k : ∀ v, m.has v → ∃ u, s.run P w = .ok u w ∧ VTV S x.ob w v u) : Ends P C x a e s w := by
  obtain ⟨v, h1, rfl⟩ := pure'_has h
  obtain ⟨u, h2, h3⟩ := k v h1
  exact Ends.same I h2 h3
theorem chain_VTC {ob : List Obe} : ∀ {vs : List VT} {us : List Value} {c : VT}, All2 (VTV S ob w) vs us → chainV vs = some c → VTC S ob w c us
  | [], _, c, h, hc => by
    cases h
    have hc' : some VT.un = some c := hc
    cases hc'
    rfl
  | v :: l, _, c, h, hc => by
    cases h with
    | cons h t =>
      rename_i u us
      unfold chainV at hc
      cases hag : v.isAgg <;> rw [hag] at hc
      · have hc' : ∃ c', chainV l = some c' ∧ c = .pr v c' ∧ (∀ q, v ≠ .tu q) ∧ v ≠ .ud := by
          cases v <;> first | (cases hc; done) | skip
          all_goals
            simp only [cond_false, Option.map_eq_some_iff] at hc
            obtain ⟨c', h1, rfl⟩ := hc
            exact ⟨c', h1, rfl, fun q e => (by cases e), fun e => (by cases e)⟩
        obtain ⟨c', h1, rfl, h2, h3⟩ := hc'
        obtain ⟨cs, k1, rfl⟩ := VTV_of h h2 h3
        have hlen : cs.length = 1 := by
          rw [VTC_len k1]
          cases v <;> first | rfl | (cases hag; done) | (rename_i ty z; cases ty <;> first | rfl | cases hag)
        obtain ⟨z, rfl⟩ := List.length_eq_one_iff.1 hlen
        refine ⟨[z], us, ?_, k1, chain_VTC t h1⟩
        unfold mkV
        rw [hag]
        rfl
      · cases hc
set_option maxHeartbeats 2000000 in
theorem opEff_sound {C : Ctx} {x : X} {a : Act} (I : Inv C S x a w) {E : Env} (hT : TabOk P E.T) (hE : EqOk P E.T) {r : Rd} (R : RdOk r x) {o : Oper} (hp : Op.plain o.op = true) {e : Eff} (h : (opEff E o.type (alKey o.dst o.op) o.op r).has e)
    (hw : ∀ m ∈ wrote e.ob, r.o m = getO x.ob m ∧ m < x.ob.length) : Fine P C o a w x e := by
  obtain ⟨dst, op, ty, pos, af, gd⟩ := o
  cases op <;> simp only [opEff] at h <;> try (exact h.elim)
  case move y =>
    obtain ⟨v, hv, h1⟩ := Br.opt_has h
    cases h1
    exact (Ends.same I (s := pure (a.eval y)) rfl (Rd_v I R hv)).fine fun w => rfl
  case assign y =>
    obtain ⟨v, hv, h1⟩ := Br.opt_has h
    clear h
    have hv' := Rd_v I R hv
    split at h1
    · split at h1
      · rename_i n rest hal
        obtain ⟨te, ht, h2⟩ := Br.opt_has h1
        clear h1
        split at h2
        · rename_i t hty
          cases h2
          obtain ⟨cs, hcs, ecs⟩ := hv'
          simp only [VTC] at hcs
          subst hcs
          have hn := hw n (by simp [wrote, newO])
          obtain ⟨S', I', hvv⟩ := nil_obj I hn.1 hn.2 t
          refine Ends.fine (s := pure (a.eval y)) ⟨a.eval y, w, S', rfl, I', _, rfl, ?_⟩ fun w => rfl
          rw [ecs]
          exact hvv
        · exact h2.elim
      · cases h1
        exact (Ends.same I (s := pure (a.eval y)) rfl hv').fine fun w => rfl
    · cases h1
      exact (Ends.same I (s := pure (a.eval y)) rfl hv').fine fun w => rfl
  case pick c y z =>
    obtain ⟨v, hv, h1⟩ := Br.opt_has h
    clear h
    split at h1
    · rename_i b
      have hb := VTV_bool (Rd_v I R hv)
      cases b
      · obtain ⟨u, hu, h2⟩ := Br.opt_has h1
        cases h2
        refine Fine.pure I (u := a.eval z) ?_ (Rd_v I R hu)
        simp [execOp, hb, asBool]
      · obtain ⟨u, hu, h2⟩ := Br.opt_has h1
        cases h2
        refine Fine.pure I (u := a.eval y) ?_ (Rd_v I R hu)
        simp [execOp, hb, asBool]
    · exact h1.elim
  case alloc el =>
    split at h
    · rename_i n rest hal
      obtain ⟨te, ht, h1⟩ := Br.opt_has h
      cases h1
      obtain ⟨i, z, hi, hsz, hby, hz, hzc⟩ := hT.inf ht
      obtain ⟨c, hc, hcv⟩ := zcB_VTC (S := S) (ob := x.ob) (w := w) hzc
      rw [List.append_nil] at hc
      have hn := hw n (by simp [wrote, newO])
      obtain ⟨I', hv'⟩ := new_var I hn.1 hn.2 (v := zeroVT te.ty) (arr := z.cells) el (by rw [hc]; exact hcv)
      refine Ends.fine (s := Instr.alloc el true (.tuple #[])) ⟨_, _, _, ?_, I', _, rfl, hv'⟩ fun w => rfl
      unfold Instr.alloc
      simp [Sem.run_bind, zeroValue, typeInfo, hi, hz, newVar]
      rfl
    · exact h.elim
  case box el y =>
    split at h
    · rename_i n rest hal
      obtain ⟨te, ht, h1⟩ := Br.opt_has h
      obtain ⟨v, hv, h2⟩ := Br.opt_has h1
      obtain ⟨hf, h3⟩ := Br.when_has h2
      cases h3
      obtain ⟨cs, hcs, ecs⟩ := VTV_of (Rd_v I R hv) (fun q e => by subst e; cases te.ty <;> cases hf) (fun e => by subst e; cases te.ty <;> cases hf)
      have hn := hw n (by simp [wrote, newO])
      obtain ⟨I', hv'⟩ := new_var I hn.1 hn.2 (v := v) (arr := (a.eval y).cells) el (by rw [ecs, mkV_cells hcs]; exact hcs)
      exact Ends.fine (s := Instr.box el (a.eval y)) ⟨_, _, _, rfl, I', _, rfl, hv'⟩ fun w => rfl
    · exact h.elim
  case build t ps =>
    obtain ⟨te, ht, h1⟩ := Br.opt_has h
    obtain ⟨l, hl, h2⟩ := Br.opt_has h1
    obtain ⟨v, hv, h3⟩ := Br.opt_has h2
    obtain ⟨hk, h4⟩ := Br.when_has h3
    cases h4
    obtain ⟨u, h5, h6⟩ := build_sound (P := P) (S := S) (ob := x.ob) (w := w) hT ht hk hv (parts_all I R hl)
    refine (Ends.same I (s := Instr.build t (ps.map fun (i, x) => (i, a.eval x))) ?_ h6).fine fun w => rfl
    rw [← h5]
    congr 2
    exact Array.ext' (by simp)
  case buildSlice t len ps =>
    have eps : (ps.map fun (i, x) => (i, a.eval x)) = (ps.toList.map fun q => (q.1, a.eval q.2)).toArray := Array.ext' (by simp)
    split at h
    · rename_i n rest hal
      obtain ⟨te, ht, h1⟩ := Br.opt_has h
      clear h
      split at h1
      · rename_i t' hty
        obtain ⟨l, hl, h2⟩ := Br.opt_has h1
        obtain ⟨z, hz, h3⟩ := Br.opt_has h2
        obtain ⟨hc, h4⟩ := Br.when_has h3
        cases h4
        simp only [Bool.and_eq_true] at hc
        obtain ⟨el, te', _, hu, h5, h6⟩ := sl_of hT ht hty
        rw [wrote_app, wrote_gone] at hw
        have hmm : ∀ m ∈ n :: z.2, r.o m = getO x.ob m ∧ m < x.ob.length := fun m hm => hw m (by simp [wrote, newO] at hm ⊢; grind)
        obtain ⟨u, w', S', k1, k2, k3⟩ := buildSlice_own I hT R hu h5 h6 hc.1.1.2 (ble_le hc.1.2) hz (parts_all I R hl) (fun q hq => ble_le (List.all_eq_true.1 hc.2 q hq)) (fun m hm => (hmm m hm).1) (fun m hm => (hmm m hm).2) (nodupN_iff.1 hc.1.1.1)
        rw [← eps] at k1
        have hends : Ends P C x a ⟨some (newSl r n), gone r z.2 ++ [newO r n (.arr t' (setAll (List.replicate len t'.zero) z.1) true)]⟩ (Instr.buildSlice t len (ps.map fun (i, x) => (i, a.eval x))) w := ⟨u, w', S', k1, k2, _, rfl, k3⟩
        refine Ends.fine hends fun w => ?_
        simp only [execOp]
      · exact h1.elim
    · obtain ⟨te, ht, h1⟩ := Br.opt_has h
      clear h
      split at h1
      · rename_i t' hty
        obtain ⟨l, hl, h2⟩ := Br.opt_has h1
        obtain ⟨z, hz, h3⟩ := Br.opt_has h2
        obtain ⟨hc, h4⟩ := Br.when_has h3
        cases h4
        simp only [Bool.and_eq_true] at hc
        obtain ⟨el, te', _, hu, h5, h6⟩ := sl_of hT ht hty
        obtain ⟨u, w', S', k1, k2, k3⟩ := buildSlice_ro I hT hu h5 h6 hc.1.1 (ble_le hc.1.2) hz (parts_all I R hl) (fun q hq => ble_le (List.all_eq_true.1 hc.2 q hq))
        rw [← eps] at k1
        have hends : Ends P C x a ⟨some (.va (.sl t') (setAll (List.replicate len t'.zero) z)), []⟩ (Instr.buildSlice t len (ps.map fun (i, x) => (i, a.eval x))) w := ⟨u, w', S', k1, k2, _, rfl, k3⟩
        refine Ends.fine hends fun w => ?_
        simp only [execOp]
      · exact h1.elim
  case load t y =>
    obtain ⟨v, hv, h1⟩ := Br.opt_has h
    exact (pure'_ends I h1 fun u hu => opLoad_sound I hT R hu (Rd_v I R hv)).fine fun w => rfl
  case store t y z =>
    obtain ⟨va, hva, h1⟩ := Br.opt_has h
    obtain ⟨v, hv, h2⟩ := Br.opt_has h1
    obtain ⟨e1, w', S', k1, k2⟩ := opStore_sound I hT R h2 hw (Rd_v I R hva) (Rd_v I R hv)
    obtain ⟨ev, eob⟩ := e
    cases e1
    refine ⟨undef, w', .inr ⟨run_u k1, rfl⟩, S', ?_⟩
    have := k2.put dst none undef (fun v e => by cases e)
    cases dst <;> exact this
  case nilCheck y =>
    obtain ⟨v, hv, h1⟩ := Br.opt_has h
    clear h
    have hv' := Rd_v I R hv
    have go : ∀ A, a.eval y = .pointer (some A) → (execOp a.eval ⟨dst, .nilCheck y, ty, pos, af, gd⟩).run P w = .ok (.value (a.eval y)) w := by
      intro A e
      simp [execOp, e]
    have fin : ∀ {v : VT}, VTV S x.ob w v (a.eval y) → e = ⟨some v, []⟩ → (∃ A, a.eval y = .pointer (some A)) → Fine P C ⟨dst, .nilCheck y, ty, pos, af, gd⟩ a w x e := by
      intro v hv' e1 ⟨A, e2⟩
      subst e1
      exact Fine.pure I (go A e2) hv'
    split at h1
    · rename_i o g h p
      obtain ⟨hl, h2⟩ := Br.when_has h1
      cases h2
      refine fin hv' rfl ?_
      obtain ⟨_, _, hp1, hp2⟩ := VTV_pt hv'
      unfold ptLive at hl
      split at hl
      · rename_i g' h' u he
        have heq := R.o o (.var u) (by rw [he])
        rw [he] at heq
        obtain ⟨b, k, _, _, e3⟩ := hp1 _ u (by rw [← heq]) rfl (by rw [← heq]; exact Nat.eq_of_beq_eq_true hl)
        exact ⟨_, e3⟩
      · rename_i g' h' u he
        have heq := R.o o (.rv u) (by rw [he])
        rw [he] at heq
        obtain ⟨b, k, _, _, e3⟩ := hp1 _ u (by rw [← heq]) rfl (by rw [← heq]; exact Nat.eq_of_beq_eq_true hl)
        exact ⟨_, e3⟩
      · rename_i g' h' t xs nn he
        have heq := R.o o (.arr t xs nn) (by rw [he])
        rw [he] at heq
        simp only [Bool.and_eq_true] at hl
        obtain ⟨b, k, _, e3⟩ := hp2.1 t xs nn (by rw [← heq]) (by rw [← heq]; exact Nat.eq_of_beq_eq_true hl.1) (by rw [← heq]; exact Nat.eq_of_beq_eq_true hl.2)
        exact ⟨_, e3⟩
      · cases hl
    · cases h1
      refine fin hv' rfl ?_
      obtain ⟨cs, ⟨b, off, ccs, e3, _⟩, e4⟩ := hv'
      subst e3
      exact ⟨_, e4⟩
    · exact h1.elim
  case makeInterface t y =>
    obtain ⟨te, ht, h1⟩ := Br.opt_has h
    obtain ⟨v, hv, h2⟩ := Br.opt_has h1
    obtain ⟨hc, h3⟩ := Br.when_has h2
    cases h3
    obtain ⟨d, hu, hd⟩ := hT.und ht
    refine Fine.pure I (u := .iface t (a.eval y)) ?_ ?_
    · have : (Instr.makeInterface t (a.eval y)).run P w = .ok (.iface t (a.eval y)) w := by
        unfold Instr.makeInterface
        rw [Sem.run_bind, run_underlying hu]
        cases d <;> first | exact hd.elim | rfl
      exact run_v this
    · refine ⟨[.iface t (a.eval y)], ⟨[a.eval y], by rw [fnVal_if], ?_⟩, rfl⟩
      exact ⟨[a.eval y], [], rfl, cellV_C hc (Rd_v I R hv), rfl⟩
  case typeAssert y xt t ok =>
    obtain ⟨hok, h1⟩ := Br.when_has h
    obtain ⟨te, ht, h2⟩ := Br.opt_has h1
    obtain ⟨v, hv, h3⟩ := Br.opt_has h2
    split at h3
    · rename_i f u
      obtain ⟨hc, h4⟩ := Br.when_has h3
      cases h4
      rw [Bool.and_eq_true] at hc
      have ef := Nat.eq_of_beq_eq_true hc.1
      subst ef
      obtain ⟨cs, ⟨caps, e1, c1, c2, e2, k1, k2⟩, e3⟩ := Rd_v I R hv
      obtain ⟨z, rfl, hz⟩ := cellV_V hc.2 k1
      have k2' : c2 = [] := k2
      subst k2' e2 e1
      obtain ⟨d, hu, hd⟩ := hT.und ht
      have hev : a.eval y = .iface t z := by
        rw [e3]
        show fnVal (ifB + t) [z] = _
        exact fnVal_if t z []
      refine Fine.pure I (u := z) ?_ hz
      have hokf : ok = false := by simpa using hok
      have : (Instr.typeAssert (a.eval y) xt t ok).run P w = .ok z w := by
        unfold Instr.typeAssert
        rw [Sem.run_bind, run_underlying hu, hev, hokf]
        cases d <;> first | exact hd.elim | simp [Result.andThen]
      exact run_v this
    · exact h3.elim
  case makeFunc f first caps =>
    split at h
    · rename_i g hf
      obtain ⟨hgf, h⟩ := Br.when_has h
      obtain ⟨vs, hvs, h1⟩ := Br.opt_has h
      obtain ⟨c, hc, h2⟩ := Br.opt_has h1
      cases h2
      have hfirst : first = #[] := by
        apply Array.ext'
        simpa using hf
      subst hfirst
      have hcap : (caps.map a.eval).toList = caps.toList.map a.eval := by simp
      refine Fine.pure I (u := .func (.func g) #[] (caps.map a.eval)) (by simp [execOp, Instr.makeFunc]) ?_
      refine ⟨_, ⟨caps.toList.map a.eval, rfl, chain_VTC (vs_all I R hvs) hc⟩, ?_⟩
      show _ = mkV (.fn g c) [fnVal g (caps.toList.map a.eval)]
      rw [fnVal_fn hgf, ← hcap]
      rfl
    · exact h.elim
  case fieldAddr s y j =>
    obtain ⟨v, hv, h1⟩ := Br.opt_has h
    exact (pure'_ends I h1 fun u hu => opFieldAddr_sound I hT R hu (Rd_v I R hv)).fine fun w => rfl
  case field s y j =>
    obtain ⟨v, hv, h1⟩ := Br.opt_has h
    exact (pure'_ends I h1 fun u hu => opField_sound hT hu (Rd_v I R hv)).fine fun w => rfl
  case extract y j =>
    obtain ⟨v, hv, h1⟩ := Br.opt_has h
    clear h
    split at h1
    · obtain ⟨z, hz, h2⟩ := Br.opt_has h1
      cases h2
      obtain ⟨u, k1, k2⟩ := opExtract_sound (P := P) hz (Rd_v I R hv)
      exact (Ends.same I k1 k2).fine fun w => rfl
    · exact h1.elim
  case indexAddr t y i =>
    obtain ⟨v, hv, h1⟩ := Br.opt_has h
    obtain ⟨v2, hv2, h2⟩ := Br.opt_has h1
    exact (pure'_ends I h2 fun u hu => opIndexAddr_sound I hT R hu (Rd_v I R hv) (Rd_v I R hv2)).fine fun w => rfl
  case binOp op t y z s =>
    obtain ⟨va, hva, h1⟩ := Br.opt_has h
    obtain ⟨vb, hvb, h2⟩ := Br.opt_has h1
    clear h h1
    cases hvi : va.viaEq <;> rw [hvi] at h2
    · cases hn : isNlC vb <;> rw [hn] at h2
      · exact (pure'_ends I h2 fun u hu => opBin_sound hu (Rd_v I R hva) (Rd_v I R hvb) t y z).fine fun w => rfl
      · have e1 : vb = .nl := by cases vb <;> first | rfl | cases hn
        subst e1
        obtain ⟨cs, hcs, ecs⟩ := Rd_v I R hvb
        simp only [VTC] at hcs
        subst hcs
        have ecs' : a.eval z = .slice none 0 0 := ecs
        refine (pure'_ends I h2 fun u hu => opNil_sound I hT R hu (Rd_v I R hva) y z).fine fun w => ?_
        rw [← ecs']
        rfl
    · exact (pure'_ends I h2 fun u hu => opEqS_sound I hT hE R hvi hu (Rd_v I R hva) (Rd_v I R hvb) y z).fine fun w => rfl
  case unOp op t y =>
    obtain ⟨v, hv, h1⟩ := Br.opt_has h
    exact (pure'_ends I h1 fun u hu => opUn_sound hu (Rd_v I R hv)).fine fun w => rfl
  case convert s d y =>
    obtain ⟨ts, hs, h1⟩ := Br.opt_has h
    obtain ⟨te, ht, h2⟩ := Br.opt_has h1
    obtain ⟨v, hv, h3⟩ := Br.opt_has h2
    clear h h1 h2
    split at h3
    · rename_i k k' n hty
      cases h3
      have e1 := VTV_int (Rd_v I R hv)
      refine (Ends.same I (s := convert s d (a.eval y)) ?_ (int_VTV _ _)).fine fun w => rfl
      rw [e1]
      obtain ⟨q, hq, hqo⟩ := hT.und hs
      obtain ⟨q', hq', hqo'⟩ := hT.und ht
      have e2 : q' = .int k := by
        cases q' <;> simp only [descOk] at hqo'
        case int k2 => have := hqo'.2; rw [hty] at this; cases this; rfl
        case struct fs => obtain ⟨l, _, hch⟩ := hqo'; have := st_agg hch; rw [hty] at this; cases this
        case array n e => obtain ⟨_, te', _, hh⟩ := hqo'; rw [hty] at hh; cases n <;> cases hh
        case slice e => obtain ⟨_, te', _, hh⟩ := hqo'; rw [hty] at hh; cases hh
        all_goals (have := hqo'.2; rw [hty] at this; cases this)
      unfold convert
      simp [Sem.run_bind, run_underlying hq, run_underlying hq', e2, Conv.intToInt]
    · exact h3.elim
  case makeSlice t l c =>
    split at h
    · rename_i n rest hal
      obtain ⟨te, ht, h1⟩ := Br.opt_has h
      obtain ⟨va, hva, h2⟩ := Br.opt_has h1
      obtain ⟨vb, hvb, h3⟩ := Br.opt_has h2
      clear h h1 h2
      split at h3
      · rename_i t' k la k' lb hty
        obtain ⟨hd, h4⟩ := Br.when_has h3
        obtain ⟨hl, h5⟩ := h4
        cases h5
        have hn := hw n (by simp [wrote, newO])
        have ea := VTV_int (Rd_v I R hva)
        have eb := VTV_int (Rd_v I R hvb)
        obtain ⟨u, w', S', k1, k2, k3⟩ := makeSlice_sound (P := P) I hT hn.1 hn.2 ht hty hd (k := k) (k' := k') hl.1 hl.2.1 hl.2.2
        exact Ends.fine (s := Instr.makeSlice t (a.eval l) (a.eval c)) ⟨u, w', S', by rw [ea, eb]; exact k1, k2, _, rfl, k3⟩ fun w => rfl
      · exact h3.elim
    · exact h.elim
  case makeMap t res =>
    cases res with
    | none => exact (opMakeMap_sound I hT h hw (res := none) (fun u e => by cases e)).fine fun w => rfl
    | some y =>
      obtain ⟨v, hv, h1⟩ := Br.opt_has h
      clear h
      split at h1
      · have ey := VTV_int (Rd_v I R hv)
        exact (opMakeMap_sound I hT h1 hw (res := some (a.eval y)) (fun u e => by cases e; exact ⟨_, _, ey⟩)).fine fun w => rfl
      · exact h1.elim
  case lookup t y i ok =>
    obtain ⟨v, hv, h1⟩ := Br.opt_has h
    obtain ⟨v2, hv2, h2⟩ := Br.opt_has h1
    exact (pure'_ends I h2 fun u hu => opLookup_sound I hT R hu (Rd_v I R hv) (Rd_v I R hv2)).fine fun w => rfl
  case mapUpdate t y i z =>
    obtain ⟨va, hva, h1⟩ := Br.opt_has h
    obtain ⟨vi, hvi, h2⟩ := Br.opt_has h1
    obtain ⟨v, hv, h3⟩ := Br.opt_has h2
    obtain ⟨e1, w', S', k1, k2⟩ := opMapPut_sound I hT R h3 hw (Rd_v I R hva) (Rd_v I R hvi) (Rd_v I R hv)
    obtain ⟨ev, eob⟩ := e
    cases e1
    refine ⟨undef, w', .inr ⟨run_u k1, rfl⟩, S', ?_⟩
    have := k2.put dst none undef (fun v e => by cases e)
    cases dst <;> exact this
  case slice t y lo hi mx =>
    split at h
    · obtain ⟨v, hv, h1⟩ := Br.opt_has h
      obtain ⟨va, hva, h2⟩ := Br.opt_has h1
      obtain ⟨vb, hvb, h3⟩ := Br.opt_has h2
      exact (opSlice_sound I hT R h3 hw (Rd_v I R hv) (opt_all I R hva) (opt_all I R hvb)).fine fun w => rfl
    · exact h.elim
  case call c =>
    obtain ⟨callee, args, argTypes⟩ := c
    cases callee with
    | value f => cases hp
    | invoke => cases hp
    | builtin b =>
      simp only at h
      obtain ⟨vs, hvs, h1⟩ := Br.opt_has h
      clear h
      have hall := vs_all I R hvs
      have eargs : args.map a.eval = (args.toList.map a.eval).toArray := Array.ext' (by simp)
      have eat : argTypes = argTypes.toList.toArray := rfl
      have bi : ∀ (f : Array TypeId → TypeId → Array Value → Sem Value), (∀ w, (execOp a.eval ⟨dst, .call ⟨.builtin b, args, argTypes⟩, ty, pos, af, gd⟩).run P w = (do Pure.pure (Next.value (← f argTypes ty (args.map a.eval))) : Sem Next).run P w) →
          Ends P C x a e (f argTypes.toList.toArray ty (args.toList.map a.eval).toArray) w → Fine P C ⟨dst, .call ⟨.builtin b, args, argTypes⟩, ty, pos, af, gd⟩ a w x e := by
        intro f h1 h2
        rw [← eargs, ← eat] at h2
        exact h2.fine h1
      split at h1
      · rename_i v
        obtain ⟨hl, h2⟩ := Br.when_has h1
        obtain ⟨u, hu, hv⟩ := one_of hall
        refine bi Builtin.len_ (fun w => by simp [execOp, resolve, invoke, builtin]) ?_
        rw [hu]
        exact pure'_ends I h2 fun u' hu' => opLen_sound I hT hl R hu' hv
      · rename_i v v'
        obtain ⟨hl, h2⟩ := Br.when_has h1
        obtain ⟨t, ht, h3⟩ := Br.opt_has h2
        obtain ⟨u, u', hu, hv, hv'⟩ := two_of hall
        refine bi Builtin.append_ (fun w => by simp [execOp, resolve, invoke, builtin]) ?_
        rw [hu]
        exact opAppend_sound I hT R ht hl h3 hw hv hv'
      · rename_i v v'
        obtain ⟨t, ht, h3⟩ := Br.opt_has h1
        obtain ⟨u, u', hu, hv, hv'⟩ := two_of hall
        refine bi Builtin.copy_ (fun w => by simp [execOp, resolve, invoke, builtin]) ?_
        rw [hu]
        exact opCopy_sound I hT R ht h3 hw hv hv'
      · rename_i v l
        obtain ⟨u, m, hu, hv, hl⟩ := more_of hall
        refine bi Builtin.max_ (fun w => by simp [execOp, resolve, invoke, builtin]) ?_
        rw [hu]
        exact pure'_ends I h1 fun u' hu' => mmx_sound (fun k x y w => by simp [Builtin.max2, mx]) hu' hv hl
      · rename_i v l
        obtain ⟨u, m, hu, hv, hl⟩ := more_of hall
        refine bi Builtin.min_ (fun w => by simp [execOp, resolve, invoke, builtin]) ?_
        rw [hu]
        exact pure'_ends I h1 fun u' hu' => mmx_sound (fun k x y w => by simp [Builtin.min2, mn]) hu' hv hl
      · exact h1.elim
end
end Go.Vm
