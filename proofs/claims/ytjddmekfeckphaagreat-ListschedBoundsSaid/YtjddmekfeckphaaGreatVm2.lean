/- The value machine, part 3 of 9. -/
import Derived.Test.YtjddmekfeckphaaGreatVm1
import Derived.Laws.Cover3
import Derived.Laws.StructEq
import Derived.Laws.MakeOwn
import Derived.Laws.IdiomCopy
import Derived.Deep.AppendSrc
import Derived.Deep.Upon
set_option linter.unusedVariables false
set_option linter.unusedSimpArgs false
set_option linter.unnecessarySimpa false
set_option linter.unusedVariables false
set_option linter.unusedSimpArgs false
namespace Go.Vm
open Go Go.RowKit
section
variable {P : Program} {S : Side} {ob : List Obe} {w : World}
theorem run_part {T : Tab} (hT : TabOk P T) {t : Nat} {te : TE} (ht : T.find t = some te) {c0 c1 c2 : List Value} (hl : c1.length = te.ty.cells) :
    (part t (c0 ++ (c1 ++ c2)).toArray c0.length).run P w = .ok (if te.ty.agg then .agg c1.toArray else c1.headD undef) w := by
  unfold part
  rw [Sem.run_bind, run_agg hT ht]
  cases hag : te.ty.agg
  · have h1 : te.ty.cells = 1 := by
      cases hty : te.ty <;> rw [hty] at hag <;> simp [Ty.agg] at hag <;> rfl
    rw [h1] at hl
    obtain ⟨v, rfl⟩ := List.length_eq_one_iff.1 hl
    simp
  · have : (c0 ++ (c1 ++ c2)).toArray.extract c0.length (c0.length + c1.length) = c1.toArray := by
      apply Array.ext'
      simp
    simp [run_size hT ht, ← hl, this]
theorem agg_of {v : VT} {t : Ty} {uv : Value} (hf : v.fits t = true) (ha : t.agg = true) (hv : VTV S ob w v uv) : ∃ cs, VTC S ob w v cs ∧ uv = .agg cs.toArray := by
  have h1 : v.isAgg = true := by rw [fits_agg hf, ha]
  obtain ⟨cs, hc, e⟩ := VTV_of hv (fun z e => by subst e; cases h1) (fun e => by subst e; cases h1)
  exact ⟨cs, hc, by rw [e]; unfold mkV; rw [h1]; rfl⟩
theorem st_agg {T : Tab} {fl : List Field} {l : List Nat} {ty : Ty} {off : Nat} (h : chainOk T fl l ty off) : ty.agg = true := by
  cases ty <;> cases fl <;> cases l <;> simp [chainOk] at h <;> rfl
theorem fld_fits : ∀ {j : Nat} {v u : VT} {t : Ty}, v.fits t = true → VT.fld j v = some u → ∃ t', tyAt t [.f j] = some t' ∧ u.fits t' = true
  | 0, .va (.pr a b) x, u, t, h1, h2 => by
    have := of_decide_eq_true h1
    subst this
    cases h2
    exact ⟨a, by simp [tyAt, tyAt_nil], by simp [VT.fits]⟩
  | 0, .pr a b, u, .pr s t, h1, h2 => by
    simp [VT.fits] at h1
    cases h2
    exact ⟨s, by simp [tyAt, tyAt_nil], h1.1⟩
  | j + 1, .va (.pr a b) x, u, t, h1, h2 => by
    have := of_decide_eq_true h1
    subst this
    obtain ⟨t', e1, e2⟩ := fld_fits (j := j) (v := .va b x.2) (t := b) (by simp [VT.fits]) h2
    exact ⟨t', e1, e2⟩
  | j + 1, .pr a b, u, .pr s t, h1, h2 => by
    simp [VT.fits] at h1
    obtain ⟨t', e1, e2⟩ := fld_fits (j := j) h1.2 h2
    exact ⟨t', e1, e2⟩
  | _, .pr _ _, _, .int _, h, _ | _, .pr _ _, _, .bool, h, _ | _, .pr _ _, _, .str, h, _ | _, .pr _ _, _, .sl _, h, _ | _, .pr _ _, _, .un, h, _ | _, .pr _ _, _, .op, h, _ => by simp [VT.fits] at h
  | 0, .va (.int _) _, _, _, _, h | 0, .va .bool _, _, _, _, h | 0, .va .str _, _, _, _, h | 0, .va (.sl _) _, _, _, _, h | 0, .va .un _, _, _, _, h | 0, .va .op _, _, _, _, h => by simp [VT.fld] at h
  | _ + 1, .va (.int _) _, _, _, _, h | _ + 1, .va .bool _, _, _, _, h | _ + 1, .va .str _, _, _, _, h | _ + 1, .va (.sl _) _, _, _, _, h | _ + 1, .va .un _, _, _, _, h | _ + 1, .va .op _, _, _, _, h => by simp [VT.fld] at h
  | 0, .nl, _, _, _, h | 0, .em, _, _, _, h | 0, .np, _, _, _, h | 0, .an, _, _, _, h | 0, .ud, _, _, _, h | 0, .un, _, _, _, h | 0, .rp _ _, _, _, _, h | 0, .sl _ _ _ _ _, _, _, _, h | 0, .pt _ _ _ _, _, _, _, h | 0, .tu _, _, _, _, h | 0, .fn _ _, _, _, _, h => by simp [VT.fld] at h
  | _ + 1, .nl, _, _, _, h | _ + 1, .em, _, _, _, h | _ + 1, .np, _, _, _, h | _ + 1, .an, _, _, _, h | _ + 1, .ud, _, _, _, h | _ + 1, .un, _, _, _, h | _ + 1, .rp _ _, _, _, _, h | _ + 1, .sl _ _ _ _ _, _, _, _, h | _ + 1, .pt _ _ _ _, _, _, _, h | _ + 1, .tu _, _, _, _, h | _ + 1, .fn _ _, _, _, _, h => by simp [VT.fld] at h
theorem opField_sound {T : Tab} (hT : TabOk P T) {s j : Nat} {v u : VT} (h : (opField T s j v).has u) {uv : Value} (hv : VTV S ob w v uv) :
    ∃ z, (Instr.field s uv j).run P w = .ok z w ∧ VTV S ob w u z := by
  unfold opField at h
  obtain ⟨te, ht, h⟩ := Br.opt_has h
  split at h
  · rename_i l hk
    obtain ⟨hfit, h⟩ := Br.when_has h
    obtain ⟨u', hu, h⟩ := Br.opt_has h
    cases h
    obtain ⟨fs, hund, hc⟩ := st_fields hT ht hk
    obtain ⟨cs, hcs, rfl⟩ := agg_of hfit (st_agg hc) hv
    obtain ⟨k, c0, c1, c2, f1, rfl, f3, f4⟩ := fld_cells hu hcs
    have htyj := fld_fits hfit hu
    obtain ⟨t', htj, hfu⟩ := htyj
    obtain ⟨f, g1, g2, tf, g3, g4⟩ := chain_get hc htj
    rw [foff_fits hfit htj] at f1
    cases f1
    have g1' : fs[j]? = some f := by simpa using g1
    have hoff : f.offset = c0.length := by rw [g2, f3]; omega
    have hlen : c1.length = tf.ty.cells := by rw [VTC_len f4, g4, fits_cells hfu]
    refine ⟨if tf.ty.agg then .agg c1.toArray else c1.headD undef, ?_, ?_⟩
    · unfold Instr.field
      rw [Sem.run_bind, run_underlying hund]
      simp only [Result.andThen_ok, g1', asAgg, hoff]
      exact run_part hT g3 hlen
    · have := VTC_VTV f4
      unfold mkV at this
      rw [fits_agg hfu, ← g4] at this
      exact this
  · exact h.elim
theorem VTT_get : ∀ {v u : VT} {j : Nat} {us : List Value}, VTT S ob w v us → VT.fld j v = some u → ∃ z, us[j]? = some z ∧ VTV S ob w u z
  | .pr a b, u, 0, z :: us, ⟨⟨cs, h1, e⟩, _⟩, h => by
    cases h
    exact ⟨z, rfl, by rw [e]; exact VTC_VTV h1⟩
  | .pr a b, u, j + 1, z :: us, ⟨_, h2⟩, h => by
    obtain ⟨z', e, h'⟩ := VTT_get (v := b) (j := j) h2 h
    exact ⟨z', by simpa using e, h'⟩
  | .pr _ _, _, _, [], h, _ => h.elim
  | .un, _, _, _, _, h => by simp [VT.fld] at h
  | .va _ _, _, _, _, h, _ | .rp _ _, _, _, _, h, _ | .nl, _, _, _, h, _ | .em, _, _, _, h, _ | .np, _, _, _, h, _ | .an, _, _, _, h, _ | .ud, _, _, _, h, _ | .tu _, _, _, _, h, _ | .fn _ _, _, _, _, h, _ | .sl _ _ _ _ _, _, _, _, h, _ | .pt _ _ _ _, _, _, _, h, _ => h.elim
theorem opExtract_sound {v u : VT} {j : Nat} (h : VT.fld j v = some u) {uv : Value} (hv : VTV S ob w (.tu v) uv) : ∃ z, (Instr.extract uv j).run P w = .ok z w ∧ VTV S ob w u z := by
  obtain ⟨us, rfl, ht⟩ := hv
  obtain ⟨z, hz, hv⟩ := VTT_get ht h
  refine ⟨z, ?_, hv⟩
  unfold Instr.extract
  simp [hz]
theorem isSlT_und {T : Tab} (hT : TabOk P T) {l : List TypeId} {n : Nat} (h : isSlT (argTy T l n) = true) : ∃ t e, l[n]? = some t ∧ P.underlying t = some (.slice e) := by
  induction l generalizing n with
  | nil => simp [argTy, isSlT] at h
  | cons t l ih =>
    cases n with
    | zero =>
      simp only [argTy] at h
      cases ht : T.find t with
      | none => rw [ht] at h; simp [isSlT] at h
      | some te =>
        rw [ht] at h
        simp only [Option.map_some] at h
        cases hty : te.ty <;> rw [hty] at h <;> simp [isSlT] at h
        obtain ⟨e, te', _, hu, _⟩ := sl_of hT ht hty
        exact ⟨t, e, rfl, hu⟩
    | succ n =>
      obtain ⟨t', e, h1, h2⟩ := ih (n := n) h
      exact ⟨t', e, by simpa using h1, h2⟩
theorem argTy_sl {T : Tab} (hT : TabOk P T) {l : List TypeId} {n : Nat} {t' : Ty} (h : argTy T l n = some (.sl t')) : ∃ t e te', l[n]? = some t ∧ P.underlying t = some (.slice e) ∧ T.find e = some te' ∧ te'.ty = t' := by
  induction l generalizing n with
  | nil => simp [argTy] at h
  | cons t l ih =>
    cases n with
    | zero =>
      simp only [argTy, Option.map_eq_some_iff] at h
      obtain ⟨te, ht, hty⟩ := h
      obtain ⟨e, te', _, hu, h3, h4⟩ := sl_of hT ht hty
      exact ⟨t, e, te', rfl, hu, h3, h4⟩
    | succ n =>
      obtain ⟨t', e, te', h1, h2⟩ := ih (n := n) h
      exact ⟨t', e, te', by simpa using h1, h2⟩
theorem sl_val {C : Ctx} {x : X} {a : Act} (I : Inv C S x a w) {r : Rd} (R : RdOk r x) {o g h : Nat} {p : List Stp} {win : Option (Nat × Nat)} {d : Dy} (hd : r.slice o g h p win = some d) {uv : Value} (hv : VTV S x.ob w (.sl o g h p win) uv) :
    ∃ te : Ty, ∃ zs : List te.D, ∃ A cap, d = ⟨.sl te, zs⟩ ∧ uv = .slice A zs.length cap := by
  obtain ⟨_, href, hsl⟩ := VTV_sl hv
  obtain ⟨t0, xs0, nn, te0, _, _, _, ys, hob, hg, hph, hgp, htyp, hdeq, hro, hall, _⟩ := slice_own I R hd
  obtain ⟨A, m, cap, F', hn, hwin, hown, hF, hnil⟩ := hall uv hsl
  refine ⟨te0, winL win ys, ?_⟩
  cases win with
  | none => simp only [winR] at hwin; subst hwin; subst hn; exact ⟨A, cap, hdeq, rfl⟩
  | some q =>
    obtain ⟨lo, n⟩ := q
    obtain ⟨hlm, A', e, _⟩ := hwin
    refine ⟨A', cap - lo, hdeq, ?_⟩
    rw [e]
    congr 1
    simp only [winL, List.length_take, List.length_drop]
    omega
theorem opLen_sound {C : Ctx} {x : X} {a : Act} (I : Inv C S x a w) {T : Tab} (hT : TabOk P T) {l : List TypeId} (hl : isSlT (argTy T l 0) = true) {ty : TypeId} {r : Rd} (R : RdOk r x) {v u : VT} (h : (opLen r v).has u) {uv : Value} (hv : VTV S x.ob w v uv) :
    ∃ z, (Builtin.len_ l.toArray ty #[uv]).run P w = .ok z w ∧ VTV S x.ob w u z := by
  obtain ⟨t, e, h1, h2⟩ := isSlT_und hT hl
  have key : ∀ A n cap, uv = .slice A n cap → (Builtin.len_ l.toArray ty #[uv]).run P w = .ok (.int .i64 n) w := by
    intro A n cap e
    subst e
    unfold Builtin.len_
    simp [h1, run_underlying h2, goInt]
  unfold opLen at h
  split at h
  · cases h
    obtain ⟨cs, ⟨A, cap, rfl, _⟩, e⟩ := hv
    exact ⟨_, key _ _ _ e, int_VTV _ _⟩
  · cases h
    obtain ⟨cs, hc, e⟩ := hv
    simp only [VTC] at hc
    subst hc
    exact ⟨_, key _ _ _ e, int_VTV _ _⟩
  · cases h
    obtain ⟨cs, ⟨A, hc⟩, e⟩ := hv
    subst hc
    exact ⟨_, key _ _ _ e, int_VTV _ _⟩
  · obtain ⟨d, hd, h⟩ := Br.opt_has h
    obtain ⟨te, zs, A, cap, rfl, e⟩ := sl_val I R hd hv
    cases h
    exact ⟨_, key _ _ _ e, int_VTV _ _⟩
  · exact h.elim
inductive All2 {α β : Type} (R : α → β → Prop) : List α → List β → Prop
  | nil : All2 R [] []
  | cons {a b l m} : R a b → All2 R l m → All2 R (a :: l) (b :: m)
theorem mmx_sound {f : Int → Int → Int} {m2 : Value → Value → Sem Value} (hm : ∀ k x y w, (m2 (.int k x) (.int k y)).run P w = .ok (.int k (f x y)) w) : ∀ {l : List VT} {us : List Value} {v u : VT} {uv : Value}, (mmx f v l).has u → VTV S ob w v uv → All2 (VTV S ob w) l us →
    ∃ z, (us.foldlM m2 uv).run P w = .ok z w ∧ VTV S ob w u z
  | [], _, v, u, uv, h, hv, .nil => by cases h; exact ⟨uv, rfl, hv⟩
  | b :: l, ub :: us, v, u, uv, h, hv, .cons hb hl => by
    unfold mmx at h
    split at h
    · cases h; rename_i h; cases h
    · rename_i k x k' y l' e
      injection e with e1 e2
      subst e1; subst e2
      obtain ⟨hk, h⟩ := Br.when_has h
      have hk := of_decide_eq_true hk
      subst hk
      obtain rfl := VTV_int hv
      obtain rfl := VTV_int hb
      obtain ⟨z, h1, h2⟩ := mmx_sound hm h (int_VTV _ _) hl
      exact ⟨z, by simp [hm, h1], h2⟩
    · exact h.elim
theorem opNil_sound {C : Ctx} {x : X} {a : Act} (I : Inv C S x a w) {T : Tab} (hT : TabOk P T) {t : Nat} {op : BinOp} {r : Rd} (R : RdOk r x) {v u : VT} (h : (opNil T op t r v).has u) {uv : Value} (hv : VTV S x.ob w v uv) (y1 y2 : Operand) :
    ∃ z, (do eqGuard op t y1 y2 uv (.slice none 0 0); binOp op t uv (.slice none 0 0) : Sem Value).run P w = .ok z w ∧ VTV S x.ob w u z := by
  unfold opNil at h
  obtain ⟨te, ht, h⟩ := Br.opt_has h
  split at h
  · rename_i t' hty
    obtain ⟨e, te', _, hu, _, _⟩ := sl_of hT ht hty
    have heq : ∀ A n c, (Op.equal t (.slice A n c) (.slice none 0 0)).run P w = .ok A.isNone w := fun A n c => run_equalIn_slice_nil w 9999 t e A n c hu
    split at h
    · obtain ⟨cs, hc, e⟩ := hv
      simp only [VTC] at hc
      subst hc
      subst e
      have hg : (eqGuard op t y1 y2 (.slice none 0 0) (.slice none 0 0)).run P w = .ok () w := by unfold eqGuard; cases op <;> simp
      cases op <;> simp only at h <;> first | exact h.elim | skip
      all_goals
        cases h
        exact ⟨_, by simp [mkV, VT.isAgg, hg, binOp, heq], bool_VTV _⟩
    · rename_i t1 xs _
      obtain ⟨cs, hc, e⟩ := hv
      obtain ⟨A, cap, rfl, _, hro⟩ := hc
      have e' : uv = .slice A (List.length xs) cap := e
      subst e'
      have hg : (eqGuard op t y1 y2 (.slice A (List.length xs) cap) (.slice none 0 0)).run P w = .ok () w := by unfold eqGuard; cases op <;> simp
      have hbo : ∀ b : Bool, VTV S x.ob w (.fn boN (.pr .an .un)) (.bool b) := fun b => ⟨[.bool b], ⟨[.bool b], by rw [fnVal_bo], ⟨[.bool b], [], rfl, ⟨.bool b, rfl, rfl⟩, rfl⟩⟩, rfl⟩
      cases hbl : Nat.blt 0 (List.length xs)
      · rw [hbl] at h
        cases op <;> simp only at h <;> first | exact h.elim | skip
        all_goals
          cases h
          exact ⟨_, by simp [hg, binOp, heq]; rfl, hbo _⟩
      · rw [hbl] at h
        obtain ⟨b, off, rfl, _⟩ := hro (fun e => by subst e; simp at hbl)
        cases op <;> simp only at h <;> first | exact h.elim | skip
        all_goals
          cases h
          exact ⟨_, by simp [hg, binOp, heq], bool_VTV _⟩
    · rename_i o g h0 _
      split at h
      · rename_i g' h' t1 xs nn he
        obtain ⟨hb, h⟩ := Br.when_has h
        simp only [Bool.and_eq_true] at hb
        obtain ⟨e1, e2, e3⟩ := ok_eq R he
        obtain ⟨_, href, hsl⟩ := VTV_sl hv
        obtain ⟨te1, A, n, cap, _, hh, hw⟩ := hsl.1 t1 xs nn e3 (by rw [e1]; exact beq_of hb.1) (.inl rfl)
        simp only [winR] at hw
        subst hw
        obtain ⟨q1, q2⟩ := hh
        have hA : A ≠ none := by have := (I.objs o _ e3).1.2 hb.2; rw [q1] at this; exact this
        cases A with
        | none => exact absurd rfl hA
        | some A =>
          have hg : (eqGuard op t y1 y2 (.slice (some A) n cap) (.slice none 0 0)).run P w = .ok () w := by unfold eqGuard; cases op <;> simp
          cases op <;> simp only at h <;> first | exact h.elim | skip
          all_goals
            cases h
            exact ⟨_, by simp [hg, binOp, heq], bool_VTV _⟩
      · exact h.elim
    · exact h.elim
  · exact h.elim
end
end Go.Vm
set_option linter.unusedVariables false
set_option linter.unusedSimpArgs false
namespace Go.Vm
open Go Go.RowKit
section
variable {P : Program} {S : Side} {ob : List Obe} {w : World}
theorem inB_spec {len : Nat} {a b : Option Int} (h : inB len a b) : bndL a ≤ bndH len b ∧ bndH len b ≤ len := by
  cases a <;> cases b <;> simp only [inB, bndL, bndH] at * <;> first | exact h.elim | (constructor <;> omega)
theorem cutL_eq {α : Type} {a b : Option Int} (xs : List α) : cutL a b xs = (xs.take (bndH xs.length b)).drop (bndL a) := by
  cases a <;> cases b <;> simp [cutL, bndL, bndH]
theorem win_cut {α : Type} {a b : Option Int} (xs : List α) : (xs.drop (bndL a)).take (bndH xs.length b - bndL a) = cutL a b xs := by
  rw [cutL_eq, List.drop_take]
def optR (S : Side) (ob : List Obe) (w : World) : Option VT → Option Value → Prop
  | none, u => u = none
  | some v, u => ∃ z, u = some z ∧ VTV S ob w v z
theorem run_sliceAt {T : Tab} (hT : TabOk P T) {t : Nat} {te : TE} (ht : T.find t = some te) {t' : Ty} (hty : te.ty = .sl t') {A : Option Addr} {len cap : Nat} (hlc : len ≤ cap) {lo hi : Option VT} {a b : Option Int} {ul uh : Option Value}
    (ha : getI lo = some a) (hb : getI hi = some b) (hul : optR S ob w lo ul) (huh : optR S ob w hi uh) (hin : inB len a b) :
    (Instr.sliceAt t (.slice A len cap) ul uh none).run P w = .ok (.slice (if cap = bndL a then A else A.map (·.add (bndL a * t'.cells))) (bndH len b - bndL a) (cap - bndL a)) w := by
  obtain ⟨e, te', _, hu, h3, h4⟩ := sl_of hT ht hty
  have hsz := run_size (P := P) hT h3 w
  rw [h4] at hsz
  obtain ⟨hle, hlen⟩ := inB_spec hin
  have hbound : ∀ (v : VT) (u : Value) (n : Option Int) (k : Nat) (c : BoundsCode), getI (some v) = some n → VTV S ob w v u → (∀ m, n = some m → 0 ≤ m ∧ m ≤ (k : Int)) → ∃ m, n = some m ∧ (Instr.sliceBound u k c).run P w = .ok m.toNat w := by
    intro v u n k c hn hv hk
    cases v with
    | va s z =>
      cases s with
      | int q =>
        simp [getI] at hn
        subst hn
        obtain rfl := VTV_int hv
        refine ⟨z, rfl, ?_⟩
        have := hk z rfl
        simp [Instr.sliceBound, asIntOf, this.1, this.2]
      | _ => simp [getI] at hn
    | _ => simp [getI] at hn
  have hhi : (Instr.sliceBounds true len cap ul uh none).run P w = .ok (bndL a, bndH len b, cap) w := by
    unfold Instr.sliceBounds
    cases lo with
    | none =>
      simp [getI] at ha
      subst ha
      subst hul
      cases hi with
      | none =>
        simp [getI] at hb
        subst hb
        exact hin.elim
      | some v =>
        obtain ⟨u, rfl, hv⟩ := huh
        obtain ⟨m, rfl, hr⟩ := hbound v u b cap .sliceAcap hb hv (fun m e => by subst e; simp only [inB] at hin; omega)
        simp [hr, bndL, bndH]
    | some v0 =>
      obtain ⟨u0, rfl, hv0⟩ := hul
      cases hi with
      | none =>
        simp [getI] at hb
        subst hb
        subst huh
        obtain ⟨m, rfl, hr⟩ := hbound v0 u0 a len .sliceB ha hv0 (fun m e => by subst e; simpa [inB] using hin)
        simp [hr, bndL, bndH]
      | some v =>
        obtain ⟨u, rfl, hv⟩ := huh
        obtain ⟨m, rfl, hr⟩ := hbound v u b cap .sliceAcap hb hv (fun m e => by
          subst e
          cases a with
          | none => simp only [inB] at hin; omega
          | some z => simp only [inB] at hin; omega)
        obtain ⟨m0, rfl, hr0⟩ := hbound v0 u0 a m.toNat .sliceB ha hv0 (fun m0 e => by subst e; simp only [inB] at hin; omega)
        simp [hr, hr0, bndL, bndH]
  unfold Instr.sliceAt
  rw [Sem.run_bind, run_underlying hu]
  simp only [Result.andThen_ok]
  unfold Instr.slice
  rw [Sem.run_bind, run_underlying hu]
  simp [hhi, hsz]
theorem slice_VTC {o g h : Nat} {p : List Stp} {win : Option (Nat × Nat)} {A : Option Addr} {n cap : Nat} (hr : refOk ob o g h) (hs : slR S ob w o g h p win (.slice A n cap)) : VTV S ob w (.sl o g h p win) (.slice A n cap) :=
  ⟨_, ⟨_, rfl, rfl, hr, hs⟩, rfl⟩
theorem cut_RO {ok : Nat → Prop} {c : Nat → Nat → Option Value} {t : Ty} {A : Option Addr} {cap n : Nat} {xs : List t.D} (hn : n = xs.length) (h : RO ok c (.sl t) [.slice A n cap] xs) {a b : Option Int} (hin : inB n a b) :
    RO ok c (.sl t) [.slice (if cap = bndL a then A else A.map (·.add (bndL a * t.cells))) (bndH n b - bndL a) (cap - bndL a)] (cutL a b xs) := by
  obtain ⟨hle, hlen⟩ := inB_spec hin
  have hcap : n ≤ cap := by
    obtain ⟨A0, cap0, e, hl, _⟩ := h
    injection e with e
    injection e with e1 e2 e3
    omega
  have := RO_win hn h (lo := bndL a) (m := bndH n b - bndL a) (by omega) (A' := if cap = bndL a then A else A.map (·.add (bndL a * t.cells))) (fun hm => by rw [if_neg (by omega)])
  rw [hn] at this ⊢
  rw [win_cut] at this
  exact this
end
end Go.Vm
set_option linter.unusedVariables false
set_option linter.unusedSimpArgs false
namespace Go.Vm
open Go Go.RowKit
theorem wrOk_iff : ∀ {l ro : List Nat} {n : Nat}, wrOk l ro n = true → ∀ m ∈ l, m ∈ ro ∧ m < n
  | [], _, _, _, _, h => by cases h
  | a :: l, ro, n, h, m, hm => by
    unfold wrOk at h
    cases h1 : memN ro a <;> rw [h1] at h
    · cases h
    · cases h2 : Nat.blt a n <;> rw [h2] at h
      · cases h
      · rcases List.mem_cons.1 hm with rfl | hm
        · exact ⟨memN_iff.1 h1, by simp [Nat.blt] at h2; omega⟩
        · exact wrOk_iff (l := l) h m hm
theorem putO_length : ∀ (k : List (Nat × Obe)) (l : List Obe), (putO l k).length = l.length
  | [], l => rfl
  | (n, e) :: k, l => by simp [putO, putO_length k]
theorem putO_app : ∀ (k m : List (Nat × Obe)) (l : List Obe), putO l (k ++ m) = putO (putO l k) m
  | [], m, l => rfl
  | (n, e) :: k, m, l => by simp [putO, putO_app k m]
theorem getO_putO_ne : ∀ (k : List (Nat × Obe)) (l : List Obe) (m : Nat), m ∉ wrote k → getO (putO l k) m = getO l m
  | [], l, m, _ => rfl
  | (n, e) :: k, l, m, h => by
    simp [wrote] at h
    simp only [putO]
    rw [getO_putO_ne k _ m h.2, getO_set, if_neg (by omega)]
theorem wrote_gone (r : Rd) (l : List Nat) : wrote (gone r l) = l := by
  induction l with
  | nil => rfl
  | cons a l ih => simp [gone, wrote] at ih ⊢; exact ih
theorem wrote_app : ∀ (k m : List (Nat × Obe)), wrote (k ++ m) = wrote k ++ wrote m
  | [], m => rfl
  | (n, e) :: k, m => by simp [wrote, wrote_app k m]
theorem getO_gone {r : Rd} : ∀ (l : List Nat) (ob : List Obe) (m : Nat), (∀ o ∈ l, o < ob.length) → m ∈ l → getO (putO ob (gone r l)) m = ⟨(r.o m).g, (r.o m).h, none⟩
  | [], _, _, _, h => by cases h
  | a :: l, ob, m, hl, hm => by
    simp only [gone, List.map_cons, putO]
    by_cases h : m ∈ l
    · exact getO_gone l _ m (fun o ho => by simpa using hl o (by simp [ho])) h
    · have : m = a := by simpa [h] using hm
      subst this
      have := getO_putO_ne (gone r l) (ob.set m ⟨(r.o m).g, (r.o m).h, none⟩) m (by rw [wrote_gone]; exact h)
      simp only [gone] at this
      rw [this, getO_set, if_pos ⟨rfl, hl m (by simp)⟩]
def Side.put (S : Side) (n : Nat) (hd : Option Addr × Nat) (fp : List Nat) (okx : Nat → Prop) : Side where
  ok b := S.ok b ∨ okx b
  hd m := if m = n then hd else S.hd m
  fp m := if m = n then fp else S.fp m
theorem Inv.make {C : Ctx} {S : Side} {x : X} {a : Act} {w : World} (I : Inv C S x a w) {r : Rd} {n : Nat} {l : List Nat} (hr : ∀ m ∈ n :: l, r.o m = getO x.ob m) (hlt : ∀ m ∈ n :: l, m < x.ob.length) (hnl : n ∉ l) (hl : ∀ o ∈ l, ∀ c, (getO x.ob o).c = some c → c.isRv = false) (c : Ob) (hdn : Option Addr × Nat) (fpn : List Nat) (okx : Nat → Prop) {w' : World}
    (hheap : ∀ b, b < w.heap.size → (∀ o ∈ l, ∀ c, (getO x.ob o).c = some c → b ∉ S.fp o) → w'.heap[b]? = w.heap[b]?) (hsz : w.heap.size ≤ w'.heap.size)
    (hfp : ∀ b ∈ fpn, (∃ o ∈ l, ∃ c, (getO x.ob o).c = some c ∧ b ∈ S.fp o) ∨ (w.heap.size ≤ b ∧ b < w'.heap.size)) (hnd : fpn.Nodup)
    (hokx : ∀ b, okx b → w.heap.size ≤ b ∧ b < w'.heap.size ∧ b ∉ fpn)
    (h1 : w'.os = w.os) (h2 : Ahead w w') (h3 : w'.output = w.output)
    (hc : (∀ v cs, VTC S x.ob w v cs → VTC (S.put n hdn fpn okx) (putO x.ob (gone r l ++ [newO r n c])) w' v cs) → ObR (S.put n hdn fpn okx) (putO x.ob (gone r l ++ [newO r n c])) w' n c) :
    Inv C (S.put n hdn fpn okx) ⟨x.sl, putO x.ob (gone r l ++ [newO r n c])⟩ a w' ∧ (∀ v cs, VTC S x.ob w v cs → VTC (S.put n hdn fpn okx) (putO x.ob (gone r l ++ [newO r n c])) w' v cs) ∧
      getO (putO x.ob (gone r l ++ [newO r n c])) n = ⟨(r.o n).g + 1, 0, some c⟩ := by
  have hnew : getO (putO x.ob (gone r l ++ [newO r n c])) n = ⟨(r.o n).g + 1, 0, some c⟩ := by
    rw [putO_app]
    simp only [newO, putO]
    rw [getO_set, if_pos ⟨rfl, by rw [putO_length]; exact hlt n (by simp)⟩]
  have hgone : ∀ o ∈ l, getO (putO x.ob (gone r l ++ [newO r n c])) o = ⟨(r.o o).g, (r.o o).h, none⟩ := by
    intro o ho
    rw [putO_app]
    simp only [newO, putO]
    rw [getO_set, if_neg (by rintro ⟨e, _⟩; exact hnl (e ▸ ho))]
    exact getO_gone l x.ob o (fun o ho => hlt o (by simp [ho])) ho
  have hold : ∀ o, ¬ (o = n ∨ o ∈ l) → getO (putO x.ob (gone r l ++ [newO r n c])) o = getO x.ob o := by
    intro o ho
    refine getO_putO_ne _ _ _ ?_
    rw [wrote_app, wrote_gone]
    simp [newO, wrote]
    grind
  have hother : ∀ o c, ¬ (o = n ∨ o ∈ l) → (getO x.ob o).c = some c → ∀ b ∈ S.fp o, ∀ o' ∈ l, ∀ c', (getO x.ob o').c = some c' → b ∉ S.fp o' := by
    intro o c ho hc' b hb o' ho' c' hc'' hb'
    exact I.sep o o' c c' (fun e => ho (.inr (e ▸ ho'))) hc' hc'' b hb hb'
  have hokfp : ∀ b, S.ok b → ∀ o' ∈ l, ∀ c', (getO x.ob o').c = some c' → b ∉ S.fp o' := fun b hb o' _ c' hc' hm => ((I.objs o' c' hc').2.2 b hm).1 hb
  obtain ⟨I', hv⟩ := I.turn (S' := S.put n hdn fpn okx) (ob' := putO x.ob (gone r l ++ [newO r n c])) (w' := w') (fun o => o = n ∨ o ∈ l)
    (fun o ho => ⟨hold o ho, by simp only [Side.put]; rw [if_neg (fun e => ho (.inl e))], by simp only [Side.put]; rw [if_neg (fun e => ho (.inl e))], fun c' hc' b hb => by
      have hm := (I.objs o c' hc').2.2 b hb
      refine ⟨hheap b hm.2.1 (hother o c' ho hc' b hb), ?_⟩
      rintro (h | h)
      · exact hm.1 h
      · have := (hokx b h).1; omega⟩)
    (fun b hb => ⟨.inl hb, hheap b (I.okb b hb) (hokfp b hb)⟩)
    (fun o ho => by
      have ht : Turned (getO x.ob o) (getO (putO x.ob (gone r l ++ [newO r n c])) o) := by
        rcases ho with rfl | ho
        · rw [hnew, hr o (by simp)]; exact .inl rfl
        · rw [hgone o ho, hr o (by simp [ho])]; exact .inr ⟨rfl, rfl, rfl⟩
      exact ⟨fun g h p win v hrf _ => Turned.sl (S := S) (w := w) ht hrf, fun g h p v hrf _ => Turned.pt (S := S) (w := w) ht hrf⟩)
    (fun hv o c' ho hc' => by
      rcases ho with rfl | ho
      · rw [hnew] at hc'
        cases hc'
        have e : (S.put o hdn fpn okx).fp o = fpn := by simp [Side.put]
        refine ⟨hc hv, by rw [e]; exact hnd, fun b hb => ?_⟩
        rw [e] at hb
        rcases hfp b hb with ⟨o', ho', c'', hc'', hb'⟩ | hb'
        · have hm := (I.objs o' c'' hc'').2.2 b hb'
          refine ⟨?_, by omega, hm.2.2.imp_right fun h => h.imp_right fun h => by rw [hl o' ho' c'' hc''] at h; cases h⟩
          rintro (h | h)
          · exact hm.1 h
          · have := (hokx b h).1; omega
        · refine ⟨?_, hb'.2, .inl (Nat.le_trans I.kept.size hb'.1)⟩
          rintro (h | h)
          · have := I.okb b h; omega
          · exact (hokx b h).2.2 hb
      · rw [hgone o ho] at hc'; cases hc')
    (fun o o' c' c'' ho hne hc' hc'' b hb hb' => by
      rcases ho with rfl | ho
      · have hfo : (S.put o hdn fpn okx).fp o = fpn := by simp [Side.put]
        have hfo' : (S.put o hdn fpn okx).fp o' = S.fp o' := by simp only [Side.put]; rw [if_neg (Ne.symm hne)]
        rw [hfo] at hb
        rw [hfo'] at hb'
        have ho' : ¬ (o' = o ∨ o' ∈ l) := by
          rintro (h | h)
          · exact hne h.symm
          · rw [hgone o' h] at hc''; cases hc''
        rw [hold o' ho'] at hc''
        rcases hfp b hb with ⟨o1, ho1, c1, hc1, hb1⟩ | hb1
        · exact hother o' c'' ho' hc'' b hb' o1 ho1 c1 hc1 hb1
        · have := ((I.objs o' c'' hc'').2.2 b hb').2.1; omega
      · rw [hgone o ho] at hc'; cases hc')
    hsz
    (fun b hb => by
      rcases hb with h | h
      · exact Nat.lt_of_lt_of_le (I.okb b h) hsz
      · exact (hokx b h).2.1)
    ⟨h1.trans I.kept.os, h2.trans I.kept.tape, h3.trans I.kept.output, Nat.le_trans I.kept.size hsz, fun k hk hd => by
      rw [← I.kept.block k hk hd]
      refine hheap k (Nat.lt_of_lt_of_le hk I.kept.size) (fun o ho c' hc' hm => ?_)
      rcases ((I.objs o c' hc').2.2 k hm).2.2 with h | h | h
      · omega
      · exact hd h
      · rw [hl o ho c' hc'] at h; cases h⟩
    (fun o c' ho _ hg hc' => by
      rcases ho with rfl | ho
      · rw [hnew] at hg; cases hg
      · rw [hgone o ho] at hc'; cases hc')
    (fun b hb => hb.elim .inl (fun h => .inr (.inl (Nat.le_trans I.kept.size (hokx b h).1))))
  exact ⟨I', hv, hnew⟩
end Go.Vm
set_option linter.unusedVariables false
set_option linter.unusedSimpArgs false
namespace Go.Vm
open Go Go.RowKit
section
variable {P : Program} {S : Side} {ob : List Obe} {w : World}
theorem mkV_cells {v : VT} {cs : List Value} (h : VTC S ob w v cs) : (mkV v cs).cells.toList = cs := by
  unfold mkV
  cases ha : v.isAgg
  · have hone := VTC_one h
    have hlen := VTC_len h
    have : v.cells = 1 := by
      cases v with
      | va t x => cases t <;> simp [VT.isAgg, Ty.agg] at ha <;> rfl
      | pr a b => simp [VT.isAgg] at ha
      | un => simp [VT.isAgg] at ha
      | _ => rfl
    rw [this] at hlen
    obtain ⟨u, rfl⟩ := List.length_eq_one_iff.1 hlen
    have h1 := hone u (by simp)
    cases u <;> first | rfl | (simp [Value.oneCell'] at h1)
  · rfl
theorem setCell_heap {w : World} {b off : Nat} {l : List Value} (h : hv w b = some l) (v : Value) : hv (w.setCell ⟨b, off, none⟩ v) b = some (l.set off v) ∧ (w.setCell ⟨b, off, none⟩ v).heap.size = w.heap.size ∧
    (∀ c, c ≠ b → (w.setCell ⟨b, off, none⟩ v).heap[c]? = w.heap[c]?) := by
  obtain ⟨e, he⟩ := hv_eq h
  refine ⟨?_, by simp [World.setCell], fun c hc => Below.heap_setCell w _ _ c hc⟩
  unfold hv World.setCell
  simp [Array.getElem?_modify, he]
theorem setC_cons {l : List Value} {off : Nat} {v : Value} {r : List Value} (h : off + (v :: r).length ≤ l.length) : setC l off (v :: r) = setC (l.set off v) (off + 1) r := by
  have h2 : off + 1 + r.length ≤ (l.set off v).length := by simp at h ⊢; omega
  simp only [List.length_cons] at h
  apply List.ext_getElem?
  intro j
  by_cases h1 : j < off ∨ off + (r.length + 1) ≤ j
  · rw [setC_get (by simpa using h) j (by simpa using h1), setC_get h2 j (by omega), List.getElem?_set, if_neg (by omega)]
  · obtain ⟨i, rfl⟩ : ∃ i, j = off + i := ⟨j - off, by omega⟩
    rw [setC_in (by simpa using h) i (by simp; omega)]
    cases i with
    | zero => rw [setC_get h2 _ (by omega), List.getElem?_set]; simp; omega
    | succ i => rw [show off + (i + 1) = off + 1 + i by omega, setC_in h2 i (by omega)]; simp
theorem setCells_heap : ∀ (cs : List Value) (off : Nat) (w : World) {b : Nat} {l : List Value}, hv w b = some l → off + cs.length ≤ l.length →
    hv (w.setCells b off cs) b = some (setC l off cs) ∧ (w.setCells b off cs).heap.size = w.heap.size ∧ (∀ c, c ≠ b → (w.setCells b off cs).heap[c]? = w.heap[c]?) ∧
    (w.setCells b off cs).os = w.os ∧ Ahead w (w.setCells b off cs) ∧ (w.setCells b off cs).output = w.output
  | [], off, w, b, l, h, hn => by
    refine ⟨?_, rfl, fun _ _ => rfl, rfl, Ahead.refl _, rfl⟩
    show hv w b = _
    rw [h]
    simp [setC]
  | v :: r, off, w, b, l, h, hn => by
    simp at hn
    obtain ⟨h1, h2, h3⟩ := setCell_heap h (off := off) v
    obtain ⟨g1, g2, g3, g4, g5, g6⟩ := setCells_heap r (off + 1) (w.setCell ⟨b, off, none⟩ v) h1 (by simp; omega)
    refine ⟨?_, g2.trans h2, fun c hc => (g3 c hc).trans (h3 c hc), g4, g5, g6⟩
    show hv ((w.setCell ⟨b, off, none⟩ v).setCells b (off + 1) r) b = _
    rw [g1, setC_cons (by simp; omega)]
theorem hv_alloc_new (w : World) (arr : Array Value) (e : TypeId) : hv (w.alloc (.cells arr e)) w.heap.size = some arr.toList := by
  refine hv_of (e := e) ?_
  show (w.heap.push _)[w.heap.size]? = _
  simp
theorem alloc_old (w : World) (o : Obj) {b : Nat} (h : b < w.heap.size) : (w.alloc o).heap[b]? = w.heap[b]? := Below.heap_alloc w o b h
theorem alloc_size (w : World) (o : Obj) : (w.alloc o).heap.size = w.heap.size + 1 := by
  show (w.heap.push o).size = _
  simp
theorem zcB_zc : ∀ {t : Ty} {l m : List Value}, zcB t l = some m → t.data = true → l = t.zc ++ m
  | .int k, l, m, h, _ => by
    simp only [zcB] at h
    unfold zcI at h
    split at h
    · split at h
      · rename_i hk
        obtain ⟨rfl, rfl⟩ := hk
        cases h; rfl
      · cases h
    · cases h
  | .bool, l, m, h, _ => by
    simp only [zcB] at h
    unfold zcBo at h
    split at h
    · split at h
      · rename_i hk
        subst hk
        cases h; rfl
      · cases h
    · cases h
  | .str, l, m, h, _ => by
    simp only [zcB] at h
    unfold zcS at h
    split at h
    · rename_i s m'
      split at h
      · rename_i hk
        have : s = ByteArray.empty := by
          cases s with
          | mk d =>
            have : d.size = 0 := hk
            have : d = #[] := Array.eq_empty_of_size_eq_zero this
            subst this; rfl
        subst this
        cases h; rfl
      · cases h
    · cases h
  | .sl _, l, m, h, _ => by
    simp only [zcB] at h
    unfold zcL at h
    split at h
    · cases h; rfl
    · cases h
  | .pr a b, l, m, h, hd => by
    simp only [zcB, Option.bind_eq_some_iff] at h
    obtain ⟨m', h1, h2⟩ := h
    simp [Ty.data] at hd
    rw [zcB_zc h1 hd.1, zcB_zc h2 hd.2.1]
    simp [Ty.zc]
  | .un, l, m, h, _ => by cases h; rfl
  | .op, _, _, _, h => by simp [Ty.data] at h
theorem zc_own {H : Nat → Option (List Value)} : ∀ {t : Ty}, t.data = true → Own H t t.zc t.zero []
  | .int k, _ => ⟨rfl, rfl⟩
  | .bool, _ => ⟨rfl, rfl⟩
  | .str, _ => ⟨rfl, rfl⟩
  | .sl t, _ => ⟨none, 0, rfl, .inl ⟨rfl, rfl, rfl⟩⟩
  | .pr a b, h => by
    simp [Ty.data] at h
    exact ⟨a.zc, b.zc, [], [], rfl, rfl, zc_own h.1, zc_own h.2.1⟩
  | .un, _ => ⟨rfl, rfl⟩
  | .op, h => by simp [Ty.data] at h
theorem zcB_VTC : ∀ {t : Ty} {l m : List Value}, zcB t l = some m → ∃ c, l = c ++ m ∧ VTC S ob w (zeroVT t) c
  | .int k, l, m, h => ⟨_, zcB_zc h rfl, rfl⟩
  | .bool, l, m, h => ⟨_, zcB_zc h rfl, rfl⟩
  | .str, l, m, h => ⟨_, zcB_zc h rfl, rfl⟩
  | .sl _, l, m, h => by
    simp only [zcB] at h
    unfold zcL at h
    split at h
    · cases h; exact ⟨_, rfl, rfl⟩
    · cases h
  | .pr a b, l, m, h => by
    simp only [zcB, Option.bind_eq_some_iff] at h
    obtain ⟨m', h1, h2⟩ := h
    obtain ⟨c1, rfl, k1⟩ := zcB_VTC h1
    obtain ⟨c2, rfl, k2⟩ := zcB_VTC h2
    exact ⟨c1 ++ c2, by simp, c1, c2, rfl, k1, k2⟩
  | .un, l, m, h => by cases h; exact ⟨[], rfl, rfl⟩
  | .op, l, m, h => by
    simp only [zcB] at h
    unfold zcO at h
    split at h
    · rename_i v l'
      split at h
      · rename_i hv
        cases h
        exact ⟨[v], rfl, v, rfl, hv⟩
      · cases h
    · cases h
theorem zeroVT_fits : ∀ {t : Ty}, (zeroVT t).fits t = true
  | .int _ => by simp [zeroVT, VT.fits]
  | .bool => by simp [zeroVT, VT.fits]
  | .str => by simp [zeroVT, VT.fits]
  | .sl _ => rfl
  | .op => rfl
  | .un => rfl
  | .pr a b => by simp [zeroVT, VT.fits, zeroVT_fits]
theorem newSl_VTV {r : Rd} {n : Nat} {t : Ty} {xs : List t.D} {nn : Bool} (h : getO ob n = ⟨(r.o n).g + 1, 0, some (.arr t xs nn)⟩) {A : Option Addr} {cap : Nat} (hh : S.hd n = (A, cap)) : VTV S ob w (newSl r n) (.slice A (List.length xs) cap) := by
  refine ⟨_, ⟨_, rfl, rfl, .inr ⟨by rw [h], by rw [h]; exact Nat.zero_le _⟩, ?_, fun t1 xs1 nn1 j1 hc => by rw [h] at hc; cases hc⟩, rfl⟩
  intro t' xs' nn' hc hg hp
  rw [h] at hc
  cases hc
  exact ⟨t, A, List.length xs, cap, tyAt_nil _, ⟨hh, rfl⟩, rfl⟩
theorem newPt_VTV {r : Rd} {n : Nat} {v : VT} (h : getO ob n = ⟨(r.o n).g + 1, 0, some (.var v)⟩) {b cap : Nat} (hh : S.hd n = (some ⟨b, 0, none⟩, cap)) : VTV S ob w (newPt r n) (.pointer (some ⟨b, 0, none⟩)) := by
  refine ⟨_, ⟨_, rfl, rfl, .inr ⟨by rw [h], by rw [h]; exact Nat.zero_le _⟩, fun c u hc hh' hg => ?_, fun t xs nn hc => ?_, fun k t es hc => ?_, fun t xs nn j hc => ?_⟩, rfl⟩
  · rw [h] at hc
    cases hc
    cases hh'
    exact ⟨b, 0, by rw [hh], rfl, rfl⟩
  · rw [h] at hc; cases hc
  · rw [h] at hc; cases hc
  · rw [h] at hc; cases hc
theorem newMp_VTV {r : Rd} {n : Nat} {k : IntKind} {t : Ty} {es : List (Int × t.D)} (h : getO ob n = ⟨(r.o n).g + 1, 0, some (.mp k t es)⟩) {b cap : Nat} (hh : S.hd n = (some ⟨b, 0, none⟩, cap)) : VTV S ob w (newPt r n) (.map (some b)) := by
  refine ⟨_, ⟨_, rfl, rfl, .inr ⟨by rw [h], by rw [h]; exact Nat.zero_le _⟩, fun c u hc hh' hg => ?_, fun t xs nn hc => ?_, fun k t es hc hg => ?_, fun t xs nn j hc => by rw [h] at hc; cases hc⟩, rfl⟩
  · rw [h] at hc
    cases hc
    cases hh'
  · rw [h] at hc; cases hc
  · exact ⟨b, by rw [hh], rfl⟩
theorem wr_eq {E : Env} {ops : Array Oper} {o : Oper} {x : X} {l : List Nat} (h : wrOk l (opFp E ops o x).ro x.ob.length = true) : (∀ m ∈ l, (rdR x (opFp E ops o x)).o m = getO x.ob m) ∧ ∀ m ∈ l, m < x.ob.length := by
  refine ⟨fun m hm => ?_, fun m hm => (wrOk_iff h m hm).2⟩
  have := (wrOk_iff h m hm).1
  simp [rdR, memN_iff.2 this]
theorem Fine.of {C : Ctx} {x : X} {a : Act} {w w' : World} {S' : Side} {obs : List (Nat × Obe)} (I' : Inv C S' ⟨x.sl, putO x.ob obs⟩ a w') {o : Oper} {v : VT} {u : Value} (h : (execOp a.eval o).run P w = .ok (.value u) w') (hv : VTV S' (putO x.ob obs) w' v u) :
    Fine P C o a w x ⟨some v, obs⟩ := by
  refine ⟨u, w', .inl h, S', ?_⟩
  have := I'.put o.dst (some v) u (fun v' e => by cases e; exact hv)
  cases hd : o.dst <;> rw [hd] at this <;> exact this
theorem Side.put_hd (S : Side) (n : Nat) (hd : Option Addr × Nat) (fp : List Nat) (okx : Nat → Prop) : (S.put n hd fp okx).hd n = hd := by simp [Side.put]
theorem Side.put_fp (S : Side) (n : Nat) (hd : Option Addr × Nat) (fp : List Nat) (okx : Nat → Prop) : (S.put n hd fp okx).fp n = fp := by simp [Side.put]
theorem new_var {C : Ctx} {x : X} {a : Act} (I : Inv C S x a w) {r : Rd} {n : Nat} (hr : r.o n = getO x.ob n) (hlt : n < x.ob.length) {v : VT} {arr : Array Value} (e : TypeId) (hv : VTC S x.ob w v arr.toList) :
    Inv C (S.put n (some ⟨w.heap.size, 0, none⟩, 0) [w.heap.size] (fun _ => False)) ⟨x.sl, putO x.ob [newO r n (.var v)]⟩ a (w.alloc (.cells arr e)) ∧
      VTV (S.put n (some ⟨w.heap.size, 0, none⟩, 0) [w.heap.size] (fun _ => False)) (putO x.ob [newO r n (.var v)]) (w.alloc (.cells arr e)) (newPt r n) (.pointer (some ⟨w.heap.size, 0, none⟩)) := by
  obtain ⟨I', hv', hnew⟩ := I.make (r := r) (n := n) (l := []) (by simpa using hr) (by simpa using hlt) (by simp) (fun o ho => by cases ho) (.var v) (some ⟨w.heap.size, 0, none⟩, 0) [w.heap.size] (fun _ => False) (w' := w.alloc (.cells arr e))
    (fun b hb _ => alloc_old w _ hb) (by rw [alloc_size]; omega) (fun b hb => by simp at hb; subst hb; exact .inr ⟨Nat.le_refl _, by rw [alloc_size]; omega⟩) (by simp) (fun b h => h.elim) rfl ⟨rfl, Nat.le_refl _⟩ rfl
    (fun hv' => ⟨_, _, by rw [Side.put_hd], hv_alloc_new w arr e, hv' _ _ hv, by rw [Side.put_fp]⟩)
  exact ⟨I', newPt_VTV hnew (Side.put_hd _ _ _ _ _)⟩
end
end Go.Vm
set_option linter.unusedVariables false
set_option linter.unusedSimpArgs false
namespace Go.Vm
open Go Go.RowKit
section
variable {P : Program} {S : Side} {ob : List Obe} {w : World}
theorem rep_get (zc : List Value) : ∀ (c j : Nat), j < c * zc.length → (List.replicate c zc).flatten[j]? = zc[j % zc.length]?
  | 0, j, h => by simp at h
  | c + 1, j, h => by
    rw [List.replicate_succ, List.flatten_cons]
    by_cases hj : j < zc.length
    · rw [List.getElem?_append_left hj, Nat.mod_eq_of_lt hj]
    · rw [List.getElem?_append_right (by omega), rep_get zc c (j - zc.length) (by rw [Nat.succ_mul] at h; omega), ← Nat.mod_eq_sub_mod (by omega)]
theorem rep_len (zc : List Value) (c : Nat) : (List.replicate c zc).flatten.length = c * zc.length := by
  induction c with
  | zero => simp
  | succ c ih => rw [List.replicate_succ, List.flatten_cons, List.length_append, ih, Nat.succ_mul]; omega
theorem range_rep (z : Array Value) (c : Nat) : ((Array.range (c * z.size)).map (z[· % z.size]!)).toList = (List.replicate c z.toList).flatten := by
  apply List.ext_getElem?
  intro j
  by_cases hj : j < c * z.size
  · rw [rep_get _ _ _ (by simpa using hj)]
    have hz : j % z.size < z.size := Nat.mod_lt _ (by rcases Nat.eq_zero_or_pos z.size with h | h; · rw [h] at hj; simp at hj
                                                      · exact h)
    simp [hj, hz]
  · rw [List.getElem?_eq_none (by simp; omega), List.getElem?_eq_none (by rw [rep_len]; simpa using hj)]
theorem RowsF_rep {α : Type} {R : List Value → α → List Nat → Prop} {sz : Nat} {x : α} {c : List Value} (hc : c.length = sz) (h : R c x []) : ∀ (n m : Nat), n ≤ m → RowsF R sz (List.replicate m c).flatten (List.replicate n x) []
  | 0, _, _ => rfl
  | n + 1, 0, h' => by omega
  | n + 1, m + 1, h' => ⟨c, (List.replicate m c).flatten, [], [], by simp [List.replicate_succ], hc, rfl, h, RowsF_rep hc h n m (by omega)⟩
theorem new_arr {C : Ctx} {x : X} {a : Act} (I : Inv C S x a w) {r : Rd} {n : Nat} {l : List Nat} (hr : ∀ m ∈ n :: l, r.o m = getO x.ob m) (hlt : ∀ m ∈ n :: l, m < x.ob.length) (hnl : n ∉ l) (hl : ∀ o ∈ l, ∀ c, (getO x.ob o).c = some c → c.isRv = false) {t : Ty} {xs : List t.D} {nn : Bool} {A : Option Addr} {cap : Nat} {F : List Nat} {w' : World}
    (hheap : ∀ b, b < w.heap.size → (∀ o ∈ l, ∀ c, (getO x.ob o).c = some c → b ∉ S.fp o) → w'.heap[b]? = w.heap[b]?) (hsz : w.heap.size ≤ w'.heap.size)
    (hfp : ∀ b ∈ F, (∃ o ∈ l, ∃ c, (getO x.ob o).c = some c ∧ b ∈ S.fp o) ∨ (w.heap.size ≤ b ∧ b < w'.heap.size)) (hnd : F.Nodup)
    (h1 : w'.os = w.os) (h2 : Ahead w w') (h3 : w'.output = w.output)
    (ho : OwnS (hv w') (Own (hv w') t) t.cells A cap xs F) (hnn : nn = true → A ≠ none) :
    Inv C (S.put n (A, cap) F (fun _ => False)) ⟨x.sl, putO x.ob (gone r l ++ [newO r n (.arr t xs nn)])⟩ a w' ∧
      VTV (S.put n (A, cap) F (fun _ => False)) (putO x.ob (gone r l ++ [newO r n (.arr t xs nn)])) w' (newSl r n) (.slice A (List.length xs) cap) := by
  obtain ⟨I', _, hnew⟩ := I.make hr hlt hnl hl (.arr t xs nn) (A, cap) F (fun _ => False) hheap hsz hfp hnd (fun b h => h.elim) h1 h2 h3
    (fun _ => ⟨by rw [Side.put_hd, Side.put_fp]; exact ho, by rw [Side.put_hd]; exact hnn⟩)
  exact ⟨I', newSl_VTV hnew (Side.put_hd _ _ _ _ _)⟩
theorem makeSlice_sound {C : Ctx} {x : X} {a : Act} (I : Inv C S x a w) {T : Tab} (hT : TabOk P T) {r : Rd} {n : Nat} (hr : r.o n = getO x.ob n) (hlt : n < x.ob.length) {t : Nat} {te : TE} (ht : T.find t = some te) {t' : Ty} (hty : te.ty = .sl t') (hd : t'.data = true) {k k' : IntKind} {l c : Int} (h0 : 0 ≤ l) (h1 : l ≤ c) (h2 : c ≤ 1073741824) :
    ∃ u w' S', (Instr.makeSlice t (.int k l) (.int k' c)).run P w = .ok u w' ∧ Inv C S' ⟨x.sl, putO x.ob [newO r n (.arr t' (List.replicate l.toNat t'.zero) true)]⟩ a w' ∧ VTV S' (putO x.ob [newO r n (.arr t' (List.replicate l.toNat t'.zero) true)]) w' (newSl r n) u := by
  obtain ⟨e, te', _, hu, h3, h4⟩ := sl_of hT ht hty
  obtain ⟨i, z, hi, hsize, hby, hz, hzc⟩ := hT.inf h3
  rw [h4] at hsize hzc
  have hzl := zcB_zc hzc hd
  rw [List.append_nil] at hzl
  have hzs : z.cells.size = i.size := by rw [hsize, ← Array.length_toList, hzl]; exact Own_len (zc_own (H := hv w) hd)
  have hbytes : (i.bytes : Int) * c ≤ 281474976710656 := by
    have : (i.bytes : Int) * c ≤ 131072 * 1073741824 := Int.mul_le_mul (by omega) h2 (by omega) (by omega)
    omega
  have hrun := run_make (P := P) w t e i z hu hi hz k k' l c h0 h1 hbytes (by omega)
  have hcells : (madeCells z.cells (c.toNat * i.size)).toList = (List.replicate c.toNat t'.zc).flatten := by
    rw [← hzl, ← hzs]
    exact range_rep z.cells c.toNat
  have hzcl : t'.zc.length = t'.cells := Own_len (zc_own (H := hv w) hd)
  have hown : OwnS (hv (w.alloc (.cells (madeCells z.cells (c.toNat * i.size)) e))) (Own (hv (w.alloc (.cells (madeCells z.cells (c.toNat * i.size)) e))) t') t'.cells (some ⟨w.heap.size, 0, none⟩) c.toNat (List.replicate l.toNat t'.zero) [w.heap.size] := by
    refine .inr ⟨w.heap.size, 0, _, [], rfl, hv_alloc_new w _ e, ?_, ?_, ?_, rfl⟩
    · rw [hcells, rep_len, hzcl]; omega
    · simp; omega
    · rw [hcells, List.drop_zero]
      exact RowsF_rep hzcl (zc_own hd) _ _ (by omega)
  obtain ⟨I', hv'⟩ := new_arr I (r := r) (n := n) (l := []) (by simpa using hr) (by simpa using hlt) (by simp) (fun o ho => by cases ho) (nn := true) (w' := w.alloc (.cells (madeCells z.cells (c.toNat * i.size)) e))
    (fun b hb _ => alloc_old w _ hb) (by rw [alloc_size]; omega) (fun b hb => by simp at hb; subst hb; exact .inr ⟨Nat.le_refl _, by rw [alloc_size]; omega⟩) (by simp) rfl ⟨rfl, Nat.le_refl _⟩ rfl hown (fun _ => by simp)
  refine ⟨_, _, _, hrun, I', ?_⟩
  have hlen : (List.replicate l.toNat t'.zero).length = l.toNat := by simp
  rw [hlen] at hv'
  exact hv'
theorem nil_obj {C : Ctx} {x : X} {a : Act} (I : Inv C S x a w) {r : Rd} {n : Nat} (hr : r.o n = getO x.ob n) (hlt : n < x.ob.length) (t : Ty) :
    ∃ S', Inv C S' ⟨x.sl, putO x.ob [newO r n (.arr t [] false)]⟩ a w ∧ VTV S' (putO x.ob [newO r n (.arr t [] false)]) w (newSl r n) (.slice none 0 0) := by
  obtain ⟨I', hv'⟩ := new_arr I (r := r) (n := n) (l := []) (by simpa using hr) (by simpa using hlt) (by simp) (fun o ho => by cases ho) (t := t) (xs := []) (nn := false) (A := none) (cap := 0) (F := []) (w' := w)
    (fun b hb _ => rfl) (Nat.le_refl _) (fun b hb => by simp at hb) (by simp) rfl ⟨rfl, Nat.le_refl _⟩ rfl (.inl ⟨rfl, rfl, rfl⟩) (by simp)
  exact ⟨_, I', hv'⟩
theorem RowsF_drop {α : Type} {R : List Value → α → List Nat → Prop} {sz : Nat} : ∀ {xs : List α} {cs : List Value} {F : List Nat} (n : Nat), n ≤ xs.length → RowsF R sz cs xs F → ∃ G, RowsF R sz (cs.drop (n * sz)) (xs.drop n) G ∧ G.Sublist F
  | _, _, F, 0, _, h => ⟨F, by simpa using h, List.Sublist.refl _⟩
  | [], _, _, n + 1, h, _ => by simp at h
  | x :: xs, _, F, n + 1, hn, ⟨c1, c2, F1, F2, e, l, eF, h1, h2⟩ => by
    subst e; subst eF
    obtain ⟨G, hg, hs⟩ := RowsF_drop n (by simpa using hn) h2
    refine ⟨G, ?_, hs.trans (List.sublist_append_right _ _)⟩
    rw [show (n + 1) * sz = c1.length + n * sz by rw [l, Nat.succ_mul]; omega, ← List.drop_drop]
    simpa using hg
theorem RowsF_take {α : Type} {R : List Value → α → List Nat → Prop} {sz : Nat} : ∀ {xs : List α} {cs : List Value} {F : List Nat} (n : Nat), RowsF R sz cs xs F → ∃ G, RowsF R sz cs (xs.take n) G ∧ G.Sublist F
  | _, _, F, 0, _ => ⟨[], by simp [RowsF], List.nil_sublist _⟩
  | [], _, F, n + 1, h => ⟨F, by simpa using h, List.Sublist.refl _⟩
  | x :: xs, _, F, n + 1, ⟨c1, c2, F1, F2, e, l, eF, h1, h2⟩ => by
    subst eF
    obtain ⟨G, hg, hs⟩ := RowsF_take n h2
    exact ⟨F1 ++ G, ⟨c1, c2, F1, G, e, l, rfl, h1, hg⟩, List.Sublist.append (List.Sublist.refl _) hs⟩
theorem OwnS_cut {H : Nat → Option (List Value)} {t : Ty} {A : Option Addr} {cap : Nat} {xs : List t.D} {F : List Nat} (h : OwnS H (Own H t) t.cells A cap xs F) {a b : Option Int} (hin : inB xs.length a b) :
    ∃ G, OwnS H (Own H t) t.cells (if cap = bndL a then A else A.map (·.add (bndL a * t.cells))) (cap - bndL a) (cutL a b xs) G ∧ G.Sublist F := by
  obtain ⟨hle, hlen⟩ := inB_spec hin
  rcases h with ⟨rfl, rfl, rfl⟩ | ⟨b1, off, l, G, rfl, hb, hcap, hl, hr, rfl⟩
  · refine ⟨[], .inl ⟨by omega, ?_, rfl⟩, List.Sublist.refl _⟩
    rw [cutL_eq]; simp
  · by_cases hc : cap = bndL a
    · refine ⟨[], .inl ⟨by omega, ?_, rfl⟩, List.nil_sublist _⟩
      rw [cutL_eq]
      apply List.eq_nil_of_length_eq_zero
      rw [List.length_drop, List.length_take]; omega
    · rw [if_neg hc]
      obtain ⟨G1, hg1, hs1⟩ := RowsF_take (bndH xs.length b) hr
      obtain ⟨G2, hg2, hs2⟩ := RowsF_drop (bndL a) (by rw [List.length_take]; omega) hg1
      rw [List.drop_drop] at hg2
      have hmul : bndL a * t.cells ≤ cap * t.cells := Nat.mul_le_mul_right _ (by omega)
      refine ⟨b1 :: G2, .inr ⟨b1, off + bndL a * t.cells, l, G2, by simp [add_plain], hb, ?_, ?_, by rw [cutL_eq]; exact hg2, rfl⟩, (hs2.trans hs1).cons_cons b1⟩
      · rw [Nat.sub_mul]; omega
      · rw [cutL_eq, List.length_drop, List.length_take]; omega
end
end Go.Vm
set_option linter.unusedVariables false
set_option linter.unusedSimpArgs false
namespace Go.Vm
open Go Go.RowKit
section
variable {P : Program} {S : Side} {w : World}
def AllLive (r : Rd) (x : X) (l : List Nat) : Prop := ∀ o ∈ l, r.o o = getO x.ob o ∧ ∃ c, (getO x.ob o).c = some c ∧ c.isRv = false
theorem AllLive.rv {r : Rd} {x : X} {l : List Nat} (h : AllLive r x l) : ∀ o ∈ l, ∀ c, (getO x.ob o).c = some c → c.isRv = false := fun o ho c hc => by
  obtain ⟨_, c', h1, h2⟩ := h o ho
  rw [hc] at h1
  cases h1
  exact h2
theorem Rd_own {C : Ctx} {x : X} {a : Act} (I : Inv C S x a w) {r : Rd} (R : RdOk r x) : ∀ {t : Ty} {v : VT} {y : t.D} {l : List Nat} {cs : List Value}, r.own t v = some (y, l) → VTC S x.ob w v cs → Own (hv w) t cs y (l.flatMap S.fp) ∧ AllLive r x l := by
  have hva : ∀ (t : Ty) (t' : Ty) (z : t'.D) (y : t.D) (l : List Nat) (cs : List Value), cond t.flat ((Dy.as ⟨t', z⟩ t).map fun y => (y, ([] : List Nat))) none = some (y, l) → VTC S x.ob w (.va t' z) cs → Own (hv w) t cs y (l.flatMap S.fp) ∧ AllLive r x l := by
    intro t t' z y l cs h hc
    cases hf : t.flat <;> rw [hf] at h
    · cases h
    · simp only [cond_true, Option.map_eq_some_iff] at h
      obtain ⟨y', h, e⟩ := h
      injection e with e1 e2
      subst e1; subst e2
      have := Dy_as h
      injection this with e1 e2
      subst e1
      cases e2
      exact ⟨(Own_flat hf).2 ⟨(RO_flat hf).1 hc, rfl⟩, fun o ho => by cases ho⟩
  intro t
  induction t with
  | int k | bool | str | op =>
    intro v y l cs h hc
    cases v <;> simp only [Rd.own] at h <;> first | exact hva _ _ _ _ _ _ h hc | cases h
  | un =>
    intro v y l cs h hc
    cases v <;> simp only [Rd.own] at h <;> first | exact hva _ _ _ _ _ _ h hc | (cases h; done) | skip
    cases h
    exact ⟨⟨hc, rfl⟩, fun o ho => by cases ho⟩
  | pr t1 t2 iha ihb =>
    intro v y l cs h hc
    cases v <;> simp only [Rd.own] at h <;> first | exact hva _ _ _ _ _ _ h hc | (cases h; done) | skip
    rename_i v u
    rw [Option.bind_eq_some_iff] at h
    obtain ⟨⟨y1, l1⟩, h1, h⟩ := h
    rw [Option.map_eq_some_iff] at h
    obtain ⟨⟨y2, l2⟩, h2, e⟩ := h
    injection e with e1 e2
    subst e1; subst e2
    obtain ⟨c1, c2, e, hc1, hc2⟩ := hc
    obtain ⟨k1, k2⟩ := iha h1 hc1
    obtain ⟨k3, k4⟩ := ihb h2 hc2
    refine ⟨⟨c1, c2, _, _, e, by simp, k1, k3⟩, fun o ho => ?_⟩
    rcases List.mem_append.1 ho with ho | ho
    · exact k2 o ho
    · exact k4 o ho
  | sl t ih =>
    intro v y l cs h hc
    cases v with
    | va t' z => simp only [Rd.own] at h; exact hva _ _ _ _ _ _ h hc
    | nl =>
      simp only [Rd.own] at h
      cases h
      exact ⟨⟨none, 0, hc, .inl ⟨rfl, rfl, rfl⟩⟩, fun o ho => by cases ho⟩
    | em =>
      simp only [Rd.own] at h
      cases h
      obtain ⟨A, hc⟩ := hc
      exact ⟨⟨A, 0, hc, .inl ⟨rfl, rfl, rfl⟩⟩, fun o ho => by cases ho⟩
    | sl o g hh p win =>
      cases p with
      | cons s p => simp [Rd.own] at h
      | nil =>
        cases win with
        | some q => simp [Rd.own] at h
        | none =>
          simp only [Rd.own] at h
          rw [Option.bind_eq_some_iff] at h
          obtain ⟨d, hd, h⟩ := h
          rw [Option.map_eq_some_iff] at h
          obtain ⟨z, hz, e⟩ := h
          injection e with e1 e2
          subst e1; subst e2
          obtain ⟨v0, rfl, h1, h2, h3⟩ := hc
          obtain ⟨t0, xs, nn, te, _, _, _, ys, hob, hg, hph, hgp, hty, hdeq, hro, hall, _⟩ := slice_own I R hd
          obtain ⟨A, n, cap, F', hn, hwin, hown, hF, hnil⟩ := hall v0 h3
          obtain ⟨n1, n2⟩ := hnil rfl
          have := Dy_as hz
          rw [hdeq] at this
          injection this with e1 e2
          injection e1 with e1
          subst e1
          cases e2
          simp only [winR] at hwin
          subst hwin
          subst hn
          refine ⟨⟨A, cap, rfl, ?_⟩, fun o' ho' => by simp at ho'; subst ho'; exact ⟨hro, _, hob, rfl⟩⟩
          simp only [List.flatMap_cons, List.flatMap_nil, List.append_nil]
          rw [← n2]
          exact hown
    | _ => simp [Rd.own] at h
theorem fps_nodup {C : Ctx} {x : X} {a : Act} (I : Inv C S x a w) {r : Rd} : ∀ {l : List Nat}, AllLive r x l → l.Nodup → (l.flatMap S.fp).Nodup
  | [], _, _ => by simp
  | o :: l, hl, hn => by
    simp only [List.flatMap_cons]
    obtain ⟨_, c, hc, _⟩ := hl o (by simp)
    rw [List.nodup_append]
    refine ⟨(I.objs o c hc).2.1, fps_nodup I (fun o' ho' => hl o' (by simp [ho'])) (List.nodup_cons.1 hn).2, ?_⟩
    intro b hb b' hb' e
    subst e
    rw [List.mem_flatMap] at hb'
    obtain ⟨o', ho', hb'⟩ := hb'
    obtain ⟨_, c', hc', _⟩ := hl o' (by simp [ho'])
    exact I.sep o o' c c' (fun e => (List.nodup_cons.1 hn).1 (e ▸ ho')) hc hc' b hb hb'
theorem Rows_one {ok : Nat → Prop} {c : Nat → Nat → Option Value} {t : Ty} : ∀ {xs : List t.D} {cs : List Value}, cs.length = xs.length * t.cells → Rows (RO ok c t) t.cells cs xs → ∀ u ∈ cs, u.oneCell' = true
  | [], cs, hl, _, u, hu => by
    simp at hl
    subst hl
    cases hu
  | x :: xs, _, hl, ⟨c1, c2, e, l, h1, h2⟩, u, hu => by
    subst e
    rcases List.mem_append.1 hu with hu | hu
    · exact RO_one h1 u hu
    · exact Rows_one (by simp [Nat.succ_mul, l] at hl; omega) h2 u hu
theorem RowsF_one {H : Nat → Option (List Value)} {t : Ty} : ∀ {xs : List t.D} {cs : List Value} {F : List Nat}, cs.length = xs.length * t.cells → RowsF (Own H t) t.cells cs xs F → ∀ u ∈ cs, u.oneCell' = true
  | [], cs, _, hl, _, u, hu => by
    simp at hl
    subst hl
    cases hu
  | x :: xs, _, F, hl, ⟨c1, c2, F1, F2, e, l, eF, h1, h2⟩, u, hu => by
    subst e
    rcases List.mem_append.1 hu with hu | hu
    · exact Own_one h1 u hu
    · exact RowsF_one (by simp [Nat.succ_mul, l] at hl; omega) h2 u hu
theorem Rows_flat {ok : Nat → Prop} {c : Nat → Nat → Option Value} {H : Nat → Option (List Value)} {t : Ty} (hf : t.flat = true) : ∀ {xs : List t.D} {cs : List Value}, Rows (RO ok c t) t.cells cs xs → RowsF (Own H t) t.cells cs xs []
  | [], cs, _ => rfl
  | x :: xs, _, ⟨c1, c2, e, l, h1, h2⟩ => ⟨c1, c2, [], [], e, l, rfl, (Own_flat hf).2 ⟨(RO_flat hf).1 h1, rfl⟩, Rows_flat hf h2⟩
structure Source (P : Program) (S : Side) (w : World) (t : Ty) (tx : TypeId) (u : Value) (ys : List t.D) (G : List Nat) (news : List Value) : Prop where
  src : Src P t.cells tx u ys.length news w
  rows : RowsF (Own (hv w) t) t.cells news ys G
  len : news.length = ys.length * t.cells
def srcOf (r : Rd) (t : Ty) (b : VT) : Option (List t.D × List Nat) := cond t.flat ((r.val (.sl t) b).map fun v => (v, [])) (r.own (.sl t) b)
theorem sl_one {v : VT} {cs : List Value} {ob : List Obe} (h : VTC S ob w v cs) (hl : cs.length = 1) (u : Value) (e : u = mkV v cs) (ha : v.isAgg = false) : cs = [u] := by
  obtain ⟨z, rfl⟩ := List.length_eq_one_iff.1 hl
  rw [e]
  unfold mkV
  rw [ha]; rfl
theorem source_of {C : Ctx} {x : X} {a : Act} (I : Inv C S x a w) {r : Rd} (R : RdOk r x) {t : Ty} {b : VT} {ys : List t.D} {l : List Nat} {tx e' : TypeId} (hk : P.underlying tx = some (.slice e')) {ub : Value} (h : srcOf r t b = some (ys, l)) (hv' : VTV S x.ob w b ub) :
    ∃ G news, Source P S w t tx ub ys G news ∧ AllLive r x l ∧ (l.Nodup → G.Nodup) ∧ (∀ c ∈ G, c ∈ l.flatMap S.fp) := by
  have hcs : ∀ {z : Option (List t.D × List Nat)}, srcOf r t b = z → z ≠ none → ∃ cs, VTC S x.ob w b cs ∧ ub = mkV b cs := by
    intro z hz hn
    refine VTV_of hv' (fun q e => ?_) (fun e => ?_)
    · subst e; unfold srcOf at hz; cases hf : t.flat <;> rw [hf] at hz <;> simp [Rd.val, Rd.own] at hz <;> exact hn hz.symm
    · subst e; unfold srcOf at hz; cases hf : t.flat <;> rw [hf] at hz <;> simp [Rd.val, Rd.own] at hz <;> exact hn hz.symm
  obtain ⟨cs, hc, rfl⟩ := hcs h (by simp)
  unfold srcOf at h
  cases hf : t.flat <;> rw [hf] at h
  · simp only [cond_false] at h
    obtain ⟨ho, hlive⟩ := Rd_own I R h hc
    obtain ⟨A, cap, rfl, ho⟩ := ho
    have hmk : mkV b [.slice A (List.length ys) cap] = .slice A (List.length ys) cap := by
      unfold mkV
      cases b with
      | va t' z => simp [Rd.own, Ty.flat] at h
      | pr v u => simp [Rd.own] at h
      | un => simp [Rd.own] at h
      | _ => rfl
    rw [hmk]
    rcases ho with ⟨rfl, rfl, e⟩ | ⟨b1, off, L, G, rfl, hb, hcap, hlen, hr, e⟩
    · refine ⟨[], [], ⟨?_, rfl, by simp⟩, hlive, fun _ => List.nodup_nil, fun c hc => by cases hc⟩
      cases A with
      | none => exact Src.ofNil (P := P) w hk 0
      | some a => exact Src.ofSlice (P := P) w hk a 0 0 [] (by simp) (fun j u hu => by simp at hu) (fun u hu => by cases hu)
    · have hrl := RowsF_len hr
      have hnl : ((L.drop off).take (List.length ys * t.cells)).length = List.length ys * t.cells := by rw [List.length_take]; omega
      have hr' := RowsF_cut _ (Nat.le_refl _) hr
      refine ⟨G, (L.drop off).take (List.length ys * t.cells), ⟨Src.ofSlice (P := P) w hk _ _ _ _ hnl (fun j u hu => ?_) (RowsF_one hnl hr'), hr', hnl⟩, hlive, fun hn => ?_, fun c hc => ?_⟩
      · rw [List.getElem?_take] at hu
        split at hu
        · rw [add_plain]
          have := hv_cv hb (off + j)
          unfold cv at this
          rw [this]
          simpa [List.getElem?_drop] using hu
        · cases hu
      · have := fps_nodup I hlive hn
        rw [e] at this
        exact (List.nodup_cons.1 this).2
      · rw [e]; simp [hc]
  · simp only [cond_true, Option.map_eq_some_iff] at h
    obtain ⟨y, h, e⟩ := h
    injection e with e1 e2
    subst e1; subst e2
    have hro := Rd_val I R h hc
    obtain ⟨A, cap, rfl, hcap, hro⟩ := hro
    have hmk : mkV b [.slice A (List.length y) cap] = .slice A (List.length y) cap := by
      unfold mkV
      cases b <;> simp [Rd.val] at h <;> simp [VT.isAgg]
      rename_i t' z
      have := Dy_as h
      injection this with e1 e2
      subst e1
      simp [Ty.agg]
    rw [hmk]
    refine ⟨[], ?_⟩
    by_cases hy : y = []
    · subst hy
      refine ⟨[], ⟨?_, rfl, by simp⟩, (fun o ho => by cases ho), (fun _ => List.nodup_nil), (fun c hc => by cases hc)⟩
      cases A with
      | none => exact Src.ofNil (P := P) w hk cap
      | some a => exact Src.ofSlice (P := P) w hk a 0 cap [] (by simp) (fun j u hu => by simp at hu) (fun u hu => by cases hu)
    · obtain ⟨b1, off, rfl, hb, ccs, hcl, hli, hr⟩ := hro hy
      refine ⟨ccs, ⟨Src.ofSlice (P := P) w hk _ _ _ _ hcl (fun j u hu => ?_) (Rows_one hcl hr), Rows_flat hf hr, hcl⟩, (fun o ho => by cases ho), (fun _ => List.nodup_nil), (fun c hc => by cases hc)⟩
      rw [add_plain]
      exact hli j u hu
theorem append_args {as : List TypeId} {ty : TypeId} {t tx : TypeId} (h0 : as[0]? = some t) (h1 : as[1]? = some tx) (args : Array Value) : Builtin.append_ as.toArray ty args = Builtin.append_ #[t, tx] ty args := by
  unfold Builtin.append_
  simp [h0, h1]
theorem append_sound {C : Ctx} {x : X} {a : Act} (I : Inv C S x a w) {T : Tab} (hT : TabOk P T) {r : Rd} {n : Nat} {l : List Nat} {t : Ty} (hcell : t.cells ≠ 0) (hd : t.data = true) {tid e : TypeId} {te : TE} (hu : P.underlying tid = some (.slice e)) (hte : T.find e = some te) (hty : te.ty = t)
    (hr : ∀ m ∈ n :: l, r.o m = getO x.ob m) (hlt : ∀ m ∈ n :: l, m < x.ob.length) (hnl : n ∉ l) (hrv : ∀ o ∈ l, ∀ c, (getO x.ob o).c = some c → c.isRv = false) {A : Option Addr} {cap : Nat} {xs : List t.D} {F : List Nat} (ho : OwnS (hv w) (Own (hv w) t) t.cells A cap xs F)
    (hFl : ∀ b ∈ F, ∃ o ∈ l, ∃ c, (getO x.ob o).c = some c ∧ b ∈ S.fp o) (hFn : F.Nodup) {tx ty : TypeId} {ub : Value} {ys : List t.D} {G : List Nat} {news : List Value} (hsrc : Source P S w t tx ub ys G news)
    (hGl : ∀ b ∈ G, ∃ o ∈ l, ∃ c, (getO x.ob o).c = some c ∧ b ∈ S.fp o) (hGn : G.Nodup) (hFG : ∀ b ∈ F, b ∉ G) (hlim : xs.length + ys.length ≤ 1073741824) :
    ∃ u w' S', (Builtin.append_ #[tid, tx] ty #[.slice A xs.length cap, ub]).run P w = .ok u w' ∧ Inv C S' ⟨x.sl, putO x.ob (gone r l ++ [newO r n (.arr t (xs ++ ys) (!ys.isEmpty))])⟩ a w' ∧
      VTV S' (putO x.ob (gone r l ++ [newO r n (.arr t (xs ++ ys) (!ys.isEmpty))])) w' (newSl r n) u := by
  obtain ⟨i, z, hi, hsize, hby, hz, hzc⟩ := hT.inf hte
  rw [hty] at hsize hzc
  have hzl := zcB_zc hzc hd
  rw [List.append_nil] at hzl
  have hzs : z.cells.size = t.cells := by rw [← Array.length_toList, hzl]; exact Own_len (zc_own (H := hv w) hd)
  have hsrc' := hsrc.src
  rw [← hsize] at hsrc'
  have hlen : (xs ++ ys).length = xs.length + ys.length := List.length_append
  by_cases hroom : xs.length + ys.length ≤ cap
  · -- there is room
    rcases ho with ⟨rfl, rfl, rfl⟩ | ⟨b, off, L, G0, rfl, hb, hcap, hl, hrows, rfl⟩
    · -- nothing to append to, and nothing appended
      have hy : ys = [] := by
        apply List.eq_nil_of_length_eq_zero
        simp at hroom
        simp [hroom]
      subst hy
      have hrun := run_append_nothing (P := P) w tid tx ty e i hu hi A 0 0 (Nat.le_refl _) ub (by
        have h := hsrc'
        have hn : news = [] := List.eq_nil_of_length_eq_zero (by rw [hsrc.len]; simp)
        rw [hn] at h
        exact h)
      obtain ⟨I', hv'⟩ := new_arr I (r := r) (n := n) (l := l) hr hlt hnl hrv (t := t) (xs := []) (nn := false) (A := A) (cap := 0) (F := []) (w' := w)
        (fun b hb _ => rfl) (Nat.le_refl _) (fun b hb => by simp at hb) (by simp) rfl ⟨rfl, Nat.le_refl _⟩ rfl (.inl ⟨rfl, rfl, rfl⟩) (by simp)
      exact ⟨_, _, _, hrun, I', hv'⟩
    · have hmul : xs.length * t.cells + ys.length * t.cells ≤ cap * t.cells := by rw [← Nat.add_mul]; exact Nat.mul_le_mul_right _ hroom
      have hnl' := hsrc.len
      have hrun := run_append_room_src (P := P) w tid tx ty e i hu hi b off xs.length cap ub ys.length news hsrc' hroom
        (fun j hj => by
          have := hv_cv hb (off + xs.length * i.size + j)
          unfold cv at this
          rw [this, hsize, List.getElem?_eq_getElem (by omega)]; rfl)
        (fun j hj => hv_frozen hb _)
      rw [hsize] at hrun
      obtain ⟨w1, w2, w3, w4, w5, w6⟩ := setCells_heap news (off + xs.length * t.cells) w hb (by omega)
      have hfin : RowsF (Own (hv (w.setCells b (off + xs.length * t.cells) news)) t) t.cells ((setC L (off + xs.length * t.cells) news).drop off) (xs ++ ys) (G0 ++ G) := by
        have hbG0 : ∀ c ∈ G0, c ≠ b := fun c hc e => (List.nodup_cons.1 hFn).1 (e ▸ hc)
        have hbG : ∀ c ∈ G, c ≠ b := fun c hc e => hFG b (by simp) (e ▸ hc)
        have hstay : ∀ c, c ≠ b → hv (w.setCells b (off + xs.length * t.cells) news) c = hv w c := fun c hc => hv_same (w3 c hc)
        have hrl := RowsF_len hrows
        rw [List.length_drop] at hrl
        have hx : RowsF (Own (hv (w.setCells b (off + xs.length * t.cells) news)) t) t.cells ((L.drop off).take (xs.length * t.cells)) xs G0 :=
          RowsF_mono (fun cs x G' hG h => Own_mono (fun c hc => hstay c (hbG0 c (hG c hc))) h) (RowsF_cut _ (Nat.le_refl _) hrows)
        have hy : RowsF (Own (hv (w.setCells b (off + xs.length * t.cells) news)) t) t.cells news ys G :=
          RowsF_mono (fun cs x G' hG h => Own_mono (fun c hc => hstay c (hbG c (hG c hc))) h) hsrc.rows
        have hxy := RowsF_append (by rw [List.length_take, List.length_drop]; omega) hx hy
        refine RowsF_of_prefix ?_ ?_ hxy
        · rw [hlen, Nat.add_mul, List.take_of_length_le (by rw [List.length_append, List.length_take, List.length_drop]; omega)]
          apply List.ext_getElem?
          intro j
          rw [List.getElem?_take]
          split
          · rename_i hj
            rw [List.getElem?_drop]
            by_cases h1 : j < xs.length * t.cells
            · rw [List.getElem?_append_left (by rw [List.length_take, List.length_drop]; omega), List.getElem?_take, if_pos h1, List.getElem?_drop, setC_get (by omega) _ (.inl (by omega))]
            · rw [List.getElem?_append_right (by rw [List.length_take, List.length_drop]; omega), List.length_take, List.length_drop, Nat.min_eq_left (by omega)]
              obtain ⟨k, rfl⟩ : ∃ k, j = xs.length * t.cells + k := ⟨j - xs.length * t.cells, by omega⟩
              rw [← Nat.add_assoc, setC_in (by omega) k (by omega)]
              congr 1; omega
          · rw [List.getElem?_eq_none]
            rw [List.length_append, List.length_take, List.length_drop]; omega
        · rw [hlen, List.length_drop, setC_len (by omega), Nat.add_mul]; omega
      obtain ⟨I', hv'⟩ := new_arr I (r := r) (n := n) (l := l) hr hlt hnl hrv (t := t) (xs := xs ++ ys) (nn := !ys.isEmpty) (A := some ⟨b, off, none⟩) (cap := cap) (F := b :: (G0 ++ G)) (w' := w.setCells b (off + xs.length * t.cells) news)
        (fun c hc hno => w3 c (fun e => by
          subst e
          obtain ⟨o, ho, c', hc', hm⟩ := hFl c (by simp)
          exact hno o ho c' hc' hm)) (by rw [w2]; exact Nat.le_refl _)
        (fun c hc => .inl (by
          rcases List.mem_cons.1 hc with rfl | hc
          · exact hFl c (by simp)
          · rcases List.mem_append.1 hc with hc | hc
            · exact hFl c (by simp [hc])
            · exact hGl c hc))
        (by
          rw [List.nodup_cons, List.nodup_append]
          refine ⟨fun h => ?_, (List.nodup_cons.1 hFn).2, hGn, fun c hc c' hc' e => hFG c (by simp [hc]) (e ▸ hc')⟩
          rcases List.mem_append.1 h with h | h
          · exact (List.nodup_cons.1 hFn).1 h
          · exact hFG b (by simp) h)
        w4 w5 w6
        (.inr ⟨b, off, _, G0 ++ G, rfl, w1, by rw [setC_len (by omega)]; exact hcap, by rw [hlen]; exact hroom, hfin, rfl⟩) (fun _ => by simp)
      rw [hlen] at hv'
      exact ⟨_, _, _, hrun, I', hv'⟩
  · -- a new row
    have hneed : cap < xs.length + ys.length := by omega
    have hb47 : (xs.length + ys.length) * i.bytes ≤ 140737488355328 := by
      have : (xs.length + ys.length) * i.bytes ≤ 1073741824 * 131072 := Nat.mul_le_mul hlim hby
      omega
    -- the old cells
    have hold : ∃ olds G0, olds.length = xs.length * t.cells ∧ RowsF (Own (hv w) t) t.cells olds xs G0 ∧ (∀ b ∈ G0, b ∈ F) ∧ G0.Nodup ∧ (Builtin.firstCells i.size xs.length (.slice A xs.length cap)).run P w.drew = .ok olds.toArray w.drew := by
      rcases ho with ⟨rfl, rfl, rfl⟩ | ⟨b, off, L, G0, rfl, hb, hcap, hl, hrows, rfl⟩
      · refine ⟨[], [], by simp, rfl, fun b hb => hb, List.nodup_nil, ?_⟩
        cases A with
        | none => exact run_firstCells_none w.drew i.size 0 0 0
        | some a' => exact run_firstCells_some w.drew i.size 0 a' 0 0 [] (by simp) (by intro _ _ h'; simp at h')
      · have hrl := RowsF_len hrows
        refine ⟨(L.drop off).take (xs.length * t.cells), G0, by rw [List.length_take]; omega, RowsF_cut _ (Nat.le_refl _) hrows, fun c hc => by simp [hc], (List.nodup_cons.1 hFn).2, ?_⟩
        refine run_firstCells_some w.drew i.size xs.length ⟨b, off, none⟩ xs.length cap _ (by rw [List.length_take, hsize]; omega) (fun j u hu => ?_)
        rw [add_plain]
        rw [List.getElem?_take] at hu
        split at hu
        · have := hv_cv hb (off + j)
          unfold cv at this
          show w.cell? _ = _
          rw [this]
          simpa [List.getElem?_drop] using hu
        · cases hu
    obtain ⟨olds, G0, hol, hor, hGF, hG0n, hfirst⟩ := hold
    have hrun := run_append_grow_src (P := P) w tid tx ty e i z hu hi hz A xs.length cap olds hfirst ub ys.length news hsrc' hneed (by omega) (growslice_fits hneed hb47)
    have hge := grownCap_ge w (xs.length + ys.length) cap e
    have hw' : ∀ b, b < w.heap.size → (w.drew.alloc (.cells ((olds ++ news).toArray ++ Builtin.zeroCells z.cells (grownCap w (xs.length + ys.length) cap e - (xs.length + ys.length))) e)).heap[b]? = w.heap[b]? := fun b hb => alloc_old w.drew _ hb
    have hsz' : (w.drew.alloc (.cells ((olds ++ news).toArray ++ Builtin.zeroCells z.cells (grownCap w (xs.length + ys.length) cap e - (xs.length + ys.length))) e)).heap.size = w.heap.size + 1 := alloc_size w.drew _
    have hnewb := hv_alloc_new w.drew ((olds ++ news).toArray ++ Builtin.zeroCells z.cells (grownCap w (xs.length + ys.length) cap e - (xs.length + ys.length))) e
    have hltF : ∀ b ∈ F, b < w.heap.size := fun b hb => by
      obtain ⟨o, ho, c, hc, hm⟩ := hFl b hb
      exact ((I.objs o c hc).2.2 b hm).2.1
    have hltG : ∀ b ∈ G, b < w.heap.size := fun b hb => by
      obtain ⟨o, ho, c, hc, hm⟩ := hGl b hb
      exact ((I.objs o c hc).2.2 b hm).2.1
    have hf1 : 0 + grownCap w (xs.length + ys.length) cap e * t.cells ≤ (((olds ++ news).toArray ++ Builtin.zeroCells z.cells (grownCap w (xs.length + ys.length) cap e - (xs.length + ys.length))).toList).length := by
      have hzcl : (Builtin.zeroCells z.cells (grownCap w (xs.length + ys.length) cap e - (xs.length + ys.length))).toList.length = (grownCap w (xs.length + ys.length) cap e - (xs.length + ys.length)) * t.cells := by
        unfold Builtin.zeroCells
        have hz' : z.cells.toList.length = t.cells := by rw [Array.length_toList]; exact hzs
        rw [range_rep, rep_len, hz']
      rw [Array.toList_append, List.length_append, hzcl, Nat.sub_mul]
      simp only [List.length_append, hol, hsrc.len]
      have h1 : (xs.length + ys.length) * t.cells = xs.length * t.cells + ys.length * t.cells := Nat.add_mul _ _ _
      have h2 : (xs.length + ys.length) * t.cells ≤ grownCap w (xs.length + ys.length) cap e * t.cells := Nat.mul_le_mul_right _ hge
      omega
    have hf2 : RowsF (Own (hv (w.drew.alloc (.cells ((olds ++ news).toArray ++ Builtin.zeroCells z.cells (grownCap w (xs.length + ys.length) cap e - (xs.length + ys.length))) e))) t) t.cells ((((olds ++ news).toArray ++ Builtin.zeroCells z.cells (grownCap w (xs.length + ys.length) cap e - (xs.length + ys.length))).toList).drop 0) (xs ++ ys) (G0 ++ G) := by
      have hstay : ∀ c, c < w.heap.size → hv (w.drew.alloc (.cells ((olds ++ news).toArray ++ Builtin.zeroCells z.cells (grownCap w (xs.length + ys.length) cap e - (xs.length + ys.length))) e)) c = hv w c := fun c hc => hv_same (hw' c hc)
      have hxy := RowsF_append hol (RowsF_mono (fun cs x G' hG h => Own_mono (fun c hc => hstay c (hltF c (hGF c (hG c hc)))) h) hor) (RowsF_mono (fun cs x G' hG h => Own_mono (fun c hc => hstay c (hltG c (hG c hc))) h) hsrc.rows)
      refine RowsF_of_prefix ?_ ?_ hxy
      · have e1 : (((olds ++ news).toArray ++ Builtin.zeroCells z.cells (grownCap w (xs.length + ys.length) cap e - (xs.length + ys.length))).toList).drop 0 = (olds ++ news) ++ (Builtin.zeroCells z.cells (grownCap w (xs.length + ys.length) cap e - (xs.length + ys.length))).toList := by
          rw [List.drop_zero, Array.toList_append]
        rw [e1, hlen, Nat.add_mul]
        exact (List.take_append_of_le_length (by rw [List.length_append, hol, hsrc.len]; exact Nat.le_refl _)).symm
      · rw [List.drop_zero, Array.toList_append, hlen, Nat.add_mul]
        simp only [List.length_append, hol, hsrc.len]
        omega
    obtain ⟨I', hv'⟩ := new_arr I (r := r) (n := n) (l := l) hr hlt hnl hrv (t := t) (xs := xs ++ ys) (nn := !ys.isEmpty) (A := some ⟨w.heap.size, 0, none⟩) (cap := grownCap w (xs.length + ys.length) cap e) (F := w.heap.size :: (G0 ++ G)) (w' := w.drew.alloc (.cells ((olds ++ news).toArray ++ Builtin.zeroCells z.cells (grownCap w (xs.length + ys.length) cap e - (xs.length + ys.length))) e))
      (fun b hb _ => hw' b hb) (by rw [hsz']; omega)
      (fun c hc => by
        rcases List.mem_cons.1 hc with rfl | hc
        · exact .inr ⟨Nat.le_refl _, by rw [hsz']; omega⟩
        · left
          rcases List.mem_append.1 hc with hc | hc
          · exact hFl c (hGF c hc)
          · exact hGl c hc)
      (by
        rw [List.nodup_cons, List.nodup_append]
        refine ⟨fun h => ?_, hG0n, hGn, fun c hc c' hc' e => hFG c (hGF c hc) (e ▸ hc')⟩
        rcases List.mem_append.1 h with h | h
        · have := hltF _ (hGF _ h); omega
        · have := hltG _ h; omega)
      rfl ⟨rfl, Nat.le_succ _⟩ rfl
      (.inr ⟨w.heap.size, 0, _, G0 ++ G, rfl, hnewb, hf1, by rw [hlen]; exact hge, hf2, rfl⟩) (fun _ => by simp)
    rw [hlen] at hv'
    exact ⟨_, _, _, hrun, I', hv'⟩
end
end Go.Vm
set_option linter.unusedVariables false
set_option linter.unusedSimpArgs false
namespace Go.Vm
open Go Go.RowKit
section
variable {P : Program} {S : Side} {w : World} {ob : List Obe}
theorem run_storeA {T : Tab} (hT : TabOk P T) {t : Nat} {te : TE} (ht : T.find t = some te) {u : Value} {cs : List Value} (hu : u.cells.toList = cs) (hl : cs.length = te.ty.cells) (h1 : ∀ v ∈ cs, v.oneCell' = true) {b off : Nat} {l : List Value} (h : hv w b = some l) (hb : off + cs.length ≤ l.length) :
    (Instr.storeAt t (.pointer (some ⟨b, off, none⟩)) u).run P w = .ok () (w.setCells b off cs) := by
  have hst := run_storeCells_cells (P := P) b off cs 0 w
    (fun j hj => by
      have := hv_cv h (off + 0 + j)
      unfold cv at this
      rw [this, List.getElem?_eq_getElem (by omega)]; rfl)
    (fun j hj => hv_frozen h _) h1
  simp only [Nat.add_zero] at hst
  have hsz : u.cells.size = te.ty.cells := by rw [← Array.length_toList, hu, hl]
  show (storeVar t ⟨b, off, none⟩ u).run P w = _
  unfold storeVar
  rw [Sem.run_bind, run_size hT ht]
  simp only [Result.andThen_ok, hsz, ne_eq, not_true_eq_false, if_false, hu]
  exact hst
theorem enc_nosl : ∀ {t : Ty} {x : t.D}, t.flat = true → ∀ v ∈ t.enc x, isSl v = false
  | .int _, _, _, v, h | .bool, _, _, v, h | .str, _, _, v, h => by simp [Ty.enc] at h; subst h; rfl
  | .un, _, _, v, h => by simp [Ty.enc] at h
  | .pr a b, x, hf, v, h => by
    simp [Ty.flat] at hf
    simp [Ty.enc] at h
    rcases h with h | h
    · exact enc_nosl hf.1 v h
    · exact enc_nosl hf.2 v h
  | .sl _, _, hf, _, _ => by simp [Ty.flat] at hf
  | .op, _, hf, _, _ => by simp [Ty.flat] at hf
theorem hdr_stay {H H2 : Nat → Option (List Value)} {b off : Nat} {l cs cs2 : List Value} (hl : H b = some l) (h2 : H2 b = some (setC l off cs2)) (hn : off + cs2.length ≤ l.length) (hcs : sits H b off cs) (hlen : cs.length = cs2.length) (hno : ∀ v ∈ cs, isSl v = false) (hoth : ∀ c, c ≠ b → H2 c = H c) :
    ∀ c o v, cellAt H c o = some v → isSl v = true → cellAt H2 c o = some v := by
  intro c o v hc hs
  by_cases e : c = b
  · subst e
    simp only [cellAt, hl, h2, Option.bind_some] at hc ⊢
    by_cases hin : off ≤ o ∧ o < off + cs2.length
    · exfalso
      obtain ⟨k, rfl⟩ : ∃ k, o = off + k := ⟨o - off, by omega⟩
      have hk : k < cs.length := by omega
      have := sits_cell hcs (List.getElem?_eq_getElem hk)
      simp only [cellAt, hl, Option.bind_some] at this
      rw [hc] at this
      injection this with this
      have h0 := hno cs[k] (List.getElem_mem hk)
      rw [← this, hs] at h0
      cases h0
    · rw [setC_get hn _ (by omega)]; exact hc
  · unfold cellAt at hc ⊢
    rw [hoth c e]; exact hc
theorem locA_mono {H H2 : Nat → Option (List Value)} (h : ∀ b o v, cellAt H b o = some v → isSl v = true → cellAt H2 b o = some v) {hd : Option Addr × Nat} {t : Ty} {len : Nat} {p : List Stp} {r : Nat × Nat} (hw : locA H hd t len p = some r) : locA H2 hd t len p = some r := by
  unfold locA at hw ⊢
  split at hw
  · split at hw
    · split at hw
      · rename_i h1; rw [if_pos h1]; exact walk_mono h hw
      · cases hw
    · cases hw
  · cases hw
theorem own_tu (r : Rd) (t : Ty) (q : VT) : r.own t (.tu q) = none := by cases t <;> rfl
theorem own_ud (r : Rd) (t : Ty) : r.own t .ud = none := by cases t <;> rfl
theorem tyAt_getP : ∀ (t : Ty) {x : t.D} {p : List Stp} {t' : Ty}, tyAt t p = some t' → ∃ y, getP t x p = some ⟨t', y⟩ := by
  intro t
  induction t with
  | int k | bool | str | un | op =>
    intro x p t' h
    cases p with
    | nil => rw [tyAt_nil] at h; cases h; exact ⟨x, getP_nil _ _⟩
    | cons s p => simp [tyAt] at h
  | pr a b iha ihb =>
    intro x p t' h
    cases p with
    | nil => rw [tyAt_nil] at h; cases h; exact ⟨x, getP_nil _ _⟩
    | cons s p => cases s with
      | i n => simp [tyAt] at h
      | f j => cases j with
        | zero => exact iha h
        | succ j => exact ihb h
  | sl t ih =>
    intro x p t' h
    cases p with
    | nil => rw [tyAt_nil] at h; cases h; exact ⟨x, getP_nil _ _⟩
    | cons s p => cases s with
      | f j => simp [tyAt] at h
      | i n => exact ih h
theorem storeArr_sound {C : Ctx} {x : X} {a : Act} (I : Inv C S x a w) {T : Tab} (hT : TabOk P T) {t : Nat} {te : TE} (ht : T.find t = some te) {r : Rd} (R : RdOk r x) {o g h g' h' : Nat} {p : List Stp} {t' : Ty} {xs : List t'.D} {nn : Bool} (he : r.o o = ⟨g', h', some (.arr t' xs nn)⟩) (hg : g = g') (hh : h = h') (hty : tyAt (.sl t') p = some te.ty)
    {v : VT} {z : te.ty.D × List Nat} (hz : r.own te.ty v = some z) (hnd : (o :: z.2).Nodup) {ys : List t'.D} (hys : setP (.sl t') xs p ⟨te.ty, z.1⟩ = some ys) (hr : ∀ m ∈ o :: z.2, r.o m = getO x.ob m) (hlt : ∀ m ∈ o :: z.2, m < x.ob.length)
    {ua uv : Value} (ha : VTV S x.ob w (.pt o g h p) ua) (hv' : VTV S x.ob w v uv) :
    ∃ w' S', (Instr.storeAt t ua uv).run P w = .ok () w' ∧ Inv C S' ⟨x.sl, putO x.ob (gone r z.2 ++ [(o, ⟨g', cond te.ty.flat h' (h' + 1), some (.arr t' ys nn)⟩)])⟩ a w' := by
  obtain ⟨e1, e2, e3⟩ := ok_eq R he
  obtain ⟨_, href, hpt⟩ := VTV_pt ha
  obtain ⟨b, off, hloc, rfl⟩ := hpt.2.1 t' xs nn e3 (by rw [e1]; exact hg) (by rw [e2]; exact hh)
  obtain ⟨⟨hown, hnn⟩, hfn, hmine⟩ := I.objs o _ e3
  have hvc : ∃ cs, VTC S x.ob w v cs ∧ uv = mkV v cs := by
    refine VTV_of hv' (fun q e => ?_) (fun e => ?_)
    · subst e
      rw [own_tu] at hz; cases hz
    · subst e
      rw [own_ud] at hz; cases hz
  obtain ⟨cs2, hc2, rfl⟩ := hvc
  obtain ⟨y0, l0⟩ := z
  obtain ⟨hown2, hlive⟩ := Rd_own I R hz hc2
  simp only at hown2 hlive hnd hys hr hlt
  have hlo : o ∉ l0 := (List.nodup_cons.1 hnd).1
  have hln : l0.Nodup := (List.nodup_cons.1 hnd).2
  have hF2n := fps_nodup I hlive hln
  -- blocks of what is taken along
  have hF2 : ∀ c ∈ l0.flatMap S.fp, c < w.heap.size ∧ ¬ S.ok c ∧ (C.w0.heap.size ≤ c ∨ C.don c) ∧ c ∉ S.fp o := by
    intro c hc
    rw [List.mem_flatMap] at hc
    obtain ⟨o', ho', hc⟩ := hc
    obtain ⟨_, k, hk, hkr⟩ := hlive o' ho'
    have := (I.objs o' k hk).2.2 c hc
    exact ⟨this.2.1, this.1, this.2.2.imp_right fun h => h.resolve_right (by rw [hkr]; simp), fun hm => I.sep o' o k _ (fun e => hlo (e ▸ ho')) hk e3 c hc hm⟩
  obtain ⟨x', hgp⟩ := tyAt_getP (.sl t') (x := xs) hty
  obtain ⟨l', cs', Pp, F', Q, h1, h2, h3, h4, h5, h6, h7, h8⟩ := root_set w.heap.size (fun hm => by have := (hmine _ hm).2.1; omega) hown hfn hgp hloc
  have hbF : b ∈ S.fp o := by rw [h5]; simp at h6 ⊢; grind
  have hlen2 := Own_len hown2
  obtain ⟨w1, w2, w3, w4, w5, w6⟩ := setCells_heap cs2 off w h1 (by omega)
  have hrun := run_storeA (P := P) (off := off) hT ht (mkV_cells hc2) (by rw [hlen2]) (VTC_one hc2) h1 (by omega)
  have hstay : ∀ c, c ≠ b → hv (w.setCells b off cs2) c = hv w c := fun c hc => hv_same (w3 c hc)
  obtain ⟨y, hy, hyl, hoN⟩ := h8 (hv (w.setCells b off cs2)) cs2 y0 (l0.flatMap S.fp) hlen2 w1 (fun c _ hcb => hstay c hcb) (fun hm => by have := (hF2 _ hm).1; omega)
    (Own_mono (fun c hc => hstay c (fun e => (hF2 c hc).2.2.2 (e ▸ hbF))) hown2)
  rw [hys] at hy
  cases hy
  have hnew : getO (putO x.ob (gone r l0 ++ [(o, ⟨g', cond te.ty.flat h' (h' + 1), some (.arr t' ys nn)⟩)])) o = ⟨g', cond te.ty.flat h' (h' + 1), some (.arr t' ys nn)⟩ := by
    rw [putO_app]
    simp only [putO]
    rw [getO_set, if_pos ⟨rfl, by rw [putO_length]; exact hlt o (by simp)⟩]
  have hgone : ∀ o' ∈ l0, getO (putO x.ob (gone r l0 ++ [(o, ⟨g', cond te.ty.flat h' (h' + 1), some (.arr t' ys nn)⟩)])) o' = ⟨(r.o o').g, (r.o o').h, none⟩ := by
    intro o' ho'
    rw [putO_app]
    simp only [putO]
    rw [getO_set, if_neg (by rintro ⟨e, _⟩; exact hlo (e ▸ ho'))]
    exact getO_gone l0 x.ob o' (fun q hq => hlt q (by simp [hq])) ho'
  have hold : ∀ o', ¬ (o' = o ∨ o' ∈ l0) → getO (putO x.ob (gone r l0 ++ [(o, ⟨g', cond te.ty.flat h' (h' + 1), some (.arr t' ys nn)⟩)])) o' = getO x.ob o' := by
    intro o' ho'
    refine getO_putO_ne _ _ _ ?_
    rw [wrote_app, wrote_gone]
    simp [wrote]
    grind
  simp only
  generalize hob' : putO x.ob (gone r l0 ++ [(o, ⟨g', cond te.ty.flat h' (h' + 1), some (.arr t' ys nn)⟩)]) = ob' at *
  let S' : Side := ⟨S.ok, S.hd, fun m => if m = o then Pp ++ (l0.flatMap S.fp ++ Q) else S.fp m⟩
  have hfpo : S'.fp o = Pp ++ (l0.flatMap S.fp ++ Q) := by simp [S']
  have hfpn : ∀ m, m ≠ o → S'.fp m = S.fp m := fun m hm => by simp [S', hm]
  have hPQ : ∀ c ∈ Pp ++ Q, c ∈ S.fp o := fun c hc => by rw [h5]; simp at hc ⊢; grind
  have hmemN : ∀ c ∈ Pp ++ (l0.flatMap S.fp ++ Q), c ∈ S.fp o ∨ c ∈ l0.flatMap S.fp := by
    intro c hc
    simp only [List.mem_append] at hc
    rcases hc with hc | hc | hc
    · exact .inl (hPQ c (by simp [hc]))
    · exact .inr hc
    · exact .inl (hPQ c (by simp [hc]))
  have hne : ∀ c, (∃ o' k, o' ≠ o ∧ (getO x.ob o').c = some k ∧ c ∈ S.fp o') → c ≠ b := by
    rintro c ⟨o', k, ho', hk, hc⟩ e
    subst e
    exact I.sep o' o k _ ho' hk e3 c hc hbF
  have hres := I.turn (S' := S') (ob' := ob') (w' := w.setCells b off cs2) (fun m => m = o ∨ m ∈ l0)
    (fun m hm => ⟨hold m hm, rfl, hfpn m (fun e => hm (.inl e)), fun c hc c1 hc1 => ⟨w3 c1 (hne c1 ⟨m, c, fun e => hm (.inl e), hc, hc1⟩), ((I.objs m c hc).2.2 c1 hc1).1⟩⟩)
    (fun c hc => ⟨hc, w3 c (fun e => (hmine b hbF).1 (e ▸ hc))⟩)
    (fun m hm => by
      rcases hm with rfl | hm
      · -- references to the object itself
        have hg0 : (getO ob' m).g = (getO x.ob m).g := by rw [hnew, e1]
        cases hfl : te.ty.flat
        · have hh0 : (getO ob' m).h = (getO x.ob m).h + 1 := by rw [hnew, e2, hfl]; rfl
          refine ⟨fun g1 h1' p1 win v1 hr1 hs1 => ⟨by unfold refOk at *; omega, fun t2 xs2 nn2 hc2' hg2 hp2 => ?_, fun t4 xs4 nn4 j4 hc4 => (by rw [hnew] at hc4; cases hc4)⟩, fun g1 h1' p1 v1 hr1 hs1 => ⟨by unfold refOk at *; omega, fun c0 u hc hh0' => ?_, fun t2 xs2 nn2 hc2' hg2 hp2 => ?_, fun k3 t3 es3 hc3 => (by rw [hnew] at hc3; cases hc3), fun t4 xs4 nn4 j4 hc4 => (by rw [hnew] at hc4; cases hc4)⟩⟩
          · rw [hnew] at hc2'
            cases hc2'
            rcases hp2 with rfl | hp2
            · obtain ⟨te1, A1, n1, cap1, k1, k2, k3⟩ := hs1.1 t' xs nn e3 (by omega) (.inl rfl)
              exact ⟨te1, A1, n1, cap1, k1, ⟨k2.1, by rw [hyl]; exact k2.2⟩, k3⟩
            · unfold refOk at hr1; omega
          · rw [hnew] at hc; cases hc; cases hh0'
          · unfold refOk at hr1; omega
        · have hh0 : (getO ob' m).h = (getO x.ob m).h := by rw [hnew, e2, hfl]; rfl
          have hcsf : cs' = te.ty.enc x' := ((Own_flat hfl).1 h4).1
          have hmono := hdr_stay (H := hv w) (H2 := hv (w.setCells b off cs2)) h1 w1 (by omega) h3 (by rw [Own_len h4, hlen2]) (by rw [hcsf]; exact enc_nosl hfl) hstay
          refine ⟨fun g1 h1' p1 win v1 hr1 hs1 => ⟨by unfold refOk at *; omega, fun t2 xs2 nn2 hc2' hg2 hp2 => ?_, fun t4 xs4 nn4 j4 hc4 => (by rw [hnew] at hc4; cases hc4)⟩, fun g1 h1' p1 v1 hr1 hs1 => ⟨by unfold refOk at *; omega, fun c0 u hc hh0' => ?_, fun t2 xs2 nn2 hc2' hg2 hp2 => ?_, fun k3 t3 es3 hc3 => (by rw [hnew] at hc3; cases hc3), fun t4 xs4 nn4 j4 hc4 => (by rw [hnew] at hc4; cases hc4)⟩⟩
          · rw [hnew] at hc2'
            cases hc2'
            obtain ⟨te1, A1, n1, cap1, k1, k2, k3⟩ := hs1.1 t' xs nn e3 (by omega) (hp2.imp id (fun h => by omega))
            refine ⟨te1, A1, n1, cap1, k1, ?_, k3⟩
            cases p1 with
            | nil => exact ⟨k2.1, by rw [hyl]; exact k2.2⟩
            | cons s p1 =>
              obtain ⟨b1, o1, q1, q2⟩ := k2
              exact ⟨b1, o1, by rw [hyl]; exact locA_mono hmono q1, hmono _ _ _ q2 rfl⟩
          · rw [hnew] at hc; cases hc; cases hh0'
          · rw [hnew] at hc2'
            cases hc2'
            obtain ⟨b1, o1, q1, q2⟩ := hs1.2.1 t' xs nn e3 (by omega) (by omega)
            exact ⟨b1, o1, by rw [hyl]; exact locA_mono hmono q1, q2⟩
      · have htn : Turned (getO x.ob m) (getO ob' m) := by rw [hgone m hm, hr m (by simp [hm])]; exact .inr ⟨rfl, rfl, rfl⟩
        exact ⟨fun g1 h1' p1 win v1 hr1 _ => Turned.sl (S := S) (w := w) htn hr1, fun g1 h1' p1 v1 hr1 _ => Turned.pt (S := S) (w := w) htn hr1⟩)
    (fun _ m c hm hc => by
      rcases hm with rfl | hm
      · rw [hnew] at hc
        cases hc
        refine ⟨⟨by rw [hfpo]; exact hoN, hnn⟩, ?_, fun c hc => ?_⟩
        · rw [hfpo]
          rw [h5] at hfn
          have a1 := List.nodup_append.1 hfn
          have a2 := List.nodup_append.1 a1.2.1
          rw [List.nodup_append]
          refine ⟨a1.1, ?_, ?_⟩
          · rw [List.nodup_append]
            exact ⟨hF2n, a2.2.1, fun c hc c' hc' e => (hF2 c hc).2.2.2 (by rw [e]; exact hPQ c' (by simp [hc']))⟩
          · intro c hc c' hc' e
            rcases List.mem_append.1 hc' with h | h
            · exact (hF2 c' h).2.2.2 (by rw [← e]; exact hPQ c (by simp [hc]))
            · exact a1.2.2 c hc c' (by simp [h]) e
        · rw [hfpo] at hc
          rcases hmemN c hc with h | h
          · have := hmine c h
            exact ⟨this.1, by rw [w2]; exact this.2.1, this.2.2⟩
          · have := hF2 c h
            exact ⟨this.2.1, by rw [w2]; exact this.1, this.2.2.1.imp_right .inl⟩
      · rw [hgone m hm] at hc; cases hc)
    (fun m m' c c' hm hne' hc hc' d hd hd' => by
      rcases hm with rfl | hm
      · rw [hfpo] at hd
        rw [hfpn m' (Ne.symm hne')] at hd'
        have hm' : ¬ (m' = m ∨ m' ∈ l0) := by
          rintro (h | h)
          · exact hne' h.symm
          · rw [hgone m' h] at hc'; cases hc'
        rw [hold m' hm'] at hc'
        rcases hmemN d hd with h | h
        · exact I.sep m m' _ c' hne' e3 hc' d h hd'
        · rw [List.mem_flatMap] at h
          obtain ⟨o', ho', h⟩ := h
          obtain ⟨_, k, hk, _⟩ := hlive o' ho'
          exact I.sep o' m' k c' (fun e => hm' (.inr (e ▸ ho'))) hk hc' d h hd'
      · rw [hgone m hm] at hc; cases hc)
    (by rw [w2]; exact Nat.le_refl _) (fun c hc => by rw [w2]; exact I.okb c hc)
    ⟨w4.trans I.kept.os, w5.trans I.kept.tape, w6.trans I.kept.output, by rw [w2]; exact I.kept.size, fun k hk hd => by
      rw [← I.kept.block k hk hd]
      refine w3 k (fun e => ?_)
      subst e
      rcases (hmine k hbF).2.2 with h | h | h
      · omega
      · exact hd h
      · cases h⟩
    (fun m c hm hf hg hc => by
      rcases hm with rfl | hm
      · rw [hnew] at hg hc
        cases hc
        obtain ⟨f1, f2⟩ := I.fix m _ hf (by rw [e1]; exact hg) e3
        refine ⟨f1, ?_⟩
        rw [← f2]
        simp [Ob.shape, hyl]
      · rw [hgone m hm] at hc; cases hc)
  exact ⟨_, S', hrun, hres.1⟩
end
end Go.Vm
set_option linter.unusedVariables false
set_option linter.unusedSimpArgs false
namespace Go.Vm
open Go Go.RowKit
section
variable {P : Program} {S : Side} {w : World}
theorem getO_two {ob : List Obe} {o n : Nat} {a b : Obe} (ho : o < ob.length) (hn : n < ob.length) (hne : n ≠ o) : getO (putO ob [(o, a), (n, b)]) o = a ∧ getO (putO ob [(o, a), (n, b)]) n = b ∧ ∀ m, m ≠ o → m ≠ n → getO (putO ob [(o, a), (n, b)]) m = getO ob m := by
  simp only [putO]
  refine ⟨?_, ?_, fun m h1 h2 => ?_⟩
  · rw [getO_set, if_neg (by omega), getO_set, if_pos ⟨rfl, ho⟩]
  · rw [getO_set, if_pos ⟨rfl, by rw [List.length_set]; exact hn⟩]
  · rw [getO_set, if_neg (by omega), getO_set, if_neg (by omega)]
theorem put2_o {r : Rd} {x : X} {o n : Nat} {a b : Obe} (ho : o < x.ob.length) (hn : n < x.ob.length) (hne : n ≠ o) {m : Nat} (h : r.o m = getO x.ob m) : (r.put2 o a n b).o m = getO (putO x.ob [(o, a), (n, b)]) m := by
  obtain ⟨g1, g2, g3⟩ := getO_two (a := a) (b := b) ho hn hne
  unfold Rd.put2
  simp only
  cases h1 : Nat.beq m n
  · have h1' : m ≠ n := fun e => by rw [e, Nat.beq_refl] at h1; cases h1
    cases h2 : Nat.beq m o
    · have h2' : m ≠ o := fun e => by rw [e, Nat.beq_refl] at h2; cases h2
      rw [g3 m h2' h1']
      exact h
    · rw [Nat.eq_of_beq_eq_true h2, g1]; rfl
  · rw [Nat.eq_of_beq_eq_true h1, g2]; rfl
theorem locA_one {H : Nat → Option (List Value)} {hd : Option Addr × Nat} {t : Ty} {len n : Nat} {r : Nat × Nat} (h : locA H hd t len [.i n] = some r) : ∃ b o, hd.1 = some ⟨b, o, none⟩ ∧ n < len ∧ r = (b, o + n * t.cells) := by
  obtain ⟨A, cap⟩ := hd
  cases A with
  | none => simp [locA] at h
  | some A =>
    obtain ⟨b, o, q⟩ := A
    cases q with
    | some q => simp [locA] at h
    | none =>
      by_cases hn : n < len
      · simp [locA, hn, walk_nil] at h
        exact ⟨b, o, rfl, hn, h.symm⟩
      · simp [locA, hn] at h
theorem rowOut_sound {C : Ctx} {x : X} {a : Act} (I : Inv C S x a w) {r : Rd} (R : RdOk r x) {n0 o g h j : Nat} {q : Obe × Obe} (hq : rowOut r n0 o g h j = some q) (hn0 : r.o n0 = getO x.ob n0) (hlt0 : n0 < x.ob.length) {u : Value} (hv : VTV S x.ob w (.sl o g h [.i j] none) u) :
    ∃ S', Inv C S' ⟨x.sl, putO x.ob [(o, q.1), (n0, q.2)]⟩ a w ∧ (∀ v cs, VTC S x.ob w v cs → VTC S' (putO x.ob [(o, q.1), (n0, q.2)]) w v cs) ∧ VTV S' (putO x.ob [(o, q.1), (n0, q.2)]) w (.sl n0 q.2.g 0 [] none) u ∧
      RdOk (r.put2 o q.1 n0 q.2) ⟨x.sl, putO x.ob [(o, q.1), (n0, q.2)]⟩ ∧ n0 ≠ o ∧ o < x.ob.length := by
  unfold rowOut at hq
  split at hq
  case h_2 => cases hq
  rename_i g' h' t xs nn he
  cases hc : (Nat.beq g g' && (Nat.beq h h' && !Nat.beq n0 o)) <;> rw [hc] at hq
  · cases hq
  cases hq
  simp only [Bool.and_eq_true, Bool.not_eq_true'] at hc
  obtain ⟨c1, c2, c3⟩ := hc
  have c1 := Nat.eq_of_beq_eq_true c1
  have c2 := Nat.eq_of_beq_eq_true c2
  have hne : n0 ≠ o := fun e => by rw [e, Nat.beq_refl] at c3; cases c3
  obtain ⟨e1, e2, e3⟩ := ok_eq R he
  have hlo := getO_lt e3
  obtain ⟨_, href, hsl⟩ := VTV_sl hv
  obtain ⟨te, A, n, cap, hty, hhd, hwin⟩ := hsl.1 (.sl t) xs nn e3 (by rw [e1]; exact c1) (.inr (by rw [e2]; exact c2))
  have hte : te = t := by
    simp [tyAt, tyAt_nil] at hty
    exact hty.symm
  subst hte
  obtain ⟨b, off', hloc, hcell⟩ := hhd
  have hwin' : u = .slice A n cap := hwin
  subst hwin'
  obtain ⟨⟨hown, hnn⟩, hfn, hmine⟩ := I.objs o _ e3
  -- where the row's header lies
  have hloc' : ∃ o1, (S.hd o).1 = some ⟨b, o1, none⟩ ∧ j < List.length xs ∧ off' = o1 + j := by
    obtain ⟨b1, o1, hA, hj, e⟩ := locA_one hloc
    injection e with e1' e2'
    subst e1'
    exact ⟨o1, hA, hj, by rw [e2']; simp [Ty.cells]⟩
  obtain ⟨o1, hA, hj, rfl⟩ := hloc'
  rcases hown with ⟨_, rfl, _⟩ | ⟨b0, off0, l, G, hA', hb, hcap, hlen, hrows, hfp⟩
  · simp at hj
  rw [hA] at hA'
  injection hA' with hA'
  injection hA' with i1 i2 _
  subst i1; subst i2
  obtain ⟨pp, c, qq, G1, G2, G3, ec, hp, hcl, eG, hel, hset⟩ := RowsF_get j ([] : List te.D) hj hrows
  obtain ⟨A1, cap1, hcs, hown1⟩ := hel
  subst hcs
  have hpl : pp.length = j := by rw [hp]; simp [Ty.cells]
  have hll : o1 + j + 1 ≤ l.length := by
    have := congrArg List.length ec
    simp at this
    omega
  have hlj : l[o1 + j]? = some (.slice A1 (List.length (List.getD xs j [])) cap1) := by
    have := congrArg (fun z => z[j]?) ec
    simp only [List.getElem?_drop] at this
    rw [this, List.getElem?_append_right (by omega), hpl, Nat.sub_self]
    rfl
  have hcell' : some (Value.slice A1 (List.length (List.getD xs j [])) cap1) = some (.slice A n cap) := by
    rw [← hlj]
    unfold cellAt at hcell
    rw [hb] at hcell
    exact hcell
  injection hcell' with hcell'
  injection hcell' with k1 k2 k3
  subst k1; subst k2; subst k3
  rw [hfp, eG] at hfn
  have nd1 := List.nodup_cons.1 hfn
  have nd2 := List.nodup_append.1 nd1.2
  have nd3 := List.nodup_append.1 nd2.2.1
  have inO : ∀ d, d ∈ b :: (G1 ++ G3) ∨ d ∈ G2 → d ∈ S.fp o := by
    intro d hd
    rw [hfp, eG]
    rcases hd with hd | hd
    · rcases List.mem_cons.1 hd with rfl | hd
      · simp
      · rcases List.mem_append.1 hd with h | h <;> simp [h]
    · simp [hd]
  have apart : ∀ d, d ∈ b :: (G1 ++ G3) → d ∉ G2 := by
    intro d hd hd2
    rcases List.mem_cons.1 hd with rfl | hd
    · exact nd1.1 (by simp [hd2])
    · rcases List.mem_append.1 hd with h | h
      · exact nd2.2.2 d h d (by simp [hd2]) rfl
      · exact nd3.2.2 d hd2 d h rfl
  have hl2 := hlt0
  obtain ⟨p1, p2, p3⟩ := getO_two (a := ⟨g', h', some (.arh te xs nn j)⟩) (b := ⟨(r.o n0).g + 1, 0, some (.arr te (List.getD xs j []) false)⟩) hlo hlt0 hne
  have R2 : RdOk (r.put2 o ⟨g', h', some (.arh te xs nn j)⟩ n0 ⟨(r.o n0).g + 1, 0, some (.arr te (List.getD xs j []) false)⟩) ⟨x.sl, putO x.ob [(o, ⟨g', h', some (.arh te xs nn j)⟩), (n0, ⟨(r.o n0).g + 1, 0, some (.arr te (List.getD xs j []) false)⟩)]⟩ := by
    refine ⟨fun y v hy => R.v y v hy, fun m c hc => ?_⟩
    have hc' : (cond (Nat.beq m n0) (⟨(r.o n0).g + 1, 0, some (.arr te (List.getD xs j []) false)⟩ : Obe) (cond (Nat.beq m o) ⟨g', h', some (.arh te xs nn j)⟩ (r.o m))).c = some c := hc
    show cond (Nat.beq m n0) (⟨(r.o n0).g + 1, 0, some (.arr te (List.getD xs j []) false)⟩ : Obe) (cond (Nat.beq m o) ⟨g', h', some (.arh te xs nn j)⟩ (r.o m)) = _
    cases h1 : Nat.beq m n0
    · rw [h1] at hc'
      have h1' : m ≠ n0 := fun e => by rw [e, Nat.beq_refl] at h1; cases h1
      cases h2 : Nat.beq m o
      · rw [h2] at hc'
        have h2' : m ≠ o := fun e => by rw [e, Nat.beq_refl] at h2; cases h2
        rw [cond_false, cond_false, p3 m h2' h1']
        exact R.o m c hc'
      · rw [Nat.eq_of_beq_eq_true h2, p1]; rfl
    · rw [Nat.eq_of_beq_eq_true h1, p2]; rfl
  generalize hob' : putO x.ob [(o, (⟨g', h', some (.arh te xs nn j)⟩ : Obe)), (n0, ⟨(r.o n0).g + 1, 0, some (.arr te (List.getD xs j []) false)⟩)] = ob' at *
  let S' : Side := ⟨S.ok, fun m => if m = n0 then (A1, cap1) else S.hd m, fun m => if m = n0 then G2 else if m = o then b :: (G1 ++ G3) else S.fp m⟩
  have s1 : S'.hd n0 = (A1, cap1) := by simp [S']
  have s2 : ∀ m, m ≠ n0 → S'.hd m = S.hd m := fun m hm => by simp [S', hm]
  have s3 : S'.fp n0 = G2 := by simp [S']
  have s4 : S'.fp o = b :: (G1 ++ G3) := by simp [S', Ne.symm hne]
  have s5 : ∀ m, m ≠ n0 → m ≠ o → S'.fp m = S.fp m := fun m h1 h2 => by simp [S', h1, h2]
  have hres := I.turn (S' := S') (ob' := ob') (w' := w) (fun m => m = o ∨ m = n0)
    (fun m hm => ⟨p3 m (fun e => hm (.inl e)) (fun e => hm (.inr e)), s2 m (fun e => hm (.inr e)), s5 m (fun e => hm (.inr e)) (fun e => hm (.inl e)), fun c hc d hd => ⟨rfl, ((I.objs m c hc).2.2 d hd).1⟩⟩)
    (fun d hd => ⟨hd, rfl⟩)
    (fun m hm => by
      rcases hm with rfl | rfl
      · refine ⟨fun g1 h1 p win v hr1 hs1 => ⟨by unfold refOk at *; rw [p1]; rw [e1, e2] at hr1; exact hr1, fun t2 xs2 nn2 hc2 => (by rw [p1] at hc2; cases hc2), fun t4 xs4 nn4 j4 hc4 hg4 hp4 => ?_⟩,
          fun g1 h1 p v hr1 hs1 => ⟨by unfold refOk at *; rw [p1]; rw [e1, e2] at hr1; exact hr1, fun c0 u2 hc2 hu2 => (by rw [p1] at hc2; cases hc2; cases hu2), fun t2 xs2 nn2 hc2 => (by rw [p1] at hc2; cases hc2), fun k3 t3 es3 hc3 => (by rw [p1] at hc3; cases hc3), fun t4 xs4 nn4 j4 hc4 hg4 hh4 i hi => ?_⟩⟩
        · rw [p1] at hc4 hg4
          cases hc4
          obtain ⟨te1, A2, n2, cap2, q1, q2, q3⟩ := hs1.1 (.sl te) xs nn e3 (by rw [e1]; exact hg4) (.inl hp4)
          subst hp4
          exact ⟨te1, A2, n2, cap2, q1, ⟨by rw [s2 _ (Ne.symm hne)]; exact q2.1, q2.2⟩, q3⟩
        · rw [p1] at hc4 hg4 hh4
          cases hc4
          obtain ⟨b2, off2, q1, q2⟩ := hs1.2.1 (.sl te) xs nn e3 (by rw [e1]; exact hg4) (by rw [e2]; exact hh4)
          subst hi
          obtain ⟨b1, o2, hA2, _, e⟩ := locA_one q1
          injection e with e1' e2'
          subst e1'
          refine ⟨b2, o2, by rw [s2 _ (Ne.symm hne)]; exact hA2, ?_⟩
          rw [q2, e2']
          simp [Ty.cells]
      · have ht : Turned (getO x.ob m) (getO ob' m) := by rw [p2, hn0]; exact .inl rfl
        exact ⟨fun g h p win v hrf _ => Turned.sl (S := S) (w := w) ht hrf, fun g h p v hrf _ => Turned.pt (S := S) (w := w) ht hrf⟩)
    (fun _ m c hm hc => by
      rcases hm with rfl | rfl
      · rw [p1] at hc
        cases hc
        refine ⟨⟨hj, b, o1, l, G1, G3, by rw [s2 _ (Ne.symm hne)]; exact hA, hb, hll, s4, fun H2 A2 cap2 x2 F2 q1 q2 q3 => ?_⟩, ?_, fun d hd => ?_⟩
        · rw [s2 _ (Ne.symm hne), hA]
          refine .inr ⟨b, o1, _, G1 ++ (F2 ++ G3), rfl, q1, ?_, ?_, ?_, rfl⟩
          · rw [setC_len (by simp; omega)]; exact hcap
          · rw [List.length_set]; exact hlen
          · have hr := hset (Own H2 (.sl te)) [.slice A2 (List.length x2) cap2] x2 F2 (fun cs y G' hG hr => Own_mono (fun d hd => q2 d (hG d hd)) hr) (by simp [Ty.cells]) ⟨A2, cap2, rfl, q3⟩
            have e4 : (setC l (o1 + j) [.slice A2 (List.length x2) cap2]).drop o1 = pp ++ ([.slice A2 (List.length x2) cap2] ++ qq) := by
              have hd0 : l.drop (o1 + j + 1) = qq := by
                rw [Nat.add_assoc, ← List.drop_drop, ec]
                rw [List.drop_append, hpl, List.drop_eq_nil_of_le (by omega)]
                simp
              have ht0 : (l.take (o1 + j)).drop o1 = pp := by
                rw [List.drop_take, ec]
                rw [show o1 + j - o1 = j by omega, List.take_append_of_le_length (by omega), List.take_of_length_le (by omega)]
              unfold setC
              rw [List.drop_append, ht0]
              have : o1 - (l.take (o1 + j)).length = 0 := by simp; omega
              rw [this]
              simp only [List.drop_zero, List.length_singleton]
              rw [hd0]
            rw [e4]
            exact hr
        · rw [s4]
          rw [List.nodup_cons, List.nodup_append]
          refine ⟨fun hm => nd1.1 (by rcases List.mem_append.1 hm with h | h <;> simp [h]), nd2.1, nd3.2.1, fun d hd d' hd' => nd2.2.2 d hd d' (by simp [hd'])⟩
        · rw [s4] at hd
          exact hmine d (inO d (.inl hd))
      · rw [p2] at hc
        cases hc
        refine ⟨⟨by rw [s1, s3]; exact hown1, fun h => by cases h⟩, by rw [s3]; exact nd3.1, fun d hd => ?_⟩
        rw [s3] at hd
        exact hmine d (inO d (.inr hd)))
    (fun m m' c c' hm hne' hc hc' d hd hd' => by
      by_cases hmo : m' = o ∨ m' = n0
      · rcases hm with rfl | rfl <;> rcases hmo with rfl | rfl
        · exact hne' rfl
        · rw [s4] at hd; rw [s3] at hd'
          exact apart d hd hd'
        · rw [s3] at hd; rw [s4] at hd'
          exact apart d hd' hd
        · exact hne' rfl
      · have hdo : d ∈ S.fp o := by
          rcases hm with rfl | rfl
          · rw [s4] at hd; exact inO d (.inl hd)
          · rw [s3] at hd; exact inO d (.inr hd)
        rw [s5 m' (fun e => hmo (.inr e)) (fun e => hmo (.inl e))] at hd'
        rw [p3 m' (fun e => hmo (.inl e)) (fun e => hmo (.inr e))] at hc'
        exact I.sep o m' _ c' (fun e => hmo (.inl e.symm)) e3 hc' d hdo hd')
    (Nat.le_refl _) (fun d hd => I.okb d hd) I.kept
    (fun m c hm hf hg hc => by
      rcases hm with rfl | rfl
      · rw [p1] at hg hc
        cases hc
        obtain ⟨f1, f2⟩ := I.fix m _ hf (by rw [e1]; exact hg) e3
        exact ⟨by rw [s2 _ (Ne.symm hne)]; exact f1, f2⟩
      · rw [p2] at hg
        cases hg)
  refine ⟨S', hres.1, hres.2, ?_, R2, hne, hlo⟩
  refine ⟨_, ⟨_, rfl, rfl, .inr ⟨by rw [p2], by rw [p2]; exact Nat.zero_le _⟩, fun t1 xs1 nn1 hc1 _ _ => ?_, fun t1 xs1 nn1 j1 hc1 => by rw [p2] at hc1; cases hc1⟩, rfl⟩
  rw [p2] at hc1
  cases hc1
  exact ⟨te, A1, _, cap1, tyAt_nil _, ⟨s1, rfl⟩, rfl⟩
theorem fillRow_sound {C : Ctx} {x : X} {a : Act} (I : Inv C S x a w) {T : Tab} (hT : TabOk P T) {t : Nat} {te : TE} (ht : T.find t = some te) {r : Rd} (R : RdOk r x) {o g h g' h' i j : Nat} {t' : Ty} {xs : List (List t'.D)} {nn : Bool} (he : r.o o = ⟨g', h', some (.arh t' xs nn j)⟩) (hg : g = g') (hh : h = h') (hij : i = j) (hty : te.ty = .sl t')
    {v : VT} {z : List t'.D × List Nat} (hz : r.own (.sl t') v = some z) (hnd : (o :: z.2).Nodup) (hr : ∀ m ∈ o :: z.2, r.o m = getO x.ob m) (hlt : ∀ m ∈ o :: z.2, m < x.ob.length)
    {ua uv : Value} (ha : VTV S x.ob w (.pt o g h [.i i]) ua) (hv' : VTV S x.ob w v uv) :
    ∃ w' S', (Instr.storeAt t ua uv).run P w = .ok () w' ∧ Inv C S' ⟨x.sl, putO x.ob (gone r z.2 ++ [(o, ⟨g', h' + 1, some (.arr (.sl t') (List.set xs j z.1) nn)⟩)])⟩ a w' := by
  subst hij
  obtain ⟨e1, e2, e3⟩ := ok_eq R he
  obtain ⟨_, href, hpt⟩ := VTV_pt ha
  obtain ⟨b, off, hA, rfl⟩ := hpt.2.2.2 t' xs nn i e3 (by rw [e1]; exact hg) (by rw [e2]; exact hh) i rfl
  obtain ⟨⟨hj, b', off', l, G1, Q, hA', h1, hll, hfp, hcl⟩, hfn, hmine⟩ := I.objs o _ e3
  rw [hA] at hA'
  injection hA' with hA'
  injection hA' with i1 i2 _
  subst i1; subst i2
  have hvc : ∃ cs, VTC S x.ob w v cs ∧ uv = mkV v cs := by
    refine VTV_of hv' (fun q e => ?_) (fun e => ?_)
    · subst e
      rw [own_tu] at hz; cases hz
    · subst e
      rw [own_ud] at hz; cases hz
  obtain ⟨cs2, hc2, rfl⟩ := hvc
  obtain ⟨y0, l0⟩ := z
  obtain ⟨hown2, hlive⟩ := Rd_own I R hz hc2
  simp only at hown2 hlive hnd hr hlt
  have hlo : o ∉ l0 := (List.nodup_cons.1 hnd).1
  have hln : l0.Nodup := (List.nodup_cons.1 hnd).2
  have hF2n := fps_nodup I hlive hln
  have hF2 : ∀ c ∈ l0.flatMap S.fp, c < w.heap.size ∧ ¬ S.ok c ∧ (C.w0.heap.size ≤ c ∨ C.don c) ∧ c ∉ S.fp o := by
    intro c hc
    rw [List.mem_flatMap] at hc
    obtain ⟨o', ho', hc⟩ := hc
    obtain ⟨_, k, hk, hkr⟩ := hlive o' ho'
    have := (I.objs o' k hk).2.2 c hc
    exact ⟨this.2.1, this.1, this.2.2.imp_right fun h => h.resolve_right (by rw [hkr]; simp), fun hm => I.sep o' o k _ (fun e => hlo (e ▸ ho')) hk e3 c hc hm⟩
  obtain ⟨Pp, hPp⟩ : ∃ Pp, Pp = b :: G1 := ⟨_, rfl⟩
  have h5 : S.fp o = Pp ++ Q := by rw [hfp, hPp]; rfl
  have hbF : b ∈ S.fp o := by rw [hfp]; simp
  have hlen2 := Own_len hown2
  obtain ⟨A2, cap2, hcs2, hown3⟩ := hown2
  have hl1 : cs2.length = 1 := by rw [hcs2]; rfl
  obtain ⟨w1, w2, w3, w4, w5, w6⟩ := setCells_heap cs2 (off + i) w h1 (by omega)
  have hrun := run_storeA (P := P) (off := off + i) hT ht (mkV_cells hc2) (by rw [hty]; exact hl1) (VTC_one hc2) h1 (by omega)
  have hstay : ∀ c, c ≠ b → hv (w.setCells b (off + i) cs2) c = hv w c := fun c hc => hv_same (w3 c hc)
  rw [hfp] at hfn
  have nd1 := List.nodup_cons.1 hfn
  have hoN : OwnS (hv (w.setCells b (off + i) cs2)) (Own (hv (w.setCells b (off + i) cs2)) (.sl t')) 1 (S.hd o).1 (S.hd o).2 (List.set xs i y0) (Pp ++ (l0.flatMap S.fp ++ Q)) := by
    rw [hPp]
    refine hcl (hv (w.setCells b (off + i) cs2)) A2 cap2 y0 (l0.flatMap S.fp) (by rw [w1, hcs2]) (fun c hc => hstay c (fun e => nd1.1 (e ▸ hc))) ?_
    exact OwnS_mono (fun c hc => hstay c (fun e => (hF2 c hc).2.2.2 (e ▸ hbF))) hown3
  have hnew : getO (putO x.ob (gone r l0 ++ [(o, ⟨g', h' + 1, some (.arr (.sl t') (List.set xs i y0) nn)⟩)])) o = ⟨g', h' + 1, some (.arr (.sl t') (List.set xs i y0) nn)⟩ := by
    rw [putO_app]
    simp only [putO]
    rw [getO_set, if_pos ⟨rfl, by rw [putO_length]; exact hlt o (by simp)⟩]
  have hgone : ∀ o' ∈ l0, getO (putO x.ob (gone r l0 ++ [(o, ⟨g', h' + 1, some (.arr (.sl t') (List.set xs i y0) nn)⟩)])) o' = ⟨(r.o o').g, (r.o o').h, none⟩ := by
    intro o' ho'
    rw [putO_app]
    simp only [putO]
    rw [getO_set, if_neg (by rintro ⟨e, _⟩; exact hlo (e ▸ ho'))]
    exact getO_gone l0 x.ob o' (fun q hq => hlt q (by simp [hq])) ho'
  have hold : ∀ o', ¬ (o' = o ∨ o' ∈ l0) → getO (putO x.ob (gone r l0 ++ [(o, ⟨g', h' + 1, some (.arr (.sl t') (List.set xs i y0) nn)⟩)])) o' = getO x.ob o' := by
    intro o' ho'
    refine getO_putO_ne _ _ _ ?_
    rw [wrote_app, wrote_gone]
    simp [wrote]
    grind
  simp only
  generalize hob' : putO x.ob (gone r l0 ++ [(o, (⟨g', h' + 1, some (.arr (.sl t') (List.set xs i y0) nn)⟩ : Obe))]) = ob' at *
  let S' : Side := ⟨S.ok, S.hd, fun m => if m = o then Pp ++ (l0.flatMap S.fp ++ Q) else S.fp m⟩
  have hfpo : S'.fp o = Pp ++ (l0.flatMap S.fp ++ Q) := by simp [S']
  have hfpn : ∀ m, m ≠ o → S'.fp m = S.fp m := fun m hm => by simp [S', hm]
  have hPQ : ∀ c ∈ Pp ++ Q, c ∈ S.fp o := fun c hc => by rw [h5]; exact hc
  have hmemN : ∀ c ∈ Pp ++ (l0.flatMap S.fp ++ Q), c ∈ S.fp o ∨ c ∈ l0.flatMap S.fp := by
    intro c hc
    simp only [List.mem_append] at hc
    rcases hc with hc | hc | hc
    · exact .inl (hPQ c (by simp [hc]))
    · exact .inr hc
    · exact .inl (hPQ c (by simp [hc]))
  have hfn2 : (Pp ++ Q).Nodup := by rw [hPp]; exact hfn
  have hne : ∀ c, (∃ o' k, o' ≠ o ∧ (getO x.ob o').c = some k ∧ c ∈ S.fp o') → c ≠ b := by
    rintro c ⟨o', k, ho', hk, hc⟩ e
    subst e
    exact I.sep o' o k _ ho' hk e3 c hc hbF
  have hres := I.turn (S' := S') (ob' := ob') (w' := w.setCells b (off + i) cs2) (fun m => m = o ∨ m ∈ l0)
    (fun m hm => ⟨hold m hm, rfl, hfpn m (fun e => hm (.inl e)), fun c hc c1 hc1 => ⟨w3 c1 (hne c1 ⟨m, c, fun e => hm (.inl e), hc, hc1⟩), ((I.objs m c hc).2.2 c1 hc1).1⟩⟩)
    (fun c hc => ⟨hc, w3 c (fun e => (hmine b hbF).1 (e ▸ hc))⟩)
    (fun m hm => by
      rcases hm with rfl | hm
      · have hg0 : (getO ob' m).g = (getO x.ob m).g := by rw [hnew, e1]
        have hh0 : (getO ob' m).h = (getO x.ob m).h + 1 := by rw [hnew, e2]
        refine ⟨fun g1 h1' p1 win v1 hr1 hs1 => ⟨by unfold refOk at *; omega, fun t2 xs2 nn2 hc2' hg2 hp2 => ?_, fun t4 xs4 nn4 j4 hc4 => (by rw [hnew] at hc4; cases hc4)⟩, fun g1 h1' p1 v1 hr1 hs1 => ⟨by unfold refOk at *; omega, fun c0 u hc hh0' => ?_, fun t2 xs2 nn2 hc2' hg2 hp2 => ?_, fun k3 t3 es3 hc3 => (by rw [hnew] at hc3; cases hc3), fun t4 xs4 nn4 j4 hc4 => (by rw [hnew] at hc4; cases hc4)⟩⟩
        · rw [hnew] at hc2'
          cases hc2'
          rcases hp2 with rfl | hp2
          · obtain ⟨te1, A1, n1, cap1, k1, k2, k3⟩ := hs1.2 t' xs nn i e3 (by omega) rfl
            exact ⟨te1, A1, n1, cap1, k1, ⟨k2.1, by rw [List.length_set]; exact k2.2⟩, k3⟩
          · unfold refOk at hr1; omega
        · rw [hnew] at hc; cases hc; cases hh0'
        · unfold refOk at hr1; omega
      · have htn : Turned (getO x.ob m) (getO ob' m) := by rw [hgone m hm, hr m (by simp [hm])]; exact .inr ⟨rfl, rfl, rfl⟩
        exact ⟨fun g1 h1' p1 win v1 hr1 _ => Turned.sl (S := S) (w := w) htn hr1, fun g1 h1' p1 v1 hr1 _ => Turned.pt (S := S) (w := w) htn hr1⟩)
    (fun _ m c hm hc => by
      rcases hm with rfl | hm
      · rw [hnew] at hc
        cases hc
        refine ⟨⟨by rw [hfpo]; exact hoN, fun _ e => ?_⟩, ?_, fun c hc => ?_⟩
        · have e' : (S.hd m).1 = none := e
          rw [hA] at e'
          cases e'
        · rw [hfpo]
          have a1 := List.nodup_append.1 hfn2
          rw [List.nodup_append]
          refine ⟨a1.1, ?_, ?_⟩
          · rw [List.nodup_append]
            exact ⟨hF2n, a1.2.1, fun c hc c' hc' e => (hF2 c hc).2.2.2 (by rw [e]; exact hPQ c' (by simp [hc']))⟩
          · intro c hc c' hc' e
            rcases List.mem_append.1 hc' with h | h
            · exact (hF2 c' h).2.2.2 (by rw [← e]; exact hPQ c (by simp [hc]))
            · exact a1.2.2 c hc c' h e
        · rw [hfpo] at hc
          rcases hmemN c hc with h | h
          · have := hmine c h
            exact ⟨this.1, by rw [w2]; exact this.2.1, this.2.2.imp_right fun q => .inl (q.resolve_right (by intro q'; cases q'))⟩
          · have := hF2 c h
            exact ⟨this.2.1, by rw [w2]; exact this.1, this.2.2.1.imp_right .inl⟩
      · rw [hgone m hm] at hc; cases hc)
    (fun m m' c c' hm hne' hc hc' d hd hd' => by
      rcases hm with rfl | hm
      · rw [hfpo] at hd
        rw [hfpn m' (Ne.symm hne')] at hd'
        have hm' : ¬ (m' = m ∨ m' ∈ l0) := by
          rintro (h | h)
          · exact hne' h.symm
          · rw [hgone m' h] at hc'; cases hc'
        rw [hold m' hm'] at hc'
        rcases hmemN d hd with h | h
        · exact I.sep m m' _ c' hne' e3 hc' d h hd'
        · rw [List.mem_flatMap] at h
          obtain ⟨o', ho', h⟩ := h
          obtain ⟨_, k, hk, _⟩ := hlive o' ho'
          exact I.sep o' m' k c' (fun e => hm' (.inr (e ▸ ho'))) hk hc' d h hd'
      · rw [hgone m hm] at hc; cases hc)
    (by rw [w2]; exact Nat.le_refl _) (fun c hc => by rw [w2]; exact I.okb c hc)
    ⟨w4.trans I.kept.os, w5.trans I.kept.tape, w6.trans I.kept.output, by rw [w2]; exact I.kept.size, fun k hk hd => by
      rw [← I.kept.block k hk hd]
      refine w3 k (fun e => ?_)
      subst e
      rcases (hmine k hbF).2.2 with h | h | h
      · omega
      · exact hd h
      · cases h⟩
    (fun m c hm hf hg hc => by
      rcases hm with rfl | hm
      · rw [hnew] at hg hc
        cases hc
        obtain ⟨f1, f2⟩ := I.fix m _ hf (by rw [e1]; exact hg) e3
        refine ⟨f1, ?_⟩
        rw [← f2]
        simp [Ob.shape]
      · rw [hgone m hm] at hc; cases hc)
  exact ⟨_, S', hrun, hres.1⟩
theorem opIndexAddr_sound {C : Ctx} {x : X} {a : Act} (I : Inv C S x a w) {T : Tab} (hT : TabOk P T) {t : Nat} {r : Rd} (R : RdOk r x) {v i u : VT} (h : (opIndexAddr T t r v i).has u) {uv ui : Value} (hv : VTV S x.ob w v uv) (hi : VTV S x.ob w i ui) :
    ∃ z, (Instr.indexAt t uv ui).run P w = .ok z w ∧ VTV S x.ob w u z := by
  unfold opIndexAddr at h
  split at h
  · rename_i o g h0
    split at h
    · rename_i g' h' t' xs nn j he
      unfold opIndexHole at h
      obtain ⟨te, ht, h1⟩ := Br.opt_has h
      clear h
      split at h1
      · rename_i k n
        obtain rfl := VTV_int hi
        split at h1
        · rename_i e hk
          obtain ⟨hc, h2⟩ := Br.when_has h1
          obtain ⟨⟨b0, b1⟩, h3⟩ := h2
          cases h3
          simp only [Bool.and_eq_true] at hc
          have hty := of_decide_eq_true hc.1
          obtain ⟨e1, e2, e3⟩ := ok_eq R he
          obtain ⟨_, href, hsl⟩ := VTV_sl hv
          obtain ⟨te1, A, m, cap, hty1, hhd, hwin⟩ := hsl.2 t' xs nn j e3 (by rw [e1]; exact beq_of hc.2) rfl
          obtain ⟨⟨hj, b, off, l, G1, G3, hA, hb, hll, hfp, hcl⟩, _, _⟩ := I.objs o _ e3
          obtain ⟨q1, q2⟩ := hhd
          have hwin' : uv = .slice A m cap := hwin
          subst hwin'
          rw [q1] at hA
          have hA' : A = some ⟨b, off, none⟩ := hA
          subst hA'
          subst q2
          refine ⟨_, run_indexAt hT ht hk hty b0 (by exact b1), ?_⟩
          refine pt_VTV (.inr ⟨by rw [e1]; exact beq_of hc.2, by omega⟩) ⟨fun c u2 hc2 hu2 => ?_, fun t2 xs2 nn2 hc2 => ?_, fun k3 t3 es3 hc3 => ?_, fun t4 xs4 nn4 j4 hc4 _ _ i4 hi4 => ?_⟩
          · rw [e3] at hc2; cases hc2; cases hu2
          · rw [e3] at hc2; cases hc2
          · rw [e3] at hc3; cases hc3
          · injection hi4 with hi4
            injection hi4 with hi4
            subst hi4
            exact ⟨b, off, by rw [q1], by simp [Ty.cells]⟩
        · exact h1.elim
      · exact h1.elim
    · exact opIndexAddr0_sound I hT R h hv hi
  · exact opIndexAddr0_sound I hT R h hv hi
end
end Go.Vm
set_option linter.unusedVariables false
set_option linter.unusedSimpArgs false
namespace Go.Vm
open Go Go.RowKit
section
variable {P : Program} {S : Side} {w : World} {ob : List Obe}
theorem VTC_setFld : ∀ {j : Nat} {u c v u' : VT} {cs : List Value} {k : Nat} {c0 c1 c2 d1 : List Value}, VT.setFld j u v = some u' → VT.foff j u = some k → VT.fld j u = some c → VTC S ob w u cs → cs = c0 ++ (c1 ++ c2) → c0.length = k → VTC S ob w c c1 → d1.length = c1.length → VTC S ob w v d1 →
    VTC S ob w u' (c0 ++ (d1 ++ c2))
  | 0, .va (.pr a b) x, c, v, u', cs, k, c0, c1, c2, d1, h, hk, hf, hc, e, hl, hc1, hd, hv => by
    cases h; cases hk; cases hf
    obtain ⟨e1, e2, e', h1, h2⟩ := hc
    have : c0 = [] := List.eq_nil_of_length_eq_zero hl
    subst this
    have hl1 : c1.length = e1.length := by rw [VTC_len hc1, RO_len h1]; rfl
    obtain ⟨q1, q2⟩ := List.append_inj (by simpa [e'] using e.symm : c1 ++ c2 = e1 ++ e2) hl1
    exact ⟨d1, c2, rfl, hv, by rw [q2]; exact h2⟩
  | 0, .pr a b, c, v, u', cs, k, c0, c1, c2, d1, h, hk, hf, hc, e, hl, hc1, hd, hv => by
    cases h; cases hk; cases hf
    obtain ⟨e1, e2, e', h1, h2⟩ := hc
    have : c0 = [] := List.eq_nil_of_length_eq_zero hl
    subst this
    have hl1 : c1.length = e1.length := by rw [VTC_len hc1, VTC_len h1]
    obtain ⟨q1, q2⟩ := List.append_inj (by simpa [e'] using e.symm : c1 ++ c2 = e1 ++ e2) hl1
    exact ⟨d1, c2, rfl, hv, by rw [q2]; exact h2⟩
  | j + 1, .va (.pr a b) x, c, v, u', cs, k, c0, c1, c2, d1, h, hk, hf, hc, e, hl, hc1, hd, hv => by
    simp only [VT.setFld, Option.map_eq_some_iff] at h
    obtain ⟨z, hz, rfl⟩ := h
    simp only [VT.foff, Option.map_eq_some_iff] at hk
    obtain ⟨k', hk', rfl⟩ := hk
    obtain ⟨e1, e2, e', h1, h2⟩ := hc
    have hl1 := RO_len h1
    obtain ⟨q, rfl⟩ : ∃ q, c0 = e1 ++ q := by
      refine ⟨c0.drop e1.length, ?_⟩
      have : c0.take e1.length = e1 := by
        have h9 := congrArg (List.take e1.length) (e.symm.trans e')
        rw [List.take_append_of_le_length (by omega)] at h9
        simpa using h9
      exact (List.take_append_drop e1.length c0).symm.trans (by rw [this])
    have e2' : e2 = q ++ (c1 ++ c2) := by
      have := e.symm.trans e'
      rw [List.append_assoc] at this
      exact (List.append_cancel_left this).symm
    have := VTC_setFld (u := .va b x.2) hz hk' hf h2 e2' (by simp at hl; omega) hc1 hd hv
    exact ⟨e1, q ++ (d1 ++ c2), by simp, h1, this⟩
  | j + 1, .pr a b, c, v, u', cs, k, c0, c1, c2, d1, h, hk, hf, hc, e, hl, hc1, hd, hv => by
    simp only [VT.setFld, Option.map_eq_some_iff] at h
    obtain ⟨z, hz, rfl⟩ := h
    simp only [VT.foff, Option.map_eq_some_iff] at hk
    obtain ⟨k', hk', rfl⟩ := hk
    obtain ⟨e1, e2, e', h1, h2⟩ := hc
    have hl1 := VTC_len h1
    obtain ⟨q, rfl⟩ : ∃ q, c0 = e1 ++ q := by
      refine ⟨c0.drop e1.length, ?_⟩
      have : c0.take e1.length = e1 := by
        have h9 := congrArg (List.take e1.length) (e.symm.trans e')
        rw [List.take_append_of_le_length (by omega)] at h9
        simpa using h9
      exact (List.take_append_drop e1.length c0).symm.trans (by rw [this])
    have e2' : e2 = q ++ (c1 ++ c2) := by
      have := e.symm.trans e'
      rw [List.append_assoc] at this
      exact (List.append_cancel_left this).symm
    have := VTC_setFld (u := b) hz hk' hf h2 e2' (by simp at hl; omega) hc1 hd hv
    exact ⟨e1, q ++ (d1 ++ c2), by simp, h1, this⟩
theorem VTC_setPath : ∀ {p : List Stp} {u c v u' : VT} {cs : List Value} {k : Nat} {c0 c1 c2 d1 : List Value}, VT.setPath p u v = some u' → VT.off p u = some k → VT.getPath p u = some c → VTC S ob w u cs → cs = c0 ++ (c1 ++ c2) → c0.length = k → VTC S ob w c c1 → d1.length = c1.length → VTC S ob w v d1 →
    VTC S ob w u' (c0 ++ (d1 ++ c2))
  | [], u, c, v, u', cs, k, c0, c1, c2, d1, h, hk, hf, hc, e, hl, hc1, hd, hv => by
    cases h; cases hk; cases hf
    have h1 := VTC_len hc
    have h2 := VTC_len hc1
    subst e
    simp at h1
    have : c0 = [] := List.eq_nil_of_length_eq_zero hl
    have : c2 = [] := List.eq_nil_of_length_eq_zero (by omega)
    subst_vars
    simpa using hv
  | .i _ :: p, u, c, v, u', cs, k, c0, c1, c2, d1, h, hk, hf, hc, e, hl, hc1, hd, hv => by simp [VT.getPath] at hf
  | .f j :: p, u, c, v, u', cs, k, c0, c1, c2, d1, h, hk, hf, hc, e, hl, hc1, hd, hv => by
    simp only [VT.getPath, Option.bind_eq_some_iff] at hf
    obtain ⟨f, hf1, hf2⟩ := hf
    simp only [VT.off, hf1, Option.bind_some, Option.bind_eq_some_iff, Option.map_eq_some_iff] at hk
    obtain ⟨k1, hk1, k2, hk2, rfl⟩ := hk
    simp only [VT.setPath, hf1, Option.bind_some, Option.bind_eq_some_iff] at h
    obtain ⟨f', hs1, hs2⟩ := h
    obtain ⟨k1', e0, e1, e2, g1, g2, g3, g4⟩ := fld_cells hf1 hc
    rw [hk1] at g1
    cases g1
    obtain ⟨k2', m0, m1, m2, n1, n2, n3, n4⟩ := path_cells hf2 g4
    rw [hk2] at n1
    cases n1
    -- the pieces agree
    have hcs : e0 ++ ((m0 ++ (m1 ++ m2)) ++ e2) = c0 ++ (c1 ++ c2) := by rw [← n2, ← g2, e]
    have hc0 : c0 = e0 ++ m0 := by
      have h9 := congrArg (List.take (e0.length + m0.length)) hcs
      rw [List.take_append_of_le_length (l₁ := c0) (by rw [hl, g3, n3]; exact Nat.le_refl _)] at h9
      rw [List.take_of_length_le (l := c0) (by rw [hl, g3, n3]; exact Nat.le_refl _)] at h9
      rw [← h9, List.take_append]
      simp [List.take_of_length_le]
    subst hc0
    have hc1e : c1 = m1 := by
      have h8 : (m1 ++ (m2 ++ e2)) = c1 ++ c2 := by simpa using hcs
      exact (List.append_inj h8 (by rw [VTC_len n4, VTC_len hc1])).1.symm
    subst hc1e
    have hc2e : c2 = m2 ++ e2 := by
      have h8 : (c1 ++ (m2 ++ e2)) = c1 ++ c2 := by simpa using hcs
      exact (List.append_cancel_left h8).symm
    subst hc2e
    have hin := VTC_setPath (p := p) hs1 hk2 hf2 g4 n2 n3 hc1 hd hv
    have := VTC_setFld (d1 := m0 ++ (d1 ++ m2)) hs2 hk1 hf1 hc g2 g3 g4 (by rw [n2]; simp [hd]) hin
    simpa using this
structure Sim (u u' : VT) : Prop where
  cells : u.cells = u'.cells
  off : ∀ q, VT.off q u = VT.off q u'
theorem Sim.refl (u : VT) : Sim u u := ⟨rfl, fun _ => rfl⟩
theorem fld_split (b : VT) : ∀ (i : Nat) {s t : Ty} (x : (Ty.pr s t).D), VT.fld i (.pr (.va s x.1) (.va t x.2)) = VT.fld i (.va (.pr s t) x) ∧ VT.foff i (.pr (.va s x.1) (.va t x.2)) = VT.foff i (.va (.pr s t) x)
  | 0, s, t, x => ⟨rfl, rfl⟩
  | i + 1, s, t, x => ⟨rfl, rfl⟩
theorem setFld_spec : ∀ {j : Nat} {u c c' u' : VT}, VT.fld j u = some c → c.cells = c'.cells → VT.setFld j u c' = some u' → u.cells = u'.cells ∧ ∀ i, VT.foff i u' = VT.foff i u ∧ VT.fld i u' = if i = j then some c' else VT.fld i u
  | 0, .va (.pr a b) x, c, c', u', hf, hc, h => by
    cases h; cases hf
    refine ⟨by simp only [VT.cells, Ty.cells] at *; omega, fun i => ?_⟩
    cases i with
    | zero => exact ⟨rfl, rfl⟩
    | succ i => simp only [VT.cells] at hc; simp [VT.foff, VT.fld, ← hc]
  | 0, .pr a b, c, c', u', hf, hc, h => by
    cases h; cases hf
    refine ⟨by simp only [VT.cells]; omega, fun i => ?_⟩
    cases i with
    | zero => exact ⟨rfl, rfl⟩
    | succ i => simp [VT.foff, VT.fld, hc]
  | j + 1, .va (.pr a b) x, c, c', u', hf, hc, h => by
    simp only [VT.setFld, Option.map_eq_some_iff] at h
    obtain ⟨z, hz, rfl⟩ := h
    obtain ⟨h1, h2⟩ := setFld_spec (u := .va b x.2) hf hc hz
    refine ⟨by simp only [VT.cells, Ty.cells] at *; omega, fun i => ?_⟩
    cases i with
    | zero => exact ⟨rfl, rfl⟩
    | succ i =>
      obtain ⟨g1, g2⟩ := h2 i
      simp [VT.foff, VT.fld, g1, g2, VT.cells]
  | j + 1, .pr a b, c, c', u', hf, hc, h => by
    simp only [VT.setFld, Option.map_eq_some_iff] at h
    obtain ⟨z, hz, rfl⟩ := h
    obtain ⟨h1, h2⟩ := setFld_spec (u := b) hf hc hz
    refine ⟨by simp only [VT.cells]; omega, fun i => ?_⟩
    cases i with
    | zero => exact ⟨rfl, rfl⟩
    | succ i =>
      obtain ⟨g1, g2⟩ := h2 i
      simp [VT.foff, VT.fld, g1, g2]
theorem fits_off : ∀ {q : List Stp} {v u : VT} {t : Ty}, v.fits t = true → u.fits t = true → VT.off q v = VT.off q u
  | [], v, u, t, _, _ => rfl
  | .i _ :: q, v, u, t, _, _ => rfl
  | .f j :: q, v, u, t, hv, hu => by
    simp only [VT.off]
    cases ht : tyAt t [.f j] with
    | some t' =>
      obtain ⟨v1, e1, f1⟩ := fld_some hv ht
      obtain ⟨u1, e2, f2⟩ := fld_some hu ht
      rw [foff_fits hv ht, foff_fits hu ht, e1, e2]
      simp only [Option.bind_some]
      rw [fits_off f1 f2]
    | none =>
      have hno : ∀ {z : VT}, z.fits t = true → VT.fld j z = none := by
        intro z hz
        cases hf : VT.fld j z with
        | none => rfl
        | some c =>
          obtain ⟨t', h1, _⟩ := fld_fits hz hf
          rw [ht] at h1; cases h1
      rw [hno hv, hno hu]
      simp
theorem Sim.set : ∀ {p : List Stp} {u c v u' : VT}, VT.getPath p u = some c → Sim c v → VT.setPath p u v = some u' → Sim u u'
  | [], u, c, v, u', h1, hs, h2 => by cases h1; cases h2; exact hs
  | .i _ :: p, u, c, v, u', h1, _, _ => by simp [VT.getPath] at h1
  | .f j :: p, u, c, v, u', h1, hs, h2 => by
    simp only [VT.getPath, Option.bind_eq_some_iff] at h1
    obtain ⟨f, hf1, hf2⟩ := h1
    simp only [VT.setPath, hf1, Option.bind_some, Option.bind_eq_some_iff] at h2
    obtain ⟨f', hs1, hs2⟩ := h2
    have ih := Sim.set hf2 hs hs1
    obtain ⟨g1, g2⟩ := setFld_spec hf1 ih.cells hs2
    refine ⟨g1, fun q => ?_⟩
    cases q with
    | nil => rfl
    | cons s q => cases s with
      | i n => rfl
      | f i =>
        obtain ⟨k1, k2⟩ := g2 i
        simp only [VT.off, k1, k2]
        by_cases hi : i = j
        · subst hi
          rw [if_pos rfl, hf1]
          simp only [Option.bind_some]
          rw [ih.off q]
        · rw [if_neg hi]
theorem storeVar_sound {C : Ctx} {x : X} {a : Act} (I : Inv C S x a w) {T : Tab} (hT : TabOk P T) {t : Nat} {te : TE} (ht : T.find t = some te) {r : Rd} (R : RdOk r x) {o g h g' h' : Nat} {p : List Stp} {u v u0 u' : VT} (he : r.o o = ⟨g', h', some (.var u)⟩) (hg : g = g') (hfv : v.fits te.ty = true)
    (hu0 : VT.getPath p u = some u0) (hf0 : u0.fits te.ty = true) (hset : VT.setPath p u v = some u') {ua uv : Value} (ha : VTV S x.ob w (.pt o g h p) ua) (hv' : VTV S x.ob w v uv) :
    ∃ w' S', (Instr.storeAt t ua uv).run P w = .ok () w' ∧ Inv C S' ⟨x.sl, putO x.ob [(o, ⟨g', h', some (.var u')⟩)]⟩ a w' := by
  obtain ⟨e1, e2, e3⟩ := ok_eq R he
  obtain ⟨_, href, hpt⟩ := VTV_pt ha
  obtain ⟨b, k, hhd, hoff, rfl⟩ := hpt.1 _ u e3 rfl (by rw [e1]; exact hg)
  obtain ⟨⟨b', l, hhd', hl, hcu, hfp⟩, hfn, hmine⟩ := I.objs o _ e3
  rw [hhd] at hhd'
  cases hhd'
  obtain ⟨cs2, hc2, rfl⟩ := VTV_of hv' (fun q e => by subst e; cases te.ty <;> cases hfv) (fun e => by subst e; cases te.ty <;> cases hfv)
  obtain ⟨k', c0, c1, c2, f1, f2, f3, f4⟩ := path_cells hu0 hcu
  rw [hoff] at f1
  cases f1
  have hl2 : cs2.length = te.ty.cells := by rw [VTC_len hc2, fits_cells hfv]
  have hl1 : c1.length = te.ty.cells := by rw [VTC_len f4, fits_cells hf0]
  have hll : k + cs2.length ≤ l.length := by rw [f2]; simp; omega
  have hrun := run_storeA (P := P) (off := k) hT ht (mkV_cells hc2) hl2 (VTC_one hc2) hl hll
  obtain ⟨w1, w2, w3, w4, w5, w6⟩ := setCells_heap cs2 k w hl hll
  have hnew : getO (putO x.ob [(o, ⟨g', h', some (.var u')⟩)]) o = ⟨g', h', some (.var u')⟩ := by
    simp only [putO]
    rw [getO_set, if_pos ⟨rfl, getO_lt e3⟩]
  have hold : ∀ m, m ≠ o → getO (putO x.ob [(o, ⟨g', h', some (.var u')⟩)]) m = getO x.ob m := by
    intro m hm
    exact getO_putO_ne _ _ _ (by simpa [wrote] using hm)
  have hsim : Sim u u' := Sim.set hu0 ⟨by rw [fits_cells hf0, fits_cells hfv], fun q => fits_off hf0 hfv⟩ hset
  have hsetC : setC l k cs2 = c0 ++ (cs2 ++ c2) := by
    unfold setC
    rw [f2, ← f3]
    simp [hl1, hl2, List.drop_append]
  have hbo : b ∈ S.fp o := by rw [hfp]; simp
  have hne : ∀ m c, m ≠ o → (getO x.ob m).c = some c → ∀ d ∈ S.fp m, d ≠ b := by
    intro m c hm hc d hd e
    subst e
    exact I.sep m o c _ hm hc e3 d hd hbo
  have hres := I.turn (S' := S) (ob' := putO x.ob [(o, ⟨g', h', some (.var u')⟩)]) (w' := w.setCells b k cs2) (fun m => m = o)
    (fun m hm => ⟨hold m hm, rfl, rfl, fun c hc d hd => ⟨w3 d (hne m c hm hc d hd), ((I.objs m c hc).2.2 d hd).1⟩⟩)
    (fun c hc => ⟨hc, w3 c (fun e => (hmine b hbo).1 (e ▸ hc))⟩)
    (fun m hm => by
      subst hm
      refine ⟨fun g1 h1 p1 win v1 hr1 hs1 => ⟨by unfold refOk at *; rw [hnew]; rw [e1, e2] at hr1; exact hr1, fun t2 xs2 nn2 hc2' => (by rw [hnew] at hc2'; cases hc2'), fun t4 xs4 nn4 j4 hc4 => (by rw [hnew] at hc4; cases hc4)⟩,
        fun g1 h1 p1 v1 hr1 hs1 => ⟨by unfold refOk at *; rw [hnew]; rw [e1, e2] at hr1; exact hr1, fun c0 u2 hc hh2 hg2 => ?_, fun t2 xs2 nn2 hc2' => (by rw [hnew] at hc2'; cases hc2'), fun k3 t3 es3 hc3 => (by rw [hnew] at hc3; cases hc3), fun t4 xs4 nn4 j4 hc4 => (by rw [hnew] at hc4; cases hc4)⟩⟩
      rw [hnew] at hc hg2
      cases hc
      cases hh2
      obtain ⟨b1, k1, q1, q2, q3⟩ := hs1.1 _ u e3 rfl (by rw [e1]; exact hg2)
      exact ⟨b1, k1, q1, by rw [← hsim.off]; exact q2, q3⟩)
    (fun hv m c hm hc => by
      subst hm
      rw [hnew] at hc
      cases hc
      refine ⟨⟨b, _, hhd, w1, ?_, hfp⟩, hfn, fun d hd => ?_⟩
      · rw [hsetC]
        exact VTC_setPath hset hoff hu0 (hv _ _ hcu) f2 f3 (hv _ _ f4) (by rw [hl1, hl2]) (hv _ _ hc2)
      · have := hmine d hd
        exact ⟨this.1, by rw [w2]; exact this.2.1, this.2.2⟩)
    (fun m m' c c' hm hne' hc hc' d hd hd' => by
      subst hm
      rw [hold m' (Ne.symm hne')] at hc'
      exact I.sep m m' _ c' hne' e3 hc' d hd hd')
    (by rw [w2]; exact Nat.le_refl _) (fun c hc => by rw [w2]; exact I.okb c hc)
    ⟨w4.trans I.kept.os, w5.trans I.kept.tape, w6.trans I.kept.output, by rw [w2]; exact I.kept.size, fun q hq hd => by
      rw [← I.kept.block q hq hd]
      refine w3 q (fun e => ?_)
      subst e
      rcases (hmine q hbo).2.2 with h | h | h
      · omega
      · exact hd h
      · cases h⟩
    (fun m c hm hf hg2 hc => by
      subst hm
      rw [hnew] at hg2 hc
      cases hc
      exact I.fix m (.var u) hf (by rw [e1]; exact hg2) e3)
  exact ⟨_, S, hrun, hres.1⟩
end
end Go.Vm
