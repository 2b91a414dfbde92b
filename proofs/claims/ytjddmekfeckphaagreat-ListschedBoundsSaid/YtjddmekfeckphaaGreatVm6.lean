/- The value machine, part 7 of 9. -/
import Derived.Test.YtjddmekfeckphaaGreatVm5
import Derived.Deep.Slices
import Derived.SizedLaws
import Derived.ChangeSlices
import Derived.ChangeArms
import Derived.OpenShut
import Derived.Below
import Derived.Carry
import Derived.RowKit
set_option linter.unusedVariables false
set_option linter.unusedSimpArgs false
set_option linter.unnecessarySimpa false
set_option linter.unusedVariables false
set_option linter.unusedSimpArgs false
namespace Go.Vm
open Go Go.RowKit
section
variable {P : Program} {S : Side} {w : World} {C : Ctx} {x : X} {a : Act}
theorem val_refs {t : Ty} {s : Ty} {z : s.D} : (VT.va s z).refs = [] := rfl
theorem no_some {α : Type} {y : α} {Q : Prop} (h : (none : Option α) = some y) : Q := by cases h
theorem own_sl {r : Rd} {t : Ty} {v : VT} {y : List t.D} {l : List Nat} (h : r.own (.sl t) v = some (y, l)) : v.isAgg = false ∧ l.Sublist v.refs := by
  cases v with
  | va s z =>
    have h' : cond (Ty.sl t).flat ((Dy.as ⟨s, z⟩ (.sl t)).map fun y => (y, ([] : List Nat))) none = some (y, l) := h
    cases (cond_opt h').1
  | nl => have h' : some (([] : List t.D), ([] : List Nat)) = some (y, l) := h; cases h'; exact ⟨rfl, List.nil_sublist _⟩
  | em => have h' : some (([] : List t.D), ([] : List Nat)) = some (y, l) := h; cases h'; exact ⟨rfl, List.nil_sublist _⟩
  | sl o g hh p win =>
    cases p with
    | nil =>
      cases win with
      | none =>
        have h' : ((r.slice o g hh [] none).bind fun d => (d.as (.sl t)).map fun y => (y, [o])) = some (y, l) := h
        obtain ⟨d, _, h'⟩ := Option.bind_eq_some_iff.1 h'
        obtain ⟨y2, _, e⟩ := Option.map_eq_some_iff.1 h'
        cases e
        exact ⟨rfl, List.Sublist.refl _⟩
      | some q => exact no_some h
    | cons s p => exact no_some h
  | _ => exact no_some h
theorem slice_live {o g hh : Nat} {p : List Stp} {win : Option (Nat × Nat)} {d : Dy} (h : (rdOf x).slice o g hh p win = some d) : ∃ c, (getO x.ob o).c = some c ∧ c.isRv = false := by
  unfold Rd.slice at h
  split at h
  · rename_i g' h' t xs nn hq
    have hq' : getO x.ob o = ⟨g', h', some (.arr t xs nn)⟩ := hq
    exact ⟨_, by rw [hq'], rfl⟩
  · cases h
theorem val_live : ∀ {t : Ty} {v : VT} {y : t.D}, (rdOf x).val t v = some y → ∀ o ∈ v.refs, ∃ c, (getO x.ob o).c = some c ∧ c.isRv = false := by
  intro t
  induction t with
  | int k | bool | str | op | un =>
    intro v y h o ho
    cases v <;> first | (simp only [Rd.val] at h; cases h; done) | (cases ho; done) | skip
  | pr a b iha ihb =>
    intro v y h o ho
    cases v <;> first | (simp only [Rd.val] at h; cases h; done) | (cases ho; done) | skip
    rename_i v u
    have h' : (((rdOf x).val a v).bind fun x' => ((rdOf x).val b u).map fun y => (x', y)) = some y := h
    obtain ⟨y1, h1, h'⟩ := Option.bind_eq_some_iff.1 h'
    obtain ⟨y2, h2, _⟩ := Option.map_eq_some_iff.1 h'
    rcases List.mem_append.1 ho with ho | ho
    · exact iha h1 o ho
    · exact ihb h2 o ho
  | sl ty ih =>
    intro v y h o ho
    cases v <;> first | (simp only [Rd.val] at h; cases h; done) | (cases ho; done) | skip
    rename_i o' g hh p win
    have h' : (((rdOf x).slice o' g hh p win).bind fun d => d.as (.sl ty)) = some y := h
    obtain ⟨d, hd, _⟩ := Option.bind_eq_some_iff.1 h'
    have e : o = o' := by simpa [VT.refs] using ho
    subst e
    exact slice_live hd
theorem res_C (I : Inv C S x a w) : ∀ {t : Rt} {v : VT} {y : t.D} {cs : List Value}, (rdOf x).res t v = some y → VTC S x.ob w v cs →
    v.isAgg = t.agg ∧ ∃ l, ResC S.ok w t y cs (l.flatMap S.fp) ∧ AllLive (rdOf x) x l ∧ l.Sublist v.refs := by
  intro t
  induction t with
  | fl t =>
    intro v y cs h hc
    have h' : cond t.flat ((rdOf x).val t v) none = some y := by cases v <;> exact h
    obtain ⟨hf, h1⟩ := cond_opt h'
    refine ⟨val_agg h1, [], ⟨rfl, hf, ?_⟩, (fun o ho => by cases ho), List.nil_sublist _⟩
    have := Rd_val I (rdOf_ok x) h1 hc
    exact (RO_flat hf).2 ((RO_flat hf).1 this)
  | os t =>
    intro v y cs h hc
    have h' : ((rdOf x).own (.sl t) v).map (·.1) = some y := by cases v <;> exact h
    obtain ⟨⟨y', l⟩, h1, rfl⟩ := Option.map_eq_some_iff.1 h'
    obtain ⟨h2, h3⟩ := Rd_own I (rdOf_ok x) h1 hc
    obtain ⟨h4, h5⟩ := own_sl h1
    exact ⟨h4, l, h2, h3, h5⟩
  | on t =>
    intro v y cs h hc
    cases v with
    | nl =>
      have h' : (some none : Option (Option (List t.D))) = some y := h
      cases h'
      exact ⟨rfl, [], ⟨hc, rfl⟩, (fun o ho => by cases ho), List.nil_sublist _⟩
    | sl o g hh p win =>
      cases p with
      | cons s p => exact no_some h
      | nil =>
        cases win with
        | some q => exact no_some h
        | none =>
          have h' : cond (nnOf (rdOf x) o) (((rdOf x).own (.sl t) (.sl o g hh [] none)).map fun y => some y.1) none = some y := h
          obtain ⟨hnn, h1⟩ := cond_opt h'
          obtain ⟨⟨y', l⟩, h2, rfl⟩ := Option.map_eq_some_iff.1 h1
          obtain ⟨h3, h4⟩ := Rd_own I (rdOf_ok x) h2 hc
          have h5 : (((rdOf x).slice o g hh [] none).bind fun d => (d.as (.sl t)).map fun y => (y, [o])) = some (y', l) := h2
          obtain ⟨d, hd, h5⟩ := Option.bind_eq_some_iff.1 h5
          obtain ⟨y2, _, e⟩ := Option.map_eq_some_iff.1 h5
          cases e
          obtain ⟨A, cap, rfl, ho⟩ := h3
          refine ⟨rfl, [o], ⟨A, cap, rfl, ?_, ho⟩, h4, List.Sublist.refl _⟩
          unfold nnOf at hnn
          split at hnn
          · rename_i t' xs nn hob
            subst hnn
            have hob' : (getO x.ob o).c = some (.arr t' xs true) := hob
            have hA := (I.objs o _ hob').1.2 rfl
            obtain ⟨t0, xs0, nn0, te, _, _, _, ys, q1, q2, q3, q4, q5, q6, q7, q8, _⟩ := slice_own I (rdOf_ok x) hd
            obtain ⟨v, e, _, _, hs⟩ := hc
            cases e
            obtain ⟨A', n, cap', F', j1, j2, j3, j4, j5⟩ := q8 _ hs
            simp only [winR] at j2
            injection j2 with e1 e2 e3
            subst e1
            rw [(j5 rfl).1] at hA
            exact hA
          · cases hnn
    | _ => exact no_some h
  | ro t =>
    intro v y cs h hc
    have h1 : (rdOf x).val t v = some y := by cases v <;> exact h
    refine ⟨val_agg h1, v.refs, ?_, fun o ho => ⟨rfl, val_live h1 o ho⟩, List.Sublist.refl _⟩
    refine RO_mono (fun b hb => hb.imp_right fun ⟨o, c, ho, _, hb⟩ => List.mem_flatMap.2 ⟨o, ho, hb⟩) (fun _ _ _ => rfl) (Rd_val_refs I (rdOf_ok x) h1 hc)
  | fi n t =>
    intro v y cs h hc
    cases v with
    | fn f c =>
      cases c with
      | pr v c2 =>
        cases c2 with
        | un =>
          have h' : cond (Nat.beq f (ifB + n) && t.one) ((rdOf x).val t v) none = some y := h
          obtain ⟨hb, h1⟩ := cond_opt h'
          rw [Bool.and_eq_true] at hb
          have ef := Nat.eq_of_beq_eq_true hb.1
          subst ef
          have ho := hb.2
          unfold Ty.one at ho
          simp only [Bool.and_eq_true] at ho
          obtain ⟨caps, rfl, c1, c2, rfl, hc1, hc2⟩ := hc
          have hc2' : c2 = [] := hc2
          subst hc2'
          have hr : RO (fun _ => False) (cv w) t c1 y := (RO_flat ho.1).2 ((RO_flat ho.1).1 (Rd_val I (rdOf_ok x) h1 hc1))
          obtain ⟨z, rfl⟩ := List.length_eq_one_iff.1 ((RO_len hr).trans (Nat.eq_of_beq_eq_true ho.2.2))
          exact ⟨rfl, [], ⟨rfl, hb.2, z, by rw [List.append_nil, fnVal_if], hr⟩, (fun o ho => by cases ho), List.nil_sublist _⟩
        | _ => exact no_some h
      | _ => exact no_some h
    | _ => exact no_some h
  | un =>
    intro v y cs h hc
    cases v with
    | va s z =>
      cases s with
      | un => exact ⟨rfl, [], ⟨hc, rfl⟩, (fun o ho => by cases ho), List.nil_sublist _⟩
      | _ => exact no_some h
    | un => exact ⟨rfl, [], ⟨hc, rfl⟩, (fun o ho => by cases ho), List.nil_sublist _⟩
    | _ => exact no_some h
  | pr ta tb iha ihb =>
    intro v y cs h hc
    have two : ∀ {va vb : VT} {c1 c2 : List Value}, (((rdOf x).res ta va).bind fun y => ((rdOf x).res tb vb).map fun z => (y, z)) = some y → cs = c1 ++ c2 → VTC S x.ob w va c1 → VTC S x.ob w vb c2 →
        ∃ l, ResC S.ok w (.pr ta tb) y cs (l.flatMap S.fp) ∧ AllLive (rdOf x) x l ∧ l.Sublist (va.refs ++ vb.refs) := by
      intro va vb c1 c2 h e hc1 hc2
      obtain ⟨y1, h1, h⟩ := Option.bind_eq_some_iff.1 h
      obtain ⟨y2, h2, rfl⟩ := Option.map_eq_some_iff.1 h
      obtain ⟨_, l1, p1, p2, p3⟩ := iha h1 hc1
      obtain ⟨_, l2, q1, q2, q3⟩ := ihb h2 hc2
      refine ⟨l1 ++ l2, ⟨c1, c2, _, _, e, by rw [List.flatMap_append], p1, q1⟩, fun o ho => ?_, p3.append q3⟩
      rcases List.mem_append.1 ho with ho | ho
      · exact p2 o ho
      · exact q2 o ho
    cases v with
    | va s z =>
      cases s with
      | pr s1 s2 =>
        obtain ⟨c1, c2, e, hc1, hc2⟩ := hc
        exact ⟨rfl, two (va := .va _ z.1) (vb := .va _ z.2) h e hc1 hc2⟩
      | _ => exact no_some h
    | pr va vb =>
      obtain ⟨c1, c2, e, hc1, hc2⟩ := hc
      exact ⟨rfl, two h e hc1 hc2⟩
    | _ => exact no_some h
theorem val_tu (r : Rd) (t : Ty) (q : VT) : r.val t (.tu q) = none := by cases t <;> rfl
theorem val_ud (r : Rd) (t : Ty) : r.val t .ud = none := by cases t <;> rfl
theorem res_tu (r : Rd) (t : Rt) (q : VT) : r.res t (.tu q) = none := by
  cases t with
  | fl t => simp only [Rd.res]; rw [val_tu]; cases t.flat <;> rfl
  | os t => simp only [Rd.res]; rw [own_tu]; rfl
  | ro t => simp only [Rd.res]; rw [val_tu]
  | _ => rfl
theorem res_ud (r : Rd) (t : Rt) : r.res t .ud = none := by
  cases t with
  | fl t => simp only [Rd.res]; rw [val_ud]; cases t.flat <;> rfl
  | os t => simp only [Rd.res]; rw [own_ud]; rfl
  | ro t => simp only [Rd.res]; rw [val_ud]
  | _ => rfl
theorem res_V (I : Inv C S x a w) {t : Rt} {v : VT} {y : t.D} {u : Value} (h : (rdOf x).res t v = some y) (hv : VTV S x.ob w v u) : ∃ l, ResV S.ok w t y u (l.flatMap S.fp) ∧ AllLive (rdOf x) x l ∧ l.Sublist v.refs := by
  obtain ⟨cs, hc, rfl⟩ := VTV_of hv (fun z e => by rw [e, res_tu] at h; cases h) (fun e => by rw [e, res_ud] at h; cases h)
  obtain ⟨h1, l, h2, h3, h4⟩ := res_C I h hc
  exact ⟨l, ⟨cs, h2, by unfold mkV; rw [h1]⟩, h3, h4⟩
def VTU (S : Side) (ob : List Obe) (w : World) : VT → List Value → Prop
  | .pr a b, u :: us => VTV S ob w a u ∧ VTU S ob w b us
  | .un, us => us = []
  | _, _ => False
theorem res_T (I : Inv C S x a w) : ∀ {t : Rt} {v : VT} {y : t.D} {us : List Value}, t.chain = true → (rdOf x).res t v = some y → VTU S x.ob w v us → ∃ l, ResT S.ok w t y us (l.flatMap S.fp) ∧ AllLive (rdOf x) x l ∧ l.Sublist v.refs
  | .un, v, y, us, _, h, hv => by
    cases v with
    | un => exact ⟨[], ⟨hv, rfl⟩, (fun o ho => by cases ho), List.nil_sublist _⟩
    | va s z => cases us <;> exact hv.elim
    | _ => exact no_some h
  | .pr ta tb, v, y, us, hch, h, hv => by
    cases v with
    | va s z => cases us <;> exact hv.elim
    | pr va vb =>
     cases us with
     | nil => exact hv.elim
     | cons u us =>
      obtain ⟨hv1, hv2⟩ := hv
      have h' : (((rdOf x).res ta va).bind fun y => ((rdOf x).res tb vb).map fun z => (y, z)) = some y := h
      obtain ⟨y1, h1, h'⟩ := Option.bind_eq_some_iff.1 h'
      obtain ⟨y2, h2, rfl⟩ := Option.map_eq_some_iff.1 h'
      obtain ⟨l1, p1, p2, p3⟩ := res_V I h1 hv1
      obtain ⟨l2, q1, q2, q3⟩ := res_T (t := tb) I hch h2 hv2
      refine ⟨l1 ++ l2, ⟨_, _, by rw [List.flatMap_append], p1, q1⟩, fun o ho => ?_, p3.append q3⟩
      rcases List.mem_append.1 ho with ho | ho
      · exact p2 o ho
      · exact q2 o ho
    | _ => exact no_some h
  | .fl _, _, _, _, hch, _, _ => by cases hch
  | .os _, _, _, _, hch, _, _ => by cases hch
  | .on _, _, _, _, hch, _, _ => by cases hch
  | .ro _, _, _, _, hch, _, _ => by cases hch
def resOf (tmps : Array Value) : ResultVar → Sem Value
  | .tmp t => pure (tmps.getD t undef)
  | .cell a t => do loadVar t (← asAddr (tmps.getD a undef))
theorem resSlot_run (I : Inv C S x a w) {T : Tab} (hT : TabOk P T) {r : ResultVar} {v : VT} (h : resSlot T (rdOf x) r = some v) : ∃ u, (resOf a.tmps r).run P w = .ok u w ∧ VTV S x.ob w v u := by
  cases r with
  | tmp t =>
    have hv := I.eval (y := .tmp t) (v := v) h
    exact ⟨_, rfl, hv⟩
  | cell t ty =>
    simp only [resSlot] at h
    obtain ⟨u, hu, h⟩ := Option.bind_eq_some_iff.1 h
    have hv := I.eval (y := .tmp t) (v := u) hu
    split at h
    · rename_i o g hh
      split at h
      · rename_i g' h' u1 te hob hte
        obtain ⟨hc, rfl⟩ := cond_some h
        rw [Bool.and_eq_true] at hc
        obtain ⟨_, _, hp, _⟩ := VTV_pt hv
        have hob' : getO x.ob o = ⟨g', h', some (.var u1)⟩ := hob
        obtain ⟨b, k, j1, j2, j3⟩ := hp _ u1 (by rw [hob']) rfl (by rw [hob']; exact Nat.eq_of_beq_eq_true hc.1)
        obtain ⟨b', l, q1, q2, q3, q4⟩ := (I.objs o (.var u1) (by rw [hob'])).1
        have hk : k = 0 := by simp only [VT.off] at j2; cases j2; rfl
        subst hk
        have hb : b' = b := by rw [q1] at j1; cases j1; rfl
        subst hb
        have hlen : l.length = te.ty.cells := by rw [VTC_len q3, fits_cells hc.2]
        have hrun := run_loadV (P := P) hT hte hlen (hv_lies q2)
        refine ⟨mkV u1 l, ?_, VTC_VTV q3⟩
        have e1 : a.tmps.getD t undef = .pointer (some ⟨b', 0, none⟩) := j3
        show (do loadVar ty (← asAddr (a.tmps.getD t undef)) : Sem Value).run P w = _
        rw [e1]
        have e3 : (do loadVar ty (← asAddr (.pointer (some ⟨b', 0, none⟩))) : Sem Value).run P w = (loadVar ty ⟨b', 0, none⟩).run P w := by simp [asAddr]
        rw [e3, hrun]
        unfold mkV
        rw [fits_agg hc.2]
      · rename_i g' h' u1 te hob hte
        obtain ⟨hc, rfl⟩ := cond_some h
        rw [Bool.and_eq_true] at hc
        obtain ⟨_, _, hp, _⟩ := VTV_pt hv
        have hob' : getO x.ob o = ⟨g', h', some (.rv u1)⟩ := hob
        obtain ⟨b, k, j1, j2, j3⟩ := hp _ u1 (by rw [hob']) rfl (by rw [hob']; exact Nat.eq_of_beq_eq_true hc.1)
        obtain ⟨b', l, q1, q2, q3, q4⟩ := (I.objs o (.rv u1) (by rw [hob'])).1
        have hk : k = 0 := by simp only [VT.off] at j2; cases j2; rfl
        subst hk
        have hb : b' = b := by rw [q1] at j1; cases j1; rfl
        subst hb
        have hlen : l.length = te.ty.cells := by rw [VTC_len q3, fits_cells hc.2]
        have hrun := run_loadV (P := P) hT hte hlen (hv_lies q2)
        refine ⟨mkV u1 l, ?_, VTC_VTV q3⟩
        have e1 : a.tmps.getD t undef = .pointer (some ⟨b', 0, none⟩) := j3
        show (do loadVar ty (← asAddr (a.tmps.getD t undef)) : Sem Value).run P w = _
        rw [e1]
        have e3 : (do loadVar ty (← asAddr (.pointer (some ⟨b', 0, none⟩))) : Sem Value).run P w = (loadVar ty ⟨b', 0, none⟩).run P w := by simp [asAddr]
        rw [e3, hrun]
        unfold mkV
        rw [fits_agg hc.2]
      · cases h
    · cases h
theorem resSlots_run (I : Inv C S x a w) {T : Tab} (hT : TabOk P T) : ∀ {l : List ResultVar} {v : VT}, resSlots T (rdOf x) l = some v → ∃ us : List Value, (l.mapM (resOf a.tmps)).run P w = .ok us w ∧ VTU S x.ob w v us ∧ us.length = l.length
  | [], v, h => by
    have h' : some VT.un = some v := h
    cases h'
    exact ⟨[], by simp, rfl, rfl⟩
  | r :: l, v, h => by
    have h' : ((resSlot T (rdOf x) r).bind fun v => (resSlots T (rdOf x) l).map fun u => VT.pr v u) = some v := h
    obtain ⟨v1, h1, h'⟩ := Option.bind_eq_some_iff.1 h'
    obtain ⟨v2, h2, rfl⟩ := Option.map_eq_some_iff.1 h'
    obtain ⟨u, k1, k2⟩ := resSlot_run I hT h1
    obtain ⟨us, k3, k4, k5⟩ := resSlots_run I hT h2
    exact ⟨u :: us, by rw [List.mapM_cons]; simp [k1, k3], ⟨k2, k4⟩, by simp [k5]⟩
theorem results_run {fn : Func} {tmps : Array Value} {us : List Value} (h : (fn.results.toList.mapM (resOf tmps)).run P w = .ok us w) :
    (results fn tmps).run P w = .ok (if h : us.toArray.size = 1 then us.toArray[0] else .tuple us.toArray) w := by
  have h2 : (fn.results.mapM (resOf tmps)).run P w = .ok us.toArray w := by
    rw [Array.mapM_eq_mapM_toList, Sem.run_map, h]
    rfl
  unfold results
  rw [Sem.run_bind]
  have h3 : ∀ f : ResultVar → Sem Value, (∀ r, f r = resOf tmps r) → (fn.results.mapM f).run P w = .ok us.toArray w := fun f hf => by rw [show f = resOf tmps from funext hf]; exact h2
  rw [h3 _ (fun r => by cases r <;> rfl)]
  rfl
theorem resAll_sound (I : Inv C S x a w) {T : Tab} (hT : TabOk P T) {fn : Func} {tup : Bool} {rs : Rt} (hch : tup = true → rs.chain = true) (hone : tup = true → fn.results.size ≠ 1) {v : VT} {y : rs.D} (h1 : resAll T fn tup x = some v) (h : (rdOf x).res rs v = some y) :
    ∃ u l, (results fn a.tmps).run P w = .ok u w ∧ ResR S.ok w tup rs y u (l.flatMap S.fp) ∧ AllLive (rdOf x) x l ∧ l.Sublist v.refs := by
  unfold resAll at h1
  cases tup
  · simp only [cond_false] at h1
    split at h1
    · rename_i rv hr
      obtain ⟨u, k1, k2⟩ := resSlot_run I hT h1
      obtain ⟨l, q1, q2, q3⟩ := res_V I h k2
      have hm : (fn.results.toList.mapM (resOf a.tmps)).run P w = .ok [u] w := by
        rw [hr, List.mapM_cons]
        simp [k1]
      refine ⟨u, l, ?_, ?_, q2, q3⟩
      · rw [results_run hm]
        rfl
      · unfold ResR
        simp only [Bool.false_eq_true, if_false]
        exact q1
    · cases h1
  · simp only [cond_true] at h1
    obtain ⟨us, k1, k2, k3⟩ := resSlots_run I hT h1
    obtain ⟨l, q1, q2, q3⟩ := res_T I (hch rfl) h k2
    have hsz : us.toArray.size ≠ 1 := by simp [k3]; exact hone rfl
    refine ⟨.tuple us.toArray, l, ?_, ?_, q2, q3⟩
    · rw [results_run k1]
      simp only [hsz, dif_neg, not_false_eq_true]
    · unfold ResR
      simp only [if_true]
      exact ⟨us, rfl, q1⟩
theorem finish_sound (I : Inv C S x a w) {T : Tab} (hT : TabOk P T) {fn : Func} {tup : Bool} {rs : Rt} (hch : tup = true → rs.chain = true) (hone : tup = true → fn.results.size ≠ 1) {y : rs.D} (h : finish T fn tup rs x = some y) :
    ∃ v l, (results fn a.tmps).run P w = .ok v w ∧ ResR S.ok w tup rs y v (l.flatMap S.fp) ∧ AllLive (rdOf x) x l ∧ l.Nodup := by
  have h' : ∃ v, resAll T fn tup x = some v ∧ v.once = true ∧ (rdOf x).res rs v = some y := by
    unfold finish at h
    unfold resAll
    cases tup
    · simp only [cond_false] at h ⊢
      split at h
      · rename_i rv hr
        obtain ⟨v, h1, h⟩ := Option.bind_eq_some_iff.1 h
        obtain ⟨honce, h⟩ := cond_opt h
        exact ⟨v, h1, honce, h⟩
      · cases h
    · simp only [cond_true] at h ⊢
      obtain ⟨v, h1, h⟩ := Option.bind_eq_some_iff.1 h
      obtain ⟨honce, h⟩ := cond_opt h
      exact ⟨v, h1, honce, h⟩
  obtain ⟨v, h1, h2, h3⟩ := h'
  obtain ⟨u, l, k1, k2, k3, k4⟩ := resAll_sound I hT hch hone h1 h3
  exact ⟨u, l, k1, k2, k3, k4.nodup (nodupN_iff.1 h2)⟩
theorem finishG_sound (I : Inv C S x a w) {T : Tab} (hT : TabOk P T) {fn : Func} {tup : Bool} {rs : Rt} {fx : List Nat} {xo : List (Nat × OP)} (hch : tup = true → rs.chain = true) (hone : tup = true → fn.results.size ≠ 1) (hro : rs.hasRo = false) (hfx : ∀ o, C.fx o → o ∈ fx) {y : rs.D × (objsTy xo).D} (pm : Nat)
    (h : finishG T fn tup rs fx xo x = some y) :
    ∃ v F S1, (results fn a.tmps).run P w = .ok v w ∧ ResR (fun _ => False) w tup rs y.1 v F ∧ F.Nodup ∧ Inv C S1 ⟨[], mkObjs xo y.2 (List.replicate pm ⟨0, 0, none⟩)⟩ { tmps := #[], defers := [] } w ∧
      ∀ b ∈ F, b < w.heap.size ∧ (C.w0.heap.size ≤ b ∨ C.don b) ∧ ∀ o c, (getO (mkObjs xo y.2 (List.replicate pm ⟨0, 0, none⟩)) o).c = some c → b ∉ S1.fp o := by
  unfold finishG at h
  obtain ⟨v, h1, h⟩ := Option.bind_eq_some_iff.1 h
  obtain ⟨y1, h2, h⟩ := Option.bind_eq_some_iff.1 h
  obtain ⟨m, h3, h⟩ := Option.bind_eq_some_iff.1 h
  obtain ⟨⟨z, M⟩, h4, h⟩ := Option.bind_eq_some_iff.1 h
  obtain ⟨hc, rfl⟩ := cond_some h
  simp only [Bool.and_eq_true] at hc
  obtain ⟨hc1, hc2, hc3⟩ := hc
  have hMc : M.c = [] := by simpa using hc3
  obtain ⟨u, l, k1, k2, k3, k4⟩ := resAll_sound I hT hch hone h1 h2
  have hget : (Pat.mk 0 pm [] xo).getR fx (rdOf x) = some (((), z), M) := by
    show ((idR (rdOf x) fx).bind fun m => (some ((), (⟨m, [], []⟩ : Ren))).bind fun x' => (getObjs (rdOf x) xo x'.2).bind fun y => cond (apartN y.2.c y.2.m.imgs && allArr (rdOf x) y.2.c) (some ((x'.1, y.1), y.2)) none) = _
    rw [h3]
    simp only [Option.bind_some]
    rw [h4]
    simp only [Option.bind_some]
    rw [hMc]
    rfl
  obtain ⟨S1, Q⟩ := match_sound hget I (rdOf_ok x)
  have hnd : (l.flatMap S.fp).Nodup := fps_nodup I k3 (k4.nodup (nodupN_iff.1 hc1))
  have hap := apartN_iff.1 hc2
  refine ⟨u, l.flatMap S.fp, S1, k1, ResR_imp (fun h => by rw [hro] at h; cases h) k2, hnd, ⟨rfl, rfl, fun t v ht => (by cases ht), fun o c hc => ?_, Q.sep, Q.okn I, I.kept, fun o c hf _ hc => Q.fix I hfx o c hf hc⟩, fun b hb => ?_⟩
  · obtain ⟨j1, j2, j3⟩ := Q.objs o c hc
    refine ⟨j1, j2, fun b hb => ?_⟩
    obtain ⟨i1, i2, o', c', i3, i4, i5, i6⟩ := j3 b hb
    exact ⟨i1, i2, ((I.objs o' c' i4).2.2 b i5).2.2.imp_right fun h => h.imp_right i6⟩
  · obtain ⟨o, ho, hb⟩ := List.mem_flatMap.1 hb
    obtain ⟨_, c', hc', hrv⟩ := k3 o ho
    obtain ⟨q1, q2, q3⟩ := (I.objs o c' hc').2.2 b hb
    refine ⟨q2, q3.imp_right fun h => h.resolve_right (by rw [hrv]; simp), fun o1 c1 hc1 hm => ?_⟩
    obtain ⟨_, _, j3⟩ := Q.objs o1 c1 hc1
    obtain ⟨_, _, o2, c2, i3, i4, i5, _⟩ := j3 b hm
    refine I.sep o o2 c' c2 (fun e => ?_) hc' i4 b hb i5
    subst e
    exact hap o (k4.subset ho) (find_imgs i3)
end
end Go.Vm
set_option linter.unusedVariables false
set_option linter.unusedSimpArgs false
namespace Go.Vm
open Go Go.RowKit
def Ty.plen : Ty → Nat
  | .pr _ b => b.plen + 1
  | _ => 0
structure FnInfo (P : Program) (id : Nat) (fd : Func) (tup : Bool) (ps : Ty) (rs : Rt) (n : Nat) : Prop where
  fn : P.funcs[id]? = some fd
  name : fd.name ≠ "runtime.NumGoroutine"
  body : fd.body.isSome = true
  ids : nodupN (occIds (occsK (bodyOf fd))) = true
  tmps : fd.ntmps = n
  len : ps.plen ≤ n
  ch : (!tup || rs.chain) = true
  one : (!tup || !Nat.beq fd.results.size 1) = true
def infoFB (fd : Func) (tup : Bool) (ps : Ty) (rs : Rt) (n : Nat) : Bool :=
  !decide (fd.name = "runtime.NumGoroutine") && (fd.body.isSome && (nodupN (occIds (occsK (bodyOf fd))) && (Nat.beq fd.ntmps n && (Nat.ble ps.plen n && ((!tup || rs.chain) && (!tup || !Nat.beq fd.results.size 1))))))
theorem FnInfo.of {P : Program} {id : Nat} {fd : Func} {tup : Bool} {ps : Ty} {rs : Rt} {n : Nat} (h : P.funcs[id]? = some fd) (hb : infoFB fd tup ps rs n = true) : FnInfo P id fd tup ps rs n := by
  simp only [infoFB, Bool.and_eq_true] at hb
  obtain ⟨h1, h2, h3, h4, h5, h6, h7⟩ := hb
  exact ⟨h, by simpa using h1, h2, h3, Nat.eq_of_beq_eq_true h4, Nat.le_of_ble_eq_true h5, h6, h7⟩
def AllF (Q : Fn → Prop) : List Fn → Prop
  | [] => True
  | c :: l => Q c ∧ AllF Q l
theorem AllF.mem {Q : Fn → Prop} : ∀ {l : List Fn}, AllF Q l → ∀ c ∈ l, Q c
  | c :: l, h, c', hm => by
    rcases List.mem_cons.1 hm with rfl | hm
    · exact h.1
    · exact AllF.mem h.2 c' hm
def AllG (Q : Fg → Prop) : List Fg → Prop
  | [] => True
  | c :: l => Q c ∧ AllG Q l
theorem AllG.mem {Q : Fg → Prop} : ∀ {l : List Fg}, AllG Q l → ∀ c ∈ l, Q c
  | c :: l, h, c', hm => by
    rcases List.mem_cons.1 hm with rfl | hm
    · exact h.1
    · exact AllG.mem h.2 c' hm
def AllS (Q : So → Prop) : List So → Prop
  | [] => True
  | c :: l => Q c ∧ AllS Q l
theorem AllS.mem {Q : So → Prop} : ∀ {l : List So}, AllS Q l → ∀ c ∈ l, Q c
  | c :: l, h, c', hm => by
    rcases List.mem_cons.1 hm with rfl | hm
    · exact h.1
    · exact AllS.mem h.2 c' hm
theorem name_ne {n : String} (h : (n == "runtime.NumGoroutine") = false) : n ≠ "runtime.NumGoroutine" := by simpa using h
section
variable {P : Program}
theorem startSlots_sound {S : Side} {w : World} {ob : List Obe} : ∀ {ps : Ty} {a : ps.D} {vs : List Value} {pre : List Value} {z : List (Option VT)} {rest : List Value}, ArgsR S.ok w ps a vs → 
    (∀ t v, getL z t = some v → ∃ u, (pre ++ (vs ++ rest))[t]? = some u ∧ VTV S ob w v u) → ∀ t v, getL (startSlots ps a z pre.length) t = some v → ∃ u, (pre ++ (vs ++ rest))[t]? = some u ∧ VTV S ob w v u
  | .pr s t0, a, u :: us, pre, z, rest, h, hz, t, v, ht => by
    obtain ⟨⟨cs, h1, h2⟩, h3⟩ := h
    have e : pre ++ (u :: us ++ rest) = (pre ++ [u]) ++ (us ++ rest) := by simp
    have el : pre.length + 1 = (pre ++ [u]).length := by simp
    have ht' : getL (startSlots t0 a.2 (z.set pre.length (some (.va s a.1))) (pre ++ [u]).length) t = some v := by rw [← el]; exact ht
    rw [e]
    refine startSlots_sound (pre := pre ++ [u]) h3 (fun t v ht => ?_) t v ht'
    rw [getL_set] at ht
    split at ht
    · rename_i q
      obtain ⟨rfl, _⟩ := q
      cases ht
      refine ⟨u, by simp, cs, h1, ?_⟩
      rw [h2]
      rfl
    · rw [← e]; exact hz t v ht
  | .pr s t0, a, [], pre, z, rest, h, hz, t, v, ht => h.elim
  | .un, a, vs, pre, z, rest, h, hz, t, v, ht => hz t v ht
  | .int _, a, vs, pre, z, rest, h, hz, t, v, ht => by cases vs <;> exact h.elim
  | .bool, a, vs, pre, z, rest, h, hz, t, v, ht => by cases vs <;> exact h.elim
  | .str, a, vs, pre, z, rest, h, hz, t, v, ht => by cases vs <;> exact h.elim
  | .sl _, a, vs, pre, z, rest, h, hz, t, v, ht => by cases vs <;> exact h.elim
  | .op, a, vs, pre, z, rest, h, hz, t, v, ht => by cases vs <;> exact h.elim
theorem startSlots_len : ∀ {ps : Ty} {a : ps.D} {z : List (Option VT)} {n : Nat}, (startSlots ps a z n).length = z.length
  | .pr s t0, a, z, n => by
    show (startSlots t0 a.2 (z.set n (some (.va s a.1))) (n + 1)).length = _
    rw [startSlots_len, List.length_set]
  | .un, _, _, _ | .int _, _, _, _ | .bool, _, _, _ | .str, _, _, _ | .sl _, _, _, _ | .op, _, _, _ => rfl
theorem args_len {ok : Nat → Prop} {w : World} : ∀ {ps : Ty} {a : ps.D} {vs : List Value}, ArgsR ok w ps a vs → vs.length = ps.plen
  | .pr s t0, a, [], h => h.elim
  | .pr s t0, a, u :: us, h => by simp [Ty.plen, args_len h.2]
  | .un, a, vs, h => by have h' : vs = [] := h; subst h'; rfl
  | .int _, a, vs, h => by cases vs <;> exact h.elim
  | .bool, a, vs, h => by cases vs <;> exact h.elim
  | .str, a, vs, h => by cases vs <;> exact h.elim
  | .sl _, a, vs, h => by cases vs <;> exact h.elim
  | .op, a, vs, h => by cases vs <;> exact h.elim
theorem jump_some {R : Type} {y : R} {fx : List Nat} : ∀ {l : List (Cut R)} {id : Nat} {x : X}, jump fx l id x = some y → ∃ c ∈ l, c.id = id ∧ x.sl.length = c.pat.n ∧ ∃ d M, c.pat.getR fx (rdOf x) = some (d, M) ∧ c.C d = some y
  | c :: l, id, x, h => by
    have h' : cond (Nat.beq c.id id) (cond (Nat.beq x.sl.length c.pat.n) ((c.pat.getR fx (rdOf x)).bind fun d => c.C d.1) none) (jump fx l id x) = some y := h
    cases hb : Nat.beq c.id id <;> rw [hb] at h'
    · obtain ⟨c', h1, h2⟩ := jump_some (l := l) h'
      exact ⟨c', by simp [h1], h2⟩
    · obtain ⟨h1, h2⟩ := cond_opt h'
      obtain ⟨⟨d, M⟩, h3, h4⟩ := Option.bind_eq_some_iff.1 h2
      exact ⟨c, by simp, Nat.eq_of_beq_eq_true hb, Nat.eq_of_beq_eq_true h1, d, M, h3, h4⟩
def AllC {R : Type} (Q : Cut R → Prop) : List (Cut R) → Prop
  | [] => True
  | c :: l => Q c ∧ AllC Q l
theorem AllC.mem {R : Type} {Q : Cut R → Prop} : ∀ {l : List (Cut R)}, AllC Q l → ∀ c ∈ l, Q c
  | c :: l, h, c', hm => by
    rcases List.mem_cons.1 hm with rfl | hm
    · exact h.1
    · exact AllC.mem h.2 c' hm
noncomputable def runX {R : Type} (E : Env) (fx : List Nat) (fin : X → Option R) (cuts : List (Cut R)) (todo : Option (List Item)) (s : Bool) (x : X) : Option R :=
  match todo with
  | some k => exec E (ids cuts) (jump fx cuts) fin 4000 s k x
  | none => none
theorem cuts_sound (hm : P.follows .mixedOrders = true) {fd : Func} (hids : nodupN (occIds (occsK (bodyOf fd))) = true) {R : Type} {fin : X → Option R} {fx : List Nat} {E : Nat → Env} {cuts : Nat → List (Cut R)} {K : Nat} (hE : ∀ k, k ≤ K → EnvOk P (E k))
    (h0 : AllC (fun c => ∀ d, c.C d = none) (cuts 0)) (hs : ∀ k, AllC (fun c => ∀ d, c.C d = runX (E k) fx fin (cuts k) (todoAt c.id (bodyOf fd)) true (c.pat.mk' d)) (cuts (k + 1))) {C : Ctx} (hfx : ∀ o, C.fx o → o ∈ fx) {b : Frame} {cs : List Frame} {y : R} :
    ∀ k, k ≤ K → ∀ id x S a w z, jump fx (cuts k) id x = some y → (id, z) ∈ occsK (bodyOf fd) → Inv C S x a w → Finds P b cs fin y C a w z := by
  intro k
  induction k with
  | zero =>
    intro _ id x S a w z hj hz I
    obtain ⟨c, hc, _, _, d, _, _, h⟩ := jump_some hj
    rw [h0.mem c hc d] at h
    cases h
  | succ k ih =>
    intro hk id x S a w z hj hz I
    obtain ⟨c, hc, hid, hlen, d, M, hget, h⟩ := jump_some hj
    rw [(hs k).mem c hc d] at h
    obtain ⟨S', I'⟩ := jump_sound hget hlen I hfx
    have htodo : todoAt c.id (bodyOf fd) = some z := by rw [hid]; exact occFind_of (nodupN_iff.1 hids) hz
    rw [htodo] at h
    have hsub : ∀ q ∈ occsK z, q ∈ occsK (bodyOf fd) := occsK_sub hz
    exact exec_sound (hE k (by omega)) hm (all := occsK (bodyOf fd)) (J := jump fx (cuts k)) (ih (by omega)) 4000 true z hsub I' h
theorem fn_sound (hm : P.follows .mixedOrders = true) {id : Nat} {fd : Func} {tup : Bool} {ps : Ty} {rs : Rt} {n m : Nat} (hi : FnInfo P id fd tup ps rs n) {so : List So} {T : Tab} {al : List (Nat × List Nat)} {Γ : Nat → List Fn} {G : Nat → List Fg} {cuts : Nat → List (Cut rs.D)} (hE : ∀ k, EnvOk P ⟨T, Γ k, al, G k, so⟩)
    (h0 : AllC (fun c => ∀ d, c.C d = none) (cuts 0)) (hs : ∀ k, AllC (fun c => ∀ d, c.C d = runF ⟨T, Γ k, al, G k, so⟩ fd tup rs (cuts k) (todoAt c.id (bodyOf fd)) true (c.pat.mk' d)) (cuts (k + 1)))
    {F : Nat → ps.D → Option rs.D} (hF : ∀ k d, F k d = runF ⟨T, Γ k, al, G k, so⟩ fd tup rs (cuts k) (some (bodyOf fd)) false (start ps n m d)) (k : Nat) : FnOk P ⟨id, ps, tup, rs, F k⟩ := by
  intro ok w a vs y hok hargs hFa
  obtain ⟨hf, hname, hb, hids, htm, hlen, hch, hone⟩ := hi
  obtain ⟨c, hb⟩ := Option.isSome_iff_exists.1 hb
  refine ⟨⟨fd, c, hf, hname, hb⟩, fun cs => ?_⟩
  have hbody : bodyOf fd = [.code c] := by simp [bodyOf, hb]
  let b : Frame := { (default : Frame) with fn := id, kind := .normal }
  let a0 : Act := { tmps := vs.toArray ++ Array.replicate (fd.ntmps - vs.toArray.size) undef, defers := [] }
  have henter : Frame.enter P id vs.toArray .normal = b.at a0 [.code c] := by
    simp [Frame.enter, Frame.at, hf, hb, b, a0]
  let S : Side := ⟨ok, fun _ => (none, 0), fun _ => []⟩
  have hx : F k a = runF ⟨T, Γ k, al, G k, so⟩ fd tup rs (cuts k) (some (bodyOf fd)) false (start ps n m a) := hF k a
  have hvl : vs.length = ps.plen := args_len hargs
  have no : ∀ o c', (getO (start ps n m a).ob o).c = some c' → False := fun o c' h => by
    have : (getO (List.replicate m (⟨0, 0, none⟩ : Obe)) o).c = some c' := h
    rw [getO_rep] at this
    cases this
  let C : Ctx := ⟨w, fun _ => False, fun _ => False, fun _ => (none, 0), fun _ => none, ok⟩
  have I : Inv C S (start ps n m a) a0 w := by
    refine ⟨rfl, ?_, ?_, fun o c' h => (no o c' h).elim, fun o o' c' c'' _ h => (no o c' h).elim, fun b hb => ⟨hok b hb, .inl hb⟩, ⟨rfl, Ahead.refl _, rfl, Nat.le_refl _, fun _ _ _ => rfl⟩, fun o c h => h.elim⟩
    · show a0.tmps.size = (startSlots ps a (List.replicate n none) 0).length
      rw [startSlots_len]
      simp [a0]
      omega
    · intro t v ht
      have := startSlots_sound (S := S) (ob := (start ps n m a).ob) (w := w) (pre := []) (z := List.replicate n none) (rest := List.replicate (fd.ntmps - vs.length) undef) hargs (fun t v ht => by rw [getL_rep] at ht; cases ht) t v ht
      obtain ⟨u, hu, hv⟩ := this
      refine ⟨u, ?_, hv⟩
      have e : a0.tmps.toList = vs ++ List.replicate (fd.ntmps - vs.length) undef := by simp [a0]
      rw [← Array.getElem?_toList, e]
      simpa using hu
  have hFa' : F k a = some y := hFa
  rw [hx] at hFa'
  have hfinds : Finds P b cs (finish T fd tup rs) y C a0 w (bodyOf fd) :=
    exec_sound (hE k) hm (all := occsK (bodyOf fd)) (J := jump [] (cuts k)) (cuts_sound hm hids (E := fun k => ⟨T, Γ k, al, G k, so⟩) (fin := finish T fd tup rs) (fun k _ => hE k) h0 hs (C := C) (fun o h => h.elim) k (Nat.le_refl k)) 4000 false (bodyOf fd) (fun q hq => hq) I hFa'
  obtain ⟨a', w', todo, S', x', hst, I', hfin⟩ := hfinds
  have hch' : tup = true → rs.chain = true := fun e => by subst e; simpa using hch
  have hone' : tup = true → fd.results.size ≠ 1 := fun e h1 => by
    subst e
    rw [h1] at hone
    cases hone
  obtain ⟨v, l, r1, r2, r3, r4⟩ := finish_sound I' (hE k).tab hch' hone' hfin
  rw [hbody, ← henter] at hst
  refine ⟨.returned v, w', _, ⟨⟨I'.kept.os, I'.kept.tape, I'.kept.output, I'.kept.size, fun b hb => I'.kept.block b hb (fun h => h)⟩, S'.ok, l.flatMap S'.fp, r2, fps_nodup I' r3 r4, fun b hb => ?_, fun b hb => ?_⟩, hst, rfl, rfl, I'.dfr, rfl, fd, hf, r1⟩
  · obtain ⟨o, ho, hb⟩ := List.mem_flatMap.1 hb
    obtain ⟨_, c', hc', hrv⟩ := r3 o ho
    obtain ⟨q1, q2, q3⟩ := (I'.objs o c' hc').2.2 b hb
    rcases q3 with q3 | q3 | q3
    · exact ⟨q3, q2, q1⟩
    · exact q3.elim
    · rw [hrv] at q3; cases q3
  · obtain ⟨q1, q2⟩ := I'.okn b hb
    rcases q2 with q2 | q2 | q2
    · exact ⟨q1, .inl q2⟩
    · exact ⟨q1, .inr q2⟩
    · exact q2.elim
structure FgInfo (P : Program) (id : Nat) (fd : Func) (tup : Bool) (rs : Rt) (n : Nat) : Prop where
  fn : P.funcs[id]? = some fd
  name : fd.name ≠ "runtime.NumGoroutine"
  body : fd.body.isSome = true
  ids : nodupN (occIds (occsK (bodyOf fd))) = true
  tmps : fd.ntmps = n
  ch : (!tup || rs.chain) = true
  one : (!tup || !Nat.beq fd.results.size 1) = true
  ro : rs.hasRo = false
def infoGB (fd : Func) (tup : Bool) (rs : Rt) (n : Nat) : Bool :=
  !decide (fd.name = "runtime.NumGoroutine") && (fd.body.isSome && (nodupN (occIds (occsK (bodyOf fd))) && (Nat.beq fd.ntmps n && ((!tup || rs.chain) && ((!tup || !Nat.beq fd.results.size 1) && !rs.hasRo)))))
theorem FgInfo.of {P : Program} {id : Nat} {fd : Func} {tup : Bool} {rs : Rt} {n : Nat} (h : P.funcs[id]? = some fd) (hb : infoGB fd tup rs n = true) : FgInfo P id fd tup rs n := by
  simp only [infoGB, Bool.and_eq_true] at hb
  obtain ⟨h1, h2, h3, h4, h6, h7, h8⟩ := hb
  exact ⟨h, by simpa using h1, h2, h3, Nat.eq_of_beq_eq_true h4, h6, h7, by simpa using h8⟩
theorem fg_core (hm : P.follows .mixedOrders = true) {id : Nat} {fd : Func} {tup : Bool} {pat : Pat} {fx : List Nat} {rs : Rt} {xo : List (Nat × OP)} (hi : FgInfo P id fd tup rs pat.n) {E : Nat → Env} {cuts : Nat → List (Cut (rs.D × (objsTy xo).D))} {k : Nat} (hE : ∀ j, j ≤ k → EnvOk P (E j))
    (h0 : AllC (fun c => ∀ d, c.C d = none) (cuts 0)) (hs : ∀ k, AllC (fun c => ∀ d, c.C d = runG (E k) fd tup rs fx xo (cuts k) (todoAt c.id (bodyOf fd)) true (c.pat.mk' d)) (cuts (k + 1)))
    (hT : ∀ j, (E j).T = (E 0).T) {F : pat.ty.D → Option (rs.D × (objsTy xo).D)} (hok : okG ⟨id, pat, fx, tup, rs, xo, F⟩ = true) (hF : ∀ d, F d = runG (E k) fd tup rs fx xo (cuts k) (some (bodyOf fd)) false (pat.mk' d)) : FgOk P ⟨id, pat, fx, tup, rs, xo, F⟩ := by
  refine ⟨hok, fun C S w d vs y hlen hw0 hfx I hFa => ?_⟩
  obtain ⟨hf, hname, hb, hids, htm, hch, hone, hro⟩ := hi
  obtain ⟨c, hb⟩ := Option.isSome_iff_exists.1 hb
  refine ⟨⟨fd, c, hf, hname, hb⟩, fun cs => ?_⟩
  have hbody : bodyOf fd = [.code c] := by simp [bodyOf, hb]
  let b : Frame := { (default : Frame) with fn := id, kind := .normal }
  have hlen' : vs.length ≤ pat.n := hlen
  have henter : Frame.enter P id vs.toArray .normal = b.at (actOf vs pat.n) [.code c] := by
    have e : vs.toArray ++ Array.replicate (fd.ntmps - vs.toArray.size) undef = (vs ++ List.replicate (pat.n - vs.length) undef).toArray := by
      apply Array.ext'
      simp [htm]
    simp [Frame.enter, Frame.at, hf, hb, b, actOf, ← e]
  have hfx' : ∀ o, C.fx o → o ∈ fx := fun o h => (hfx o).1 h
  have hFa' : F d = some y := hFa
  rw [hF] at hFa'
  have hfinds : Finds P b cs (finishG (E 0).T fd tup rs fx xo) y C (actOf vs pat.n) w (bodyOf fd) := by
    have hs' : ∀ k, AllC (fun c => ∀ d, c.C d = runX (E k) fx (finishG (E 0).T fd tup rs fx xo) (cuts k) (todoAt c.id (bodyOf fd)) true (c.pat.mk' d)) (cuts (k + 1)) := by
      intro k
      rw [← hT k]
      exact hs k
    have hFa2 : runX (E k) fx (finishG (E 0).T fd tup rs fx xo) (cuts k) (some (bodyOf fd)) false (pat.mk' d) = some y := by
      rw [← hT k]
      exact hFa'
    exact exec_sound (hE k (Nat.le_refl k)) hm (all := occsK (bodyOf fd)) (J := jump fx (cuts k)) (cuts_sound hm hids hE h0 hs' (C := C) hfx' k (Nat.le_refl k)) 4000 false (bodyOf fd) (fun q hq => hq) I hFa2
  obtain ⟨a', w', todo, S', x', hst, I', hfin⟩ := hfinds
  have hch' : tup = true → rs.chain = true := fun e => by subst e; simpa using hch
  have hone' : tup = true → fd.results.size ≠ 1 := fun e h1 => by
    subst e
    rw [h1] at hone
    cases hone
  have htab : TabOk P (E 0).T := by have := (hE k (Nat.le_refl k)).tab; rw [hT k] at this; exact this
  obtain ⟨v, F', S1, r1, r2, r3, r4, r5⟩ := finishG_sound I' htab hch' hone' hro hfx' pat.m hfin
  rw [hbody, ← henter] at hst
  refine ⟨.returned v, w', _, ⟨S1, F', r4, r2, r3, fun b hb => ?_⟩, hst, rfl, rfl, I'.dfr, rfl, fd, hf, r1⟩
  obtain ⟨q1, q2, q3⟩ := r5 b hb
  rw [hw0] at q2
  exact ⟨q1, q2, q3⟩
theorem fg_sound (hm : P.follows .mixedOrders = true) {id : Nat} {fd : Func} {tup : Bool} {pat : Pat} {fx : List Nat} {rs : Rt} {xo : List (Nat × OP)} (hi : FgInfo P id fd tup rs pat.n) {so : List So} {T : Tab} {al : List (Nat × List Nat)} {Γ : Nat → List Fn} {G : Nat → List Fg} {cuts : Nat → List (Cut (rs.D × (objsTy xo).D))}
    (hok : okG ⟨id, pat, fx, tup, rs, xo, fun _ => none⟩ = true) (hE : ∀ k, EnvOk P ⟨T, Γ k, al, G k, so⟩)
    (h0 : AllC (fun c => ∀ d, c.C d = none) (cuts 0)) (hs : ∀ k, AllC (fun c => ∀ d, c.C d = runG ⟨T, Γ k, al, G k, so⟩ fd tup rs fx xo (cuts k) (todoAt c.id (bodyOf fd)) true (c.pat.mk' d)) (cuts (k + 1)))
    {F : Nat → pat.ty.D → Option (rs.D × (objsTy xo).D)} (hF : ∀ k d, F k d = runG ⟨T, Γ k, al, G k, so⟩ fd tup rs fx xo (cuts k) (some (bodyOf fd)) false (pat.mk' d)) (k : Nat) : FgOk P ⟨id, pat, fx, tup, rs, xo, F k⟩ :=
  fg_core hm hi (E := fun k => ⟨T, Γ k, al, G k, so⟩) (fun j _ => hE j) h0 hs (fun _ => rfl) hok (hF k)
theorem fg_rec (hm : P.follows .mixedOrders = true) {id : Nat} {fd : Func} {tup : Bool} {pat : Pat} {fx : List Nat} {rs : Rt} {xo : List (Nat × OP)} (hi : FgInfo P id fd tup rs pat.n) {so : List So} {T : Tab} {al : List (Nat × List Nat)} {Γ : Nat → List Fn} {G : Nat → List Fg} {cuts : Nat → List (Cut (rs.D × (objsTy xo).D))}
    {F : Nat → pat.ty.D → Option (rs.D × (objsTy xo).D)} (hok : okG ⟨id, pat, fx, tup, rs, xo, fun _ => none⟩ = true) (hE : ∀ k, FgOk P ⟨id, pat, fx, tup, rs, xo, F k⟩ → EnvOk P ⟨T, Γ k, al, G k, so⟩)
    (h0 : AllC (fun c => ∀ d, c.C d = none) (cuts 0)) (hs : ∀ k, AllC (fun c => ∀ d, c.C d = runG ⟨T, Γ k, al, G k, so⟩ fd tup rs fx xo (cuts k) (todoAt c.id (bodyOf fd)) true (c.pat.mk' d)) (cuts (k + 1)))
    (hF0 : ∀ d, F 0 d = none) (hF : ∀ k d, F (k + 1) d = runG ⟨T, Γ k, al, G k, so⟩ fd tup rs fx xo (cuts k) (some (bodyOf fd)) false (pat.mk' d)) (k : Nat) : FgOk P ⟨id, pat, fx, tup, rs, xo, F k⟩ := by
  have all : ∀ k, ∀ j, j ≤ k → FgOk P ⟨id, pat, fx, tup, rs, xo, F j⟩ := by
    intro k
    induction k with
    | zero =>
      intro j hj
      obtain rfl : j = 0 := by omega
      exact ⟨hok, fun C S w d vs y _ _ _ _ h => by
        have h' : F 0 d = some y := h
        rw [hF0] at h'
        cases h'⟩
    | succ k ih =>
      intro j hj
      rcases Nat.lt_or_ge j (k + 1) with h | h
      · exact ih j (by omega)
      · obtain rfl : j = k + 1 := by omega
        exact fg_core hm hi (E := fun k => ⟨T, Γ k, al, G k, so⟩) (fun j hj => hE j (ih j hj)) h0 hs (fun _ => rfl) hok (hF k)
  exact all k k (Nat.le_refl k)
end
end Go.Vm
set_option linter.unusedVariables false
set_option linter.unusedSimpArgs false
namespace Go.Vm
open Go Go.RowKit Go.ChangeShapes Go.WideShapes
def tyIs (T : Tab) (i : Nat) (a : Ty) : Bool := match T.find i with
  | some te => decide (te.ty = a)
  | none => false
def chainB (T : Tab) : List Field → List Nat → Ty → Nat → Bool
  | [], [], .un, _ => true
  | f :: fl, i :: l, .pr a b, off => Nat.beq f.type i && (Nat.beq f.offset off && (tyIs T i a && chainB T fl l b (off + a.cells)))
  | _, _, _, _ => false
def kOne : TK → Bool
  | .one => true
  | _ => false
def descB (T : Tab) (te : TE) : TypeDesc → Bool
  | .int k => kOne te.k && decide (te.ty = .int k)
  | .bool => kOne te.k && decide (te.ty = .bool)
  | .string => kOne te.k && decide (te.ty = .str)
  | .slice e => (match te.k with | .sl e' => Nat.beq e e' | _ => false) && (match T.find e with | some te' => decide (te.ty = .sl te'.ty) | none => false)
  | .struct fs => match te.k with
    | .st l => chainB T fs.toList l te.ty 0
    | _ => false
  | .array n e => (match te.k with | .ar n' e' => Nat.beq n n' && Nat.beq e e' | _ => false) && (match T.find e with | some te' => decide (te.ty = arrTy n te'.ty) | none => false)
  | .map k e => (match te.k with | .mp k' e' => Nat.beq k k' && Nat.beq e e' | _ => false) && decide (te.ty = .op)
  | .interface _ => false
  | _ => kOne te.k && decide (te.ty = .op)
def isNilL : Option (List Value) → Bool
  | some [] => true
  | _ => false
def infoB (te : TE) (i : TypeInfo) : Bool := Nat.beq i.size te.ty.cells && (Nat.ble i.bytes 131072 && (Nat.ble te.ty.cells i.bytes && (match i.zero with
  | some z => isNilL (zcB te.ty z.cells.toList) && (aggV z == te.ty.agg)
  | none => false)))
def methB (i : TypeInfo) (d : TypeDesc) : List (String × Nat) → Bool
  | [] => true
  | (n, f) :: l => (match i.methods.find? (·.name == n) with
    | some m => m.path.isEmpty && (match m.func with
      | some (g, true) => Nat.beq g f
      | _ => false)
    | none => false) && ((match d with
    | .pointer _ => true
    | _ => false) && methB i d l)
theorem methB_ok {P : Program} {t : Nat} {i : TypeInfo} {d : TypeDesc} (hi : P.info? t = some i) (hd : P.underlying t = some d) : ∀ {l : List (String × Nat)} {name : String} {f : Nat}, methB i d l = true → msFind l name = some f → MsOk P t name f
  | (n, g) :: l, name, f, h, hf => by
    simp only [methB, Bool.and_eq_true] at h
    obtain ⟨h1, h2, h3⟩ := h
    have hf' : cond (decide (n = name)) (some g) (msFind l name) = some f := hf
    cases hb : decide (n = name) <;> rw [hb] at hf'
    · exact methB_ok hi hd h3 hf'
    · have e : n = name := of_decide_eq_true hb
      subst e
      cases hf'
      split at h1
      · rename_i m hm
        simp only [Bool.and_eq_true] at h1
        obtain ⟨q1, q2⟩ := h1
        split at q2
        · rename_i g' hg
          have eg := Nat.eq_of_beq_eq_true q2
          subst eg
          split at h2
          · rename_i elem
            have hp : m.path = #[] := by simpa using q1
            intro v w
            show (method ((P.types.size + 99) + 1) t v n).run P w = _
            unfold method
            simp only [Sem.run_bind, run_typeInfo w hi, Result.andThen_ok, hm, hp]
            simp only [follow, Sem.run_pure, Result.andThen_ok, hg, Sem.run_bind]
            unfold receiverAt
            rw [Sem.run_bind, run_underlying hd]
            rfl
          · cases h2
        · cases q2
      · cases h1
def teB (P : Program) (T : Tab) (te : TE) : Bool := (match P.info? te.id with
  | some i => infoB te i && (match te.ms with
    | [] => true
    | _ => (match P.underlying te.id with
      | some d => methB i d te.ms
      | none => false))
  | none => false) && (match P.underlying te.id with
  | some d => descB T te d
  | none => false)
def allT (f : TE → Bool) : Tab → Bool
  | [] => true
  | e :: l => cond (f e) (allT f l) false
theorem allT_find {f : TE → Bool} : ∀ {T : Tab} {t : Nat} {te : TE}, allT f T = true → T.find t = some te → f te = true ∧ te.id = t
  | e :: l, t, te, h, hf => by
    have h' : cond (f e) (allT f l) false = true := h
    have hf' : cond (Nat.beq e.id t) (some e) (Tab.find l t) = some te := hf
    cases hb : f e <;> rw [hb] at h'
    · cases h'
    · cases hi : Nat.beq e.id t <;> rw [hi] at hf'
      · exact allT_find (T := l) h' hf'
      · cases hf'
        exact ⟨hb, Nat.eq_of_beq_eq_true hi⟩
  | [], t, te, h, hf => by cases hf
theorem kOne_iff {k : TK} (h : kOne k = true) : k = .one := by cases k <;> first | rfl | cases h
theorem chainB_ok {T : Tab} : ∀ {fl : List Field} {l : List Nat} {ty : Ty} {off : Nat}, chainB T fl l ty off = true → chainOk T fl l ty off
  | [], [], .un, _, _ => trivial
  | f :: fl, i :: l, .pr a b, off, h => by
    simp only [chainB, Bool.and_eq_true] at h
    obtain ⟨h1, h2, h3, h4⟩ := h
    refine ⟨Nat.eq_of_beq_eq_true h1, Nat.eq_of_beq_eq_true h2, ?_, chainB_ok h4⟩
    unfold tyIs at h3
    split at h3
    · rename_i te hte; exact ⟨te, hte, of_decide_eq_true h3⟩
    · cases h3
  | [], [], .pr _ _, _, h | [], [], .int _, _, h | [], [], .bool, _, h | [], [], .str, _, h | [], [], .sl _, _, h | [], [], .op, _, h => by cases h
  | [], _ :: _, _, _, h => by simp [chainB] at h
  | _ :: _, [], _, _, h => by simp [chainB] at h
  | _ :: _, _ :: _, .un, _, h | _ :: _, _ :: _, .int _, _, h | _ :: _, _ :: _, .bool, _, h | _ :: _, _ :: _, .str, _, h | _ :: _, _ :: _, .sl _, _, h | _ :: _, _ :: _, .op, _, h => by simp [chainB] at h
theorem descB_ok {T : Tab} {te : TE} {d : TypeDesc} (h : descB T te d = true) : descOk T te d := by
  cases d with
  | struct fs =>
    simp only [descB] at h
    split at h
    · rename_i l hl; exact ⟨l, hl, chainB_ok h⟩
    · cases h
  | slice e =>
    simp only [descB, Bool.and_eq_true] at h
    obtain ⟨h1, h2⟩ := h
    refine ⟨?_, ?_⟩
    · split at h1
      · rename_i e' he; rw [he, Nat.eq_of_beq_eq_true h1]
      · cases h1
    · split at h2
      · rename_i te' hte; exact ⟨te', hte, of_decide_eq_true h2⟩
      · cases h2
  | array n e =>
    simp only [descB, Bool.and_eq_true] at h
    obtain ⟨h1, h2⟩ := h
    refine ⟨?_, ?_⟩
    · split at h1
      · rename_i n' e' he
        simp only [Bool.and_eq_true] at h1
        rw [he, Nat.eq_of_beq_eq_true h1.1, Nat.eq_of_beq_eq_true h1.2]
      · cases h1
    · split at h2
      · rename_i te' hte; exact ⟨te', hte, of_decide_eq_true h2⟩
      · cases h2
  | map k e =>
    simp only [descB, Bool.and_eq_true] at h
    obtain ⟨h1, h2⟩ := h
    refine ⟨?_, of_decide_eq_true h2⟩
    split at h1
    · rename_i k' e' he
      simp only [Bool.and_eq_true] at h1
      rw [he, Nat.eq_of_beq_eq_true h1.1, Nat.eq_of_beq_eq_true h1.2]
    · cases h1
  | interface _ => cases h
  | _ =>
    simp only [descB, Bool.and_eq_true] at h
    exact ⟨kOne_iff h.1, of_decide_eq_true h.2⟩
theorem isNilL_iff {o : Option (List Value)} (h : isNilL o = true) : o = some [] := by
  unfold isNilL at h
  split at h
  · rfl
  · cases h
theorem teB_ok {P : Program} {T : Tab} {te : TE} (h : teB P T te = true) : TEok P T te ∧ te.ty.cells ≤ P.bytesOf te.id ∧ P.cellsOf te.id = te.ty.cells := by
  simp only [teB, Bool.and_eq_true] at h
  obtain ⟨h1, h2⟩ := h
  split at h1
  · rename_i i hi
    simp only [infoB, Bool.and_eq_true] at h1
    obtain ⟨⟨q1, q2, q3, q4⟩, q5⟩ := h1
    have hmeth : ∀ name f, msFind te.ms name = some f → MsOk P te.id name f := by
      intro name f hf
      split at q5
      · rename_i he
        rw [he] at hf
        cases hf
      · split at q5
        · rename_i d hd
          exact methB_ok hi hd q5 hf
        · cases q5
    split at q4
    · rename_i z hz
      simp only [Bool.and_eq_true] at q4
      refine ⟨⟨⟨i, z, hi, Nat.eq_of_beq_eq_true q1, Nat.le_of_ble_eq_true q2, hz, isNilL_iff q4.1⟩, ?_, fun i2 z2 hi2 hz2 => by
        rw [hi] at hi2; cases hi2
        rw [hz] at hz2; cases hz2
        exact eq_of_beq q4.2, hmeth⟩, ?_, ?_⟩
      · split at h2
        · rename_i d hd; exact ⟨d, hd, descB_ok h2⟩
        · cases h2
      · unfold Program.bytesOf
        rw [hi]
        exact Nat.le_of_ble_eq_true q3
      · unfold Program.cellsOf
        rw [hi]
        exact Nat.eq_of_beq_eq_true q1
    · cases q4
  · cases h1
theorem tabOk_of {P : Program} {T : Tab} (h : allT (teB P T) T = true) : TabOk P T := fun t te hf => by
  obtain ⟨h1, h2⟩ := allT_find h hf
  exact ⟨h2, (teB_ok h1).1⟩
theorem bytes_of {P : Program} {T : Tab} (h : allT (teB P T) T = true) {t : Nat} {te : TE} (hf : T.find t = some te) : te.ty.cells ≤ P.bytesOf t ∧ P.cellsOf t = te.ty.cells := by
  obtain ⟨h1, h2⟩ := allT_find h hf
  have := (teB_ok h1).2
  rw [h2] at this
  exact this
def nameOk (f : Field) : Bool := !decide (f.name = "_")
def eqTB (P : Program) (te : TE) : Bool := cond te.ty.cmp
  ((match te.k with | .st _ => !(P.stoodInHeld te.id) && (P.fieldsOf te.id).toList.all nameOk | _ => true) && ((!te.ty.agg || !(P.eqGuardType P.depth te.id)) && Nat.ble te.ty.dep 1000)) true
theorem eqOk_of {P : Program} {T : Tab} (h : allT (eqTB P) T = true) : EqOk P T := by
  have key : ∀ t te, T.find t = some te → te.ty.cmp = true → (match te.k with | .st _ => !(P.stoodInHeld t) && (P.fieldsOf t).toList.all nameOk | _ => true) = true ∧ (!te.ty.agg || !(P.eqGuardType P.depth t)) = true ∧ te.ty.dep ≤ 1000 := by
    intro t te hf hc
    obtain ⟨h1, h2⟩ := allT_find h hf
    unfold eqTB at h1
    rw [hc, cond_true, Bool.and_eq_true, Bool.and_eq_true, h2] at h1
    exact ⟨h1.1, h1.2.1, Nat.le_of_ble_eq_true h1.2.2⟩
  refine ⟨fun t te hf hc hk => ?_, fun t te hf hc ha => ?_, fun t te hf hc => (key t te hf hc).2.2⟩
  · have := (key t te hf hc).1
    split at hk
    · rename_i l hl
      rw [hl] at this
      simp only [Bool.and_eq_true, Bool.not_eq_true'] at this
      refine ⟨this.1, fun f hfm e => ?_⟩
      have := List.all_eq_true.1 this.2 f hfm
      unfold nameOk at this
      rw [e] at this
      simp at this
    · cases hk
  · have := (key t te hf hc).2.1
    rw [ha] at this
    simpa using this
def Ty.read : Ty → Bool
  | .op => false
  | .sl t => t.read && !Nat.beq t.cells 0
  | .pr a b => a.read && (b.read && b.agg)
  | _ => true
section
variable {P : Program} {T : Tab}
def OpQ (P : Program) (T : Tab) (ty : Ty) : Prop := ∀ t te, T.find t = some te → te.ty = ty → ∀ (H : Type) (enc : TypeId × Value → H) (w : World) (base : Nat) (sp : Nat → Bool) (held : Bool) (fuel : Nat) (cs : List Value) (x : DataW H × List MemPlace),
  DataW.trod enc P w base sp held fuel t cs = some x → (∀ n ∈ x.1.weights P t, n ≤ reachBytes) → ∃ v : ty.D, RO (fun b => b < w.heap.size) (cv w) ty cs v ∧ ty.good v
def OpF (P : Program) (T : Tab) (ty : Ty) : Prop := ∀ fs l off, chainOk T fs l ty off → ∀ (H : Type) (enc : TypeId × Value → H) (w : World) (base : Nat) (sp : Nat → Bool) (held : Bool) (n : Nat) (cs : List Value) (xs : List (DataW H × List MemPlace)),
  xs.length = fs.length → (∀ (i : Nat) (f : Field), fs[i]? = some f → DataW.trod enc P w base sp held n f.type ((cs.drop f.offset).take (P.cellsOf f.type)) = xs[i]?) →
  (∀ z ∈ DataW.weightsEach P (fs.map (·.type)) (xs.map (·.1)), z ≤ reachBytes) → ∃ v : ty.D, RO (fun b => b < w.heap.size) (cv w) ty ((cs.drop off).take ty.cells) v ∧ ty.good v
def OpA (P : Program) (T : Tab) (ty : Ty) : Prop := ∀ n e te, T.find e = some te → ty = arrTy n te.ty → ∀ (H : Type) (enc : TypeId × Value → H) (w : World) (base : Nat) (sp : Nat → Bool) (held : Bool) (m k : Nat) (cs : List Value) (xs : List (DataW H × List MemPlace)),
  xs.length = n → (∀ (i : Nat), i < n → DataW.trod enc P w base sp held m e ((cs.drop ((k + i) * te.ty.cells)).take te.ty.cells) = xs[i]?) →
  (∀ z ∈ DataW.weightsAll P e (xs.map (·.1)), z ≤ reachBytes) → ∃ v : ty.D, RO (fun b => b < w.heap.size) (cv w) ty ((cs.drop (k * te.ty.cells)).take ty.cells) v ∧ ty.good v
theorem weightsAll_mem {H : Type} {P : Program} {e : TypeId} : ∀ {l : List (DataW H)} {d : DataW H}, d ∈ l → ∀ n ∈ d.weights P e, n ∈ DataW.weightsAll P e l
  | d0 :: l, d, hd, n, hn => by
    simp only [DataW.weightsAll, List.mem_append]
    rcases List.mem_cons.1 hd with rfl | hd
    · exact Or.inl hn
    · exact Or.inr (weightsAll_mem hd n hn)
theorem cell_plain {w : World} {a : Addr} {v : Value} (h : w.cell? a = some v) : a = ⟨a.block, a.off, none⟩ ∧ a.block < w.heap.size := by
  unfold World.cell? at h
  split at h
  · rename_i c e f hb
    split at h
    · cases h
    · rename_i hs
      refine ⟨?_, ?_⟩
      · cases a; simp at hs; simp [hs]
      · rcases Nat.lt_or_ge a.block w.heap.size with h1 | h1
        · exact h1
        · rw [Array.getElem?_eq_none h1] at hb; cases hb
  · cases h
theorem opQ_slice (hT : allT (teB P T) T = true) {ty : Ty} (hc : ty.cells ≠ 0) (ih : OpQ P T ty) : OpQ P T (.sl ty) := by
  intro t te ht hty H enc w base sp held fuel cs x h hw
  obtain ⟨e, te', hk, hu, he, hte'⟩ := sl_of (tabOk_of hT) ht hty
  obtain ⟨hb1, hb2⟩ := bytes_of hT he
  rw [hte'] at hb1 hb2
  rcases Go.Deep.open_slice hu h with ⟨rfl, rfl⟩ | ⟨a, len, cap, m, n, D, Pl, rfl, _, hl, hm, hmm, rfl, hx⟩
  · exact ⟨[], ⟨none, 0, rfl, Nat.le_refl _, fun h => absurd rfl h⟩, by simp [Ty.good]⟩
  · have hlm : len ≤ m := by rw [hmm]; split <;> omega
    have hwt : ∀ n ∈ DataW.weights P t (.slice ((List.range len).map D) ((List.range (m - len)).map fun j => D (len + j)) : DataW H), n ≤ reachBytes := hw
    simp only [DataW.weights, hu] at hwt
    have each : ∀ i, i < len → ∃ q : ty.D, ∃ c : List Value, c.length = ty.cells ∧ RO (fun b => b < w.heap.size) (cv w) ty c q ∧ (∀ j u, c[j]? = some u → w.cell? (a.add (i * ty.cells + j)) = some u) ∧ ty.good q := by
      intro i hi
      obtain ⟨cs', h1, h2⟩ := hx i (by omega)
      obtain ⟨_, hlen, hcell⟩ := World.cells?_some h1
      obtain ⟨q, hK, hG⟩ := ih e te' he hte' H enc w base sp held n cs' _ h2 (fun z hz => hwt z (by
        refine List.mem_cons_of_mem _ (List.mem_append_left _ (weightsAll_mem (d := D i) ?_ z hz))
        exact List.mem_map.2 ⟨i, List.mem_range.2 hi, rfl⟩))
      rw [hb2] at hlen hcell
      refine ⟨q, cs', hlen, hK, fun j u hj => ?_, hG⟩
      have hjl : j < cs'.length := by
        rcases Nat.lt_or_ge j cs'.length with h | h
        · exact h
        · rw [List.getElem?_eq_none h] at hj; cases hj
      have := hcell j (by omega)
      rw [Go.Deep.add_add] at this
      rw [this, hj]
    have hex : ∀ (k : Nat), k ≤ len → ∃ (xs : List ty.D) (ccs : List Value), xs.length = k ∧ ccs.length = k * ty.cells ∧ (∀ j u, ccs[j]? = some u → w.cell? (a.add ((len - k) * ty.cells + j)) = some u) ∧ Rows (RO (fun b => b < w.heap.size) (cv w) ty) ty.cells ccs xs ∧ ∀ x ∈ xs, ty.good x := by
      intro k
      induction k with
      | zero => exact fun _ => ⟨[], [], rfl, by simp, fun j u hj => by simp at hj, trivial, fun x hx => by cases hx⟩
      | succ k ihk =>
        intro hn
        obtain ⟨xs, ccs, h1, h2, h3, h4, h5⟩ := ihk (by omega)
        obtain ⟨q, c, g1, g2, g3, g4⟩ := each (len - (k + 1)) (by omega)
        refine ⟨q :: xs, c ++ ccs, by simp [h1], by rw [List.length_append, g1, h2, Nat.succ_mul, Nat.add_comm], fun j u hj => ?_, ⟨c, ccs, rfl, g1, g2, h4⟩, fun x hx => ?_⟩
        · by_cases hjc : j < c.length
          · rw [List.getElem?_append_left hjc] at hj
            exact g3 j u hj
          · rw [List.getElem?_append_right (by omega)] at hj
            have := h3 _ u hj
            have e1 : (len - k) * ty.cells + (j - c.length) = (len - (k + 1)) * ty.cells + j := by
              have : len - k = len - (k + 1) + 1 := by omega
              rw [this, Nat.add_mul, g1]
              omega
            rw [e1] at this
            exact this
        · rcases List.mem_cons.1 hx with rfl | hx
          · exact g4
          · exact h5 x hx
    obtain ⟨xs, ccs, h1, h2, h3, h4, h5⟩ := hex len (Nat.le_refl _)
    rw [Nat.sub_self, Nat.zero_mul] at h3
    refine ⟨xs, ⟨some a, cap, by rw [h1], by omega, fun hne => ?_⟩, ?_, h5⟩
    · have hpos : 0 < ccs.length := by
        rw [h2]
        refine Nat.mul_pos ?_ (Nat.pos_of_ne_zero hc)
        rw [← h1]
        exact List.length_pos_iff.2 hne
      have h0 := h3 0 ccs[0] (List.getElem?_eq_getElem hpos)
      have ea : a.add (0 + 0) = a := by simp [Addr.add]
      rw [ea] at h0
      obtain ⟨q1, q2⟩ := cell_plain h0
      refine ⟨a.block, a.off, by rw [← q1], q2, ccs, by rw [h2, h1], fun j v hv => ?_, h4⟩
      have := h3 j v hv
      rw [q1, Nat.zero_add, add_plain] at this
      exact this
    · have hle := hwt _ List.mem_cons_self
      simp only [List.length_map, List.length_range] at hle
      rw [h1]
      have hb : 1 ≤ P.bytesOf e := by omega
      have : len ≤ (len + (m - len)) * P.bytesOf e := Nat.le_trans (Nat.le_add_right _ _) (Nat.le_mul_of_pos_right _ hb)
      have hr : reachBytes = 140737488351232 := rfl
      omega
theorem opens (hT : allT (teB P T) T = true) : ∀ ty : Ty, ty.read = true → OpQ P T ty ∧ (ty.agg = true → OpF P T ty ∧ OpA P T ty) := by
  have hTab := tabOk_of hT
  have one : ∀ {ty : Ty} {t : Nat} {te : TE}, T.find t = some te → te.ty = ty → ∃ d, P.underlying t = some d ∧ descOk T te d := fun ht _ => hTab.und ht
  intro ty
  induction ty with
  | int k =>
    refine fun _ => ⟨?_, fun h => by cases h⟩
    intro t te ht hty H enc w base sp held fuel cs x h _
    obtain ⟨d, hu, hd⟩ := one ht hty
    have e2 : d = .int k := by
      cases d <;> simp only [descOk] at hd
      case int k2 => have := hd.2; rw [hty] at this; cases this; rfl
      case struct fs => obtain ⟨l, _, hch⟩ := hd; have := st_agg hch; rw [hty] at this; cases this
      case array n e => obtain ⟨_, te', _, hh⟩ := hd; rw [hty] at hh; cases n <;> cases hh
      case slice e => obtain ⟨_, te', _, hh⟩ := hd; rw [hty] at hh; cases hh
      all_goals (have := hd.2; rw [hty] at this; cases this)
    rw [e2] at hu
    obtain ⟨n, rfl, rfl, hw⟩ := DataW.trod_int hu h
    exact ⟨n, rfl, hw⟩
  | bool =>
    refine fun _ => ⟨?_, fun h => by cases h⟩
    intro t te ht hty H enc w base sp held fuel cs x h _
    obtain ⟨d, hu, hd⟩ := one ht hty
    have e2 : d = .bool := by
      cases d <;> simp only [descOk] at hd
      case bool => rfl
      case struct fs => obtain ⟨l, _, hch⟩ := hd; have := st_agg hch; rw [hty] at this; cases this
      case array n e => obtain ⟨_, te', _, hh⟩ := hd; rw [hty] at hh; cases n <;> cases hh
      case slice e => obtain ⟨_, te', _, hh⟩ := hd; rw [hty] at hh; cases hh
      all_goals (have := hd.2; rw [hty] at this; cases this)
    rw [e2] at hu
    obtain ⟨n, rfl, rfl⟩ := DataW.trod_bool hu h
    exact ⟨n, rfl, trivial⟩
  | str =>
    refine fun _ => ⟨?_, fun h => by cases h⟩
    intro t te ht hty H enc w base sp held fuel cs x h hw
    obtain ⟨d, hu, hd⟩ := one ht hty
    have e2 : d = .string := by
      cases d <;> simp only [descOk] at hd
      case string => rfl
      case struct fs => obtain ⟨l, _, hch⟩ := hd; have := st_agg hch; rw [hty] at this; cases this
      case array n e => obtain ⟨_, te', _, hh⟩ := hd; rw [hty] at hh; cases n <;> cases hh
      case slice e => obtain ⟨_, te', _, hh⟩ := hd; rw [hty] at hh; cases hh
      all_goals (have := hd.2; rw [hty] at this; cases this)
    rw [e2] at hu
    obtain ⟨s, rfl, rfl, hs⟩ := DataW.trod_string hu h
    refine ⟨s, rfl, ?_⟩
    have := hw s.data.toList.length (by simp [DataW.weights])
    rw [Array.length_toList] at this
    exact this
  | op => intro h; cases h
  | sl ty ih =>
    intro h
    simp only [Ty.read, Bool.and_eq_true, Bool.not_eq_true'] at h
    refine ⟨opQ_slice hT (fun e => ?_) (ih h.1).1, fun h => by cases h⟩
    rw [e] at h
    exact absurd h.2 (by simp)
  | un =>
    have hF : OpF P T .un := by
      intro fs l off hch H enc w base sp held n cs xs hl hx hw
      exact ⟨(), by show List.take 0 _ = []; simp, trivial⟩
    have hA : OpA P T .un := by
      intro n e te he hty H enc w base sp held m k cs xs hl hx hw
      exact ⟨(), by show List.take 0 _ = []; simp, trivial⟩
    refine fun _ => ⟨?_, fun _ => ⟨hF, hA⟩⟩
    intro t te ht hty H enc w base sp held fuel cs x h hw
    obtain ⟨d, hu, hd⟩ := one ht hty
    obtain ⟨_, hcl⟩ := bytes_of hT ht
    rw [hty] at hcl
    have hcl : P.cellsOf t = 0 := hcl
    have hcs : cs = [] := by
      cases d <;> simp only [descOk] at hd
      case struct fs =>
        obtain ⟨xs, n, rfl, rfl, hlen, _⟩ := DataW.trod_struct hu h
        rw [hcl] at hlen
        exact List.length_eq_zero_iff.1 hlen
      case array n e =>
        obtain ⟨xs, n, rfl, rfl, hlen, _⟩ := DataW.trod_array hu h
        rw [hcl] at hlen
        exact List.length_eq_zero_iff.1 hlen
      case slice e => obtain ⟨_, te', _, hh⟩ := hd; rw [hty] at hh; cases hh
      all_goals (have := hd.2; rw [hty] at this; cases this)
    exact ⟨(), hcs, trivial⟩
  | pr a b iha ihb =>
    intro hr
    simp only [Ty.read, Bool.and_eq_true] at hr
    obtain ⟨ra, rb, gb⟩ := hr
    obtain ⟨qa, _⟩ := iha ra
    obtain ⟨_, hbb⟩ := ihb rb
    obtain ⟨fb, ab⟩ := hbb gb
    have cut : ∀ (cs : List Value) (off : Nat), (cs.drop off).take (Ty.pr a b).cells = (cs.drop off).take a.cells ++ (cs.drop (off + a.cells)).take b.cells := by
      intro cs off
      show (cs.drop off).take (a.cells + b.cells) = _
      rw [List.take_add, List.drop_drop]
    have hF : OpF P T (.pr a b) := by
      intro fs l off hch H enc w base sp held n cs xs hl hx hw
      cases fs with
      | nil => cases l <;> cases hch
      | cons f fs =>
        cases l with
        | nil => cases hch
        | cons i l =>
          obtain ⟨e1, e2, ⟨te, hte, e3⟩, hch⟩ := hch
          cases xs with
          | nil => simp at hl
          | cons x xs =>
            have h0 := hx 0 f rfl
            have hcl := (bytes_of hT hte).2
            rw [e3, ← e1] at hcl
            rw [e2, hcl] at h0
            simp only [List.map_cons, DataW.weightsEach] at hw
            obtain ⟨v1, k1, g1⟩ := qa f.type te (by rw [e1]; exact hte) e3 H enc w base sp held n _ x (by simpa using h0) (fun z hz => hw z (List.mem_append_left _ hz))
            obtain ⟨v2, k2, g2⟩ := fb fs l (off + a.cells) hch H enc w base sp held n cs xs (by simpa using hl) (fun i f' hf => by simpa using hx (i + 1) f' (by simpa using hf)) (fun z hz => hw z (List.mem_append_right _ hz))
            exact ⟨(v1, v2), ⟨_, _, cut cs off, k1, k2⟩, g1, g2⟩
    have hA : OpA P T (.pr a b) := by
      intro n e te he hty H enc w base sp held m k cs xs hl hx hw
      cases n with
      | zero => cases hty
      | succ n =>
        have hty' : Ty.pr a b = .pr te.ty (arrTy n te.ty) := hty
        injection hty' with ea eb
        cases xs with
        | nil => simp at hl
        | cons x xs =>
          have h0 := hx 0 (by omega)
          simp only [List.map_cons, DataW.weightsAll] at hw
          obtain ⟨v1, k1, g1⟩ := qa e te he ea.symm H enc w base sp held m _ x (by simpa using h0) (fun z hz => hw z (List.mem_append_left _ hz))
          obtain ⟨v2, k2, g2⟩ := ab n e te he eb H enc w base sp held m (k + 1) cs xs (by simpa using hl) (fun i hi => by
            have := hx (i + 1) (by omega)
            rw [show k + 1 + i = k + (i + 1) by omega]
            simpa using this) (fun z hz => hw z (List.mem_append_right _ hz))
          rw [← ea] at k1 k2 ⊢
          refine ⟨(v1, v2), ⟨_, _, cut cs _, k1, ?_⟩, g1, g2⟩
          rw [show k * a.cells + a.cells = (k + 1) * a.cells by rw [Nat.add_mul, Nat.one_mul]]
          exact k2
    refine ⟨?_, fun _ => ⟨hF, hA⟩⟩
    intro t te ht hty H enc w base sp held fuel cs x h hw
    obtain ⟨d, hu, hd⟩ := one ht hty
    obtain ⟨_, hcl⟩ := bytes_of hT ht
    rw [hty] at hcl
    cases d <;> simp only [descOk] at hd
    case struct fs =>
      obtain ⟨l, _, hch⟩ := hd
      rw [hty] at hch
      obtain ⟨xs, n, rfl, rfl, hlen, hxl, hf⟩ := DataW.trod_struct hu h
      have hwt : ∀ n ∈ DataW.weights P t (.agg (xs.map (·.1)) : DataW H), n ≤ reachBytes := hw
      simp only [DataW.weights, hu] at hwt
      obtain ⟨v, hK, hG⟩ := hF fs.toList l 0 hch H enc w base sp held n cs xs (by rw [hxl, Array.length_toList]) (fun i f hi => hf i f (by rw [← Array.getElem?_toList]; exact hi)) hwt
      rw [List.drop_zero, List.take_of_length_le (by omega)] at hK
      exact ⟨v, hK, hG⟩
    case array n e =>
      obtain ⟨_, te', he, hh⟩ := hd
      rw [hty] at hh
      obtain ⟨_, hce⟩ := bytes_of hT he
      obtain ⟨xs, m, rfl, rfl, hlen, hxl, hf⟩ := DataW.trod_array hu h
      have hwt : ∀ n ∈ DataW.weights P t (.agg (xs.map (·.1)) : DataW H), n ≤ reachBytes := hw
      simp only [DataW.weights, hu] at hwt
      obtain ⟨v, hK, hG⟩ := hA n e te' he hh H enc w base sp held m 0 cs xs hxl (fun i hi => by rw [Nat.zero_add, ← hce]; exact hf i hi) hwt
      rw [Nat.zero_mul, List.drop_zero, List.take_of_length_le (by omega)] at hK
      exact ⟨v, hK, hG⟩
    case slice e => obtain ⟨_, te', _, hh⟩ := hd; rw [hty] at hh; cases hh
    all_goals (have := hd.2; rw [hty] at this; cases this)
end
end Go.Vm
set_option linter.unusedVariables false
set_option linter.unusedSimpArgs false
namespace Go.Vm
open Go Go.RowKit Go.ChangeShapes Go.WideShapes
def parsB (T : Tab) : List TypeId → Ty → Bool
  | [], .un => true
  | t :: ts, .pr a b => tyIs T t a && (a.read && parsB T ts b)
  | _, _ => false
section
variable {P : Program} {T : Tab}
theorem vOf_wide (hT : allT (teB P T) T = true) {w : World} {r : Reach} {base : Nat} {t : Nat} {te : TE} (ht : T.find t = some te) (hr : te.ty.read = true) {v : Value} (h : Value.okWide P w r base t v) {ok : Nat → Prop} {x : te.ty.D} (hx : RO ok (cv w) te.ty v.cells.toList x) : v = vOf te.ty v.cells.toList := by
  obtain ⟨d, hu, hd⟩ := (tabOk_of hT).und ht
  unfold vOf
  cases hag : te.ty.agg
  · have e1 : v.cells.toList = [v] := by
      cases d <;> simp only [descOk] at hd
      case int k => obtain ⟨n, rfl⟩ := okWide_int hu h; rfl
      case bool => obtain ⟨n, rfl⟩ := okWide_bool hu h; rfl
      case string => obtain ⟨n, rfl⟩ := okWide_string hu h; rfl
      case slice e => obtain ⟨a, l, c, rfl⟩ := okWide_slice hu h; rfl
      case struct fs => obtain ⟨l, _, hch⟩ := hd; have := st_agg hch; rw [hag] at this; cases this
      case array n e => obtain ⟨_, te', _, hh⟩ := hd; rw [hh] at hag; cases n <;> cases hag
      all_goals (rw [hd.2] at hr; cases hr)
    rw [e1]
    rfl
  · have e1 : ∃ cs, v = .agg cs := by
      cases d <;> simp only [descOk] at hd
      case struct fs => simp only [Value.okWide, hu] at h; obtain ⟨cs, h, _⟩ := h; exact ⟨cs, h⟩
      case array n e => simp only [Value.okWide, hu] at h; obtain ⟨cs, h, _⟩ := h; exact ⟨cs, h⟩
      case slice e => obtain ⟨_, te', _, hh⟩ := hd; rw [hh] at hag; cases hag
      all_goals (rw [hd.2] at hag; cases hag)
    obtain ⟨cs, rfl⟩ := e1
    rfl
theorem opens_args (hT : allT (teB P T) T = true) {H : Type} {enc : TypeId × Value → H} {w : World} {sp : Nat → Bool} {held : Bool} : ∀ {ts : List TypeId} {ps : Ty} {vs : List Value} {ds : List (DataW H)} {p : List MemPlace}, parsB T ts ps = true →
    DataW.TrodAll enc P w 0 sp held ts vs ds p → (∀ (j : Nat) t v, ts[j]? = some t → vs[j]? = some v → ∃ base, Value.okWide P w .any base t v) → (∀ z ∈ DataW.weightsEach P ts ds, z ≤ reachBytes) →
    ∃ a : ps.D, ArgsR (fun b => b < w.heap.size) w ps a vs ∧ ps.good a
  | [], .un, [], [], p, _, _, _, _ => ⟨(), rfl, trivial⟩
  | t :: ts, .pr a b, v :: vs, d :: ds, p, hp, h, hv, hw => by
    simp only [parsB, Bool.and_eq_true] at hp
    obtain ⟨h1, h2, h3⟩ := hp
    obtain ⟨p1, p2, ⟨fuel, q1⟩, q2, _⟩ := h
    simp only [DataW.weightsEach] at hw
    unfold tyIs at h1
    split at h1
    · rename_i te hte
      have e := of_decide_eq_true h1
      obtain ⟨x, k1, k2⟩ := (opens hT a h2).1 t te hte e H enc w 0 sp held fuel _ _ q1 (fun z hz => hw z (List.mem_append_left _ hz))
      obtain ⟨y, k3, k4⟩ := opens_args hT h3 q2 (fun j t v ht hv' => hv (j + 1) t v (by simpa using ht) (by simpa using hv')) (fun z hz => hw z (List.mem_append_right _ hz))
      obtain ⟨base, hwide⟩ := hv 0 t v rfl rfl
      subst e
      exact ⟨(x, y), ⟨⟨_, k1, vOf_wide hT hte h2 hwide k1⟩, k3⟩, k2, k4⟩
    · cases h1
  | [], .un, _ :: _, _, _, _, h, _, _ => by simp [DataW.TrodAll] at h
  | [], .un, [], _ :: _, _, _, h, _, _ => by simp [DataW.TrodAll] at h
  | [], .pr _ _, _, _, _, hp, _, _, _ | [], .int _, _, _, _, hp, _, _, _ | [], .bool, _, _, _, hp, _, _, _ | [], .str, _, _, _, hp, _, _, _ | [], .sl _, _, _, _, hp, _, _, _ | [], .op, _, _, _, hp, _, _, _ => by simp [parsB] at hp
  | _ :: _, .un, _, _, _, hp, _, _, _ | _ :: _, .int _, _, _, _, hp, _, _, _ | _ :: _, .bool, _, _, _, hp, _, _, _ | _ :: _, .str, _, _, _, hp, _, _, _ | _ :: _, .sl _, _, _, _, hp, _, _, _ | _ :: _, .op, _, _, _, hp, _, _, _ => by simp [parsB] at hp
  | _ :: _, .pr _ _, [], _, _, _, h, _, _ => by simp [DataW.TrodAll] at h
  | _ :: _, .pr _ _, _ :: _, [], _, _, h, _, _ => by simp [DataW.TrodAll] at h
def parsLaid (P : Program) : List TypeId → Bool
  | [] => true
  | t :: ts => P.readableRec t && (decide (t < P.types.size) && parsLaid P ts)
theorem trods_stay (hl : laidOutB P = true) {H : Type} {enc : TypeId × Value → H} {W W' : World} (hb : Below W.heap.size W W') : ∀ {ts : List TypeId} {vs : List Value} {ds : List (DataW H)} {p : List MemPlace}, parsLaid P ts = true →
    DataW.TrodAll enc P W 0 (fun _ => true) true ts vs ds p → DataW.TrodAll enc P W' 0 (fun b => decide (b < W.heap.size)) true ts vs ds p
  | [], [], [], p, _, h => h
  | t :: ts, v :: vs, d :: ds, p, hp, h => by
    simp only [parsLaid, Bool.and_eq_true] at hp
    obtain ⟨p1, p2, q1, q2, e⟩ := h
    refine ⟨p1, p2, Below.trod hl hp.1 (of_decide_eq_true hp.2.1) q1 hb ?_, trods_stay hl hb hp.2.2 q2, e⟩
    obtain ⟨m, hm⟩ := q1
    exact DataW.trod_lt m _ _ _ hm
  | [], [], _ :: _, _, _, h => by simp [DataW.TrodAll] at h
  | [], _ :: _, _, _, _, h => by simp [DataW.TrodAll] at h
  | _ :: _, [], _, _, _, h => by simp [DataW.TrodAll] at h
  | _ :: _, _ :: _, [], _, _, h => by simp [DataW.TrodAll] at h
theorem trodAll_len {H : Type} {enc : TypeId × Value → H} {W : World} {base : Nat} {sp : Nat → Bool} {held : Bool} : ∀ {ts : List TypeId} {vs : List Value} {ds : List (DataW H)} {p : List MemPlace}, DataW.TrodAll enc P W base sp held ts vs ds p → ds.length = ts.length
  | [], [], [], p, h => rfl
  | t :: ts, v :: vs, d :: ds, p, h => by obtain ⟨p1, p2, q1, q2, e⟩ := h; simp [trodAll_len q2]
  | [], [], _ :: _, _, h => by simp [DataW.TrodAll] at h
  | [], _ :: _, _, _, h => by simp [DataW.TrodAll] at h
  | _ :: _, [], _, _, h => by simp [DataW.TrodAll] at h
  | _ :: _, _ :: _, [], _, h => by simp [DataW.TrodAll] at h
theorem law_lifted {C : Checked} {os : Os} {H : Type} {enc : TypeId × Value → H} {f : FuncId} {fn : Func} {s : ChangeSpec} {conds : List PathCond}
    (own : ownKnob C.prog.godebug = none) (started : os.Started) (noInit : C.prog.inits.idxOf? f = none) (hfn : C.prog.funcs[f]? = some fn)
    (witness : ∃ (w : World) (tape : Tape) (i : Input), w.os = os ∧ (w.forCall tape i).Shaped C.prog ∧ i.vars = [] ∧ Input.okWide C.prog (w.forCall tape i) .any w.heap.size f i ∧
      s.pre6 enc C.prog fn conds false (w.forCall tape i).memory i.args ∧ ({} : Assume).holds C.prog (lone (Frame.enter C.prog f i.args .normal) [] (w.forCall tape i)))
    (laid : laidOutB C.prog = true) {T : Tab} (hT : allT (teB C.prog T) T = true) {ps : Ty} (hps : parsB T fn.params.toList ps = true) (hpl : parsLaid C.prog fn.params.toList = true) (hvars : s.vars = [])
    {tb : TypeId} (hres : fn.resultTypes = #[tb]) (hb : C.prog.underlying tb = some .bool)
    (hs : ∀ (H : Type) (ds : List (DataW H)), ds.length = fn.params.toList.length → s.fn H ds = { results := [.lit (.bool true)], args := ds })
    {F : Nat → ps.D → Option Bool} (hF : ∀ k, FnOk C.prog ⟨f, ps, false, .fl .bool, F k⟩) (pure : ∀ a, ps.good a → ∃ k, F k a = some true) :
    ReturnsInHanded {} C os f .any (s.pre6 enc C.prog fn conds false) (s.post enc C.prog fn false true false false) := by
  refine returnsInHanded_of_change_sized (C := C) own started noInit hfn witness ?_
  intro W base args ds gs before hval hW hcnd hsz _
  have hW' := hW
  obtain ⟨p, q, hA, hV, rfl, hfz, hnd⟩ := hW
  rw [hvars] at hV
  have hgs : gs = [] := by
    cases gs with
    | nil => rfl
    | cons g gs => simp [DataW.TrodVars] at hV
  subst hgs
  have hpv : s.plain.varTypes C.prog = [] := by
    simp [DataSpec.varTypes, ChangeSpec.plain, hvars]
  rw [hpv, List.append_nil, List.append_nil] at hsz
  obtain ⟨a, ha, hg⟩ := opens_args hT hps hA (fun j t v ht hv => ⟨base, hval j t v (by rw [← Array.getElem?_toList]; exact ht) (by rw [← Array.getElem?_toList]; exact hv)⟩) (fun z hz => by simpa using List.all_eq_true.1 hsz z hz)
  obtain ⟨k, hk⟩ := pure a hg
  obtain ⟨_, hcalls⟩ := hF k (fun b => b < W.heap.size) W a args.toList true (fun b hb => hb) ha hk
  have hcalls' : Calls C.prog f args W fun
    | .returned v, w' => Grown W w' ∧ ∃ okr F, ResR okr w' false (.fl .bool) true v F ∧ F.Nodup ∧ (∀ b ∈ F, W.heap.size ≤ b ∧ b < w'.heap.size ∧ ¬ okr b) ∧ ∀ b, okr b → b < w'.heap.size ∧ (b < W.heap.size ∨ W.heap.size ≤ b)
    | _, _ => False := hcalls
  refine Calls.mono hcalls' ?_
  rintro (v | ch | _) W' hr
  · obtain ⟨g, okr, F', hr, _⟩ := hr
    have bel : Below W.heap.size W W' := ⟨g.os, g.tape.1, g.output, g.size, g.block⟩
    have hv : v = .bool true := by
      unfold ResR at hr
      simp only [Bool.false_eq_true, if_false] at hr
      obtain ⟨cs, ⟨_, _, hc⟩, e⟩ := hr
      have hc' : cs = [.bool true] := hc
      rw [hc'] at e
      exact e
    subst hv
    have hlen := trodAll_len hA
    refine ⟨_, rfl, ds, [], p ++ q, [], p, [], hW', ?_, ?_, ?_, bel.frame _, fun h => by cases h⟩
    · rw [List.append_nil, hs H ds hlen, hres]
      exact trodAll_mk1 (shut_bool hb _)
    · rw [List.append_nil, hs H ds hlen]
      exact trods_stay laid bel hpl hA
    · rw [List.append_nil, hs H ds hlen, hvars]
      rfl
  · exact hr.elim
  · exact hr.elim
end
end Go.Vm
