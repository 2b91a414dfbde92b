/- The value machine, part 6 of 9. -/
import Derived.Test.YtjddmekfeckphaaGreatVm4
import Derived.Orders
set_option linter.unusedVariables false
set_option linter.unusedSimpArgs false
set_option linter.unnecessarySimpa false
set_option linter.unusedVariables false
set_option linter.unusedSimpArgs false
namespace Go.Vm
open Go Go.RowKit
structure EnvOk (P : Program) (E : Env) : Prop where
  tab : TabOk P E.T
  eq : EqOk P E.T
  fns : ∀ d ∈ E.Γ, FnOk P d
  gs : ∀ g ∈ E.G, FgOk P g
  sos : ∀ s ∈ E.so, SoOk P s
theorem soFind_some : ∀ {l : List So} {n : Nat} {s : So}, soFind l n = some s → s ∈ l ∧ s.id = n
  | s' :: l, n, s, h => by
    have h' : cond (Nat.beq s'.id n) (some s') (soFind l n) = some s := h
    cases hb : Nat.beq s'.id n <;> rw [hb] at h'
    · obtain ⟨h1, h2⟩ := soFind_some (l := l) h'
      exact ⟨by simp [h1], h2⟩
    · cases h'
      exact ⟨by simp, Nat.eq_of_beq_eq_true hb⟩
section
variable {P : Program}
theorem All2.app {α β : Type} {R : α → β → Prop} : ∀ {l l' : List α} {m m' : List β}, All2 R l m → All2 R l' m' → All2 R (l ++ l') (m ++ m')
  | _, _, _, _, .nil, h => h
  | _, _, _, _, .cons h t, h' => .cons h (All2.app t h')
theorem capL_all {S : Side} {ob : List Obe} {w : World} : ∀ {c : VT} {cs : List VT} {caps : List Value}, VTC S ob w c caps → c.capL = some cs → All2 (VTV S ob w) cs caps
  | .un, cs, caps, h, hc => by
    have hc' : some ([] : List VT) = some cs := hc
    cases hc'
    have h' : caps = [] := h
    subst h'
    exact .nil
  | .pr a b, cs, caps, h, hc => by
    obtain ⟨hk, hc⟩ := cond_opt (show cond (!a.isAgg && Nat.beq a.cells 1) (b.capL.map fun l => a :: l) none = some cs from hc)
    simp only [Bool.and_eq_true, Bool.not_eq_true'] at hk
    obtain ⟨l, h1, rfl⟩ := Option.map_eq_some_iff.1 hc
    obtain ⟨c1, c2, rfl, h2, h3⟩ := h
    have k1 := hk.1
    obtain ⟨z, rfl⟩ := List.length_eq_one_iff.1 ((VTC_len h2).trans (Nat.eq_of_beq_eq_true hk.2))
    refine .cons ?_ (capL_all h3 h1)
    have := VTC_VTV h2
    unfold mkV at this
    rw [k1] at this
    exact this
  | .va _ _, _, _, _, hc | .rp _ _, _, _, _, hc | .nl, _, _, _, hc | .em, _, _, _, hc | .np, _, _, _, hc | .sl _ _ _ _ _, _, _, _, hc | .pt _ _ _ _, _, _, _, hc | .tu _, _, _, _, hc | .fn _ _, _, _, _, hc | .an, _, _, _, hc | .ud, _, _, _, hc => by cases hc
theorem if_split {f m : Nat} (h : Nat.ble m f = true) : ∃ k, f = m + k ∧ f - m = k := ⟨f - m, by have := Nat.le_of_ble_eq_true h; omega, rfl⟩
theorem op_does {C : Ctx} {S : Side} {x : X} {a : Act} {w : World} (I : Inv C S x a w) {E : Env} (hE : EnvOk P E) {o : Oper} {fp : Fp} {e : Eff} (h : (opEff E o.type (alKey o.dst o.op) o.op (rdR x fp)).has e)
    (hw : wrOk (wrote e.ob) fp.ro x.ob.length = true) : Does P C o a w x e := by
  have hw' : ∀ m ∈ wrote e.ob, (rdR x fp).o m = getO x.ob m ∧ m < x.ob.length := fun m hm => by
    obtain ⟨h1, h2⟩ := wrOk_iff hw m hm
    refine ⟨?_, h2⟩
    simp [rdR, memN_iff.2 h1]
  by_cases hp : Op.plain o.op = true
  · exact (opEff_sound I hE.tab hE.eq (rdR_ok x fp) hp h hw').does
  · obtain ⟨dst, op, ty, pos, af, gd⟩ := o
    cases op <;> simp only [Op.plain, not_true_eq_false] at hp
    rename_i c
    obtain ⟨callee, args, ats⟩ := c
    cases callee with
    | builtin b => simp at hp
    | invoke y name =>
      have h' : (Br.opt ((rdR x fp).v y) fun v => opInvoke E (alKey dst (.call ⟨.invoke y name, args, ats⟩)) (rdR x fp) v name args.toList).has e := h
      obtain ⟨v, hv, h1⟩ := Br.opt_has h'
      unfold opInvoke at h1
      split at h1
      · rename_i f u
        obtain ⟨hfb, h2⟩ := Br.when_has h1
        rw [Bool.and_eq_true] at hfb
        obtain ⟨k, ef, ek⟩ := if_split hfb.1
        rw [ek] at h2
        clear h h' h1 ek
        subst ef
        obtain ⟨te, hte, h3⟩ := Br.opt_has h2
        obtain ⟨m, hm, h4⟩ := Br.opt_has h3
        obtain ⟨vs, hvs, h5⟩ := Br.opt_has h4
        obtain ⟨ei, hT⟩ := hE.tab _ _ hte
        have hM := hT.meth _ _ hm
        rw [ei] at hM
        obtain ⟨cs, ⟨caps, e1, c1, c2, e2, k1, k2⟩, e3⟩ := Rd_v I (rdR_ok x fp) hv
        obtain ⟨z, rfl, hz⟩ := cellV_V hfb.2 k1
        have k2' : c2 = [] := k2
        subst k2' e2 e1
        have hev : a.eval y = .iface k z := by
          rw [e3]
          exact fnVal_if k z []
        refine callG_sound I hE.gs (rdR_ok x fp) (us := z :: args.toList.map a.eval) (.cons hz (vs_all I (rdR_ok x fp) hvs)) h5 hw' ?_
        rintro ⟨fn, c, hf1, hf2, hf3⟩
        have eargs : (z :: args.toList.map a.eval).toArray = #[z] ++ args.map a.eval := Array.ext' (by simp)
        rw [eargs]
        have hM' := hM z w
        have ee : (#[Value.iface k z] ++ args.map a.eval).extract 1 (#[Value.iface k z] ++ args.map a.eval).size = args.map a.eval := Array.ext' (by simp [List.take_of_length_le])
        have hc : (callMethod (.iface k z) name (args.map a.eval)).run P w = .ok (.enter m (#[z] ++ args.map a.eval)) w := by
          unfold callMethod
          simp only [Sem.run_bind, run_program, Result.andThen_ok, hM']
          simp [callFunc, hf1, hf2, hf3]
        have e0 : (#[Value.iface k z] ++ args.map a.eval)[0]? = some (.iface k z) := by
          have q : #[Value.iface k z] ++ args.map a.eval = ((Value.iface k z) :: (args.map a.eval).toList).toArray := Array.ext' (by simp)
          rw [q]
          rfl
        have hi : (invoke (.fn (.method name) #[]) (#[Value.iface k z] ++ args.map a.eval)).run P w = .ok (.enter m (#[z] ++ args.map a.eval)) w := by
          unfold invoke
          simp only [e0, ee]
          exact hc
        show (do let d ← resolve a.eval ⟨.invoke y name, args, ats⟩ ty; invoke d.target d.args : Sem Next).run P w = _
        rw [Sem.run_bind]
        show Result.andThen (Result.ok ({ target := .fn (.method name) #[], args := #[a.eval y] ++ args.map a.eval } : Deferred) w) _ = _
        rw [hev]
        exact hi
      · exact h1.elim
    | value f =>
      cases f with
      | func f =>
        have h' : (opCallF E (alKey dst (.call ⟨.value (.func f), args, ats⟩)) (rdR x fp) f args.toList).has e := h
        unfold opCallF at h'
        split at h'
        · exact call_sound I hE.fns (rdR_ok x fp) h' hw'
        · obtain ⟨vs, hvs, h1⟩ := Br.opt_has h'
          split at h1
          · rename_i s hs
            obtain ⟨hs1, hs2⟩ := soFind_some hs
            refine sort_sound I (hE.sos s hs1) (rdR_ok x fp) (vs_all I (rdR_ok x fp) hvs) h1 hw' ?_
            rw [hs2]
            rintro ⟨fn, c, hf1, hf2, hf3⟩
            have eargs : args.map a.eval = (args.toList.map a.eval).toArray := Array.ext' (by simp)
            rw [← eargs]
            simp [execOp, resolve, Deferred.ofValue, invoke, callFunc, Act.eval, hf1, hf2, hf3]
          refine callG_sound I hE.gs (rdR_ok x fp) (vs_all I (rdR_ok x fp) hvs) h1 hw' ?_
          rintro ⟨fn, c, hf1, hf2, hf3⟩
          have eargs : args.map a.eval = (args.toList.map a.eval).toArray := Array.ext' (by simp)
          rw [← eargs]
          simp [execOp, resolve, Deferred.ofValue, invoke, callFunc, Act.eval, hf1, hf2, hf3]
      | tmp t =>
        have h' : (Br.opt ((rdR x fp).v (.tmp t)) fun v => opCallV E (alKey dst (.call ⟨.value (.tmp t), args, ats⟩)) (rdR x fp) v args.toList).has e := h
        obtain ⟨v, hv, h1⟩ := Br.opt_has h'
        unfold opCallV at h1
        split at h1
        · rename_i f c
          obtain ⟨hfb, h1⟩ := Br.when_has h1
          obtain ⟨vs, hvs, h2⟩ := Br.opt_has h1
          obtain ⟨cs, hcs, h3⟩ := Br.opt_has h2
          obtain ⟨cc, hc1, hc2⟩ := Rd_v I (rdR_ok x fp) hv
          obtain ⟨caps, rfl, hc3⟩ := hc1
          have hc2' : a.eval (.tmp t) = .func (.func f) #[] caps.toArray := hc2.trans (fnVal_fn hfb caps)
          refine callG_sound I hE.gs (rdR_ok x fp) ((vs_all I (rdR_ok x fp) hvs).app (capL_all hc3 hcs)) h3 hw' ?_
          rintro ⟨fn, c, hf1, hf2, hf3⟩
          have eargs : args.map a.eval ++ caps.toArray = (args.toList.map a.eval ++ caps).toArray := Array.ext' (by simp)
          rw [← eargs]
          simp [execOp, resolve, Deferred.ofValue, invoke, callFunc, hc2', hf1, hf2, hf3]
        · exact h1.elim
      | const v => exact h.elim
      | global g => exact h.elim
theorem getL_set_same {α : Type} : ∀ {l : List (Option α)} {d : Nat} {v : α}, getL l d = some v → l.set d (some v) = l
  | [], _, _, h => by simp
  | a :: l, 0, v, h => by simp [getL] at h; simp [h]
  | a :: l, d + 1, v, h => by simp [getL] at h; simp [getL_set_same h]
theorem lit_same {x : X} {d : Nat} {b : Bool} (h : getL x.sl d = some (.va .bool b)) : x.lit d b = x := by
  unfold X.lit
  rw [getL_set_same h]
theorem opGo_rel {R : Type} {E : Env} {ops : Array Oper} {o : Oper} {x : X} {K : Fp → Eff → X → Option R} {y : R} (h : opGo E ops o x K = some y) :
    ∃ e, ((opEff E o.type (alKey o.dst o.op) o.op (rdR x (opFp E ops o x))).has e ∧ wrOk (wrote e.ob) (opFp E ops o x).ro x.ob.length = true) ∧ K (opFp E ops o x) e (x.app o.dst e) = some y := by
  unfold opGo at h
  obtain ⟨e, h1, h2⟩ := Br.run_has h
  cases hw : wrOk (wrote e.ob) (opFp E ops o x).ro x.ob.length <;> rw [hw] at h2
  · cases h2
  · exact ⟨e, ⟨h1, hw⟩, h2⟩
theorem opRun_rel {R : Type} {E : Env} {ops : Array Oper} {o : Oper} {x : X} {K : Fp → Eff → X → Option R} {y : R} (h : opRun E ops o x K = some y) :
    ∃ e, OpRel E ops o x e ∧ K (opFp E ops o x) e (x.app o.dst e) = some y := by
  unfold opRun at h
  unfold OpRel
  cases hg : o.guard with
  | none =>
    rw [hg] at h
    exact opGo_rel h
  | some q =>
    obtain ⟨j, want⟩ := q
    rw [hg] at h
    simp only at h ⊢
    cases hd : (ops[j]?).bind (·.dst) with
    | none => rw [hd] at h; cases h
    | some d =>
      rw [hd] at h
      simp only at h ⊢
      split at h
      · rename_i hx
        exact ⟨_, rfl, h⟩
      · rename_i b hx
        have l := lit_same hx
        cases b
        · rw [l] at h
          cases want
          · obtain ⟨e, h1, h2⟩ := opGo_rel h
            exact ⟨e, by simpa using h1, h2⟩
          · exact ⟨_, by simp, h⟩
        · rw [l] at h
          cases want
          · exact ⟨_, by simp, h⟩
          · obtain ⟨e, h1, h2⟩ := opGo_rel h
            exact ⟨e, by simpa using h1, h2⟩
      · cases h
theorem wpOp_of {C : Ctx} {S : Side} {x : X} {a : Act} {w : World} (I : Inv C S x a w) {E : Env} (hE : EnvOk P E) {ops : Array Oper} {i : Nat} {o : Oper} (ho : ops[i]? = some o) {e : Eff} (h : OpRel E ops o x e) {K : Act → World → Prop} {Q : Exit → Act → World → Prop}
    (hK : ∀ a' w' S', Inv C S' (x.app o.dst e) a' w' → K a' w') : wpOp P ops Q i K a w := by
  unfold wpOp
  rw [ho]
  simp only
  unfold OpRel at h
  have skip : e = ⟨some .ud, []⟩ → K (a.put o.dst undef) w := by
    rintro rfl
    refine hK _ _ S ?_
    have := I.put o.dst (some .ud) undef (fun v e => by cases e; rfl)
    cases hdst : o.dst <;> rw [hdst] at this <;> exact this
  cases hg : o.guard with
  | none =>
    rw [hg] at h
    rw [if_pos (by simp [Region.wanted, hg])]
    exact .inl (op_does I hE h.1 h.2 _ _ hK)
  | some q =>
    obtain ⟨j, want⟩ := q
    rw [hg] at h
    simp only at h
    cases hd : (ops[j]?).bind (·.dst) with
    | none => rw [hd] at h; exact h.elim
    | some d =>
      rw [hd] at h
      simp only at h
      split at h
      · rename_i hx
        obtain ⟨u, hu, hv⟩ := I.slots d _ hx
        have hu' : u = undef := hv
        have hy : yielded ops a.tmps j = none := by
          unfold yielded
          rw [hd]
          simp [hu, hu', undef]
        rw [if_neg (by simp [Region.wanted, hg, hy])]
        exact skip h
      · rename_i b hx
        obtain ⟨u, hu, hv⟩ := I.slots d _ hx
        have hu' := VTV_bool hv
        have hy : yielded ops a.tmps j = some b := by
          unfold yielded
          rw [hd]
          simp [hu, hu']
        by_cases hb : b = want
        · rw [if_pos hb] at h
          rw [if_pos (by simp [Region.wanted, hg, hy, hb])]
          exact .inl (op_does I hE h.1 h.2 _ _ hK)
        · rw [if_neg hb] at h
          rw [if_neg (by simp [Region.wanted, hg, hy, hb])]
          exact skip h
      · exact h.elim
theorem wpOps_of {R : Type} {E : Env} (hE : EnvOk P E) {ops : Array Oper} {K : X → Option R} {y : R} {C : Ctx} : ∀ (l : List Oper) (i : Nat) {S : Side} {x : X} {a : Act} {w : World}, (∀ k o, l[k]? = some o → ops[i + k]? = some o) → Inv C S x a w → opsRun E ops l x K = some y →
    wpOps P ops (fun e a w => e = .normal ∧ ∃ S x', Inv C S x' a w ∧ K x' = some y) (List.range' i l.length) a w
  | [], i, S, x, a, w, _, I, h => ⟨rfl, S, x, I, h⟩
  | o :: l, i, S, x, a, w, hl, I, h => by
    obtain ⟨e, h1, h2⟩ := opRun_rel (K := fun _ _ x' => opsRun E ops l x' K) h
    rw [List.length_cons, List.range'_succ, wpOps_cons]
    refine wpOp_of I hE (by have := hl 0 o (by simp); simpa using this) h1 fun a' w' S' I' => ?_
    exact wpOps_of hE l (i + 1) (fun k o' hk => by have := hl (k + 1) o' (by simpa using hk); rwa [← Nat.add_assoc, Nat.add_right_comm] at this) I' h2
theorem region_plain {R : Type} {E : Env} (hE : EnvOk P E) {ops : Array Oper} {K : X → Option R} {y : R} {C : Ctx} {S : Side} {x : X} {a : Act} {w : World} {id : Nat} (I : Inv C S x a w) (h : opsRun E ops ops.toList x K = some y) :
    (Code.region id ops false).wp P (fun e a w => e = .normal ∧ ∃ S x', Inv C S x' a w ∧ K x' = some y) a w := by
  refine wp_region ?_
  have := wpOps_of hE ops.toList 0 (fun k o hk => by simpa using hk) I h
  rwa [Array.length_toList, ← List.range_eq_range'] at this
end
end Go.Vm
set_option linter.unusedVariables false
set_option linter.unusedSimpArgs false
namespace Go.Vm
open Go Go.RowKit
def appD (D : Nat → Bool) : List (Option Nat × Eff) → Nat → X → X
  | [], _, x => x
  | q :: l, i, x => appD D l (i + 1) (cond (D i) (x.app q.1 q.2) x)
theorem app_sl_len (x : X) (d : Option Nat) (e : Eff) : (x.app d e).sl.length = x.sl.length := by cases d <;> simp [X.app]
theorem app_ob_len (x : X) (d : Option Nat) (e : Eff) : (x.app d e).ob.length = x.ob.length := by simp [X.app, putO_length]
theorem appD_len {D : Nat → Bool} : ∀ {l : List (Option Nat × Eff)} {i : Nat} {x : X}, (appD D l i x).sl.length = x.sl.length ∧ (appD D l i x).ob.length = x.ob.length
  | [], _, _ => ⟨rfl, rfl⟩
  | q :: l, i, x => by
    simp only [appD]
    obtain ⟨h1, h2⟩ := appD_len (D := D) (l := l) (i := i + 1) (x := cond (D i) (x.app q.1 q.2) x)
    rw [h1, h2]
    cases D i
    · exact ⟨rfl, rfl⟩
    · exact ⟨app_sl_len _ _ _, app_ob_len _ _ _⟩
theorem appD_congr {D D' : Nat → Bool} : ∀ {l : List (Option Nat × Eff)} {i : Nat} {x : X}, (∀ k, k < l.length → D (i + k) = D' (i + k)) → appD D l i x = appD D' l i x
  | [], _, _, _ => rfl
  | q :: l, i, x, h => by
    simp only [appD]
    have h0 : D i = D' i := by have := h 0 (by simp); simpa using this
    rw [h0]
    exact appD_congr fun k hk => by have := h (k + 1) (by simp; omega); rwa [show i + (k + 1) = i + 1 + k by omega] at this
theorem appD_none {D : Nat → Bool} : ∀ {l : List (Option Nat × Eff)} {i : Nat} {x : X}, (∀ k, i ≤ k → D k = false) → appD D l i x = x
  | [], _, _, _ => rfl
  | q :: l, i, x, h => by
    simp only [appD]
    rw [h i (Nat.le_refl _)]
    exact appD_none fun k hk => h k (by omega)
theorem getL_app_ne {x : X} {d : Option Nat} {e : Eff} {t : Nat} (h : d ≠ some t) : getL (x.app d e).sl t = getL x.sl t := by
  cases d with
  | none => rfl
  | some d =>
    simp only [X.app]
    rw [getL_set, if_neg (by rintro ⟨rfl, _⟩; exact h rfl)]
theorem slot_agree {t : Nat} {D D' : Nat → Bool} : ∀ {l : List (Option Nat × Eff)} {i : Nat} {x x' : X}, x.sl.length = x'.sl.length → getL x.sl t = getL x'.sl t → (∀ k q, l[k]? = some q → q.1 = some t → D (i + k) = D' (i + k)) → getL (appD D l i x).sl t = getL (appD D' l i x').sl t
  | [], _, _, _, _, h, _ => h
  | q :: l, i, x, x', hl, h, hd => by
    simp only [appD]
    refine slot_agree ?_ ?_ (fun k q' hk hq => by have := hd (k + 1) q' (by simpa using hk) hq; rwa [show i + (k + 1) = i + 1 + k by omega] at this)
    · cases D i <;> cases D' i <;> simp [app_sl_len, hl]
    · by_cases hq : q.1 = some t
      · have := hd 0 q (by simp) hq
        rw [Nat.add_zero] at this
        rw [this]
        cases D' i
        · exact h
        · simp only [cond_true, X.app, hq]
          rw [getL_set, getL_set, hl, h]
      · have e1 : ∀ b, getL (cond b (x.app q.1 q.2) x).sl t = getL x.sl t := fun b => by cases b <;> simp [getL_app_ne hq]
        have e2 : ∀ b, getL (cond b (x'.app q.1 q.2) x').sl t = getL x'.sl t := fun b => by cases b <;> simp [getL_app_ne hq]
        rw [e1, e2, h]
theorem putO_agree {n : Nat} : ∀ {k : List (Nat × Obe)} {l l' : List Obe}, l.length = l'.length → getO l n = getO l' n → getO (putO l k) n = getO (putO l' k) n
  | [], _, _, _, h => h
  | (m, e) :: k, l, l', hl, h => by
    simp only [putO]
    refine putO_agree (by simp [hl]) ?_
    rw [getO_set, getO_set, hl, h]
theorem ob_agree {n : Nat} {D D' : Nat → Bool} : ∀ {l : List (Option Nat × Eff)} {i : Nat} {x x' : X}, x.ob.length = x'.ob.length → getO x.ob n = getO x'.ob n → (∀ k q, l[k]? = some q → n ∈ wrote q.2.ob → D (i + k) = D' (i + k)) → getO (appD D l i x).ob n = getO (appD D' l i x').ob n
  | [], _, _, _, _, h, _ => h
  | q :: l, i, x, x', hl, h, hd => by
    simp only [appD]
    refine ob_agree ?_ ?_ (fun k q' hk hq => by have := hd (k + 1) q' (by simpa using hk) hq; rwa [show i + (k + 1) = i + 1 + k by omega] at this)
    · cases D i <;> cases D' i <;> simp [app_ob_len, hl]
    · by_cases hq : n ∈ wrote q.2.ob
      · have := hd 0 q (by simp) hq
        rw [Nat.add_zero] at this
        rw [this]
        cases D' i
        · exact h
        · exact putO_agree hl h
      · have e1 : ∀ (b : Bool) (z : X), getO (cond b (z.app q.1 q.2) z).ob n = getO z.ob n := fun b z => by
          cases b
          · rfl
          · exact getO_putO_ne _ _ _ hq
        rw [e1, e1, h]
def Apart (q q' : Option Nat × Eff) : Prop := (∀ d, q.1 = some d → q'.1 ≠ some d) ∧ ∀ n ∈ wrote q.2.ob, n ∉ wrote q'.2.ob
theorem putO_set {n : Nat} {e : Obe} : ∀ {k : List (Nat × Obe)} {l : List Obe}, n ∉ wrote k → putO (l.set n e) k = (putO l k).set n e
  | [], _, _ => rfl
  | (m, f) :: k, l, h => by
    simp [wrote] at h
    simp only [putO]
    rw [List.set_comm _ _ h.1, putO_set h.2]
theorem putO_comm : ∀ {k k' : List (Nat × Obe)} {l : List Obe}, (∀ n ∈ wrote k, n ∉ wrote k') → putO (putO l k) k' = putO (putO l k') k
  | [], _, _, _ => rfl
  | (m, f) :: k, k', l, h => by
    simp only [putO]
    rw [putO_comm (fun n hn => h n (by simp [wrote, hn])), putO_set (h m (by simp [wrote]))]
theorem app_comm {x : X} {q q' : Option Nat × Eff} (h : Apart q q') : (x.app q.1 q.2).app q'.1 q'.2 = (x.app q'.1 q'.2).app q.1 q.2 := by
  obtain ⟨d, e⟩ := q
  obtain ⟨d', e'⟩ := q'
  obtain ⟨h1, h2⟩ := h
  unfold X.app
  simp only
  rw [putO_comm h2]
  cases d with
  | none => cases d' <;> rfl
  | some d =>
    cases d' with
    | none => rfl
    | some d' =>
      have : d ≠ d' := fun e => h1 d rfl (by rw [e])
      simp only
      rw [List.set_comm _ _ this]
theorem appD_past {D : Nat → Bool} {q : Option Nat × Eff} : ∀ {l : List (Option Nat × Eff)} {i : Nat} {x : X}, (∀ k q', l[k]? = some q' → D (i + k) = true → Apart q q') → appD D l i (x.app q.1 q.2) = (appD D l i x).app q.1 q.2
  | [], _, _, _ => rfl
  | q' :: l, i, x, h => by
    simp only [appD]
    have hr : ∀ k q'', l[k]? = some q'' → D (i + 1 + k) = true → Apart q q'' := fun k q'' hk hd => h (k + 1) q'' (by simpa using hk) (by rwa [show i + (k + 1) = i + 1 + k by omega])
    cases hD : D i
    · exact appD_past hr
    · simp only [cond_true]
      rw [app_comm (h 0 q' (by simp) (by simpa using hD))]
      exact appD_past hr
theorem appD_add {D D' : Nat → Bool} {q : Option Nat × Eff} : ∀ {l : List (Option Nat × Eff)} {k i : Nat} {x : X}, l[i]? = some q → D (k + i) = false → D' (k + i) = true → (∀ j, j ≠ k + i → D' j = D j) → (∀ j q', i < j → l[j]? = some q' → D (k + j) = true → Apart q q') →
    appD D' l k x = (appD D l k x).app q.1 q.2
  | [], _, _, _, h, _, _, _, _ => by simp at h
  | p :: l, k, 0, x, h, h0, h1, hne, hap => by
    simp at h
    subst h
    simp only [appD]
    rw [Nat.add_zero] at h0 h1
    rw [h0, h1]
    simp only [cond_true, cond_false]
    have e : appD D' l (k + 1) (x.app p.1 p.2) = appD D l (k + 1) (x.app p.1 p.2) := appD_congr fun j _ => hne _ (by omega)
    rw [e]
    exact appD_past fun j q' hj hd => hap (j + 1) q' (by omega) (by simpa using hj) (by rwa [show k + (j + 1) = k + 1 + j by omega])
  | p :: l, k, i + 1, x, h, h0, h1, hne, hap => by
    simp only [appD]
    rw [hne k (by omega)]
    exact appD_add (i := i) (by simpa using h) (by rwa [show k + 1 + i = k + (i + 1) by omega]) (by rwa [show k + 1 + i = k + (i + 1) by omega]) (fun j hj => hne j (by omega))
      (fun j q' hij hj hd => hap (j + 1) q' (by omega) (by simpa using hj) (by rwa [show k + (j + 1) = k + 1 + j by omega]))
theorem refsOf_agree {sl sl' : List (Option VT)} : ∀ {l : List Nat}, (∀ t ∈ l, getL sl t = getL sl' t) → refsOf sl l = refsOf sl' l
  | [], _ => rfl
  | t :: l, h => by
    simp only [refsOf]
    rw [h t (by simp), refsOf_agree fun t ht => h t (by simp [ht])]
theorem obRefs_agree {ob ob' : List Obe} : ∀ {l : List Nat}, (∀ t ∈ l, getO ob t = getO ob' t) → obRefs ob l = obRefs ob' l
  | [], _ => rfl
  | t :: l, h => by
    simp only [obRefs]
    rw [h t (by simp), obRefs_agree fun t ht => h t (by simp [ht])]
theorem obReach_agree {ob ob' : List Obe} : ∀ {n : Nat} {l : List Nat}, (∀ t ∈ l, getO ob' t = getO ob t) → (∀ t ∈ obReach ob n l, getO ob' t = getO ob t) → obReach ob' n l = obReach ob n l
  | 0, _, _, _ => rfl
  | n + 1, l, h, h' => by
    unfold obReach at h' ⊢
    rw [obRefs_agree h]
    cases hm : obRefs ob l with
    | nil => rfl
    | cons t m =>
      rw [hm] at h'
      simp only at h' ⊢
      rw [obReach_agree (n := n) (l := t :: m) (fun q hq => h' q (List.mem_append.2 (.inl hq))) (fun q hq => h' q (List.mem_append.2 (.inr hq)))]
theorem OpRel_agree {E : Env} {ops : Array Oper} {o : Oper} {x x' : X} {e : Eff} (hs : ∀ t ∈ (opFp E ops o x).rs, getL x'.sl t = getL x.sl t) (ho : ∀ n ∈ (opFp E ops o x).ro, getO x'.ob n = getO x.ob n) (hl : x'.ob.length = x.ob.length) (h : OpRel E ops o x e) : OpRel E ops o x' e := by
  have hfp : opFp E ops o x' = opFp E ops o x := by
    unfold opFp at hs ho ⊢
    simp only at hs ho ⊢
    have e0 := refsOf_agree hs
    rw [e0]
    cases hl : opLooks o.op
    · rfl
    · rw [hl] at ho
      cases hd : opDeep o.op
      · rfl
      · rw [hd] at ho
        have e1 := obReach_agree (ob := x.ob) (ob' := x'.ob) (n := 4) (l := refsOf x.sl _) (fun t ht => ho t (by simp only [List.mem_append, cond_true]; exact .inr (.inl ht))) (fun t ht => ho t (by simp only [List.mem_append, cond_true]; exact .inr (.inr ht)))
        simp only [cond_true]
        rw [e1]
  have hrd : rdR x' (opFp E ops o x) = rdR x (opFp E ops o x) := by
    unfold rdR
    congr 1
    · funext a
      cases a with
      | tmp t =>
        simp only
        cases hm : memN (opFp E ops o x).rs t
        · rfl
        · simp only [cond_true]
          exact hs t (memN_iff.1 hm)
      | _ => rfl
    · funext n
      cases hm : memN (opFp E ops o x).ro n
      · rfl
      · simp only [cond_true]
        exact ho n (memN_iff.1 hm)
  unfold OpRel at h ⊢
  rw [hfp, hrd, hl]
  cases hg : o.guard with
  | none => rw [hg] at h; exact h
  | some q =>
    obtain ⟨j, want⟩ := q
    rw [hg] at h
    simp only at h ⊢
    cases hd : (ops[j]?).bind (·.dst) with
    | none => rw [hd] at h; exact h
    | some d =>
      rw [hd] at h
      simp only at h ⊢
      rw [hs d (by simp [opFp, hg, hd])]
      exact h
end Go.Vm
set_option linter.unusedVariables false
set_option linter.unusedSimpArgs false
namespace Go.Vm
open Go Go.RowKit
def Closed (ops : Array Oper) (D : Nat → Bool) : Prop := ∀ i o, ops[i]? = some o → D i = true → ∀ e ∈ o.after.toList, Region.binds .any e = true → D e.on = true
def Good (ops : Array Oper) (anc : List Nat) (i : Nat) : Prop := ∀ o, ops[i]? = some o → ∀ j, (anc.getD i 0).testBit j = true → j < i ∧ ∀ D, Closed ops D → (∀ e ∈ o.after.toList, Region.binds .any e = true → D e.on = true) → D j = true
theorem ancE_bit {acc : List Nat} {j : Nat} : ∀ {l : List Edge}, (ancE acc l).testBit j = true → ∃ e ∈ l, Region.binds .any e = true ∧ (j = e.on ∨ (acc.getD e.on 0).testBit j = true)
  | [], h => by simp [ancE] at h
  | e :: l, h => by
    simp only [ancE] at h
    cases hb : Region.binds .any e <;> rw [hb] at h
    · obtain ⟨e', h1, h2⟩ := ancE_bit (l := l) h
      exact ⟨e', by simp [h1], h2⟩
    · simp only [cond_true] at h
      have h' : (2 ^ e.on ||| acc.getD e.on 0 ||| ancE acc l).testBit j = true := h
      rw [Nat.testBit_or, Nat.testBit_or] at h'
      simp only [Bool.or_eq_true] at h'
      rcases h' with (h' | h') | h'
      · rw [Nat.testBit_two_pow] at h'
        exact ⟨e, by simp, hb, .inl (by simpa using (of_decide_eq_true h').symm)⟩
      · exact ⟨e, by simp, hb, .inr h'⟩
      · obtain ⟨e', h1, h2⟩ := ancE_bit (l := l) h'
        exact ⟨e', by simp [h1], h2⟩
theorem getD_app {l m : List Nat} {i : Nat} (h : i < l.length) : (l ++ m).getD i 0 = l.getD i 0 := by
  simp [List.getD, List.getElem?_append_left h]
theorem ancL_good {ops : Array Oper} : ∀ {l : List Oper} {acc : List Nat}, (∀ k o, l[k]? = some o ↔ ops[acc.length + k]? = some o) → edgesLt l acc.length = true → (∀ i, i < acc.length → Good ops acc i) → ∀ i, i < acc.length + l.length → Good ops (ancL l acc) i
  | [], acc, _, _, h, i, hi => h i (by simpa using hi)
  | o :: l, acc, hl, he, h, i, hi => by
    simp only [ancL]
    simp only [edgesLt, Bool.and_eq_true] at he
    have hlen : (acc ++ [ancE acc o.after.toList]).length = acc.length + 1 := by simp
    refine ancL_good (l := l) (acc := acc ++ [ancE acc o.after.toList]) (fun k o' => ?_) (by rw [hlen]; exact he.2) (fun i hi => ?_) i (by rw [hlen]; simp at hi; omega)
    · rw [hlen, show acc.length + 1 + k = acc.length + (k + 1) by omega, ← hl]
      simp
    · rw [hlen] at hi
      by_cases hlt : i < acc.length
      · intro o' ho' j hj
        rw [getD_app hlt] at hj
        exact h i hlt o' ho' j hj
      · have hi' : i = acc.length := by omega
        subst hi'
        intro o' ho' j hj
        have ho := (hl 0 o).1 (by simp)
        rw [Nat.add_zero, ho'] at ho
        cases ho
        have e1 : (acc ++ [ancE acc o.after.toList]).getD acc.length 0 = ancE acc o.after.toList := by simp [List.getD]
        rw [e1] at hj
        obtain ⟨e, he1, hb, hj⟩ := ancE_bit hj
        have hon : e.on < acc.length := by
          have := List.all_eq_true.1 he.1 e he1
          rw [hb] at this
          simp only [Bool.not_true, Bool.false_or, Nat.blt_eq] at this
          exact this
        rcases hj with rfl | hj
        · exact ⟨hon, fun D _ hr => hr e he1 hb⟩
        · have hoe : ∃ oe, ops[e.on]? = some oe := by
            have hsz : acc.length < ops.size := by
              rcases Nat.lt_or_ge acc.length ops.size with h | h
              · exact h
              · rw [Array.getElem?_eq_none h] at ho'; cases ho'
            exact ⟨_, Array.getElem?_eq_getElem (by omega)⟩
          obtain ⟨oe, hoe⟩ := hoe
          obtain ⟨q1, q2⟩ := h e.on hon oe hoe j hj
          exact ⟨by omega, fun D hc hr => q2 D hc (hc e.on oe hoe (hr e he1 hb))⟩
theorem anc_good {ops : Array Oper} (h : edgesLt ops.toList 0 = true) {i : Nat} {o : Oper} (ho : ops[i]? = some o) : Good ops (ancL ops.toList []) i := by
  refine ancL_good (l := ops.toList) (acc := []) (fun k o => by simp) (by simpa using h) (fun i hi => by simp at hi) i ?_
  rcases Nat.lt_or_ge i ops.size with h | h
  · simpa using h
  · rw [Array.getElem?_eq_none h] at ho; cases ho
theorem ordered_D {ops : Array Oper} (h : edgesLt ops.toList 0 = true) {i j : Nat} {oi oj : Oper} (hi : ops[i]? = some oi) (hj : ops[j]? = some oj) {D : Nat → Bool} (hc : Closed ops D) (hr : ∀ e ∈ oi.after.toList, Region.binds .any e = true → D e.on = true) (hD : D i = false)
    (ho : ordered (ancL ops.toList []) i j = true) : D j = decide (j < i) ∧ (D j = true → j < i) := by
  unfold ordered at ho
  rw [Bool.or_eq_true] at ho
  rcases ho with ho | ho
  · obtain ⟨q1, q2⟩ := anc_good h hi oi hi j ho
    have := q2 D hc hr
    rw [this]
    exact ⟨by simp [q1], fun _ => q1⟩
  · obtain ⟨q1, q2⟩ := anc_good h hj oj hj i ho
    cases hDj : D j
    · exact ⟨by simp; omega, fun h => by cases h⟩
    · have := q2 D hc (fun e he hb => hc j oj hj hDj e he hb)
      rw [hD] at this
      cases this
section
variable {E : Env} {ops : Array Oper}
def pairs : List Oper → List Eff → List (Option Nat × Eff)
  | o :: l, e :: es => (o.dst, e) :: pairs l es
  | _, _ => []
def trOf (E : Env) (ops : Array Oper) : List Oper → List Eff → Nat → X → List Tr
  | o :: l, e :: es, i, x => ⟨i, (opFp E ops o x).rs, (opFp E ops o x).ro, o.dst.toList, wrote e.ob⟩ :: trOf E ops l es (i + 1) (x.app o.dst e)
  | _, _, _, _ => []
def Chain (E : Env) (ops : Array Oper) : List Oper → List Eff → X → Prop
  | o :: l, e :: es, x => OpRel E ops o x e ∧ Chain E ops l es (x.app o.dst e)
  | [], [], _ => True
  | _, _, _ => False
theorem opsRunD_rel {R : Type} {K : List Tr → X → Option R} {y : R} : ∀ {l : List Oper} {i : Nat} {x : X} {t : List Tr}, opsRunD E ops l i x t K = some y →
    ∃ es, Chain E ops l es x ∧ K ((trOf E ops l es i x).reverse ++ t) (appD (fun _ => true) (pairs l es) i x) = some y
  | [], i, x, t, h => ⟨[], trivial, h⟩
  | o :: l, i, x, t, h => by
    obtain ⟨e, h1, h2⟩ := opRun_rel (K := fun f e x' => opsRunD E ops l (i + 1) x' (⟨i, f.rs, f.ro, o.dst.toList, wrote e.ob⟩ :: t) K) h
    obtain ⟨es, h3, h4⟩ := opsRunD_rel h2
    refine ⟨e :: es, ⟨h1, h3⟩, ?_⟩
    simpa [trOf, pairs, appD] using h4
theorem pairs_get : ∀ {l : List Oper} {es : List Eff} {x : X} {i : Nat} {q : Option Nat × Eff}, Chain E ops l es x → (pairs l es)[i]? = some q → ∃ o, l[i]? = some o ∧ es[i]? = some q.2 ∧ q.1 = o.dst
  | [], [], _, _, _, _, h => by simp [pairs] at h
  | o :: l, e :: es, x, 0, q, _, h => by simp [pairs] at h; subst h; exact ⟨o, by simp⟩
  | o :: l, e :: es, x, i + 1, q, ⟨_, hc⟩, h => by
    simp [pairs] at h
    obtain ⟨o', h1, h2, h3⟩ := pairs_get hc h
    exact ⟨o', by simpa using h1, by simpa using h2, h3⟩
  | [], _ :: _, _, _, _, h, _ => h.elim
  | _ :: _, [], _, _, _, h, _ => h.elim
theorem pairs_len : ∀ {l : List Oper} {es : List Eff} {x : X}, Chain E ops l es x → (pairs l es).length = l.length
  | [], [], _, _ => rfl
  | o :: l, e :: es, x, ⟨_, hc⟩ => by simp [pairs, pairs_len hc]
  | [], _ :: _, _, h => h.elim
  | _ :: _, [], _, h => h.elim
theorem chn_get : ∀ {l : List Oper} {es : List Eff} {k : Nat} {x : X}, Chain E ops l es x → ∀ {i : Nat} {o : Oper}, l[i]? = some o →
    ∃ e, (pairs l es)[i]? = some (o.dst, e) ∧ OpRel E ops o (appD (fun j => decide (j < k + i)) (pairs l es) k x) e ∧
      (⟨k + i, (opFp E ops o (appD (fun j => decide (j < k + i)) (pairs l es) k x)).rs, (opFp E ops o (appD (fun j => decide (j < k + i)) (pairs l es) k x)).ro, o.dst.toList, wrote e.ob⟩ : Tr) ∈ trOf E ops l es k x
  | [], _, _, _, _, _, _, h => by simp at h
  | o :: l, [], _, _, hc, _, _, _ => hc.elim
  | o :: l, e :: es, k, x, ⟨h1, h2⟩, 0, o', h => by
    simp at h
    subst h
    have e0 : appD (fun j => decide (j < k + 0)) (pairs (o :: l) (e :: es)) k x = x := appD_none fun j hj => by simp; omega
    rw [e0]
    exact ⟨e, by simp [pairs], h1, by simp [trOf]⟩
  | o :: l, e :: es, k, x, ⟨h1, h2⟩, i + 1, o', h => by
    obtain ⟨e', g1, g2, g3⟩ := chn_get (k := k + 1) h2 (i := i) (o := o') (by simpa using h)
    have e0 : appD (fun j => decide (j < k + (i + 1))) (pairs (o :: l) (e :: es)) k x = appD (fun j => decide (j < k + 1 + i)) (pairs l es) (k + 1) (x.app o.dst e) := by
      simp only [pairs, appD]
      have : decide (k < k + (i + 1)) = true := by simp
      rw [this]
      simp only [cond_true]
      exact appD_congr fun j _ => by congr 1; apply propext; omega
    rw [e0]
    refine ⟨e', by simpa [pairs] using g1, g2, ?_⟩
    simp only [trOf, List.mem_cons]
    right
    rw [show k + (i + 1) = k + 1 + i by omega]
    exact g3
def cnt (D : Nat → Bool) : Nat → Nat
  | 0 => 0
  | n + 1 => cnt D n + cond (D n) 0 1
theorem cnt_congr {D D' : Nat → Bool} : ∀ {n : Nat}, (∀ i, i < n → D i = D' i) → cnt D n = cnt D' n
  | 0, _ => rfl
  | n + 1, h => by simp only [cnt]; rw [h n (by omega), cnt_congr fun i hi => h i (by omega)]
theorem cnt_set {D D' : Nat → Bool} {i : Nat} (h0 : D i = false) (h1 : D' i = true) (h2 : ∀ j, j ≠ i → D' j = D j) : ∀ {n : Nat}, i < n → cnt D' n + 1 = cnt D n
  | 0, h => by omega
  | n + 1, h => by
    simp only [cnt]
    by_cases hn : i = n
    · subst hn
      rw [h0, h1, cnt_congr (D := D') (D' := D) fun j hj => h2 j (by omega)]
      rfl
    · rw [h2 n (by omega)]
      have := cnt_set h0 h1 h2 (n := n) (by omega)
      omega
theorem cnt_zero {D : Nat → Bool} : ∀ {n : Nat}, cnt D n = 0 → ∀ i, i < n → D i = true
  | 0, _, i, hi => by omega
  | n + 1, h, i, hi => by
    simp only [cnt] at h
    have h1 : cnt D n = 0 := by omega
    have h2 : cond (D n) 0 1 = 0 := by omega
    by_cases hn : i = n
    · subst hn
      cases hD : D i
      · rw [hD] at h2; cases h2
      · rfl
    · exact cnt_zero h1 i (by omega)
theorem dsts_ne : ∀ {l : List Oper} {i j : Nat} {oi oj : Oper} {d : Nat}, (dstsOf l).Nodup → l[i]? = some oi → l[j]? = some oj → oi.dst = some d → oj.dst = some d → i = j := by
  have mem : ∀ {l : List Oper} {j : Nat} {oj : Oper} {d : Nat}, l[j]? = some oj → oj.dst = some d → d ∈ dstsOf l := by
    intro l
    induction l with
    | nil => intro j oj d h; simp at h
    | cons o l ih =>
      intro j oj d h hd
      cases j with
      | zero => simp at h; subst h; simp [dstsOf, hd]
      | succ j =>
        have := ih (j := j) (by simpa using h) hd
        unfold dstsOf
        split <;> simp [this]
  intro l
  induction l with
  | nil => intro i j oi oj d _ h; simp at h
  | cons o l ih =>
    intro i j oi oj d hn hi hj hdi hdj
    have hn' : (dstsOf l).Nodup := by
      unfold dstsOf at hn
      split at hn
      · exact (List.nodup_cons.1 hn).2
      · exact hn
    cases i with
    | zero =>
      cases j with
      | zero => rfl
      | succ j =>
        simp at hi
        subst hi
        have := mem (l := l) (j := j) (by simpa using hj) hdj
        unfold dstsOf at hn
        rw [hdi] at hn
        exact absurd this (List.nodup_cons.1 hn).1
    | succ i =>
      cases j with
      | zero =>
        simp at hj
        subst hj
        have := mem (l := l) (j := i) (by simpa using hi) hdi
        unfold dstsOf at hn
        rw [hdj] at hn
        exact absurd this (List.nodup_cons.1 hn).1
      | succ j =>
        rw [ih (i := i) (j := j) hn' (by simpa using hi) (by simpa using hj) hdi hdj]
end
end Go.Vm
set_option linter.unusedVariables false
set_option linter.unusedSimpArgs false
namespace Go.Vm
open Go Go.RowKit
theorem getD_set {l : Array Bool} {i j : Nat} {d : Bool} (hi : i < l.size) : (l.setIfInBounds i true).getD j d = if j = i then true else l.getD j d := by
  simp only [Array.getD_eq_getD_getElem?]
  by_cases h : j = i
  · subst h
    simp [hi]
  · rw [Array.getElem?_setIfInBounds_ne (Ne.symm h), if_neg h]
theorem getD_tf {l : Array Bool} {i : Nat} (hi : i < l.size) : l.getD i true = l.getD i false := by
  simp [Array.getD_eq_getD_getElem?, hi]
theorem ready_iff {ops : Array Oper} {listed : Array Bool} (hs : listed.size = ops.size) {i : Nat} : i ∈ Region.ready .any ops listed ↔ ∃ o, ops[i]? = some o ∧ listed.getD i false = false ∧ ∀ e ∈ o.after.toList, Region.binds .any e = true → listed.getD e.on false = true := by
  unfold Region.ready
  rw [List.mem_filter, List.mem_range]
  constructor
  · rintro ⟨hi, h⟩
    have ho : ops[i]? = some ops[i] := Array.getElem?_eq_getElem hi
    rw [ho] at h
    simp only [Option.map_some, Option.getD_some, Bool.and_eq_true, Bool.not_eq_true'] at h
    refine ⟨_, ho, by rw [← getD_tf (by omega)]; exact h.1, fun e he hb => ?_⟩
    have := (Array.all_eq_true_iff_forall_mem.1 h.2) e (Array.mem_toList_iff.1 he)
    rw [hb] at this
    simpa using this
  · rintro ⟨o, ho, h1, h2⟩
    have hi : i < ops.size := by
      rcases Nat.lt_or_ge i ops.size with h | h
      · exact h
      · rw [Array.getElem?_eq_none h] at ho; cases ho
    refine ⟨hi, ?_⟩
    rw [ho]
    simp only [Option.map_some, Option.getD_some, Bool.and_eq_true, Bool.not_eq_true']
    refine ⟨by rw [getD_tf (by omega)]; exact h1, Array.all_eq_true_iff_forall_mem.2 fun e he => ?_⟩
    cases hb : Region.binds .any e
    · simp
    · simp [h2 e (Array.mem_toList_iff.2 he) hb]
section
variable {P : Program}
theorem wpAny_of {R : Type} {E : Env} (hE : EnvOk P E) {ops : Array Oper} {K : X → Option R} {y : R} {C : Ctx} {x0 : X} {es : List Eff} (hc : Chain E ops ops.toList es x0) {tr : List Tr} (htr : ∀ a, a ∈ trOf E ops ops.toList es 0 x0 → a ∈ tr) (hok : commOk ops tr = true)
    (hK : K (appD (fun _ => true) (pairs ops.toList es) 0 x0) = some y) : ∀ (fuel : Nat) (listed : Array Bool) {S : Side} {a : Act} {w : World}, listed.size = ops.size → cnt (fun i => listed.getD i false) ops.size ≤ fuel →
      Closed ops (fun i => listed.getD i false) → Inv C S (appD (fun i => listed.getD i false) (pairs ops.toList es) 0 x0) a w → wpAny P .any ops (fun e a w => e = .normal ∧ ∃ S x', Inv C S x' a w ∧ K x' = some y) fuel listed a w := by
  unfold commOk at hok
  simp only [Bool.and_eq_true] at hok
  obtain ⟨hlt, hds, hall⟩ := hok
  have hds := nodupN_iff.1 hds
  have hall := List.all_eq_true.1 hall
  have hlen : (pairs ops.toList es).length = ops.size := by rw [pairs_len hc]; simp
  have done : ∀ {listed : Array Bool} {S : Side} {a : Act} {w : World}, (∀ i, i < ops.size → listed.getD i false = true) → Inv C S (appD (fun i => listed.getD i false) (pairs ops.toList es) 0 x0) a w → ∃ S x', Inv C S x' a w ∧ K x' = some y := by
    intro listed S a w hd I
    rw [appD_congr (D' := fun _ => true) fun k hk => by rw [Nat.zero_add]; exact hd k (by omega)] at I
    exact ⟨S, _, I, hK⟩
  have stuck : ∀ {listed : Array Bool}, listed.size = ops.size → Region.ready .any ops listed = [] → ∀ i, i < ops.size → listed.getD i false = true := by
    intro listed hs hr i
    induction i using Nat.strongRecOn with
    | _ i ih =>
      intro hi
      cases hd : listed.getD i false
      · have ho : ops[i]? = some ops[i] := Array.getElem?_eq_getElem hi
        have hmem : i ∈ Region.ready .any ops listed := (ready_iff hs).2 ⟨_, ho, hd, fun e he hb => by
          have hon : e.on < i := by
            have key : ∀ (l : List Oper) (k j : Nat) (o : Oper), edgesLt l k = true → l[j]? = some o → ∀ e ∈ o.after.toList, Region.binds .any e = true → e.on < k + j := by
              intro l
              induction l with
              | nil => intro k j o _ h; simp at h
              | cons o' l ih' =>
                intro k j o he hj e hem hbi
                simp only [edgesLt, Bool.and_eq_true] at he
                cases j with
                | zero =>
                  simp at hj
                  subst hj
                  have := List.all_eq_true.1 he.1 e hem
                  rw [hbi] at this
                  simp only [Bool.not_true, Bool.false_or, Nat.blt_eq] at this
                  exact this
                | succ j =>
                  have := ih' (k + 1) j o he.2 (by simpa using hj) e hem hbi
                  omega
            have := key ops.toList 0 i ops[i] hlt (by simpa using ho) e he hb
            omega
          exact ih e.on hon (by omega)⟩
        rw [hr] at hmem
        cases hmem
      · rfl
  intro fuel
  induction fuel with
  | zero =>
    intro listed S a w hs hn hcl I
    have hd := cnt_zero (D := fun i => listed.getD i false) (n := ops.size) (by omega)
    refine ⟨?_, rfl, done hd I⟩
    rw [List.eq_nil_iff_forall_not_mem]
    intro i hi
    obtain ⟨o, ho, h1, _⟩ := (ready_iff hs).1 hi
    have hi' : i < ops.size := by
      rcases Nat.lt_or_ge i ops.size with h | h
      · exact h
      · rw [Array.getElem?_eq_none h] at ho; cases ho
    have := hd i hi'
    rw [h1] at this
    cases this
  | succ fuel ih =>
    intro listed S a w hs hn hcl I
    refine ⟨fun hr => ⟨rfl, done (stuck hs hr) I⟩, fun i hi => ?_⟩
    obtain ⟨o, ho, h1, h2⟩ := (ready_iff hs).1 hi
    have hi' : i < ops.size := by
      rcases Nat.lt_or_ge i ops.size with h | h
      · exact h
      · rw [Array.getElem?_eq_none h] at ho; cases ho
    obtain ⟨e, g1, g2, g3⟩ := chn_get (k := 0) hc (i := i) (o := o) (by simpa using ho)
    simp only [Nat.zero_add] at g2 g3
    -- what operation j has written is there as in the order of the text
    have other : ∀ j q, (pairs ops.toList es)[j]? = some q → ∃ oj, ops[j]? = some oj ∧ q.1 = oj.dst ∧ ∃ rsj roj, (⟨j, rsj, roj, oj.dst.toList, wrote q.2.ob⟩ : Tr) ∈ tr := by
      intro j q hq
      obtain ⟨oj, k1, k2, k3⟩ := pairs_get hc hq
      obtain ⟨ej, k4, k5, k6⟩ := chn_get (k := 0) hc (i := j) (o := oj) k1
      rw [hq] at k4
      simp only [Nat.zero_add] at k6
      have hqe : q = (oj.dst, ej) := Option.some.inj k4
      subst hqe
      exact ⟨oj, by simpa using k1, rfl, _, _, htr _ k6⟩
    have hme := htr _ g3
    have ord : ∀ j q, (pairs ops.toList es)[j]? = some q → ordered (ancL ops.toList []) i j = true → listed.getD j false = decide (j < i) ∧ (listed.getD j false = true → j < i) := by
      intro j q hq ho'
      obtain ⟨oj, k1, _⟩ := other j q hq
      exact ordered_D hlt ho k1 hcl h2 h1 ho'
    have rel : OpRel E ops o (appD (fun i => listed.getD i false) (pairs ops.toList es) 0 x0) e := by
      refine OpRel_agree (x := appD (fun j => decide (j < i)) (pairs ops.toList es) 0 x0) (fun t ht => ?_) (fun n hn' => ?_) ?_ g2
      · refine slot_agree rfl rfl fun j q hq hqd => ?_
        rw [Nat.zero_add]
        by_cases hji : j = i
        · subst hji; simp [h1]
        · obtain ⟨oj, k1, k2, rsj, roj, k3⟩ := other j q hq
          have := hall _ hme
          rw [Bool.and_eq_true] at this
          have := List.all_eq_true.1 this.1 t ht
          unfold slotOk at this
          have := List.all_eq_true.1 this _ k3
          simp only [Bool.or_eq_true, Nat.beq_eq, Bool.not_eq_true'] at this
          rcases this with h | h | h
          · exact absurd h.symm hji
          · rw [k2] at hqd
            rw [hqd] at h
            have hm : memN [t] t = true := memN_iff.2 (by simp)
            exact absurd (hm.symm.trans h) (by simp)
          · exact (ord j q hq h).1
      · refine ob_agree rfl rfl fun j q hq hqw => ?_
        rw [Nat.zero_add]
        by_cases hji : j = i
        · subst hji; simp [h1]
        · obtain ⟨oj, k1, k2, rsj, roj, k3⟩ := other j q hq
          have := hall _ k3
          rw [Bool.and_eq_true] at this
          have := this.2
          unfold obOk at this
          simp only at this
          split at this
          · rename_i hw; rw [hw] at hqw; cases hqw
          · have := List.all_eq_true.1 this _ hme
            simp only [Bool.or_eq_true, Nat.beq_eq] at this
            rcases this with h | h | h
            · exact absurd h.symm hji
            · exact absurd (by simp [hn']) (apartN_iff.1 h n hqw)
            · refine (ord j q hq ?_).1
              exact h
      · rw [appD_len.2, appD_len.2]
    refine wpOp_of I hE ho rel fun a' w' S' I' => ?_
    have hsz : i < listed.size := by omega
    have hset : ∀ j, (listed.setIfInBounds i true).getD j false = if j = i then true else listed.getD j false := fun j => getD_set hsz
    refine ih (listed.setIfInBounds i true) (by simp [hs]) ?_ ?_ (S := S') ?_
    · have := cnt_set (D := fun i => listed.getD i false) (D' := fun j => (listed.setIfInBounds i true).getD j false) (i := i) h1 (by simp [hset]) (fun j hj => by simp only [hset]; rw [if_neg hj]) hi'
      omega
    · intro j oj hj hD e' he' hb
      simp only [hset] at hD ⊢
      by_cases hje : e'.on = i
      · rw [if_pos hje]
      · rw [if_neg hje]
        by_cases hji : j = i
        · subst hji
          rw [ho] at hj
          cases hj
          exact h2 e' he' hb
        · rw [if_neg hji] at hD
          exact hcl j oj hj hD e' he' hb
    · rw [appD_add (D := fun i => listed.getD i false) (i := i) (q := (o.dst, e)) g1 (by simpa using h1) (by simp [hset]) (fun j hj => by simp only [hset]; rw [if_neg (by omega)]) (fun j q' hij hj hD => ?_)]
      · exact I'
      · rw [Nat.zero_add] at hD
        obtain ⟨oj, k1, k2, rsj, roj, k3⟩ := other j q' hj
        refine ⟨fun d hd hd' => ?_, fun n hn1 hn2 => ?_⟩
        · simp only at hd
          rw [k2] at hd'
          have := dsts_ne hds (i := i) (j := j) (by simpa using ho) (by simpa using k1) hd hd'
          omega
        · simp only at hn1
          have := hall _ hme
          rw [Bool.and_eq_true] at this
          have := this.2
          unfold obOk at this
          simp only at this
          split at this
          · rename_i hw; rw [hw] at hn1; cases hn1
          · have := List.all_eq_true.1 this _ k3
            simp only [Bool.or_eq_true, Nat.beq_eq] at this
            rcases this with h | h | h
            · omega
            · exact apartN_iff.1 h n hn1 (by simp [hn2])
            · have h' : ordered (ancL ops.toList []) i j = true := by
                unfold ordered at h ⊢
                rwa [Bool.or_comm] at h
              have := (ord j q' hj h').2 hD
              omega
theorem rep_false (n k : Nat) : (Array.replicate n false).getD k false = false := by
  rw [Array.getD_eq_getD_getElem?]
  by_cases h : k < n
  · simp [h]
  · rw [Array.getElem?_eq_none (by simpa using h)]; rfl
theorem region_drawn {R : Type} {E : Env} (hE : EnvOk P E) (hm : P.follows .mixedOrders = true) {ops : Array Oper} {K : X → Option R} {y : R} {C : Ctx} {S : Side} {x : X} {a : Act} {w : World} {id : Nat} (I : Inv C S x a w)
    (h : opsRunD E ops ops.toList 0 x [] (fun tr x' => cond (commOk ops tr) (K x') none) = some y) :
    (Code.region id ops true).wp P (fun e a w => e = .normal ∧ ∃ S x', Inv C S x' a w ∧ K x' = some y) a w := by
  obtain ⟨es, hc, hk⟩ := opsRunD_rel h
  cases hok : commOk ops ((trOf E ops ops.toList es 0 x).reverse ++ []) <;> rw [hok] at hk
  · cases hk
  · refine wp_region_any hm (wpAny_of hE hc (fun a ha => by simpa using ha) hok hk ops.size _ (S := S) (by simp) ?_ ?_ ?_)
    · have : ∀ n, cnt (fun i => (Array.replicate ops.size false).getD i false) n = n := by
        intro n
        induction n with
        | zero => rfl
        | succ n ih =>
          simp only [cnt, ih]
          have : (Array.replicate ops.size false).getD n false = false := rep_false _ _
          rw [this]
          rfl
      rw [this]
      exact Nat.le_refl _
    · intro i o _ hD
      have := rep_false ops.size i
      exact absurd (hD.symm.trans this) (by simp)
    · rw [appD_none fun k _ => rep_false _ _]
      exact I.same rfl rfl ⟨rfl, Nat.le_succ _⟩ rfl
theorem region_sound {R : Type} {E : Env} (hE : EnvOk P E) (hm : P.follows .mixedOrders = true) {ops : Array Oper} {draw : Bool} {K : X → Option R} {y : R} {C : Ctx} {S : Side} {x : X} {a : Act} {w : World} {id : Nat} (I : Inv C S x a w)
    (h : regRun E ops draw x K = some y) : (Code.region id ops draw).wp P (fun e a w => e = .normal ∧ ∃ S x', Inv C S x' a w ∧ K x' = some y) a w := by
  cases draw
  · exact region_plain hE I h
  · exact region_drawn hE hm I h
end
end Go.Vm
set_option linter.unusedVariables false
set_option linter.unusedSimpArgs false
namespace Go.Vm
open Go Go.RowKit
theorem occsK_exit {id : Nat} : ∀ {k k' : List Item}, exitTo id k = some k' → ∀ q ∈ occsK k', q ∈ occsK k
  | [], k', h, q, hq => by simp [exitTo] at h
  | x :: k, k', h, q, hq => by
    have key : ∀ {k'}, exitTo id k = some k' → q ∈ occsK k' → q ∈ occsK (x :: k) := by
      intro k' h hq
      have := occsK_exit h q hq
      cases x <;> simp [occsK, this]
    cases x with
    | inBlock id' =>
      simp only [exitTo] at h
      split at h
      · cases h; simpa [occsK] using hq
      · exact key h hq
    | _ => exact key (by simpa [exitTo] using h) hq
theorem occs_sub : ∀ {c : Code} {k : List Item} {id : Nat} {z : List Item}, (id, z) ∈ occs c k → ∀ q ∈ occsK z, q ∈ occs c k ∨ q ∈ occsK k
  | .region i ops d, k, id, z, h, q, hq => by
    simp only [occs, List.mem_singleton] at h
    cases h
    simp only [occsK, List.mem_append] at hq
    exact hq
  | .seq a b, k, id, z, h, q, hq => by
    simp only [occs, List.mem_append] at h ⊢
    rcases h with h | h
    · rcases occs_sub h q hq with h | h
      · exact .inl (.inl h)
      · simp only [occsK, List.mem_append] at h
        rcases h with h | h
        · exact .inl (.inr h)
        · exact .inr h
    · rcases occs_sub h q hq with h | h
      · exact .inl (.inr h)
      · exact .inr h
  | .cond _ a b, k, id, z, h, q, hq => by
    simp only [occs, List.mem_append] at h ⊢
    rcases h with h | h
    · rcases occs_sub h q hq with h | h
      · exact .inl (.inl h)
      · exact .inr h
    · rcases occs_sub h q hq with h | h
      · exact .inl (.inr h)
      · exact .inr h
  | .block i c, k, id, z, h, q, hq => by
    simp only [occs] at h ⊢
    rcases occs_sub h q hq with h | h
    · exact .inl h
    · exact .inr (by simpa [occsK] using h)
  | .loop c, k, id, z, h, q, hq => by
    simp only [occs] at h ⊢
    rcases occs_sub h q hq with h | h
    · exact .inl h
    · simp only [occsK, List.mem_append] at h
      exact h
  | .skip, _, _, _, h, _, _ => by simp [occs] at h
  | .rangeFunc _ _ _ _, _, _, _, h, _, _ => by simp [occs] at h
  | .exit _, _, _, _, h, _, _ => by simp [occs] at h
  | .scope _, _, _, _, h, _, _ => by simp [occs] at h
  | .label _, _, _, _, h, _, _ => by simp [occs] at h
  | .goto _, _, _, _, h, _, _ => by simp [occs] at h
  | .ret, _, _, _, h, _, _ => by simp [occs] at h
  | .refuse _, _, _, _, h, _, _ => by simp [occs] at h
theorem occsK_sub : ∀ {k : List Item} {id : Nat} {z : List Item}, (id, z) ∈ occsK k → ∀ q ∈ occsK z, q ∈ occsK k
  | [], _, _, h, _, _ => by simp [occsK] at h
  | x :: k, id, z, h, q, hq => by
    have key : (id, z) ∈ occsK k → q ∈ occsK (x :: k) := fun h => by
      have := occsK_sub h q hq
      cases x <;> simp [occsK, this]
    cases x with
    | code c =>
      simp only [occsK, List.mem_append] at h
      rcases h with h | h
      · have := occs_sub h q hq
        simpa [occsK] using this
      · exact key h
    | inLoop c =>
      simp only [occsK, List.mem_append] at h
      rcases h with h | h
      · have := occs_sub h q hq
        simp only [occsK, List.mem_append] at this ⊢
        rcases this with h | h | h
        · exact .inl h
        · exact .inl h
        · exact .inr h
      · exact key h
    | _ => exact key (by simpa [occsK] using h)
section
variable {P : Program}
def Finds {R : Type} (P : Program) (b : Frame) (cs : List Frame) (fin : X → Option R) (y : R) (C : Ctx) (a : Act) (w : World) (k : List Item) : Prop :=
  ∃ a' w' todo S' x', Steps P (lone (b.at a k) cs w) (lone { b.at a' todo with mode := .returning } cs w') ∧ Inv C S' x' a' w' ∧ fin x' = some y
theorem Finds.step {R : Type} {b : Frame} {cs : List Frame} {fin : X → Option R} {y : R} {C : Ctx} {a a' : Act} {w w' : World} {k k' : List Item} (h : Steps P (lone (b.at a k) cs w) (lone (b.at a' k') cs w')) (h' : Finds P b cs fin y C a' w' k') : Finds P b cs fin y C a w k := by
  obtain ⟨a2, w2, todo, S', x', h1, h2, h3⟩ := h'
  exact ⟨a2, w2, todo, S', x', h.trans h1, h2, h3⟩
theorem Inv.evalB {C : Ctx} {S : Side} {x : X} {a : Act} {w : World} (I : Inv C S x a w) {c : Operand} {f : Nat} {u : VT} (hv : (rdOf x).v c = some (.fn f u)) (hf : Nat.beq f boN = true) : ∃ b, a.eval c = .bool b := by
  obtain ⟨cs, ⟨caps, e1, _⟩, e3⟩ := I.eval hv
  obtain ⟨b, e2⟩ := fnVal_bool hf caps
  refine ⟨b, ?_⟩
  rw [e3, e1, e2]
  rfl
theorem Inv.litB {C : Ctx} {S : Side} {x : X} {a : Act} {w : World} (I : Inv C S x a w) {r : Nat} {v : VT} (hv : (rdOf x).v (.tmp r) = some v) {b : Bool} (hb : a.eval (.tmp r) = .bool b) : Inv C S (x.lit r b) a w := by
  have hv' : getL x.sl r = some v := hv
  obtain ⟨u, hu, _⟩ := I.slots r v hv'
  have hub : u = .bool b := by
    rw [← hb]
    simp [Act.eval, hu]
  refine ⟨I.dfr, by rw [I.size]; show _ = (x.sl.set r _).length; rw [List.length_set], fun t v' ht => ?_, I.objs, I.sep, I.okn, I.kept, I.fix⟩
  have ht' : getL (x.sl.set r (some (.va .bool b))) t = some v' := ht
  rw [getL_set] at ht'
  split at ht'
  · rename_i q
    obtain ⟨rfl, _⟩ := q
    cases ht'
    exact ⟨u, hu, by rw [hub]; exact bool_VTV b⟩
  · exact I.slots t v' ht'
theorem exec_sound {R : Type} {E : Env} (hE : EnvOk P E) (hm : P.follows .mixedOrders = true) {all : List (Nat × List Item)} {cuts : List Nat} {J : Nat → X → Option R} {fin : X → Option R} {y : R} {C : Ctx} {b : Frame} {cs : List Frame}
    (hJ : ∀ id x S a w z, J id x = some y → (id, z) ∈ all → Inv C S x a w → Finds P b cs fin y C a w z) :
    ∀ (n : Nat) (s : Bool) (k : List Item) {x : X} {S : Side} {a : Act} {w : World}, (∀ q ∈ occsK k, q ∈ all) → Inv C S x a w → exec E cuts J fin n s k x = some y → Finds P b cs fin y C a w k := by
  intro n
  induction n with
  | zero => intro s k x S a w _ _ h; cases k <;> simp [exec] at h
  | succ n ih =>
    intro s k x S a w hk I h
    cases k with
    | nil =>
      simp only [exec] at h
      exact ⟨a, w, [], S, x, .one step_end, I, h⟩
    | cons z k =>
      cases z with
      | inBlock id =>
        simp only [exec] at h
        exact .step (.one step_inBlock) (ih _ _ (fun q hq => hk q (by simpa [occsK] using hq)) I h)
      | inLoop c =>
        simp only [exec] at h
        refine .step (.one step_inLoop) (ih _ _ (fun q hq => hk q ?_) I h)
        simp only [occsK, List.mem_append] at hq ⊢
        rcases hq with hq | hq | hq
        · exact .inl hq
        · exact .inl hq
        · exact .inr hq
      | code c =>
        cases c with
        | skip =>
          simp only [exec] at h
          exact .step (.one step_skip) (ih _ _ (fun q hq => hk q (by simpa [occsK, occs] using hq)) I h)
        | seq c d =>
          simp only [exec] at h
          refine .step (.one step_seq) (ih _ _ (fun q hq => hk q ?_) I h)
          simp only [occsK, occs, List.mem_append] at hq ⊢
          rcases hq with hq | hq | hq
          · exact .inl (.inl hq)
          · exact .inl (.inr hq)
          · exact .inr hq
        | region id ops draw =>
          simp only [exec] at h
          cases hc : (memN cuts id && !s) <;> rw [hc] at h
          · simp only [cond_false] at h
            obtain ⟨e, a1, w1, ⟨rfl, S1, x1, I1, h1⟩, harr⟩ := region_sound (id := id) hE hm I h b k cs
            exact .step harr (ih _ _ (fun q hq => hk q (by simp [occsK, hq])) I1 h1)
          · simp only [cond_true] at h
            exact hJ id x S a w _ h (hk _ (by simp [occsK, occs])) I
        | cond c t e =>
          simp only [exec] at h
          split at h
          · rename_i v hv
            have hb := VTV_bool (I.eval hv)
            have stp : Steps P (lone (b.at a (.code (.cond c t e) :: k)) cs w) (lone (b.at a (.code (if v then t else e) :: k)) cs w) := .one (step_cond hb)
            have ht : ∀ q ∈ occsK (.code t :: k), q ∈ all := fun q hq => hk q (by
              simp only [occsK, occs, List.mem_append] at hq ⊢
              rcases hq with hq | hq
              · exact .inl (.inl hq)
              · exact .inr hq)
            have he : ∀ q ∈ occsK (.code e :: k), q ∈ all := fun q hq => hk q (by
              simp only [occsK, occs, List.mem_append] at hq ⊢
              rcases hq with hq | hq
              · exact .inl (.inr hq)
              · exact .inr hq)
            cases c with
            | tmp r =>
              simp only at h
              have hl : ∀ v', v = v' → x.lit r v' = x := fun v' e' => by subst e'; exact lit_same hv
              cases v
              · simp only [cond_false] at h
                rw [hl _ rfl] at h
                exact .step stp (ih _ _ he I h)
              · simp only [cond_true] at h
                rw [hl _ rfl] at h
                exact .step stp (ih _ _ ht I h)
            | const u =>
              simp only at h
              cases v
              · exact .step stp (ih _ _ he I h)
              · exact .step stp (ih _ _ ht I h)
            | global g => simp [rdOf] at hv
            | func f => simp only [rdOf] at hv; cases hq : Nat.blt f boN <;> rw [hq] at hv <;> cases hv
          · rename_i f u hv
            cases c with
            | tmp r =>
              simp only at h
              obtain ⟨hf, h⟩ := cond_opt h
              obtain ⟨h1, h2⟩ := both_some h
              obtain ⟨bb, hbb⟩ := I.evalB hv hf
              have stp : Steps P (lone (b.at a (.code (.cond (.tmp r) t e) :: k)) cs w) (lone (b.at a (.code (if bb then t else e) :: k)) cs w) := .one (step_cond hbb)
              have ht : ∀ q ∈ occsK (.code t :: k), q ∈ all := fun q hq => hk q (by
                simp only [occsK, occs, List.mem_append] at hq ⊢
                rcases hq with hq | hq
                · exact .inl (.inl hq)
                · exact .inr hq)
              have he : ∀ q ∈ occsK (.code e :: k), q ∈ all := fun q hq => hk q (by
                simp only [occsK, occs, List.mem_append] at hq ⊢
                rcases hq with hq | hq
                · exact .inl (.inr hq)
                · exact .inr hq)
              have I' := I.litB hv hbb
              cases bb
              · exact .step stp (ih _ _ he I' h2)
              · exact .step stp (ih _ _ ht I' h1)
            | _ => cases h
          · cases h
        | block id c =>
          simp only [exec] at h
          exact .step (.one step_block) (ih _ _ (fun q hq => hk q (by simpa [occsK, occs] using hq)) I h)
        | loop c =>
          simp only [exec] at h
          refine .step (.one step_loop) (ih _ _ (fun q hq => hk q ?_) I h)
          simp only [occsK, occs, List.mem_append] at hq ⊢
          rcases hq with hq | hq | hq
          · exact .inl hq
          · exact .inl hq
          · exact .inr hq
        | exit id =>
          simp only [exec] at h
          split at h
          · rename_i k' hk'
            refine .step (.one (step_exit hk')) (ih _ _ (fun q hq => hk q ?_) I h)
            have := occsK_exit hk' q hq
            simp [occsK, occs, this]
          · cases h
        | ret =>
          simp only [exec] at h
          exact ⟨a, w, _, S, x, .one step_ret, I, h⟩
        | _ => simp [exec] at h
      | _ => simp [exec] at h
theorem occFind_of : ∀ {l : List (Nat × List Item)} {id : Nat} {z : List Item}, (occIds l).Nodup → (id, z) ∈ l → occFind id l = some z
  | (i, k) :: l, id, z, hn, h => by
    simp only [occIds, List.nodup_cons] at hn
    have mem : ∀ {l : List (Nat × List Item)}, (id, z) ∈ l → id ∈ occIds l := by
      intro l
      induction l with
      | nil => intro h; cases h
      | cons q l ih =>
        intro h
        cases h with
        | head => simp [occIds]
        | tail _ h => obtain ⟨i, k⟩ := q; simp [occIds, ih h]
    unfold occFind
    cases hb : Nat.beq i id
    · rcases List.mem_cons.1 h with h | h
      · injection h with e1 e2
        subst e1
        have : Nat.beq id id = true := Nat.beq_refl id
        rw [this] at hb
        cases hb
      · exact occFind_of hn.2 h
    · have e := Nat.eq_of_beq_eq_true hb
      rcases List.mem_cons.1 h with h | h
      · injection h with e1 e2
        subst e2
        rfl
      · exact absurd (mem h) (e ▸ hn.1)
theorem occFind_mem : ∀ {l : List (Nat × List Item)} {id : Nat} {z : List Item}, occFind id l = some z → (id, z) ∈ l
  | (i, k) :: l, id, z, h => by
    unfold occFind at h
    cases hb : Nat.beq i id <;> rw [hb] at h
    · exact List.mem_cons_of_mem _ (occFind_mem h)
    · cases h
      have := Nat.eq_of_beq_eq_true hb
      subst this
      simp
end
end Go.Vm
