/- The value machine, part 5 of 9. -/
import Derived.Test.YtjddmekfeckphaaGreatVm3
import Derived.Calls
set_option linter.unusedVariables false
set_option linter.unusedSimpArgs false
set_option linter.unnecessarySimpa false
set_option linter.unusedVariables false
set_option linter.unusedSimpArgs false
namespace Go.Vm
open Go Go.RowKit
def okB (S : Side) (ob : List Obe) (l : List Nat) (b : Nat) : Prop := S.ok b ∨ ∃ o c, o ∈ l ∧ (getO ob o).c = some c ∧ b ∈ S.fp o
section
variable {S : Side} {w : World}
theorem okB_mono {ob : List Obe} {l m : List Nat} (h : ∀ o ∈ l, o ∈ m) : ∀ b, okB S ob l b → okB S ob m b := by
  rintro b (hb | ⟨o, c, h1, h2, h3⟩)
  · exact .inl hb
  · exact .inr ⟨o, c, h o h1, h2, h3⟩
theorem Rd_val_refs {C : Ctx} {x : X} {a : Act} (I : Inv C S x a w) {r : Rd} (R : RdOk r x) : ∀ {t : Ty} {v : VT} {y : t.D} {cs : List Value}, r.val t v = some y → VTC S x.ob w v cs → RO (okB S x.ob v.refs) (cv w) t cs y := by
  have hva : ∀ (t : Ty) (t' : Ty) (z : t'.D) (y : t.D) (cs : List Value), Dy.as ⟨t', z⟩ t = some y → VTC S x.ob w (.va t' z) cs → RO (okB S x.ob (VT.va t' z).refs) (cv w) t cs y := by
    intro t t' z y cs h hc
    have := Dy_as h
    injection this with e1 e2
    subst e1
    cases e2
    exact RO_mono (fun b hb => .inl hb) (fun _ _ _ => rfl) hc
  intro t
  induction t with
  | int k | bool | str | op =>
    intro v y cs h hc
    cases v <;> simp only [Rd.val] at h <;> first | exact hva _ _ _ _ _ h hc | cases h
  | un =>
    intro v y cs h hc
    cases v <;> simp only [Rd.val] at h <;> first | exact hva _ _ _ _ _ h hc | cases h
    exact hc
  | pr a b iha ihb =>
    intro v y cs h hc
    cases v <;> simp only [Rd.val] at h <;> first | exact hva _ _ _ _ _ h hc | cases h | skip
    rename_i v u
    rw [Option.bind_eq_some_iff] at h
    obtain ⟨y1, h1, h⟩ := h
    rw [Option.map_eq_some_iff] at h
    obtain ⟨y2, h2, rfl⟩ := h
    obtain ⟨c1, c2, e, hc1, hc2⟩ := hc
    exact ⟨c1, c2, e, RO_mono (okB_mono fun o ho => by simp [VT.refs, ho]) (fun _ _ _ => rfl) (iha h1 hc1), RO_mono (okB_mono fun o ho => by simp [VT.refs, ho]) (fun _ _ _ => rfl) (ihb h2 hc2)⟩
  | sl ty ih =>
    intro v y cs h hc
    cases v <;> simp only [Rd.val] at h <;> first | exact hva _ _ _ _ _ h hc | (cases h; done) | skip
    · cases h
      exact ⟨none, 0, hc, by simp, fun h => absurd rfl h⟩
    · cases h
      obtain ⟨A, hc⟩ := hc
      exact ⟨A, 0, hc, by simp, fun h => absurd rfl h⟩
    · rename_i o g hh p win
      rw [Option.bind_eq_some_iff] at h
      obtain ⟨d, hd, h⟩ := h
      obtain ⟨v0, rfl, h1, h2, h3⟩ := hc
      obtain ⟨t0, xs, nn, te, _, _, _, ys, hob, hg, hph, hgp, hty, hdeq, hro, hall, _⟩ := slice_own I R hd
      obtain ⟨A, n, cap, F', hn, hwin, hown, hF, _⟩ := hall v0 h3
      have := Dy_as h
      rw [hdeq] at this
      injection this with e1 e2
      injection e1 with e1
      subst e1
      cases e2
      have hro : RO (okB S x.ob (VT.sl o g hh p win).refs) (cv w) (.sl te) [.slice A n cap] ys := Own_RO (t := .sl te) (F := F') (H := hv w) (fun b hb => .inr ⟨o, _, by simp [VT.refs], hob, hF b hb⟩) (fun b _ l hl o => hv_cv hl o) (by subst hn; exact ⟨A, cap, rfl, hown⟩)
      cases win with
      | none => simp only [winR] at hwin; subst hwin; exact hro
      | some q =>
        obtain ⟨lo, m⟩ := q
        obtain ⟨hlm, A', e, hA⟩ := hwin
        subst e
        exact RO_win hn hro hlm hA
end
section
variable {P : Program}
def ArgsR (ok : Nat → Prop) (w : World) : (t : Ty) → t.D → List Value → Prop
  | .pr a b, x, v :: vs => (∃ cs, RO ok (cv w) a cs x.1 ∧ v = vOf a cs) ∧ ArgsR ok w b x.2 vs
  | .un, _, vs => vs = []
  | _, _, _ => False
def ResC (okr : Nat → Prop) (w : World) : (t : Rt) → t.D → List Value → List Nat → Prop
  | .fl t, x, cs, F => F = [] ∧ t.flat = true ∧ RO (fun _ => False) (cv w) t cs x
  | .os t, x, cs, F => ∃ A cap, cs = [.slice A (List.length x) cap] ∧ OwnS (hv w) (Own (hv w) t) t.cells A cap x F
  | .on t, x, cs, F => match (x : Option (List t.D)) with
    | none => cs = [.slice none 0 0] ∧ F = []
    | some x => ∃ A cap, cs = [.slice A (List.length x) cap] ∧ A ≠ none ∧ OwnS (hv w) (Own (hv w) t) t.cells A cap x F
  | .ro t, x, cs, F => RO (fun b => okr b ∨ b ∈ F) (cv w) t cs x
  | .pr a b, x, cs, F => ∃ c1 c2 F1 F2, cs = c1 ++ c2 ∧ F = F1 ++ F2 ∧ ResC okr w a x.1 c1 F1 ∧ ResC okr w b x.2 c2 F2
  | .un, _, cs, F => cs = [] ∧ F = []
  | .fi n t, x, cs, F => F = [] ∧ t.one = true ∧ ∃ u, cs = [.iface n u] ∧ RO (fun _ => False) (cv w) t [u] x
def Rt.agg : Rt → Bool
  | .pr _ _ | .un => true
  | .fl t => t.agg
  | .ro t => t.agg
  | _ => false
def Rt.chain : Rt → Bool
  | .pr _ b => b.chain
  | .un => true
  | _ => false
def ResV (okr : Nat → Prop) (w : World) (t : Rt) (x : t.D) (u : Value) (F : List Nat) : Prop := ∃ cs, ResC okr w t x cs F ∧ u = if t.agg then .agg cs.toArray else cs.headD undef
def ResT (okr : Nat → Prop) (w : World) : (t : Rt) → t.D → List Value → List Nat → Prop
  | .pr a b, x, u :: us, F => ∃ F1 F2, F = F1 ++ F2 ∧ ResV okr w a x.1 u F1 ∧ ResT okr w b x.2 us F2
  | .un, _, us, F => us = [] ∧ F = []
  | _, _, _, _ => False
def ResR (okr : Nat → Prop) (w : World) (tup : Bool) (t : Rt) (y : t.D) (v : Value) (F : List Nat) : Prop :=
  if tup = true then ∃ us : List Value, v = .tuple us.toArray ∧ ResT okr w t y us F else ResV okr w t y v F
structure Grown (w w' : World) : Prop where
  os : w'.os = w.os
  tape : Ahead w w'
  output : w'.output = w.output
  size : w.heap.size ≤ w'.heap.size
  block : ∀ b, b < w.heap.size → w'.heap[b]? = w.heap[b]?
def FnOk (P : Program) (d : Fn) : Prop := ∀ (ok : Nat → Prop) (w : World) (a : d.ps.D) (vs : List Value) (y : d.rs.D), (∀ b, ok b → b < w.heap.size) → ArgsR ok w d.ps a vs → d.F a = some y →
  (∃ fn c, P.funcs[d.id]? = some fn ∧ fn.name ≠ "runtime.NumGoroutine" ∧ fn.body = some c) ∧
  Calls P d.id vs.toArray w fun
    | .returned v, w' => Grown w w' ∧ ∃ okr F, ResR okr w' d.tup d.rs y v F ∧ F.Nodup ∧ (∀ b ∈ F, w.heap.size ≤ b ∧ b < w'.heap.size ∧ ¬ okr b) ∧ ∀ b, okr b → b < w'.heap.size ∧ (ok b ∨ w.heap.size ≤ b)
    | _, _ => False
theorem ResC_imp {okr okr' : Nat → Prop} {w : World} : ∀ {t : Rt} {x : t.D} {cs : List Value} {F : List Nat}, (t.hasRo = true → ∀ b, okr b → okr' b) → ResC okr w t x cs F → ResC okr' w t x cs F
  | .fl _, _, _, _, _, h | .os _, _, _, _, _, h | .un, _, _, _, _, h | .fi _ _, _, _, _, _, h => h
  | .on _, none, _, _, _, h => h
  | .on _, some _, _, _, _, h => h
  | .ro t, _, _, _, hi, h => RO_mono (fun b hb => hb.imp_left (hi rfl b)) (fun _ _ _ => rfl) h
  | .pr a b, _, _, _, hi, ⟨c1, c2, F1, F2, e1, e2, h1, h2⟩ => ⟨c1, c2, F1, F2, e1, e2, ResC_imp (fun h => hi (by simp [Rt.hasRo, h])) h1, ResC_imp (fun h => hi (by simp [Rt.hasRo, h])) h2⟩
theorem ResV_imp {okr okr' : Nat → Prop} {w : World} {t : Rt} {x : t.D} {u : Value} {F : List Nat} (hi : t.hasRo = true → ∀ b, okr b → okr' b) : ResV okr w t x u F → ResV okr' w t x u F
  | ⟨cs, h, e⟩ => ⟨cs, ResC_imp hi h, e⟩
theorem ResT_imp {okr okr' : Nat → Prop} {w : World} : ∀ {t : Rt} {x : t.D} {us : List Value} {F : List Nat}, (t.hasRo = true → ∀ b, okr b → okr' b) → ResT okr w t x us F → ResT okr' w t x us F
  | .un, _, _, _, _, h => h
  | .pr a b, _, u :: us, _, hi, ⟨F1, F2, e, h1, h2⟩ => ⟨F1, F2, e, ResV_imp (fun h => hi (by simp [Rt.hasRo, h])) h1, ResT_imp (fun h => hi (by simp [Rt.hasRo, h])) h2⟩
  | .pr _ _, _, [], _, _, h => h.elim
  | .fl _, _, _, _, _, h => h.elim
  | .os _, _, _, _, _, h => h.elim
  | .on _, _, _, _, _, h => h.elim
  | .ro _, _, _, _, _, h => h.elim
  | .fi _ _, _, _, _, _, h => h.elim
theorem ResR_imp {okr okr' : Nat → Prop} {w : World} {tup : Bool} {t : Rt} {y : t.D} {v : Value} {F : List Nat} (hi : t.hasRo = true → ∀ b, okr b → okr' b) (h : ResR okr w tup t y v F) : ResR okr' w tup t y v F := by
  unfold ResR at *
  cases tup
  · simp only [Bool.false_eq_true, if_false] at *
    exact ResV_imp hi h
  · simp only [if_true] at *
    obtain ⟨us, e, h⟩ := h
    exact ⟨us, e, ResT_imp hi h⟩
theorem Inv.okmore {C : Ctx} {S : Side} {x : X} {a : Act} {w : World} (I : Inv C S x a w) (Q : Nat → Prop) (hQ : ∀ b, Q b → b < w.heap.size ∧ (S.ok b ∨ C.w0.heap.size ≤ b ∨ C.don b) ∧ ∀ o c, (getO x.ob o).c = some c → b ∉ S.fp o) :
    Inv C { S with ok := fun b => S.ok b ∨ Q b } x a w ∧ (∀ v cs, VTC S x.ob w v cs → VTC { S with ok := fun b => S.ok b ∨ Q b } x.ob w v cs) :=
  I.turn (S' := { S with ok := fun b => S.ok b ∨ Q b }) (ob' := x.ob) (w' := w) (fun _ => False)
    (fun o' _ => ⟨rfl, rfl, rfl, fun c hc b hb => ⟨rfl, fun hh => hh.elim ((I.objs o' c hc).2.2 b hb).1 (fun h => (hQ b h).2.2 o' c hc hb)⟩⟩)
    (fun b hb => ⟨.inl hb, rfl⟩) (fun o' h => h.elim) (fun _ o' c h => h.elim) (fun o' o'' c c' h => h.elim)
    (Nat.le_refl _) (fun b hb => hb.elim (I.okb b) (fun h => (hQ b h).1)) I.kept (fun o' c h => h.elim) (fun b hb => hb.elim .inl (fun h => (hQ b h).2.1))
def Free (C : Ctx) (S : Side) (ob : List Obe) (w : World) (b : Nat) : Prop := b < w.heap.size ∧ (C.w0.heap.size ≤ b ∨ C.don b) ∧ ¬ S.ok b ∧ ∀ o c, (getO ob o).c = some c → b ∉ S.fp o
theorem Inv.give {C : Ctx} {S : Side} {x : X} {a : Act} {w : World} (I : Inv C S x a w) {r : Rd} {n : Nat} (hr : r.o n = getO x.ob n) (hlt : n < x.ob.length) (c : Ob) (hdn : Option Addr × Nat) (fpn : List Nat)
    (hfree : ∀ b ∈ fpn, Free C S x.ob w b) (hnd : fpn.Nodup)
    (hc : (∀ v cs, VTC S x.ob w v cs → VTC (S.put n hdn fpn (fun _ => False)) (putO x.ob [newO r n c]) w v cs) → ObR (S.put n hdn fpn (fun _ => False)) (putO x.ob [newO r n c]) w n c) :
    Inv C (S.put n hdn fpn (fun _ => False)) ⟨x.sl, putO x.ob [newO r n c]⟩ a w ∧ (∀ v cs, VTC S x.ob w v cs → VTC (S.put n hdn fpn (fun _ => False)) (putO x.ob [newO r n c]) w v cs) ∧
      getO (putO x.ob [newO r n c]) n = ⟨(r.o n).g + 1, 0, some c⟩ ∧ (∀ b, Free C S x.ob w b → b ∉ fpn → Free C (S.put n hdn fpn (fun _ => False)) (putO x.ob [newO r n c]) w b) := by
  have hnew : getO (putO x.ob [newO r n c]) n = ⟨(r.o n).g + 1, 0, some c⟩ := by
    simp only [newO, putO]
    rw [getO_set, if_pos ⟨rfl, hlt⟩]
  have hold : ∀ o, o ≠ n → getO (putO x.ob [newO r n c]) o = getO x.ob o := by
    intro o ho
    refine getO_putO_ne _ _ _ ?_
    simp [newO, wrote, ho]
  have hfpo : ∀ o, o ≠ n → (S.put n hdn fpn (fun _ => False)).fp o = S.fp o := fun o ho => by simp only [Side.put]; rw [if_neg ho]
  have hfpn : (S.put n hdn fpn (fun _ => False)).fp n = fpn := by simp [Side.put]
  have hok : ∀ b, (S.put n hdn fpn (fun _ => False)).ok b ↔ S.ok b := fun b => by simp [Side.put]
  obtain ⟨I', hv⟩ := I.turn (S' := S.put n hdn fpn (fun _ => False)) (ob' := putO x.ob [newO r n c]) (w' := w) (fun o => o = n)
    (fun o ho => ⟨hold o ho, by simp only [Side.put]; rw [if_neg ho], hfpo o ho, fun c' hc' b hb => ⟨rfl, fun h => ((I.objs o c' hc').2.2 b hb).1 ((hok b).1 h)⟩⟩)
    (fun b hb => ⟨(hok b).2 hb, rfl⟩)
    (fun o ho => by
      subst ho
      have ht : Turned (getO x.ob o) (getO (putO x.ob [newO r o c]) o) := by
        rw [hnew, hr]; exact .inl rfl
      exact ⟨fun g h p win v hrf _ => Turned.sl (S := S) (w := w) ht hrf, fun g h p v hrf _ => Turned.pt (S := S) (w := w) ht hrf⟩)
    (fun hv o c' ho hc' => by
      subst ho
      rw [hnew] at hc'
      cases hc'
      refine ⟨hc hv, by rw [hfpn]; exact hnd, fun b hb => ?_⟩
      rw [hfpn] at hb
      obtain ⟨f1, f2, f3, f4⟩ := hfree b hb
      exact ⟨fun h => f3 ((hok b).1 h), f1, f2.imp_right .inl⟩)
    (fun o o' c' c'' ho hne hc' hc'' b hb hb' => by
      subst ho
      rw [hfpn] at hb
      rw [hfpo o' (Ne.symm hne)] at hb'
      rw [hold o' (Ne.symm hne)] at hc''
      exact (hfree b hb).2.2.2 o' c'' hc'' hb')
    (Nat.le_refl _) (fun b hb => I.okb b ((hok b).1 hb)) I.kept (fun o c' ho _ hg _ => by
      subst ho
      rw [hnew] at hg
      cases hg)
  refine ⟨I', hv, hnew, fun b ⟨f1, f2, f3, f4⟩ hb => ⟨f1, f2, fun h => f3 ((hok b).1 h), fun o c' hc' => ?_⟩⟩
  by_cases ho : o = n
  · subst ho
    rw [hfpn]
    exact hb
  · rw [hfpo o ho]
    rw [hold o ho] at hc'
    exact f4 o c' hc'
theorem val_agg {r : Rd} {v : VT} {t : Ty} {y : t.D} (h : r.val t v = some y) : v.isAgg = t.agg := by
  cases v <;> cases t <;> simp [Rd.val, VT.isAgg, Ty.agg] at h ⊢ <;> (have := Dy_as h; injection this with e1 e2; rw [e1])
theorem resC_sound {r : Rd} {okr : Nat → Prop} : ∀ {t : Rt} {y : t.D} {l : List Nat} {K : VT → List (Nat × Obe) → List Nat → Br Eff} {e : Eff}, (resBr r t y l K).has e → l.Nodup → ∀ {w : World} {cs : List Value} {F : List Nat}, ResC okr w t y cs F → F.Nodup →
    ∃ v eo l', (K v eo l').has e ∧ v.isAgg = t.agg ∧ (l'.Nodup ∧ ∀ n ∈ l', n ∈ l ∧ n ∉ wrote eo) ∧ (∀ n ∈ wrote eo, n ∈ l) ∧
      ∀ {C : Ctx} {S : Side} {sl : List (Option VT)} {ob : List Obe} {a : Act}, Inv C S ⟨sl, ob⟩ a w → (∀ b, okr b → S.ok b) → (∀ b ∈ F, Free C S ob w b) → (∀ m ∈ wrote eo, r.o m = getO ob m ∧ m < ob.length) →
        ∃ S', (∀ b, S.ok b → S'.ok b) ∧ Inv C S' ⟨sl, putO ob eo⟩ a w ∧ (∀ v cs, VTC S ob w v cs → VTC S' (putO ob eo) w v cs) ∧ VTC S' (putO ob eo) w v cs ∧ (∀ b, Free C S ob w b → b ∉ F → Free C S' (putO ob eo) w b)
  | .fl t, y, l, K, e, h, hl, w, cs, F, hu, hF => by
    simp only [resBr] at h
    obtain ⟨_, h1⟩ := Br.when_has h
    obtain ⟨rfl, hf, hro⟩ := hu
    exact ⟨_, _, _, h1, rfl, ⟨hl, fun n hn => ⟨hn, by simp [wrote]⟩⟩, by simp [wrote], fun I _ _ _ => ⟨_, fun _ h => h, I, fun v cs h => h, RO_mono (fun b hb => hb.elim) (fun b hb => hb.elim) hro, fun b hb _ => hb⟩⟩
  | .os t, y, [], K, e, h, hl, w, cs, F, hu, hF => by simp only [resBr] at h; exact h.elim
  | .os t, y, n :: l, K, e, h, hl, w, cs, F, hu, hF => by
    simp only [resBr] at h
    obtain ⟨A, cap, rfl, ho⟩ := hu
    refine ⟨_, _, _, h, rfl, ⟨(List.nodup_cons.1 hl).2, fun m hm => ⟨by simp [hm], by simp [wrote, newO]; rintro rfl; exact (List.nodup_cons.1 hl).1 hm⟩⟩, by simp [wrote, newO], fun {C S sl ob a} I hokr hfree hw => ?_⟩
    obtain ⟨hw1, hw2⟩ := hw n (by simp [wrote, newO])
    obtain ⟨I', k1, k2, k3⟩ := I.give (r := r) (n := n) hw1 hw2 (.arr t y false) (A, cap) F hfree hF (fun _ => by
      unfold ObR
      rw [Side.put_hd, Side.put_fp]
      exact ⟨ho, by simp⟩)
    obtain ⟨cs, hc1, hc2⟩ := newSl_VTV (S := S.put n (A, cap) F (fun _ => False)) (w := w) k2 (Side.put_hd _ _ _ _ _)
    obtain ⟨v, rfl, hc1⟩ := hc1
    have e1 : Value.slice A (List.length y) cap = v := hc2
    rw [e1]
    exact ⟨_, fun b hb => Or.inl hb, I', k1, ⟨v, rfl, hc1⟩, k3⟩
  | .on t, y, [], K, e, h, hl, w, cs, F, hu, hF => by simp only [resBr] at h; exact h.elim
  | .on t, none, n :: l, K, e, h, hl, w, cs, F, hu, hF => by
    obtain ⟨rfl, rfl⟩ := hu
    have h' : (K .nl [] l).has e := h
    exact ⟨_, _, _, h', rfl, ⟨(List.nodup_cons.1 hl).2, fun m hm => ⟨by simp [hm], by simp [wrote]⟩⟩, by simp [wrote], fun I _ _ _ => ⟨_, fun _ h => h, I, fun v cs h => h, rfl, fun b hb _ => hb⟩⟩
  | .on t, some y, n :: l, K, e, h, hl, w, cs, F, hu, hF => by
    have h' : (K (newSl r n) [newO r n (.arr t y true)] l).has e := h
    obtain ⟨A, cap, rfl, hA, ho⟩ := hu
    refine ⟨_, _, _, h', rfl, ⟨(List.nodup_cons.1 hl).2, fun m hm => ⟨by simp [hm], by simp [wrote, newO]; rintro rfl; exact (List.nodup_cons.1 hl).1 hm⟩⟩, by simp [wrote, newO], fun {C S sl ob a} I hokr hfree hw => ?_⟩
    obtain ⟨hw1, hw2⟩ := hw n (by simp [wrote, newO])
    obtain ⟨I', k1, k2, k3⟩ := I.give (r := r) (n := n) hw1 hw2 (.arr t y true) (A, cap) F hfree hF (fun _ => by
      unfold ObR
      rw [Side.put_hd, Side.put_fp]
      exact ⟨ho, fun _ => hA⟩)
    obtain ⟨cs, hc1, hc2⟩ := newSl_VTV (S := S.put n (A, cap) F (fun _ => False)) (w := w) k2 (Side.put_hd _ _ _ _ _)
    obtain ⟨v, rfl, hc1⟩ := hc1
    have e1 : Value.slice A (List.length y) cap = v := hc2
    rw [e1]
    exact ⟨_, fun b hb => Or.inl hb, I', k1, ⟨v, rfl, hc1⟩, k3⟩
  | .ro t, y, l, K, e, h, hl, w, cs, F, hu, hF => by
    have h' : (K (.va t y) [] l).has e := h
    refine ⟨_, _, _, h', rfl, ⟨hl, fun n hn => ⟨hn, by simp [wrote]⟩⟩, by simp [wrote], fun {C S sl ob a} I hokr hfree _ => ?_⟩
    obtain ⟨I', hv⟩ := I.okmore (fun b => b ∈ F) (fun b hb => ⟨(hfree b hb).1, .inr (hfree b hb).2.1, (hfree b hb).2.2.2⟩)
    refine ⟨_, fun b hb => Or.inl hb, I', hv, ?_, fun b hb hn => ⟨hb.1, hb.2.1, fun h => h.elim hb.2.2.1 hn, hb.2.2.2⟩⟩
    exact RO_mono (fun b hb => hb.imp_left (hokr b)) (fun _ _ _ => rfl) hu
  | .fi n t, y, l, K, e, h, hl, w, cs, F, hu, hF => by
    have h' : (Br.when t.one (K (.fn (ifB + n) (.pr (.va t y) .un)) [] l)).has e := h
    obtain ⟨_, h1⟩ := Br.when_has h'
    obtain ⟨rfl, _, u, rfl, hro⟩ := hu
    exact ⟨_, _, _, h1, rfl, ⟨hl, fun n hn => ⟨hn, by simp [wrote]⟩⟩, by simp [wrote], fun I _ _ _ => ⟨_, fun _ h => h, I, fun v cs h => h, ⟨[u], by rw [fnVal_if], [u], [], rfl, RO_mono (fun b hb => hb.elim) (fun b hb => hb.elim) hro, rfl⟩, fun b hb _ => hb⟩⟩
  | .un, y, l, K, e, h, hl, w, cs, F, hu, hF => by
    obtain ⟨rfl, rfl⟩ := hu
    exact ⟨_, _, _, h, rfl, ⟨hl, fun n hn => ⟨hn, by simp [wrote]⟩⟩, by simp [wrote], fun I _ _ _ => ⟨_, fun _ h => h, I, fun v cs h => h, rfl, fun b hb _ => hb⟩⟩
  | .pr a b, y, l, K, e, h, hl, w, cs, F, hu, hF => by
    obtain ⟨u1, u2, F1, F2, rfl, rfl, hu1, hu2⟩ := hu
    obtain ⟨n1, n2, n3⟩ := List.nodup_append.1 hF
    have h' : (resBr r a y.1 l fun v e l => resBr r b y.2 l fun u f l => K (.pr v u) (e ++ f) l).has e := h
    obtain ⟨v1, e1, l1, h1, _, ⟨g1, g2⟩, hw1, f1⟩ := resC_sound h' hl hu1 n1
    obtain ⟨v2, e2, l2, h2, _, ⟨g3, g4⟩, hw2, f2⟩ := resC_sound h1 g1 hu2 n2
    refine ⟨_, _, _, h2, rfl, ⟨g3, fun n hn => ⟨(g2 n (g4 n hn).1).1, by rw [wrote_app]; simp only [List.mem_append, not_or]; exact ⟨(g2 n (g4 n hn).1).2, (g4 n hn).2⟩⟩⟩,
      fun n hn => by
        rw [wrote_app] at hn
        rcases List.mem_append.1 hn with hn | hn
        · exact hw1 n hn
        · exact (g2 n (hw2 n hn)).1, fun {C S sl ob ac} I hokr hfree hc => ?_⟩
    rw [wrote_app] at hc
    obtain ⟨S1, o1, I1, k1, k2, k3⟩ := f1 I hokr (fun b hb => hfree b (by simp [hb])) (fun m hm => hc m (by simp [hm]))
    obtain ⟨S2, o2, I2, k4, k5, k6⟩ := f2 I1 (fun b hb => o1 b (hokr b hb)) (fun b hb => k3 b (hfree b (by simp [hb])) (fun hb1 => n3 b hb1 b hb rfl)) (fun m hm => by
      obtain ⟨q1, q2⟩ := hc m (by simp [hm])
      rw [getO_putO_ne _ _ _ (g2 m (hw2 m hm)).2, putO_length]
      exact ⟨q1, q2⟩)
    rw [putO_app]
    exact ⟨S2, fun b hb => o2 b (o1 b hb), I2, fun v cs h => k4 v cs (k1 v cs h), ⟨u1, u2, rfl, k4 _ _ k2, k5⟩, fun b hb hn => k6 b (k3 b hb (fun h => hn (by simp [h]))) (fun h => hn (by simp [h]))⟩
theorem resV_sound {r : Rd} {okr : Nat → Prop} {t : Rt} {y : t.D} {l : List Nat} {K : VT → List (Nat × Obe) → List Nat → Br Eff} {e : Eff} (h : (resBr r t y l K).has e) (hl : l.Nodup) {w : World} {u : Value} {F : List Nat} (hu : ResV okr w t y u F) (hF : F.Nodup) :
    ∃ v eo l', (K v eo l').has e ∧ (l'.Nodup ∧ ∀ n ∈ l', n ∈ l ∧ n ∉ wrote eo) ∧ (∀ n ∈ wrote eo, n ∈ l) ∧
      ∀ {C : Ctx} {S : Side} {sl : List (Option VT)} {ob : List Obe} {a : Act}, Inv C S ⟨sl, ob⟩ a w → (∀ b, okr b → S.ok b) → (∀ b ∈ F, Free C S ob w b) → (∀ m ∈ wrote eo, r.o m = getO ob m ∧ m < ob.length) →
        ∃ S', (∀ b, S.ok b → S'.ok b) ∧ Inv C S' ⟨sl, putO ob eo⟩ a w ∧ (∀ v cs, VTC S ob w v cs → VTC S' (putO ob eo) w v cs) ∧ (∃ cs, VTC S' (putO ob eo) w v cs ∧ u = mkV v cs) ∧ (∀ b, Free C S ob w b → b ∉ F → Free C S' (putO ob eo) w b) := by
  obtain ⟨cs, hc, rfl⟩ := hu
  obtain ⟨v, eo, l', k1, k2, k3, k4, k5⟩ := resC_sound h hl hc hF
  refine ⟨v, eo, l', k1, k3, k4, fun I ho hf hw => ?_⟩
  obtain ⟨S', j0, j1, j2, j3, j4⟩ := k5 I ho hf hw
  exact ⟨S', j0, j1, j2, ⟨cs, j3, by unfold mkV; rw [k2]⟩, j4⟩
theorem resT_sound {r : Rd} {okr : Nat → Prop} : ∀ {t : Rt} {y : t.D} {l : List Nat} {K : VT → List (Nat × Obe) → List Nat → Br Eff} {e : Eff}, (resBr r t y l K).has e → l.Nodup → ∀ {w : World} {us : List Value} {F : List Nat}, ResT okr w t y us F → F.Nodup →
    ∃ v eo l', (K v eo l').has e ∧ (l'.Nodup ∧ ∀ n ∈ l', n ∈ l ∧ n ∉ wrote eo) ∧ (∀ n ∈ wrote eo, n ∈ l) ∧
      ∀ {C : Ctx} {S : Side} {sl : List (Option VT)} {ob : List Obe} {a : Act}, Inv C S ⟨sl, ob⟩ a w → (∀ b, okr b → S.ok b) → (∀ b ∈ F, Free C S ob w b) → (∀ m ∈ wrote eo, r.o m = getO ob m ∧ m < ob.length) →
        ∃ S', (∀ b, S.ok b → S'.ok b) ∧ Inv C S' ⟨sl, putO ob eo⟩ a w ∧ (∀ v cs, VTC S ob w v cs → VTC S' (putO ob eo) w v cs) ∧ VTT S' (putO ob eo) w v us
  | .un, y, l, K, e, h, hl, w, us, F, hu, hF => by
    obtain ⟨rfl, rfl⟩ := hu
    exact ⟨_, _, _, h, ⟨hl, fun n hn => ⟨hn, by simp [wrote]⟩⟩, by simp [wrote], fun I _ _ _ => ⟨_, fun _ h => h, I, fun v cs h => h, rfl⟩⟩
  | .pr a b, y, l, K, e, h, hl, w, u :: us, F, hu, hF => by
    obtain ⟨F1, F2, rfl, hu1, hu2⟩ := hu
    obtain ⟨n1, n2, n3⟩ := List.nodup_append.1 hF
    have h' : (resBr r a y.1 l fun v e l => resBr r b y.2 l fun u f l => K (.pr v u) (e ++ f) l).has e := h
    obtain ⟨v1, e1, l1, h1, ⟨g1, g2⟩, hw1, f1⟩ := resV_sound h' hl hu1 n1
    obtain ⟨v2, e2, l2, h2, ⟨g3, g4⟩, hw2, f2⟩ := resT_sound h1 g1 hu2 n2
    refine ⟨_, _, _, h2, ⟨g3, fun n hn => ⟨(g2 n (g4 n hn).1).1, by rw [wrote_app]; simp only [List.mem_append, not_or]; exact ⟨(g2 n (g4 n hn).1).2, (g4 n hn).2⟩⟩⟩,
      fun n hn => by
        rw [wrote_app] at hn
        rcases List.mem_append.1 hn with hn | hn
        · exact hw1 n hn
        · exact (g2 n (hw2 n hn)).1, fun {C S sl ob ac} I hokr hfree hc => ?_⟩
    rw [wrote_app] at hc
    obtain ⟨S1, o1, I1, k1, k2, k3⟩ := f1 I hokr (fun b hb => hfree b (by simp [hb])) (fun m hm => hc m (by simp [hm]))
    obtain ⟨S2, o2, I2, k4, k5⟩ := f2 I1 (fun b hb => o1 b (hokr b hb)) (fun b hb => k3 b (hfree b (by simp [hb])) (fun hb1 => n3 b hb1 b hb rfl)) (fun m hm => by
      obtain ⟨q1, q2⟩ := hc m (by simp [hm])
      rw [getO_putO_ne _ _ _ (g2 m (hw2 m hm)).2, putO_length]
      exact ⟨q1, q2⟩)
    rw [putO_app]
    obtain ⟨cs, c1, c2⟩ := k2
    exact ⟨S2, fun b hb => o2 b (o1 b hb), I2, fun v cs h => k4 v cs (k1 v cs h), ⟨cs, k4 _ _ c1, c2⟩, k5⟩
  | .pr _ _, _, _, _, _, _, _, _, [], _, hu, _ => hu.elim
  | .fl _, _, _, _, _, _, _, _, _, _, hu, _ => hu.elim
  | .os _, _, _, _, _, _, _, _, _, _, hu, _ => hu.elim
  | .on _, _, _, _, _, _, _, _, _, _, hu, _ => hu.elim
  | .ro _, _, _, _, _, _, _, _, _, _, hu, _ => hu.elim
theorem Inv.grown {C : Ctx} {S : Side} {x : X} {a : Act} {w w' : World} (I : Inv C S x a w) (g : Grown w w') : Inv C S x a w' := by
  have := (I.turn (S' := S) (ob' := x.ob) (w' := w') (fun _ => False)
    (fun o' _ => ⟨rfl, rfl, rfl, fun c hc b hb => by
      obtain ⟨_, _, h⟩ := I.objs o' c hc
      obtain ⟨h1, h2, _⟩ := h b hb
      exact ⟨g.block b h2, h1⟩⟩)
    (fun b hb => ⟨hb, g.block b (I.okb b hb)⟩) (fun o' h => h.elim) (fun _ o' c h => h.elim) (fun o' o'' c c' h => h.elim)
    g.size (fun b hb => Nat.lt_of_lt_of_le (I.okb b hb) g.size) ⟨g.os.trans I.kept.os, g.tape.trans I.kept.tape, g.output.trans I.kept.output, Nat.le_trans I.kept.size g.size, fun k hk hd => by
        rw [g.block k (Nat.lt_of_lt_of_le hk I.kept.size)]; exact I.kept.block k hk hd⟩ (fun o c h => h.elim)).1
  exact this
theorem args_ok {C : Ctx} {S : Side} {x : X} {a : Act} {w : World} (I : Inv C S x a w) {r : Rd} (R : RdOk r x) : ∀ {t : Ty} {l : List Operand} {y : t.D}, r.args t l = some y → ArgsR (okA S x.ob) w t y (l.map a.eval)
  | .pr t u, z :: l, y, h => by
    simp only [Rd.args, Option.bind_eq_some_iff, Option.map_eq_some_iff] at h
    obtain ⟨v, h1, y1, h2, y2, h3, rfl⟩ := h
    have nt : (∀ q, v ≠ .tu q) ∧ v ≠ .ud := by
      refine ⟨fun q e => ?_, fun e => ?_⟩ <;> (subst e; cases t <;> simp [Rd.val] at h2)
    obtain ⟨cs, hcs, e⟩ := VTV_of (Rd_v I R h1) nt.1 nt.2
    have ro := Rd_val I R h2 hcs
    refine ⟨⟨cs, ro, ?_⟩, args_ok I R h3⟩
    show a.eval z = _
    rw [e]
    unfold mkV vOf
    rw [val_agg h2]
  | .un, [], y, h => rfl
  | .un, _ :: _, _, h => by cases h
  | .pr _ _, [], _, h => by cases h
  | .int _, _, _, h | .bool, _, _, h | .str, _, _, h | .sl _, _, _, h | .op, _, _, h => by simp [Rd.args] at h
theorem args_okS {C : Ctx} {S : Side} {x : X} {a : Act} {w : World} (I : Inv C S x a w) {r : Rd} (R : RdOk r x) : ∀ {t : Ty} {l : List Operand} {y : t.D}, noRefs r l = true → r.args t l = some y → ArgsR S.ok w t y (l.map a.eval)
  | .pr t u, z :: l, y, hn, h => by
    simp only [Rd.args, Option.bind_eq_some_iff, Option.map_eq_some_iff] at h
    obtain ⟨v, h1, y1, h2, y2, h3, rfl⟩ := h
    unfold noRefs at hn
    rw [h1] at hn
    have hn' : v.refs = [] ∧ noRefs r l = true := by
      cases hv : v.refs.isEmpty
      · simp only [hv, cond_false] at hn; cases hn
      · simp only [hv, cond_true] at hn; exact ⟨by simpa using hv, hn⟩
    have nt : (∀ q, v ≠ .tu q) ∧ v ≠ .ud := by
      refine ⟨fun q e => ?_, fun e => ?_⟩ <;> (subst e; cases t <;> simp [Rd.val] at h2)
    obtain ⟨cs, hcs, e⟩ := VTV_of (Rd_v I R h1) nt.1 nt.2
    have ro := Rd_val_refs I R h2 hcs
    rw [hn'.1] at ro
    refine ⟨⟨cs, RO_mono (fun b hb => hb.elim id (fun ⟨o, c, ho, _⟩ => by cases ho)) (fun _ _ _ => rfl) ro, ?_⟩, args_okS I R hn'.2 h3⟩
    show a.eval z = _
    rw [e]
    unfold mkV vOf
    rw [val_agg h2]
  | .un, [], y, _, h => rfl
  | .un, _ :: _, _, _, h => by cases h
  | .pr _ _, [], _, _, h => by cases h
  | .int _, _, _, _, h | .bool, _, _, _, h | .str, _, _, _, h | .sl _, _, _, _, h | .op, _, _, _, h => by simp [Rd.args] at h
def Does (P : Program) (C : Ctx) (o : Oper) (a : Act) (w : World) (x : X) (e : Eff) : Prop :=
  ∀ (next : Act → World → Prop) (Q : Exit → Act → World → Prop), (∀ a' w' S', Inv C S' (x.app o.dst e) a' w' → next a' w') → o.wp P a w next Q
theorem Fine.does {C : Ctx} {o : Oper} {a : Act} {w : World} {x : X} {e : Eff} (h : Fine P C o a w x e) : Does P C o a w x e := by
  intro next Q hn
  obtain ⟨u, w', h1, S', I'⟩ := h
  unfold Oper.wp
  rcases h1 with h1 | ⟨h1, rfl⟩
  · rw [h1]; exact hn _ _ S' I'
  · rw [h1]; exact hn _ _ S' I'
theorem fnFind_mem : ∀ {l : List Fn} {n : Nat} {f : Fn}, fnFind l n = some f → f ∈ l ∧ f.id = n
  | g :: l, n, f, h => by
    unfold fnFind at h
    cases hb : Nat.beq g.id n <;> rw [hb] at h
    · obtain ⟨h1, h2⟩ := fnFind_mem (l := l) h
      exact ⟨by simp [h1], h2⟩
    · cases h
      exact ⟨by simp, Nat.eq_of_beq_eq_true hb⟩
theorem call_sound {C : Ctx} {S : Side} {x : X} {a : Act} {w : World} (I : Inv C S x a w) {E : Env} (hΓ : ∀ d ∈ E.Γ, FnOk P d) {r : Rd} (R : RdOk r x) {dst : Option Tmp} {f : Nat} {args : Array Operand} {ats : Array TypeId} {ty : TypeId} {pos : String} {af : Array Edge} {gd : Option (Nat × Bool)} {e : Eff}
    {key : Nat} (h : (opCall E key r f args.toList).has e) (hw : ∀ m ∈ wrote e.ob, r.o m = getO x.ob m ∧ m < x.ob.length) : Does P C ⟨dst, .call ⟨.value (.func f), args, ats⟩, ty, pos, af, gd⟩ a w x e := by
  intro next Q hn
  unfold opCall at h
  obtain ⟨fn, hfn, h1⟩ := Br.opt_has h
  obtain ⟨y, hy, h2⟩ := Br.opt_has h1
  obtain ⟨hnd, h2⟩ := Br.when_has h2
  rw [Bool.and_eq_true] at hnd
  obtain ⟨hnd, hnr⟩ := hnd
  obtain ⟨z, hz, h3⟩ := h2
  obtain ⟨hmem, hid⟩ := fnFind_mem hfn
  obtain ⟨ok, hargs, hokb, hokS⟩ : ∃ ok : Nat → Prop, ArgsR ok w fn.ps y (args.toList.map a.eval) ∧ (∀ b, ok b → b < w.heap.size) ∧ (fn.rs.hasRo = true → ∀ b, ok b → S.ok b) := by
    cases hro : fn.rs.hasRo
    · exact ⟨okA S x.ob, args_ok I R hy, fun b hb => by
        rcases hb with hb | ⟨o, c, hc, hb⟩
        · exact I.okb b hb
        · exact ((I.objs o c hc).2.2 b hb).2.1, fun h => by cases h⟩
    · rw [hro] at hnr
      exact ⟨S.ok, args_okS I R (by simpa using hnr) hy, fun b hb => I.okb b hb, fun _ b hb => hb⟩
  obtain ⟨⟨fd, c, hf1, hf2, hf3⟩, hcalls⟩ := hΓ fn hmem ok w y _ z hokb hargs hz
  rw [hid] at hf1 hcalls
  have eargs : args.map a.eval = (args.toList.map a.eval).toArray := Array.ext' (by simp)
  have hrun : (execOp a.eval ⟨dst, .call ⟨.value (.func f), args, ats⟩, ty, pos, af, gd⟩).run P w = .ok (.enter f (args.toList.map a.eval).toArray) w := by
    rw [← eargs]
    simp [execOp, resolve, Deferred.ofValue, invoke, callFunc, Act.eval, hf1, hf2, hf3]
  unfold Oper.wp
  rw [hrun, Oper.upon_enter]
  refine Calls.mono hcalls ?_
  rintro (v | ch | _) w' hres
  · obtain ⟨g, okr, F, hr, hF, hfr, hokr⟩ := hres
    replace hr := ResR_imp (okr' := fun b => fn.rs.hasRo = true ∧ okr b) (fun h b hb => ⟨h, hb⟩) hr
    obtain ⟨I1, _⟩ := (I.grown g).okmore (fun b => fn.rs.hasRo = true ∧ okr b) (fun b ⟨hro, hb⟩ => by
      obtain ⟨q1, q2⟩ := hokr b hb
      refine ⟨q1, ?_, fun o c hc hm => ?_⟩
      · rcases q2 with q2 | q2
        · exact .inl (hokS hro b q2)
        · exact .inr (.inl (Nat.le_trans I.kept.size q2))
      · obtain ⟨m1, m2, _⟩ := (I.objs o c hc).2.2 b hm
        rcases q2 with q2 | q2
        · exact m1 (hokS hro b q2)
        · omega)
    have hfree : ∀ b ∈ F, Free C { S with ok := fun b => S.ok b ∨ (fn.rs.hasRo = true ∧ okr b) } x.ob w' b := fun b hb => by
      obtain ⟨q1, q2, q3⟩ := hfr b hb
      exact ⟨q2, .inl (Nat.le_trans I.kept.size q1), fun h => by
        rcases h with h | h
        · have := I.okb b h; omega
        · exact q3 h.2, fun o c hc hm => by have := ((I.objs o c hc).2.2 b hm).2.1; omega⟩
    have hnd' := nodupN_iff.1 hnd
    have fin : ∀ {S' : Side} {nv : VT} {eo : List (Nat × Obe)}, Inv C S' ⟨x.sl, putO x.ob eo⟩ a w' → VTV S' (putO x.ob eo) w' nv v → e = ⟨some nv, eo⟩ → next (a.put dst v) w' := by
      intro S' nv eo I' hv' he
      subst he
      refine hn (a.put dst v) w' S' ?_
      have := I'.put dst (some nv) v (fun v' e => by cases e; exact hv')
      cases dst <;> exact this
    cases htup : fn.tup
    · rw [htup] at hr h3
      obtain ⟨v2, eo, l', k1, k2, k3, k4⟩ := resV_sound h3 hnd' hr hF
      have k1' : (⟨some v2, eo⟩ : Eff) = e := k1
      rw [← k1'] at hw
      obtain ⟨S', _, q1, q2, ⟨cs, q3, q4⟩, _⟩ := k4 (sl := x.sl) (ob := x.ob) I1 (fun b hb => .inr hb) hfree hw
      refine fin q1 ?_ k1'.symm
      rw [q4]
      exact VTC_VTV q3
    · rw [htup] at hr h3
      obtain ⟨us, rfl, hr⟩ := hr
      obtain ⟨v2, eo, l', k1, k2, k3, k4⟩ := resT_sound h3 hnd' hr hF
      have k1' : (⟨some (.tu v2), eo⟩ : Eff) = e := k1
      rw [← k1'] at hw
      obtain ⟨S', _, q1, q2, q3⟩ := k4 (sl := x.sl) (ob := x.ob) I1 (fun b hb => .inr hb) hfree hw
      exact fin (nv := .tu v2) q1 ⟨us, rfl, q3⟩ k1'.symm
  · exact hres.elim
  · exact hres.elim
end
end Go.Vm
set_option linter.unusedVariables false
set_option linter.unusedSimpArgs false
namespace Go.Vm
open Go Go.RowKit
structure RenLe (r r' : Ren) : Prop where
  m : ∀ a b, r.m.find a = some b → r'.m.find a = some b
  c : ∀ o ∈ r.c, o ∈ r'.c
  e : ∀ o ∈ r.e, o ∈ r'.e
structure RenInj (r : Ren) : Prop where
  m : ∀ a a' b, r.m.find a = some b → r.m.find a' = some b → a = a'
  e : ∀ o ∈ r.e, r.m.find o = none
theorem RenLe.refl (r : Ren) : RenLe r r := ⟨fun _ _ h => h, fun _ h => h, fun _ h => h⟩
theorem RenLe.trans {r r' r'' : Ren} (h : RenLe r r') (h' : RenLe r' r'') : RenLe r r'' := ⟨fun a b q => h'.m a b (h.m a b q), fun o q => h'.c o (h.c o q), fun o q => h'.e o (h.e o q)⟩
theorem find_imgs : ∀ {m : RenL} {a b : Nat}, m.find a = some b → b ∈ m.imgs
  | [], _, _, h => by simp [RenL.find] at h
  | (c, d) :: m, a, b, h => by
    have h : cond (Nat.beq c a) (some d) (RenL.find m a) = some b := h
    cases hb : Nat.beq c a <;> rw [hb] at h
    · simp [RenL.imgs, find_imgs (m := m) h]
    · cases h; simp [RenL.imgs]
theorem add_ok {r r' : Ren} {a b : Nat} (h : r.add a b = some r') : RenLe r r' ∧ r'.m.find a = some b ∧ (RenInj r → RenInj r') := by
  unfold Ren.add at h
  split at h
  · rename_i b' hb'
    cases hb : Nat.beq b b' <;> rw [hb] at h
    · cases h
    · cases h
      have := Nat.eq_of_beq_eq_true hb
      subst this
      exact ⟨.refl _, hb', fun h => h⟩
  · rename_i hn
    cases hme : (memN r.m.imgs b || memN r.e a) <;> rw [hme] at h
    · cases h
      rw [Bool.or_eq_false_iff] at hme
      obtain ⟨hm, he⟩ := hme
      have hcons : ∀ n, RenL.find ((a, b) :: r.m) n = cond (Nat.beq a n) (some b) (r.m.find n) := fun n => rfl
      have hself : RenL.find ((a, b) :: r.m) a = some b := by rw [hcons, Nat.beq_refl]; rfl
      have hold : ∀ n b', r.m.find n = some b' → RenL.find ((a, b) :: r.m) n = some b' := by
        intro n b' hn'
        rw [hcons]
        cases hb : Nat.beq a n
        · exact hn'
        · have := Nat.eq_of_beq_eq_true hb
          subst this
          rw [hn] at hn'
          cases hn'
      refine ⟨⟨hold, fun o ho => ho, fun o ho => ho⟩, hself, fun hi => ⟨fun a1 a2 b1 h1 h2 => ?_, fun o ho => ?_⟩⟩
      rotate_left
      · rw [hcons]
        cases hb : Nat.beq a o
        · exact hi.e o ho
        · have := Nat.eq_of_beq_eq_true hb
          subst this
          have := memN_iff.2 ho
          rw [he] at this
          cases this
      have hni : ∀ n, r.m.find n ≠ some b := fun n hn' => by
        have := memN_iff.2 (find_imgs hn')
        rw [hm] at this
        cases this
      rw [hcons] at h1 h2
      cases hb1 : Nat.beq a a1 <;> rw [hb1] at h1 <;> cases hb2 : Nat.beq a a2 <;> rw [hb2] at h2 <;> simp only [cond_true, cond_false] at h1 h2
      · exact hi.m _ _ _ h1 h2
      · cases h2; exact absurd h1 (hni _)
      · cases h1; exact absurd h2 (hni _)
      · exact (Nat.eq_of_beq_eq_true hb1).symm.trans (Nat.eq_of_beq_eq_true hb2)
    · cases h
theorem addE_ok {r r' : Ren} {a : Nat} (h : r.addE a = some r') : RenLe r r' ∧ a ∈ r'.e ∧ (RenInj r → RenInj r') := by
  unfold Ren.addE at h
  split at h
  · cases h
  · rename_i hn
    cases hm : memN r.e a <;> rw [hm] at h
    · cases h
      exact ⟨⟨fun _ _ h => h, fun _ h => h, fun o h => List.mem_cons_of_mem _ h⟩, List.mem_cons_self, fun hi => ⟨hi.m, fun o ho => by
        rcases List.mem_cons.1 ho with rfl | ho
        · exact hn
        · exact hi.e o ho⟩⟩
    · cases h
theorem splitPr_some {u : VT} {q : VT × VT} (h : splitPr u = some q) : (u = .pr q.1 q.2 ∨ ∃ s t, ∃ z : (Ty.pr s t).D, u = .va (.pr s t) z ∧ q = (.va s z.1, .va t z.2)) := by
  unfold splitPr at h
  split at h
  · cases h; exact .inl rfl
  · rename_i s t z
    cases h; exact .inr ⟨s, t, z, rfl, rfl⟩
  · cases h
theorem isUnV_true {u : VT} (h : isUnV u = true) : u = .un ∨ ∃ z, u = .va .un z := by
  unfold isUnV at h
  split at h
  · exact .inl rfl
  · rename_i z; exact .inr ⟨z, rfl⟩
  · cases h
theorem asRp_some {t : Ty} {u : VT} {y : t.D} (h : asRp t u = some y) : u = .rp t y := by
  unfold asRp at h
  split at h
  · rename_i t' z
    have := Dy_as h
    injection this with e1 e2
    subst e1
    cases e2
    rfl
  · cases h
theorem asSl_some {u : VT} {q : Nat × Nat} (h : asSl u = some q) : ∃ hh, u = .sl q.1 q.2 hh [] none := by
  unfold asSl at h
  split at h
  · cases h; exact ⟨_, rfl⟩
  · cases h
theorem asPt_some {u : VT} {q : Nat × Nat} (h : asPt u = some q) : ∃ hh, u = .pt q.1 q.2 hh [] := by
  unfold asPt at h
  split at h
  · cases h; exact ⟨_, rfl⟩
  · cases h
theorem asTu_some {u v : VT} (h : asTu u = some v) : u = .tu v := by
  unfold asTu at h
  split at h
  · cases h; rfl
  · cases h
theorem asFn_some {f : Nat} {u v : VT} (h : asFn f u = some v) : u = .fn f v := by
  unfold asFn at h
  split at h
  · rename_i f' a
    cases hb : Nat.beq f f' <;> rw [hb] at h <;> cases h
    have := Nat.eq_of_beq_eq_true hb
    subst this
    rfl
  · cases h
theorem cond_some {α : Type} {b : Bool} {a y : α} (h : cond b (some a) none = some y) : b = true ∧ a = y := by
  cases b
  · cases h
  · cases h; exact ⟨rfl, rfl⟩
theorem cond_opt {α : Type} {b : Bool} {a : Option α} {y : α} (h : cond b a none = some y) : b = true ∧ a = some y := by
  cases b
  · cases h
  · exact ⟨rfl, h⟩
theorem get_va {rd : Rd} {t : Ty} {u : VT} {r r' : Ren} {y : t.D} (h : (VP.va t).get rd u r = some (y, r')) : rd.val t u = some y ∧ r' = ⟨r.m, u.refs ++ r.c, r.e⟩ := by
  have h' : (rd.val t u).map (fun y => (y, (⟨r.m, u.refs ++ r.c, r.e⟩ : Ren))) = some (y, r') := h
  obtain ⟨y', hy, e⟩ := Option.map_eq_some_iff.1 h'
  cases e
  exact ⟨hy, rfl⟩
theorem get_rp {rd : Rd} {t : Ty} {u : VT} {r r' : Ren} {y : t.D} (h : (VP.rp t).get rd u r = some (y, r')) : u = .rp t y ∧ r' = r := by
  have h' : (asRp t u).map (fun y => (y, r)) = some (y, r') := h
  obtain ⟨y', hy, e⟩ := Option.map_eq_some_iff.1 h'
  cases e
  exact ⟨asRp_some hy, rfl⟩
theorem get_sl {rd : Rd} {o : Nat} {u : VT} {r r' : Ren} {y : Unit} (h : (VP.sl o).get rd u r = some (y, r')) : (∃ (q : Nat × Nat) (hh : Nat), u = .sl q.1 q.2 hh [] none ∧ live rd.o q.1 q.2 = true ∧ r.add o q.1 = some r') ∨ (u = .nl ∧ r.addE o = some r') := by
  have h' : (match asSl u with
    | some q => cond (live rd.o q.1 q.2) ((r.add o q.1).map fun r => ((), r)) none
    | none => cond (isNlV u) ((r.addE o).map fun r => ((), r)) none) = some (y, r') := h
  split at h'
  · rename_i q hq
    obtain ⟨h1, h2⟩ := cond_opt h'
    obtain ⟨r1, h3, e⟩ := Option.map_eq_some_iff.1 h2
    cases e
    obtain ⟨hh, e⟩ := asSl_some hq
    exact .inl ⟨q, hh, e, h1, h3⟩
  · obtain ⟨h1, h2⟩ := cond_opt h'
    obtain ⟨r1, h3, e⟩ := Option.map_eq_some_iff.1 h2
    cases e
    exact .inr ⟨(by cases u <;> first | rfl | (cases h1; done)), h3⟩
theorem get_pt {rd : Rd} {o : Nat} {u : VT} {r r' : Ren} {y : Unit} (h : (VP.pt o).get rd u r = some (y, r')) : ∃ (q : Nat × Nat) (hh : Nat), u = .pt q.1 q.2 hh [] ∧ liveV rd.o q.1 q.2 = true ∧ r.add o q.1 = some r' := by
  have h' : ((asPt u).bind fun q => cond (liveV rd.o q.1 q.2) ((r.add o q.1).map fun r => ((), r)) none) = some (y, r') := h
  obtain ⟨q, hq, h'⟩ := Option.bind_eq_some_iff.1 h'
  obtain ⟨h1, h2⟩ := cond_opt h'
  obtain ⟨r1, h3, e⟩ := Option.map_eq_some_iff.1 h2
  cases e
  obtain ⟨hh, e⟩ := asPt_some hq
  exact ⟨q, hh, e, h1, h3⟩
theorem get_pr {rd : Rd} {a b : VP} {u : VT} {r r' : Ren} {y : (VP.pr a b).ty.D} (h : (VP.pr a b).get rd u r = some (y, r')) : ∃ q r1, splitPr u = some q ∧ a.get rd q.1 r = some (y.1, r1) ∧ b.get rd q.2 r1 = some (y.2, r') := by
  have h' : ((splitPr u).bind fun q => (a.get rd q.1 r).bind fun x => (b.get rd q.2 x.2).map fun y => ((x.1, y.1), y.2)) = some (y, r') := h
  obtain ⟨q, hq, h'⟩ := Option.bind_eq_some_iff.1 h'
  obtain ⟨⟨y1, r1⟩, h1, h'⟩ := Option.bind_eq_some_iff.1 h'
  obtain ⟨⟨y2, r2⟩, h2, e⟩ := Option.map_eq_some_iff.1 h'
  cases e
  exact ⟨q, r1, hq, h1, h2⟩
theorem get_un {rd : Rd} {u : VT} {r r' : Ren} {y : Unit} (h : VP.un.get rd u r = some (y, r')) : isUnV u = true ∧ r' = r := by
  have h' : cond (isUnV u) (some ((), r)) none = some (y, r') := h
  obtain ⟨h1, e⟩ := cond_some h'
  cases e
  exact ⟨h1, rfl⟩
theorem get_nl {rd : Rd} {u : VT} {r r' : Ren} {y : Unit} (h : VP.nl.get rd u r = some (y, r')) : u = .nl ∧ r' = r := by
  have h' : cond (isNlV u) (some ((), r)) none = some (y, r') := h
  obtain ⟨h1, e⟩ := cond_some h'
  cases e
  exact ⟨(by cases u <;> first | rfl | (cases h1; done)), rfl⟩
theorem get_em {rd : Rd} {u : VT} {r r' : Ren} {y : Unit} (h : VP.em.get rd u r = some (y, r')) : u = .em ∧ r' = r := by
  have h' : cond (isEmV u) (some ((), r)) none = some (y, r') := h
  obtain ⟨h1, e⟩ := cond_some h'
  cases e
  exact ⟨(by cases u <;> first | rfl | (cases h1; done)), rfl⟩
theorem get_np {rd : Rd} {u : VT} {r r' : Ren} {y : Unit} (h : VP.np.get rd u r = some (y, r')) : u = .np ∧ r' = r := by
  have h' : cond (isNpV u) (some ((), r)) none = some (y, r') := h
  obtain ⟨h1, e⟩ := cond_some h'
  cases e
  exact ⟨(by cases u <;> first | rfl | (cases h1; done)), rfl⟩
theorem get_an {rd : Rd} {u : VT} {r r' : Ren} {y : Unit} (h : VP.an.get rd u r = some (y, r')) : isOneV u = true ∧ r' = r := by
  have h' : cond (isOneV u) (some ((), r)) none = some (y, r') := h
  obtain ⟨h1, e⟩ := cond_some h'
  cases e
  exact ⟨h1, rfl⟩
theorem one_cells {S : Side} {ob : List Obe} {w : World} {u : VT} (h : isOneV u = true) {cs : List Value} (hc : VTC S ob w u cs) : ∃ v, cs = [v] ∧ v.oneCell' = true := by
  cases u <;> first | (cases h; done) | skip
  · obtain ⟨b, off, ccs, e, _⟩ := hc; exact ⟨_, e, rfl⟩
  · exact ⟨_, hc, rfl⟩
  · obtain ⟨A, e⟩ := hc; exact ⟨_, e, rfl⟩
  · exact ⟨_, hc, rfl⟩
  · obtain ⟨v, e, h1, _⟩ := hc; exact ⟨v, e, h1⟩
  · obtain ⟨v, e, h1, _⟩ := hc; exact ⟨v, e, h1⟩
  · obtain ⟨caps, e, _⟩ := hc; exact ⟨_, e, fnVal_one _ _⟩
  · exact hc
theorem get_tu {rd : Rd} {a : VP} {u : VT} {r r' : Ren} {y : a.ty.D} (h : (VP.tu a).get rd u r = some (y, r')) : ∃ v, u = .tu v ∧ a.get rd v r = some (y, r') ∧ a.chain = true := by
  have h' : cond a.chain ((asTu u).bind fun u => a.get rd u r) none = some (y, r') := h
  obtain ⟨h1, h'⟩ := cond_opt h'
  obtain ⟨v, hv, h'⟩ := Option.bind_eq_some_iff.1 h'
  exact ⟨v, asTu_some hv, h', h1⟩
theorem get_fn {rd : Rd} {f : Nat} {a : VP} {u : VT} {r r' : Ren} {y : a.ty.D} (h : (VP.fn f a).get rd u r = some (y, r')) : ∃ v, u = .fn f v ∧ a.get rd v r = some (y, r') := by
  have h' : ((asFn f u).bind fun u => a.get rd u r) = some (y, r') := h
  obtain ⟨v, hv, h'⟩ := Option.bind_eq_some_iff.1 h'
  exact ⟨v, asFn_some hv, h'⟩
theorem VP.get_le {rd : Rd} : ∀ {v : VP} {u : VT} {r r' : Ren} {y : v.ty.D}, v.get rd u r = some (y, r') → RenLe r r' ∧ (RenInj r → RenInj r') := by
  intro v
  induction v with
  | va t =>
    intro u r r' y h
    obtain ⟨_, rfl⟩ := get_va h
    exact ⟨⟨fun _ _ h => h, (fun o ho => by simp [ho]), fun o ho => ho⟩, fun h => ⟨h.m, h.e⟩⟩
  | rp t => intro u r r' y h; obtain ⟨_, rfl⟩ := get_rp h; exact ⟨.refl _, fun h => h⟩
  | nl => intro u r r' y h; obtain ⟨_, rfl⟩ := get_nl h; exact ⟨.refl _, fun h => h⟩
  | em => intro u r r' y h; obtain ⟨_, rfl⟩ := get_em h; exact ⟨.refl _, fun h => h⟩
  | np => intro u r r' y h; obtain ⟨_, rfl⟩ := get_np h; exact ⟨.refl _, fun h => h⟩
  | an => intro u r r' y h; obtain ⟨_, rfl⟩ := get_an h; exact ⟨.refl _, fun h => h⟩
  | sl o =>
    intro u r r' y h
    rcases get_sl h with ⟨q, hh, _, _, h1⟩ | ⟨_, h1⟩
    · obtain ⟨q1, _, q3⟩ := add_ok h1
      exact ⟨q1, q3⟩
    · obtain ⟨q1, _, q3⟩ := addE_ok h1
      exact ⟨q1, q3⟩
  | pt o =>
    intro u r r' y h
    obtain ⟨q, hh, _, _, h1⟩ := get_pt h
    obtain ⟨q1, _, q3⟩ := add_ok h1
    exact ⟨q1, q3⟩
  | un => intro u r r' y h; obtain ⟨_, rfl⟩ := get_un h; exact ⟨.refl _, fun h => h⟩
  | tu a ih => intro u r r' y h; obtain ⟨v, _, h, _⟩ := get_tu h; exact ih h
  | fn f a ih => intro u r r' y h; obtain ⟨v, _, h⟩ := get_fn h; exact ih h
  | pr a b iha ihb =>
    intro u r r' y h
    obtain ⟨q, r1, _, h1, h2⟩ := get_pr h
    obtain ⟨p1, p2⟩ := iha h1
    obtain ⟨q1, q2⟩ := ihb h2
    exact ⟨p1.trans q1, fun h => q2 (p2 h)⟩
structure Fin (S S' : Side) (ob ob' : List Obe) (M : Ren) : Prop where
  ok : ∀ b, S.ok b → S'.ok b
  con : ∀ o ∈ M.c, ∀ c, (getO ob o).c = some c → ∀ b ∈ S.fp o, S'.ok b
  hd : ∀ o o', M.m.find o = some o' → S'.hd o = S.hd o'
  gen : ∀ o, (getO ob' o).g = 0 ∧ (getO ob' o).h = 0
  nil : ∀ o ∈ M.e, S'.hd o = (none, 0) ∧ ∀ c, (getO ob' o).c = some c → ∃ t, c = .arr t [] false
  arr : ∀ o o' t xs nn, M.m.find o = some o' → (getO ob' o).c = some (.arr t xs nn) → ∃ nn', (getO ob o').c = some (.arr t xs nn')
  vr : ∀ o o' c u, M.m.find o = some o' → (getO ob' o).c = some c → c.held = some u → ∃ c' u', (getO ob o').c = some c' ∧ c'.held = some u'
  mp : ∀ o o' k t es, M.m.find o = some o' → (getO ob' o).c = some (.mp k t es) → (getO ob o').c = some (.mp k t es)
  nh : ∀ o t xs nn j, (getO ob' o).c ≠ some (.arh t xs nn j)
section
theorem rdOf_ok (x : X) : RdOk (rdOf x) x := ⟨fun _ _ h => h, fun _ _ _ => rfl⟩
variable {S S' : Side} {w : World} {C : Ctx} {x : X} {a : Act} {ob' : List Obe} {M : Ren} {rd : Rd}
theorem live_iff (R : RdOk rd x) {o g : Nat} (h : live rd.o o g = true) : ∃ c, (getO x.ob o).c = some c ∧ g = (getO x.ob o).g := by
  unfold live at h
  split at h
  · rename_i g' h' c he
    have he' := R.o o c (by rw [he])
    rw [← he', he]
    exact ⟨c, rfl, Nat.eq_of_beq_eq_true h⟩
  · cases h
theorem liveV_iff (R : RdOk rd x) {o g : Nat} (h : liveV rd.o o g = true) : ∃ c, (getO x.ob o).c = some c ∧ (∀ t xs nn, c ≠ .arr t xs nn) ∧ g = (getO x.ob o).g := by
  unfold liveV at h
  split at h
  · rename_i g' h' c he
    have he' := R.o o (.var c) (by rw [he])
    rw [← he', he]
    exact ⟨_, rfl, fun _ _ _ e => (by cases e), Nat.eq_of_beq_eq_true h⟩
  · rename_i g' h' c he
    have he' := R.o o (.rv c) (by rw [he])
    rw [← he', he]
    exact ⟨_, rfl, fun _ _ _ e => (by cases e), Nat.eq_of_beq_eq_true h⟩
  · rename_i g' h' k t es he
    have he' := R.o o (.mp k t es) (by rw [he])
    rw [← he', he]
    exact ⟨_, rfl, fun _ _ _ e => (by cases e), Nat.eq_of_beq_eq_true h⟩
  · cases h
theorem VP.get_sound (I : Inv C S x a w) (R : RdOk rd x) (F : Fin S S' x.ob ob' M) : ∀ {v : VP} {u : VT} {r r' : Ren} {y : v.ty.D} {cs : List Value}, v.get rd u r = some (y, r') → RenLe r' M → VTC S x.ob w u cs → VTC S' ob' w (v.mk y) cs := by
  intro v
  induction v with
  | va t =>
    intro u r r' y cs h hM hc
    obtain ⟨hy, rfl⟩ := get_va h
    have hro := Rd_val_refs I R hy hc
    refine RO_mono (fun b hb => ?_) (fun _ _ _ => rfl) hro
    rcases hb with hb | ⟨o, c, h1, h2, h3⟩
    · exact F.ok b hb
    · exact F.con o (hM.c o (by simp [h1])) c h2 b h3
  | rp t =>
    intro u r r' y cs h hM hc
    obtain ⟨rfl, _⟩ := get_rp h
    obtain ⟨b, off, ccs, q1, q2, q3, q4⟩ := hc
    exact ⟨b, off, ccs, q1, F.ok b q2, q3, RO_mono F.ok (fun _ _ _ => rfl) q4⟩
  | nl => intro u r r' y cs h hM hc; obtain ⟨rfl, _⟩ := get_nl h; exact hc
  | em => intro u r r' y cs h hM hc; obtain ⟨rfl, _⟩ := get_em h; exact hc
  | np => intro u r r' y cs h hM hc; obtain ⟨rfl, _⟩ := get_np h; exact hc
  | an => intro u r r' y cs h hM hc; exact one_cells (get_an h).1 hc
  | sl o =>
    intro u r r' y cs h hM hc
    rcases get_sl h with ⟨q, hh, rfl, hl, h1⟩ | ⟨rfl, h1⟩
    rotate_left
    · obtain ⟨n1, n2⟩ := F.nil o (hM.e _ (addE_ok h1).2.1)
      have hc' : cs = [.slice none 0 0] := hc
      refine ⟨_, hc', rfl, .inr ⟨(F.gen o).1.symm, Nat.zero_le _⟩, fun t xs nn hob _ _ => ?_, fun t xs nn j hob => absurd hob (F.nh _ _ _ _ _)⟩
      obtain ⟨t', e⟩ := n2 _ hob
      injection e with e1 e2 e3
      subst e1
      cases e2
      exact ⟨t, none, 0, 0, rfl, ⟨n1, rfl⟩, rfl⟩
    have hf := hM.m _ _ (add_ok h1).2.1
    obtain ⟨c, hc1, hg⟩ := live_iff R hl
    obtain ⟨v, rfl, k1, k2, k3⟩ := hc
    refine ⟨v, rfl, k1, .inr ⟨(F.gen o).1.symm, Nat.zero_le _⟩, fun t xs nn hob _ _ => ?_, fun t xs nn j hob => absurd hob (F.nh _ _ _ _ _)⟩
    obtain ⟨nn', hob'⟩ := F.arr o _ t xs nn hf hob
    obtain ⟨te, A, n, cap, j1, j2, j3⟩ := k3.1 t xs nn' hob' hg (.inl rfl)
    exact ⟨te, A, n, cap, j1, ⟨by rw [F.hd o _ hf]; exact j2.1, j2.2⟩, j3⟩
  | pt o =>
    intro u r r' y cs h hM hc
    obtain ⟨q, hh, rfl, hl, h1⟩ := get_pt h
    have hf := hM.m _ _ (add_ok h1).2.1
    obtain ⟨c, hc1, hu1, hg⟩ := liveV_iff R hl
    obtain ⟨v, rfl, k1, k2, k3, k4, k5⟩ := hc
    refine ⟨v, rfl, k1, .inr ⟨(F.gen o).1.symm, Nat.zero_le _⟩, fun c2 u2 hob hu2 _ => ?_, fun t xs nn hob _ _ => ?_, fun k t es hob _ => ?_, fun t xs nn j hob => absurd hob (F.nh _ _ _ _ _)⟩
    · obtain ⟨c', u', hc', hu'⟩ := F.vr o _ c2 u2 hf hob hu2
      obtain ⟨b, k, j1, j2, j3⟩ := k3 c' u' hc' hu' hg
      refine ⟨b, k, by rw [F.hd o _ hf]; exact j1, ?_, j3⟩
      simp only [VT.off] at j2 ⊢
      exact j2
    · obtain ⟨nn', hob'⟩ := F.arr o _ t xs nn hf hob
      rw [hc1] at hob'
      cases hob'
      exact absurd rfl (hu1 _ _ _)
    · obtain ⟨b, j1, j2⟩ := k5.1 k t es (F.mp o _ k t es hf hob) hg
      exact ⟨b, by rw [F.hd o _ hf]; exact j1, j2⟩
  | un =>
    intro u r r' y cs h hM hc
    obtain ⟨hu, _⟩ := get_un h
    rcases isUnV_true hu with rfl | ⟨z, rfl⟩ <;> exact hc
  | tu a ih => intro u r r' y cs h hM hc; obtain ⟨v, rfl, h, _⟩ := get_tu h; exact hc.elim
  | fn f a ih =>
    intro u r r' y cs h hM hc
    obtain ⟨v, rfl, h2⟩ := get_fn h
    obtain ⟨caps, e, hc⟩ := hc
    exact ⟨caps, e, ih h2 hM hc⟩
  | pr a b iha ihb =>
    intro u r r' y cs h hM hc
    obtain ⟨q, r1, hq, h1, h2⟩ := get_pr h
    have hc' : ∃ c1 c2, cs = c1 ++ c2 ∧ VTC S x.ob w q.1 c1 ∧ VTC S x.ob w q.2 c2 := by
      rcases splitPr_some hq with rfl | ⟨s, t, z, rfl, rfl⟩ <;> exact hc
    obtain ⟨c1, c2, e, hc1, hc2⟩ := hc'
    exact ⟨c1, c2, e, iha h1 ((VP.get_le h2).1.trans hM) hc1, ihb h2 hM hc2⟩
theorem VP.get_agg {rd : Rd} : ∀ {v : VP} {u : VT} {r r' : Ren} {y : v.ty.D}, v.get rd u r = some (y, r') → (v.mk y).isAgg = u.isAgg := by
  intro v u r r' y h
  cases v with
  | va t => rw [val_agg (get_va h).1]; rfl
  | rp t => rw [(get_rp h).1]; rfl
  | nl => rw [(get_nl h).1]; rfl
  | em => rw [(get_em h).1]; rfl
  | np => rw [(get_np h).1]; rfl
  | an => have := (get_an h).1; cases u <;> first | (cases this; done) | rfl
  | sl o => rcases get_sl h with ⟨q, hh, rfl, _⟩ | ⟨rfl, _⟩ <;> rfl
  | pt o => obtain ⟨q, hh, rfl, _⟩ := get_pt h; rfl
  | pr a b =>
    obtain ⟨q, r1, hq, _⟩ := get_pr h
    rcases splitPr_some hq with rfl | ⟨s, t, z, rfl, _⟩ <;> rfl
  | un => rcases isUnV_true (get_un h).1 with rfl | ⟨z, rfl⟩ <;> rfl
  | tu a => obtain ⟨v, rfl, _⟩ := get_tu h; rfl
  | fn f a => obtain ⟨v, rfl, _⟩ := get_fn h; rfl
theorem VP.get_soundT (I : Inv C S x a w) (R : RdOk rd x) (F : Fin S S' x.ob ob' M) : ∀ {v : VP} {u : VT} {r r' : Ren} {y : v.ty.D} {us : List Value}, v.get rd u r = some (y, r') → RenLe r' M → v.chain = true → VTT S x.ob w u us → VTT S' ob' w (v.mk y) us := by
  intro v
  induction v with
  | pr a b iha ihb =>
    intro u r r' y us h hM hch hc
    obtain ⟨q, r1, hq, h1, h2⟩ := get_pr h
    rcases splitPr_some hq with rfl | ⟨s, t, z, rfl, rfl⟩
    · cases us with
      | nil => exact hc.elim
      | cons z us =>
        obtain ⟨⟨cs, q1, q2⟩, q3⟩ := hc
        refine ⟨⟨cs, VP.get_sound I R F h1 ((VP.get_le h2).1.trans hM) q1, ?_⟩, ihb h2 hM hch q3⟩
        rw [q2]
        unfold mkV
        rw [VP.get_agg h1]
    · exact hc.elim
  | un =>
    intro u r r' y us h hM _ hc
    rcases isUnV_true (get_un h).1 with rfl | ⟨z, rfl⟩
    · exact hc
    · exact hc.elim
  | _ => intro u r r' y us h hM hch; cases hch
theorem VP.get_soundV (I : Inv C S x a w) (R : RdOk rd x) (F : Fin S S' x.ob ob' M) {v : VP} {u : VT} {r r' : Ren} {y : v.ty.D} {z : Value} (h : v.get rd u r = some (y, r')) (hM : RenLe r' M) (hz : VTV S x.ob w u z) : VTV S' ob' w (v.mk y) z := by
  by_cases htu : ∃ v', v = .tu v'
  · obtain ⟨v', rfl⟩ := htu
    obtain ⟨u', rfl, h', hch⟩ := get_tu h
    obtain ⟨us, rfl, hus⟩ := hz
    exact ⟨us, rfl, VP.get_soundT I R F h' hM hch hus⟩
  · have nt : (∀ q, u ≠ .tu q) ∧ u ≠ .ud := by
      constructor
      · rintro q rfl
        cases v with
        | va t => have := (get_va h).1; cases t <;> simp [Rd.val] at this
        | rp t => cases (get_rp h).1
        | nl => cases (get_nl h).1
        | em => cases (get_em h).1
        | np => cases (get_np h).1
        | an => cases (get_an h).1
        | sl o => rcases get_sl h with ⟨_, _, e, _⟩ | ⟨e, _⟩ <;> cases e
        | pt o => obtain ⟨_, _, e, _⟩ := get_pt h; cases e
        | pr a b => obtain ⟨_, _, e, _⟩ := get_pr h; cases e
        | un => cases (get_un h).1
        | tu a => exact htu ⟨a, rfl⟩
        | fn f a => obtain ⟨_, e, _⟩ := get_fn h; cases e
      · rintro rfl
        cases v with
        | va t => have := (get_va h).1; cases t <;> simp [Rd.val] at this
        | rp t => cases (get_rp h).1
        | nl => cases (get_nl h).1
        | em => cases (get_em h).1
        | np => cases (get_np h).1
        | an => cases (get_an h).1
        | sl o => rcases get_sl h with ⟨_, _, e, _⟩ | ⟨e, _⟩ <;> cases e
        | pt o => obtain ⟨_, _, e, _⟩ := get_pt h; cases e
        | pr a b => obtain ⟨_, _, e, _⟩ := get_pr h; cases e
        | un => cases (get_un h).1
        | tu a => exact htu ⟨a, rfl⟩
        | fn f a => obtain ⟨_, e, _⟩ := get_fn h; cases e
    obtain ⟨cs, hcs, e⟩ := VTV_of hz nt.1 nt.2
    have := VTC_VTV (VP.get_sound I R F h hM hcs)
    rw [e]
    have e2 : mkV (v.mk y) cs = mkV u cs := by unfold mkV; rw [VP.get_agg h]
    rwa [e2] at this
theorem mkSlots_len : ∀ {l : List (Nat × VP)} {y : (slotsTy l).D} {z : List (Option VT)}, (mkSlots l y z).length = z.length
  | [], _, _ => rfl
  | (t, v) :: l, y, z => by
    show (mkSlots l y.2 (z.set t (some (v.mk y.1)))).length = _
    rw [mkSlots_len, List.length_set]
theorem getSlots_le {rd : Rd} : ∀ {l : List (Nat × VP)} {r r' : Ren} {y : (slotsTy l).D}, getSlots rd l r = some (y, r') → RenLe r r' ∧ (RenInj r → RenInj r')
  | [], r, r', y, h => by
    have h' : some ((), r) = some (y, r') := h
    cases h'
    exact ⟨.refl _, fun h => h⟩
  | (t, v) :: l, r, r', y, h => by
    have h' : ((rd.v (.tmp t)).bind fun u => (v.get rd u r).bind fun x => (getSlots rd l x.2).map fun y => ((x.1, y.1), y.2)) = some (y, r') := h
    obtain ⟨u, hu, h'⟩ := Option.bind_eq_some_iff.1 h'
    obtain ⟨⟨y1, r1⟩, h1, h'⟩ := Option.bind_eq_some_iff.1 h'
    obtain ⟨⟨y2, r2⟩, h2, e⟩ := Option.map_eq_some_iff.1 h'
    cases e
    obtain ⟨p1, p2⟩ := VP.get_le h1
    obtain ⟨q1, q2⟩ := getSlots_le h2
    exact ⟨p1.trans q1, fun h => q2 (p2 h)⟩
theorem getSlots_sound (I : Inv C S x a w) (R : RdOk rd x) (F : Fin S S' x.ob ob' M) : ∀ {l : List (Nat × VP)} {r r' : Ren} {y : (slotsTy l).D} {z : List (Option VT)}, getSlots rd l r = some (y, r') → RenLe r' M → (∀ t v, getL z t = some v → ∃ u, a.tmps[t]? = some u ∧ VTV S' ob' w v u) →
    ∀ t v, getL (mkSlots l y z) t = some v → ∃ u, a.tmps[t]? = some u ∧ VTV S' ob' w v u
  | [], r, r', y, z, h, hM, hz, t, v, ht => hz t v ht
  | (t0, v0) :: l, r, r', y, z, h, hM, hz, t, v, ht => by
    have h' : ((rd.v (.tmp t0)).bind fun u => (v0.get rd u r).bind fun x' => (getSlots rd l x'.2).map fun y => ((x'.1, y.1), y.2)) = some (y, r') := h
    obtain ⟨u, hu, h'⟩ := Option.bind_eq_some_iff.1 h'
    obtain ⟨⟨y1, r1⟩, h1, h'⟩ := Option.bind_eq_some_iff.1 h'
    obtain ⟨⟨y2, r2⟩, h2, e⟩ := Option.map_eq_some_iff.1 h'
    cases e
    refine getSlots_sound I R F h2 hM (fun t v ht => ?_) t v ht
    rw [getL_set] at ht
    split at ht
    · rename_i e
      obtain ⟨rfl, _⟩ := e
      cases ht
      obtain ⟨z0, hz0, hv0⟩ := I.slots t0 u (R.v _ _ hu)
      exact ⟨z0, hz0, VP.get_soundV I R F h1 ((getSlots_le h2).1.trans hM) hv0⟩
    · exact hz t v ht
def From (rd : Rd) (x : X) (M : Ren) (o : Nat) (e : Obe) : Prop := e.g = 0 ∧ e.h = 0 ∧ ∀ c, e.c = some c → (o ∈ M.e ∧ ∃ t, c = .arr t [] false) ∨ ∃ o', M.m.find o = some o' ∧ match c with
  | .arr t xs nn => ∃ nn', (getO x.ob o').c = some (.arr t xs nn') ∧ (nn = true → nn' = true)
  | .var v => ∃ u vp r0 r1, ∃ y : (VP.ty vp).D, (getO x.ob o').c = some (.var u) ∧ VP.get rd vp u r0 = some (y, r1) ∧ v = VP.mk vp y ∧ RenLe r1 M
  | .rv v => ∃ c' u vp r0 r1, ∃ y : (VP.ty vp).D, (getO x.ob o').c = some c' ∧ c'.held = some u ∧ VP.get rd vp u r0 = some (y, r1) ∧ v = VP.mk vp y ∧ RenLe r1 M
  | .mp k t es => (getO x.ob o').c = some (.mp k t es)
  | .arh _ _ _ _ => False
theorem getObjs_le {rd : Rd} : ∀ {l : List (Nat × OP)} {r r' : Ren} {y : (objsTy l).D}, getObjs rd l r = some (y, r') → RenLe r r' ∧ (RenInj r → RenInj r')
  | [], r, r', y, h => by
    have h' : some ((), r) = some (y, r') := h
    cases h'
    exact ⟨.refl _, fun h => h⟩
  | (o, .arr t nn) :: l, r, r', y, h => by
    simp only [getObjs] at h
    cases hme : memN r.e o <;> rw [hme] at h <;> simp only [cond_true, cond_false] at h
    · obtain ⟨o', ho', h⟩ := Option.bind_eq_some_iff.1 h
      split at h
      · obtain ⟨x1, h1, h⟩ := Option.bind_eq_some_iff.1 h
        obtain ⟨⟨y2, r2⟩, h2, e⟩ := Option.map_eq_some_iff.1 h
        cases e
        exact getObjs_le h2
      · cases h
    · cases nn
      · obtain ⟨⟨y2, r2⟩, h2, e⟩ := Option.map_eq_some_iff.1 h
        cases e
        exact getObjs_le h2
      · cases h
  | (o, .var v) :: l, r, r', y, h => by
    simp only [getObjs] at h
    obtain ⟨o', ho', h⟩ := Option.bind_eq_some_iff.1 h
    split at h
    · obtain ⟨⟨y1, r1⟩, h1, h⟩ := Option.bind_eq_some_iff.1 h
      obtain ⟨⟨y2, r2⟩, h2, e⟩ := Option.map_eq_some_iff.1 h
      cases e
      obtain ⟨p1, p2⟩ := VP.get_le h1
      obtain ⟨q1, q2⟩ := getObjs_le h2
      exact ⟨p1.trans q1, fun h => q2 (p2 h)⟩
    · cases h
  | (o, .rv v) :: l, r, r', y, h => by
    simp only [getObjs] at h
    obtain ⟨o', ho', h⟩ := Option.bind_eq_some_iff.1 h
    split at h
    · obtain ⟨⟨y1, r1⟩, h1, h⟩ := Option.bind_eq_some_iff.1 h
      obtain ⟨⟨y2, r2⟩, h2, e⟩ := Option.map_eq_some_iff.1 h
      cases e
      obtain ⟨p1, p2⟩ := VP.get_le h1
      obtain ⟨q1, q2⟩ := getObjs_le h2
      exact ⟨p1.trans q1, fun h => q2 (p2 h)⟩
    · obtain ⟨⟨y1, r1⟩, h1, h⟩ := Option.bind_eq_some_iff.1 h
      obtain ⟨⟨y2, r2⟩, h2, e⟩ := Option.map_eq_some_iff.1 h
      cases e
      obtain ⟨p1, p2⟩ := VP.get_le h1
      obtain ⟨q1, q2⟩ := getObjs_le h2
      exact ⟨p1.trans q1, fun h => q2 (p2 h)⟩
    · cases h
  | (o, .mp k t) :: l, r, r', y, h => by
    simp only [getObjs] at h
    obtain ⟨o', ho', h⟩ := Option.bind_eq_some_iff.1 h
    split at h
    · obtain ⟨x1, h1, h⟩ := Option.bind_eq_some_iff.1 h
      obtain ⟨⟨y2, r2⟩, h2, e⟩ := Option.map_eq_some_iff.1 h
      cases e
      exact getObjs_le h2
    · cases h
theorem getObjs_from (R : RdOk rd x) : ∀ {l : List (Nat × OP)} {r r' : Ren} {y : (objsTy l).D} {z : List Obe}, getObjs rd l r = some (y, r') → RenLe r' M → (∀ o, From rd x M o (getO z o)) → ∀ o, From rd x M o (getO (mkObjs l y z) o)
  | [], r, r', y, z, h, hM, hz, o => hz o
  | (o0, .arr t nn) :: l, r, r', y, z, h, hM, hz, o => by
    simp only [getObjs] at h
    cases hme : memN r.e o0 <;> rw [hme] at h <;> simp only [cond_true, cond_false] at h
    · obtain ⟨o', ho', h⟩ := Option.bind_eq_some_iff.1 h
      split at h
      · rename_i t' xs nn' hob
        obtain ⟨x1, h1, h⟩ := Option.bind_eq_some_iff.1 h
        obtain ⟨⟨y2, r2⟩, h2, e⟩ := Option.map_eq_some_iff.1 h
        cases e
        obtain ⟨hnn, h1⟩ := cond_opt h1
        have := Dy_as h1
        injection this with e1 e2
        injection e1 with e1
        subst e1
        cases e2
        refine getObjs_from R h2 hM (fun o => ?_) o
        rw [getO_set]
        split
        · rename_i e
          obtain ⟨rfl, _⟩ := e
          refine ⟨rfl, rfl, fun c hc => .inr ?_⟩
          cases hc
          refine ⟨o', hM.m _ _ ((getObjs_le h2).1.m _ _ ho'), nn', by rw [← R.o _ _ hob]; exact hob, fun hn => ?_⟩
          subst hn
          simpa using hnn
        · exact hz o
      · cases h
    · cases nn
      · obtain ⟨⟨y2, r2⟩, h2, e⟩ := Option.map_eq_some_iff.1 h
        cases e
        refine getObjs_from R h2 hM (fun o => ?_) o
        rw [getO_set]
        split
        · rename_i e
          obtain ⟨rfl, _⟩ := e
          refine ⟨rfl, rfl, fun c hc => .inl ?_⟩
          cases hc
          exact ⟨hM.e _ ((getObjs_le h2).1.e _ (memN_iff.1 hme)), t, rfl⟩
        · exact hz o
      · cases h
  | (o0, .var v) :: l, r, r', y, z, h, hM, hz, o => by
    simp only [getObjs] at h
    obtain ⟨o', ho', h⟩ := Option.bind_eq_some_iff.1 h
    split at h
    · rename_i u hob
      obtain ⟨⟨y1, r1⟩, h1, h⟩ := Option.bind_eq_some_iff.1 h
      obtain ⟨⟨y2, r2⟩, h2, e⟩ := Option.map_eq_some_iff.1 h
      cases e
      refine getObjs_from R h2 hM (fun o => ?_) o
      rw [getO_set]
      split
      · rename_i e
        obtain ⟨rfl, _⟩ := e
        refine ⟨rfl, rfl, fun c hc => .inr ?_⟩
        cases hc
        have hr1 : RenLe r1 M := (getObjs_le h2).1.trans hM
        exact ⟨o', hr1.m _ _ ((VP.get_le h1).1.m _ _ ho'), u, v, r, r1, y1, by rw [← R.o _ _ hob]; exact hob, h1, rfl, hr1⟩
      · exact hz o
    · cases h
  | (o0, .rv v) :: l, r, r', y, z, h, hM, hz, o => by
    simp only [getObjs] at h
    obtain ⟨o', ho', h⟩ := Option.bind_eq_some_iff.1 h
    have go : ∀ (c' : Ob) (u : VT), (rd.o o').c = some c' → c'.held = some u → ((v.get rd u r).bind fun x => (getObjs rd l x.2).map fun y => ((x.1, y.1), y.2)) = some (y, r') → From rd x M o (getO (mkObjs ((o0, .rv v) :: l) y z) o) := by
      intro c' u hob hu h
      obtain ⟨⟨y1, r1⟩, h1, h⟩ := Option.bind_eq_some_iff.1 h
      obtain ⟨⟨y2, r2⟩, h2, e⟩ := Option.map_eq_some_iff.1 h
      cases e
      refine getObjs_from R h2 hM (fun o => ?_) o
      rw [getO_set]
      split
      · rename_i e
        obtain ⟨rfl, _⟩ := e
        refine ⟨rfl, rfl, fun c hc => .inr ?_⟩
        cases hc
        have hr1 : RenLe r1 M := (getObjs_le h2).1.trans hM
        exact ⟨o', hr1.m _ _ ((VP.get_le h1).1.m _ _ ho'), c', u, v, r, r1, y1, by rw [← R.o _ _ hob]; exact hob, hu, h1, rfl, hr1⟩
      · exact hz o
    split at h
    · rename_i u hob
      exact go _ u hob rfl h
    · rename_i u hob
      exact go _ u hob rfl h
    · cases h
  | (o0, .mp k t) :: l, r, r', y, z, h, hM, hz, o => by
    simp only [getObjs] at h
    obtain ⟨o', ho', h⟩ := Option.bind_eq_some_iff.1 h
    split at h
    · rename_i k' t' es hob
      obtain ⟨x1, h1, h⟩ := Option.bind_eq_some_iff.1 h
      obtain ⟨⟨y2, r2⟩, h2, e⟩ := Option.map_eq_some_iff.1 h
      cases e
      have := Dy_as h1
      injection this with e1 e2
      injection e1 with e1
      injection e1 with e1 e3
      injection e1 with e1
      subst e1
      subst e3
      cases e2
      refine getObjs_from R h2 hM (fun o => ?_) o
      rw [getO_set]
      split
      · rename_i e
        obtain ⟨rfl, _⟩ := e
        refine ⟨rfl, rfl, fun c hc => .inr ?_⟩
        cases hc
        exact ⟨o', hM.m _ _ ((getObjs_le h2).1.m _ _ ho'), by rw [← R.o _ _ hob]; exact hob⟩
      · exact hz o
    · cases h
theorem getO_rep (m o : Nat) : getO (List.replicate m (⟨0, 0, none⟩ : Obe)) o = ⟨0, 0, none⟩ := by
  induction m generalizing o with
  | zero => rfl
  | succ m ih => cases o with
    | zero => rfl
    | succ o => exact ih o
theorem getL_rep {α : Type} (m o : Nat) : getL (List.replicate m (none : Option α)) o = none := by
  induction m generalizing o with
  | zero => rfl
  | succ m ih => cases o with
    | zero => rfl
    | succ o => exact ih o
theorem idR_ok (R : RdOk rd x) : ∀ {fx : List Nat} {m : RenL}, idR rd fx = some m → (∀ o o', m.find o = some o' → o' = o ∧ o ∈ fx ∧ (getO x.ob o).g = 0 ∧ ∃ c, (getO x.ob o).c = some c) ∧ ∀ o ∈ fx, m.find o = some o
  | [], m, h => by
    have h' : some ([] : RenL) = some m := h
    cases h'
    exact ⟨fun o o' h => by simp [RenL.find] at h, fun o ho => by cases ho⟩
  | o0 :: fx, m, h => by
    unfold idR at h
    split at h
    · rename_i h' c he
      obtain ⟨m', h1, rfl⟩ := Option.map_eq_some_iff.1 h
      have e := R.o o0 c (by rw [he])
      rw [he] at e
      obtain ⟨k1, k2⟩ := idR_ok R h1
      refine ⟨fun o o' hf => ?_, fun o ho => ?_⟩
      · have hf' : cond (Nat.beq o0 o) (some o0) (RenL.find m' o) = some o' := hf
        cases hb : Nat.beq o0 o <;> rw [hb] at hf'
        · obtain ⟨q1, q2, q3⟩ := k1 o o' hf'
          exact ⟨q1, by simp [q2], q3⟩
        · cases hf'
          have := Nat.eq_of_beq_eq_true hb
          subst this
          exact ⟨rfl, by simp, by rw [← e], c, by rw [← e]⟩
      · show cond (Nat.beq o0 o) (some o0) (RenL.find m' o) = some o
        cases hb : Nat.beq o0 o
        · rcases List.mem_cons.1 ho with rfl | ho
          · rw [Nat.beq_refl] at hb; cases hb
          · exact k2 o ho
        · have := Nat.eq_of_beq_eq_true hb
          subst this
          rfl
    · cases h
theorem allArr_ok {x : X} {rd : Rd} (R : RdOk rd x) : ∀ {l : List Nat}, allArr rd l = true → ∀ o ∈ l, ∀ c, (getO x.ob o).c = some c → c.isRv = false
  | q :: l, h, o, ho, c, hc => by
    unfold allArr at h
    split at h
    · rename_i t xs nn hq
      rcases List.mem_cons.1 ho with rfl | ho
      · have := R.o o _ hq
        rw [← this, hq] at hc
        cases hc
        rfl
      · exact allArr_ok R h o ho c hc
    · cases h
structure Matched (S S' : Side) (x : X) (a : Act) (w : World) (rd : Rd) (fx : List Nat) (p : Pat) (d : p.ty.D) (M : Ren) : Prop where
  slots : ∀ t v, getL (p.mk' d).sl t = some v → ∃ u, a.tmps[t]? = some u ∧ VTV S' (p.mk' d).ob w v u
  objs : ∀ o c, (getO (p.mk' d).ob o).c = some c → ObR S' (p.mk' d).ob w o c ∧ (S'.fp o).Nodup ∧ ∀ b ∈ S'.fp o, ¬ S'.ok b ∧ b < w.heap.size ∧ ∃ o' c', M.m.find o = some o' ∧ (getO x.ob o').c = some c' ∧ b ∈ S.fp o' ∧ (c'.isRv = true → c.isRv = true)
  sep : ∀ o o' c c', o ≠ o' → (getO (p.mk' d).ob o).c = some c → (getO (p.mk' d).ob o').c = some c' → ∀ b ∈ S'.fp o, b ∉ S'.fp o'
  okb : ∀ b, S'.ok b → b < w.heap.size
  ok : ∀ b, S'.ok b ↔ okB S x.ob M.c b
  hd : ∀ o o', M.m.find o = some o' → S'.hd o = S.hd o'
  fp : ∀ o o', M.m.find o = some o' → S'.fp o = S.fp o'
  nhd : ∀ o ∈ M.e, S'.hd o = (none, 0) ∧ S'.fp o = []
  inj : RenInj M
  con : apartN M.c M.m.imgs = true
  arr : ∀ o ∈ M.c, ∀ c, (getO x.ob o).c = some c → c.isRv = false
  src : ∀ o, From rd x M o (getO (p.mk' d).ob o)
  ids : ∀ o ∈ fx, M.m.find o = some o ∧ (getO x.ob o).g = 0 ∧ ∃ c, (getO x.ob o).c = some c
theorem match_sound {p : Pat} {fx : List Nat} {d : p.ty.D} (h : p.getR fx rd = some (d, M)) (I : Inv C S x a w) (R : RdOk rd x) : ∃ S', Matched S S' x a w rd fx p d M := by
  have h' : ((idR rd fx).bind fun m => (getSlots rd p.sl ⟨m, [], []⟩).bind fun z => (getObjs rd p.ob z.2).bind fun y => cond (apartN y.2.c y.2.m.imgs && allArr rd y.2.c) (some ((z.1, y.1), y.2)) none) = some (d, M) := h
  obtain ⟨m0, h0, h'⟩ := Option.bind_eq_some_iff.1 h'
  obtain ⟨⟨ys, r1⟩, h1, h'⟩ := Option.bind_eq_some_iff.1 h'
  obtain ⟨⟨yo, M'⟩, h2, h'⟩ := Option.bind_eq_some_iff.1 h'
  obtain ⟨hap, hh⟩ := cond_some h'
  rw [Bool.and_eq_true] at hap
  obtain ⟨hap, harr⟩ := hap
  injection hh with e1 e2
  have e2' := e2.symm
  subst e1
  subst e2'
  obtain ⟨i1, i2⟩ := idR_ok R h0
  have hle : RenLe ⟨m0, [], []⟩ M := (getSlots_le h1).1.trans (getObjs_le h2).1
  have hinj : RenInj M := (getObjs_le h2).2 ((getSlots_le h1).2 ⟨fun a a' b h h' => by
    rw [← (i1 _ _ h).1, ← (i1 _ _ h').1], fun o ho => by cases ho⟩)
  have hap' := apartN_iff.1 hap
  have hfrom : ∀ o, From rd x M o (getO (mkObjs p.ob yo (List.replicate p.m ⟨0, 0, none⟩)) o) := getObjs_from R h2 (.refl _) fun o => by
    rw [getO_rep]
    exact ⟨rfl, rfl, fun c hc => by cases hc⟩
  let S' : Side := ⟨fun b => okB S x.ob M.c b, fun o => match M.m.find o with | some o' => S.hd o' | none => (none, 0), fun o => match M.m.find o with | some o' => S.fp o' | none => []⟩
  have ehd : ∀ o o', M.m.find o = some o' → S'.hd o = S.hd o' := fun o o' e => by simp only [S', e]
  have efp : ∀ o o', M.m.find o = some o' → S'.fp o = S.fp o' := fun o o' e => by simp only [S', e]
  have nhd : ∀ o ∈ M.e, S'.hd o = (none, 0) := fun o ho => by simp only [S', hinj.e o ho]
  have nfp : ∀ o ∈ M.e, S'.fp o = [] := fun o ho => by simp only [S', hinj.e o ho]
  have no : ∀ {o o'}, o ∈ M.e → M.m.find o = some o' → False := fun ho hf => by rw [hinj.e _ ho] at hf; cases hf
  have F : Fin S S' x.ob (mkObjs p.ob yo (List.replicate p.m ⟨0, 0, none⟩)) M := by
    refine ⟨fun b hb => .inl hb, fun o ho c hc b hb => .inr ⟨o, c, ho, hc, hb⟩, ehd, fun o => ⟨(hfrom o).1, (hfrom o).2.1⟩, fun o ho => ⟨nhd o ho, fun c hc => ?_⟩, fun o o' t xs nn hf hc => ?_, fun o o' c u hf hc hu => ?_, fun o o' k t es hf hc => ?_, fun o t xs nn j hc => ?_⟩
    · rcases (hfrom o).2.2 _ hc with ⟨_, q⟩ | ⟨o2, hf2, _⟩
      · exact q
      · exact (no ho hf2).elim
    · rcases (hfrom o).2.2 _ hc with ⟨ho, _⟩ | ⟨o2, hf2, nn', q, _⟩
      · exact (no ho hf).elim
      · rw [hf] at hf2
        cases hf2
        exact ⟨nn', q⟩
    · rcases (hfrom o).2.2 _ hc with ⟨ho, _⟩ | ⟨o2, hf2, q⟩
      · exact (no ho hf).elim
      · rw [hf] at hf2
        cases hf2
        cases c with
        | arr t xs nn => cases hu
        | var v => obtain ⟨u', vp, r0, r1, y, q, _⟩ := q; exact ⟨_, u', q, rfl⟩
        | rv v => obtain ⟨c', u', vp, r0, r1, y, q, q2, _⟩ := q; exact ⟨c', u', q, q2⟩
        | mp k t es => cases hu
        | arh t xs nn j => cases hu
    · rcases (hfrom o).2.2 _ hc with ⟨ho, _⟩ | ⟨o2, hf2, q⟩
      · exact (no ho hf).elim
      · rw [hf] at hf2
        cases hf2
        exact q
    · rcases (hfrom o).2.2 _ hc with ⟨_, t1, q⟩ | ⟨o2, hf2, q⟩
      · cases q
      · exact q.elim
  have src : ∀ o c, (getO (mkObjs p.ob yo (List.replicate p.m ⟨0, 0, none⟩)) o).c = some c → (o ∈ M.e) ∨ ∃ o' c', M.m.find o = some o' ∧ (getO x.ob o').c = some c' ∧ (c'.isRv = true → c.isRv = true) := by
    intro o c hc
    rcases (hfrom o).2.2 c hc with ⟨ho, _⟩ | ⟨o', hf, q⟩
    · exact .inl ho
    · refine .inr ?_
      cases c with
      | arr t xs nn => obtain ⟨nn', q, _⟩ := q; exact ⟨o', _, hf, q, fun h => by cases h⟩
      | var v => obtain ⟨u', vp, r0, r1, y, q, _⟩ := q; exact ⟨o', _, hf, q, fun h => by cases h⟩
      | rv v => obtain ⟨c', u', vp, r0, r1, y, q, _⟩ := q; exact ⟨o', _, hf, q, fun _ => rfl⟩
      | mp k t es => exact ⟨o', _, hf, q, fun h => by cases h⟩
      | arh t xs nn j => exact q.elim
  refine ⟨S', ?_, ?_, ?_, ?_, fun b => Iff.rfl, ehd, efp, fun o ho => ⟨nhd o ho, nfp o ho⟩, hinj, hap, allArr_ok R harr, hfrom, fun o ho => ⟨hle.m _ _ (i2 o ho), (i1 o o (i2 o ho)).2.2⟩⟩
  · exact getSlots_sound I R F h1 (getObjs_le h2).1 fun t v ht => by rw [getL_rep] at ht; cases ht
  · intro o c hc
    rcases (hfrom o).2.2 c hc with ⟨ho, t, rfl⟩ | ⟨o', hf, q⟩
    · refine ⟨?_, by rw [nfp o ho]; exact List.nodup_nil, fun b hb => by rw [nfp o ho] at hb; cases hb⟩
      unfold ObR
      rw [nhd o ho, nfp o ho]
      exact ⟨.inl ⟨rfl, rfl, rfl⟩, fun h => by cases h⟩
    · obtain ⟨o2, c', hf2, hc', hrv⟩ := (src o c hc).resolve_left (fun ho => no ho hf)
      rw [hf] at hf2
      cases hf2
      obtain ⟨k1, k2, k3⟩ := I.objs o' c' hc'
      refine ⟨?_, by rw [efp o o' hf]; exact k2, fun b hb => ?_⟩
      · cases c with
        | arr t xs nn =>
          obtain ⟨nn', q1, q2⟩ := q
          rw [hc'] at q1
          cases q1
          obtain ⟨j1, j2⟩ := k1
          unfold ObR
          rw [ehd o o' hf, efp o o' hf]
          exact ⟨j1, fun hnn => j2 (q2 hnn)⟩
        | var v =>
          obtain ⟨u', vp, r0, r1, y, q1, q2, rfl, q4⟩ := q
          rw [hc'] at q1
          cases q1
          obtain ⟨b, l, j1, j2, j3, j4⟩ := k1
          unfold ObR
          rw [ehd o o' hf, efp o o' hf]
          exact ⟨b, l, j1, j2, VP.get_sound I R F q2 q4 j3, j4⟩
        | rv v =>
          obtain ⟨c2, u', vp, r0, r1, y, q1, q0, q2, rfl, q4⟩ := q
          rw [hc'] at q1
          cases q1
          have k1' : ∃ b l, (S.hd o').1 = some ⟨b, 0, none⟩ ∧ hv w b = some l ∧ VTC S x.ob w u' l ∧ S.fp o' = [b] := by
            cases c' with
            | arr t xs nn => cases q0
            | var v => cases q0; exact k1
            | rv v => cases q0; exact k1
            | mp k t es => cases q0
            | arh t xs nn j => cases q0
          obtain ⟨b, l, j1, j2, j3, j4⟩ := k1'
          unfold ObR
          rw [ehd o o' hf, efp o o' hf]
          exact ⟨b, l, j1, j2, VP.get_sound I R F q2 q4 j3, j4⟩
        | mp k t es =>
          rw [hc'] at q
          cases q
          unfold ObR
          rw [ehd o o' hf, efp o o' hf]
          exact k1
        | arh t xs nn j => exact q.elim
      · rw [efp o o' hf] at hb
        refine ⟨?_, (k3 b hb).2.1, o', c', hf, hc', hb, hrv⟩
        rintro (hb' | ⟨o3, c3, g1, g2, g3⟩)
        · exact (k3 b hb).1 hb'
        · have hne : o' ≠ o3 := fun e => hap' o3 g1 (e ▸ find_imgs hf)
          exact I.sep o' o3 c' c3 hne hc' g2 b hb g3
  · intro o1 o2 c1 c2 hne hc1 hc2 b hb1 hb2
    rcases src o1 c1 hc1 with ho | ⟨o1', c1', hf1, q1, _⟩
    · rw [nfp o1 ho] at hb1; cases hb1
    rcases src o2 c2 hc2 with ho | ⟨o2', c2', hf2, q2, _⟩
    · rw [nfp o2 ho] at hb2; cases hb2
    rw [efp _ _ hf1] at hb1
    rw [efp _ _ hf2] at hb2
    exact I.sep o1' o2' c1' c2' (fun e => hne (hinj.m _ _ _ hf1 (e ▸ hf2))) q1 q2 b hb1 hb2
  · rintro b (hb | ⟨o, c, _, h4, h5⟩)
    · exact I.okb b hb
    · exact ((I.objs o c h4).2.2 b h5).2.1
theorem Matched.okn {p : Pat} {fx : List Nat} {d : p.ty.D} (Q : Matched S S' x a w rd fx p d M) (I : Inv C S x a w) : ∀ b, S'.ok b → b < w.heap.size ∧ (C.ok0 b ∨ C.w0.heap.size ≤ b ∨ C.don b) := by
  intro b hb
  refine ⟨Q.okb b hb, ?_⟩
  rcases (Q.ok b).1 hb with h | ⟨o, c, h1, h2, h3⟩
  · exact (I.okn b h).2
  · rcases ((I.objs o c h2).2.2 b h3).2.2 with h | h | h
    · exact .inr (.inl h)
    · exact .inr (.inr h)
    · rw [Q.arr o h1 c h2] at h; cases h
theorem Matched.fix {p : Pat} {fx : List Nat} {d : p.ty.D} (Q : Matched S S' x a w rd fx p d M) (I : Inv C S x a w) (hfx : ∀ o, C.fx o → o ∈ fx) : ∀ o c, C.fx o → (getO (p.mk' d).ob o).c = some c → S'.hd o = C.hd0 o ∧ c.shape = C.sh0 o := by
  intro o c hf hc
  obtain ⟨i1, i2, c0, i3⟩ := Q.ids o (hfx o hf)
  obtain ⟨f1, f2⟩ := I.fix o c0 hf i2 i3
  refine ⟨(Q.hd o o i1).trans f1, ?_⟩
  rw [← f2]
  rcases (Q.src o).2.2 c hc with ⟨ho, _⟩ | ⟨o', hf', q⟩
  · have := Q.inj.e o ho
    rw [i1] at this
    cases this
  · rw [i1] at hf'
    cases hf'
    cases c with
    | arr t xs nn =>
      obtain ⟨nn', q1, _⟩ := q
      rw [i3] at q1
      cases q1
      rfl
    | var v =>
      obtain ⟨u, _, _, _, _, q1, _⟩ := q
      rw [i3] at q1
      cases q1
      rfl
    | rv v =>
      obtain ⟨c', u, _, _, _, _, q1, q2, _⟩ := q
      rw [i3] at q1
      cases q1
      cases c0 with
      | arr t xs nn => cases q2
      | var v => rfl
      | rv v => rfl
      | mp k t es => cases q2
      | arh t xs nn j => cases q2
    | mp k t es =>
      rw [i3] at q
      cases q
      rfl
    | arh t xs nn j => exact q.elim
theorem jump_sound {p : Pat} {fx : List Nat} {d : p.ty.D} (h : p.getR fx (rdOf x) = some (d, M)) (hn : x.sl.length = p.n) (I : Inv C S x a w) (hfx : ∀ o, C.fx o → o ∈ fx) : ∃ S', Inv C S' (p.mk' d) a w := by
  obtain ⟨S', Q⟩ := match_sound h I (rdOf_ok x)
  refine ⟨S', I.dfr, ?_, Q.slots, ?_, Q.sep, Q.okn I, I.kept, ?_⟩
  · show a.tmps.size = (mkSlots p.sl d.1 (List.replicate p.n none)).length
    rw [mkSlots_len, List.length_replicate, ← hn]
    exact I.size
  · intro o c hc
    obtain ⟨k1, k2, k3⟩ := Q.objs o c hc
    refine ⟨k1, k2, fun b hb => ?_⟩
    obtain ⟨j1, j2, o', c', j3, j4, j5, j6⟩ := k3 b hb
    exact ⟨j1, j2, ((I.objs o' c' j4).2.2 b j5).2.2.imp_right fun h => h.imp_right j6⟩
  · intro o c hf _ hc
    exact Q.fix I hfx o c hf hc
end
end Go.Vm
set_option linter.unusedVariables false
set_option linter.unusedSimpArgs false
namespace Go.Vm
open Go Go.RowKit
def VT.lay : VT → Ty
  | .va t _ => t.lay
  | .pr a b => .pr a.lay b.lay
  | .un => .un
  | _ => .op
def Ty.lfld : Nat → Ty → Option Ty
  | 0, .pr a _ => some a
  | j + 1, .pr _ b => Ty.lfld j b
  | _, _ => none
def Ty.lfoff : Nat → Ty → Option Nat
  | 0, .pr _ _ => some 0
  | j + 1, .pr a b => (Ty.lfoff j b).map (a.cells + ·)
  | _, _ => none
theorem lay_cellsT : ∀ (t : Ty), t.lay.cells = t.cells
  | .pr a b => by simp [Ty.lay, Ty.cells, lay_cellsT a, lay_cellsT b]
  | .un | .int _ | .bool | .str | .sl _ | .op => rfl
theorem lay_cells : ∀ (v : VT), v.lay.cells = v.cells
  | .va t _ => lay_cellsT t
  | .pr a b => by simp [VT.lay, VT.cells, Ty.cells, lay_cells a, lay_cells b]
  | .un | .rp _ _ | .nl | .em | .np | .sl _ _ _ _ _ | .pt _ _ _ _ | .tu _ | .fn _ _ | .an | .ud => rfl
theorem foff_layT : ∀ (t : Ty) (j : Nat) (x : t.D), VT.foff j (.va t x) = Ty.lfoff j t.lay
  | .pr a b, 0, x => rfl
  | .pr a b, j + 1, x => by
    show (VT.foff j (.va b x.2)).map (a.cells + ·) = (Ty.lfoff j b.lay).map (a.lay.cells + ·)
    rw [foff_layT b j x.2, lay_cellsT]
  | .un, j, x | .int _, j, x | .bool, j, x | .str, j, x | .sl _, j, x | .op, j, x => by cases j <;> rfl
theorem foff_lay : ∀ (v : VT) (j : Nat), VT.foff j v = Ty.lfoff j v.lay
  | .va t x, j => foff_layT t j x
  | .pr a b, 0 => rfl
  | .pr a b, j + 1 => by
    show (VT.foff j b).map (a.cells + ·) = (Ty.lfoff j b.lay).map (a.lay.cells + ·)
    rw [foff_lay b j, lay_cells]
  | .un, j | .rp _ _, j | .nl, j | .em, j | .np, j | .sl _ _ _ _ _, j | .pt _ _ _ _, j | .tu _, j | .fn _ _, j | .an, j | .ud, j => by cases j <;> rfl
theorem fld_layT : ∀ (t : Ty) (j : Nat) (x : t.D), (VT.fld j (.va t x)).map VT.lay = Ty.lfld j t.lay
  | .pr a b, 0, x => rfl
  | .pr a b, j + 1, x => fld_layT b j x.2
  | .un, j, x | .int _, j, x | .bool, j, x | .str, j, x | .sl _, j, x | .op, j, x => by cases j <;> rfl
theorem fld_lay : ∀ (v : VT) (j : Nat), (VT.fld j v).map VT.lay = Ty.lfld j v.lay
  | .va t x, j => fld_layT t j x
  | .pr a b, 0 => rfl
  | .pr a b, j + 1 => fld_lay b j
  | .un, j | .rp _ _, j | .nl, j | .em, j | .np, j | .sl _ _ _ _ _, j | .pt _ _ _ _, j | .tu _, j | .fn _ _, j | .an, j | .ud, j => by cases j <;> rfl
theorem off_lay : ∀ (p : List Stp) {v v' : VT}, v.lay = v'.lay → VT.off p v = VT.off p v'
  | [], v, v', h => by simp only [VT.off]
  | .f j :: p, v, v', h => by
    simp only [VT.off]
    rw [foff_lay v, foff_lay v', h]
    congr 1
    funext k
    have h1 := fld_lay v j
    have h2 := fld_lay v' j
    rw [h] at h1
    rw [← h2] at h1
    cases e1 : VT.fld j v with
    | none =>
      cases e2 : VT.fld j v' with
      | none => rfl
      | some u' => rw [e1, e2] at h1; cases h1
    | some u =>
      cases e2 : VT.fld j v' with
      | none => rw [e1, e2] at h1; cases h1
      | some u' =>
        rw [e1, e2] at h1
        simp only [Option.map_some, Option.some.injEq] at h1
        simp only [Option.bind_some]
        rw [off_lay p h1]
  | .i n :: p, v, v', h => by simp only [VT.off]
theorem mk_lay : ∀ (v : VP) (y : v.ty.D), (v.mk y).lay = v.lay
  | .va t, y => rfl
  | .pr a b, y => by simp [VP.mk, VT.lay, VP.lay, mk_lay a, mk_lay b]
  | .un, _ | .rp _, _ | .nl, _ | .em, _ | .np, _ | .an, _ | .sl _, _ | .pt _, _ | .tu _, _ | .fn _ _, _ => rfl
theorem val_lay {rd : Rd} : ∀ {t : Ty} {v : VT} {y : t.D}, rd.val t v = some y → v.lay = t.lay := by
  have hva : ∀ (t : Ty) (t' : Ty) (z : t'.D) (y : t.D), Dy.as ⟨t', z⟩ t = some y → (VT.va t' z).lay = t.lay := by
    intro t t' z y h
    have := Dy_as h
    injection this with e1 e2
    subst e1
    rfl
  intro t
  induction t with
  | int k | bool | str | op =>
    intro v y h
    cases v <;> simp only [Rd.val] at h <;> first | exact hva _ _ _ _ h | cases h
  | un =>
    intro v y h
    cases v <;> simp only [Rd.val] at h <;> first | exact hva _ _ _ _ h | cases h
    rfl
  | pr a b iha ihb =>
    intro v y h
    cases v <;> simp only [Rd.val] at h <;> first | exact hva _ _ _ _ h | cases h | skip
    rename_i v u
    obtain ⟨y1, h1, h⟩ := Option.bind_eq_some_iff.1 h
    obtain ⟨y2, h2, rfl⟩ := Option.map_eq_some_iff.1 h
    simp [VT.lay, Ty.lay, iha h1, ihb h2]
  | sl t ih =>
    intro v y h
    cases v <;> simp only [Rd.val] at h <;> first | exact hva _ _ _ _ h | (cases h; done) | rfl
theorem get_lay {rd : Rd} : ∀ {v : VP} {u : VT} {r r' : Ren} {y : v.ty.D}, v.get rd u r = some (y, r') → u.lay = v.lay := by
  intro v
  induction v with
  | va t => intro u r r' y h; exact val_lay (get_va h).1
  | rp t => intro u r r' y h; rw [(get_rp h).1]; rfl
  | nl => intro u r r' y h; rw [(get_nl h).1]; rfl
  | em => intro u r r' y h; rw [(get_em h).1]; rfl
  | np => intro u r r' y h; rw [(get_np h).1]; rfl
  | an => intro u r r' y h; have := (get_an h).1; cases u <;> first | (cases this; done) | rfl
  | sl o => intro u r r' y h; rcases get_sl h with ⟨q, hh, rfl, _⟩ | ⟨rfl, _⟩ <;> rfl
  | pt o => intro u r r' y h; obtain ⟨q, hh, rfl, _⟩ := get_pt h; rfl
  | un => intro u r r' y h; rcases isUnV_true (get_un h).1 with rfl | ⟨z, rfl⟩ <;> rfl
  | tu a ih => intro u r r' y h; obtain ⟨v, rfl, _⟩ := get_tu h; rfl
  | fn f a ih => intro u r r' y h; obtain ⟨v, rfl, _⟩ := get_fn h; rfl
  | pr a b iha ihb =>
    intro u r r' y h
    obtain ⟨q, r1, hq, h1, h2⟩ := get_pr h
    have e1 := iha h1
    have e2 := ihb h2
    rcases splitPr_some hq with rfl | ⟨s, t, z, rfl, rfl⟩
    · simp only [VT.lay, VP.lay, e1, e2]
    · simp only [VT.lay, VP.lay, Ty.lay] at e1 e2 ⊢
      rw [e1, e2]
def OP.mkOb : (p : OP) → p.ty.D → Ob
  | .arr t nn, x => .arr t x nn
  | .var v, x => .var (v.mk x)
  | .rv v, x => .rv (v.mk x)
  | .mp k t, x => .mp k t x
theorem mkObjs_cons {o : Nat} {p : OP} {l : List (Nat × OP)} {y : (objsTy ((o, p) :: l)).D} {z : List Obe} : mkObjs ((o, p) :: l) y z = mkObjs l y.2 (z.set o ⟨0, 0, some (p.mkOb y.1)⟩) := by
  cases p <;> rfl
theorem mkObjs_ne : ∀ {l : List (Nat × OP)} {y : (objsTy l).D} {z : List Obe} {o : Nat}, o ∉ idsO l → getO (mkObjs l y z) o = getO z o
  | [], _, _, _, _ => rfl
  | (o', p) :: l, y, z, o, h => by
    rw [mkObjs_cons, mkObjs_ne (fun hm => h (by simp [idsO, hm])), getO_set, if_neg]
    rintro ⟨e, _⟩
    exact h (by simp [idsO, e])
theorem mkObjs_find : ∀ {l : List (Nat × OP)} {y : (objsTy l).D} {z : List Obe} {o : Nat} {p : OP}, (idsO l).Nodup → (∀ o ∈ idsO l, o < z.length) → findO l o = some p → ∃ y1, getO (mkObjs l y z) o = ⟨0, 0, some (p.mkOb y1)⟩
  | (o', p') :: l, y, z, o, p, hn, hl, h => by
    rw [mkObjs_cons]
    have h' : cond (Nat.beq o' o) (some p') (findO l o) = some p := h
    obtain ⟨n1, n2⟩ := List.nodup_cons.1 hn
    cases hb : Nat.beq o' o <;> rw [hb] at h'
    · exact mkObjs_find n2 (fun o ho => by rw [List.length_set]; exact hl o (by simp [idsO, ho])) h'
    · have := Nat.eq_of_beq_eq_true hb
      subst this
      cases h'
      rw [mkObjs_ne n1, getO_set, if_pos ⟨rfl, hl o' (by simp [idsO])⟩]
      exact ⟨_, rfl⟩
theorem mkObjs_mem {l : List (Nat × OP)} {y : (objsTy l).D} {m o : Nat} {c : Ob} (h : (getO (mkObjs l y (List.replicate m ⟨0, 0, none⟩)) o).c = some c) : o ∈ idsO l := by
  by_cases hm : o ∈ idsO l
  · exact hm
  · rw [mkObjs_ne hm, getO_rep] at h
    cases h
theorem findO_some : ∀ {l : List (Nat × OP)} {o : Nat}, o ∈ idsO l → ∃ p, findO l o = some p
  | (o', p') :: l, o, h => by
    show ∃ p, cond (Nat.beq o' o) (some p') (findO l o) = some p
    cases hb : Nat.beq o' o
    · rcases List.mem_cons.1 h with rfl | h
      · rw [Nat.beq_refl] at hb; cases hb
      · exact findO_some h
    · exact ⟨_, rfl⟩
def actOf (vs : List Value) (n : Nat) : Act := { tmps := (vs ++ List.replicate (n - vs.length) undef).toArray, defers := [] }
def FgOk (P : Program) (g : Fg) : Prop := okG g = true ∧ ∀ (C : Ctx) (S : Side) (w : World) (d : g.pat.ty.D) (vs : List Value) (y : g.rs.D × (objsTy g.xo).D), vs.length ≤ g.pat.n → C.w0 = w → (∀ o, C.fx o ↔ o ∈ g.fx) →
  Inv C S (g.pat.mk' d) (actOf vs g.pat.n) w → g.F d = some y →
  (∃ fn c, P.funcs[g.id]? = some fn ∧ fn.name ≠ "runtime.NumGoroutine" ∧ fn.body = some c) ∧
  Calls P g.id vs.toArray w fun
    | .returned v, w' => ∃ S1 F, Inv C S1 ⟨[], mkObjs g.xo y.2 (List.replicate g.pat.m ⟨0, 0, none⟩)⟩ { tmps := #[], defers := [] } w' ∧ ResR (fun _ => False) w' g.tup g.rs y.1 v F ∧ F.Nodup ∧
        ∀ b ∈ F, b < w'.heap.size ∧ (w.heap.size ≤ b ∨ C.don b) ∧ ∀ o c, (getO (mkObjs g.xo y.2 (List.replicate g.pat.m ⟨0, 0, none⟩)) o).c = some c → b ∉ S1.fp o
    | _, _ => False
def ObMap (r : Rd) (fx : List Nat) (m : RenL) : Ob → Ob → Prop
  | .arr t xs nn, c => c = .arr t xs nn
  | .var v1, c => ∃ (vp : VP) (y : vp.ty.D) (u : VT), v1 = vp.mk y ∧ vp.mkR r fx m y = some u ∧ c = .var u
  | .rv _, _ => False
  | .mp k t es, c => c = .mp k t es
  | .arh _ _ _ _, _ => False
theorem ObMap.nh {r : Rd} {fx : List Nat} {m : RenL} {c1 c : Ob} (h : ObMap r fx m c1 c) : ∀ t xs nn j, c ≠ .arh t xs nn j := by
  intro t xs nn j e
  subst e
  cases c1 with
  | arr t xs nn => cases h
  | var v => obtain ⟨_, _, _, _, _, e⟩ := h; cases e
  | rv v => exact h.elim
  | mp k t es => cases h
  | arh t xs nn j => exact h.elim
theorem mkR_lay {r : Rd} {fx : List Nat} {m : RenL} : ∀ {v : VP} {y : v.ty.D} {u : VT}, v.mkR r fx m y = some u → u.lay = v.lay ∧ u.isAgg = (v.mk y).isAgg
  | .va t, y, u, h => by
    obtain ⟨_, rfl⟩ := cond_some h
    exact ⟨rfl, rfl⟩
  | .rp _, _, _, h => by cases h
  | .nl, _, _, h => by cases h; exact ⟨rfl, rfl⟩
  | .em, _, _, h => by cases h; exact ⟨rfl, rfl⟩
  | .np, _, _, h => by cases h; exact ⟨rfl, rfl⟩
  | .an, _, _, h => by cases h; exact ⟨rfl, rfl⟩
  | .un, _, _, h => by cases h; exact ⟨rfl, rfl⟩
  | .sl o, _, _, h => by obtain ⟨q, _, rfl⟩ := Option.map_eq_some_iff.1 h; exact ⟨rfl, rfl⟩
  | .pt o, _, _, h => by obtain ⟨q, _, rfl⟩ := Option.map_eq_some_iff.1 h; exact ⟨rfl, rfl⟩
  | .tu _, _, _, h => by cases h
  | .fn f a, y, u, h => by obtain ⟨q, _, rfl⟩ := Option.map_eq_some_iff.1 h; exact ⟨rfl, rfl⟩
  | .pr a b, y, u, h => by
    obtain ⟨u1, h1, h⟩ := Option.bind_eq_some_iff.1 h
    obtain ⟨u2, h2, rfl⟩ := Option.map_eq_some_iff.1 h
    exact ⟨by simp only [VT.lay, VP.lay, (mkR_lay h1).1, (mkR_lay h2).1], rfl⟩
theorem exitE_at {r : Rd} {fx : List Nat} {m : RenL} : ∀ {xo : List (Nat × OP)} {y : (objsTy xo).D} {e2 : List (Nat × Obe)} {z : List Obe}, exitE r fx m xo y = some e2 → (idsO xo).Nodup → (∀ o ∈ idsO xo, o < z.length) →
    ∀ q obe, (q, obe) ∈ e2 → ∃ o c1 c, getO (mkObjs xo y z) o = ⟨0, 0, some c1⟩ ∧ o ∈ idsO xo ∧ m.find o = some q ∧ obe = ⟨exitG r fx o q, cond (memN fx o) ((r.o q).h + 1) 0, some c⟩ ∧ ObMap r fx m c1 c
  | [], y, e2, z, h, _, _, q, obe, hq => by
    have h' : some ([] : List (Nat × Obe)) = some e2 := h
    cases h'
    cases hq
  | (o, .arr t nn) :: l, y, e2, z, h, hn, hl, q, obe, hq => by
    obtain ⟨n1, n2⟩ := List.nodup_cons.1 hn
    have tail : ∀ {e3 : List (Nat × Obe)}, exitE r fx m l y.2 = some e3 → (q, obe) ∈ e3 → _ := fun h3 hq => exitE_at (z := z.set o ⟨0, 0, some (.arr t y.1 nn)⟩) h3 n2 (fun o' ho' => by rw [List.length_set]; exact hl o' (by simp [idsO, ho'])) q obe hq
    simp only [exitE] at h
    split at h
    · rename_i q0 hf
      obtain ⟨e3, h3, rfl⟩ := Option.map_eq_some_iff.1 h
      rcases List.mem_cons.1 hq with hq | hq
      · cases hq
        refine ⟨o, .arr t y.1 nn, .arr t y.1 nn, ?_, by simp [idsO], hf, rfl, rfl⟩
        show getO (mkObjs l y.2 (z.set o ⟨0, 0, some (.arr t y.1 nn)⟩)) o = _
        rw [mkObjs_ne n1, getO_set, if_pos ⟨rfl, hl o (by simp [idsO])⟩]
      · obtain ⟨o', c1, c, k1, k2, k3⟩ := tail h3 hq
        exact ⟨o', c1, c, k1, by simp [idsO, k2], k3⟩
    · obtain ⟨o', c1, c, k1, k2, k3⟩ := tail h hq
      exact ⟨o', c1, c, k1, by simp [idsO, k2], k3⟩
  | (o, .var v) :: l, y, e2, z, h, hn, hl, q, obe, hq => by
    obtain ⟨n1, n2⟩ := List.nodup_cons.1 hn
    have tail : ∀ {e3 : List (Nat × Obe)}, exitE r fx m l y.2 = some e3 → (q, obe) ∈ e3 → _ := fun h3 hq => exitE_at (z := z.set o ⟨0, 0, some (.var (v.mk y.1))⟩) h3 n2 (fun o' ho' => by rw [List.length_set]; exact hl o' (by simp [idsO, ho'])) q obe hq
    simp only [exitE] at h
    obtain ⟨q0, hf, h⟩ := Option.bind_eq_some_iff.1 h
    obtain ⟨u, hu, h⟩ := Option.bind_eq_some_iff.1 h
    obtain ⟨e3, h3, rfl⟩ := Option.map_eq_some_iff.1 h
    rcases List.mem_cons.1 hq with hq | hq
    · cases hq
      refine ⟨o, .var (v.mk y.1), .var u, ?_, by simp [idsO], hf, rfl, ⟨v, y.1, u, rfl, hu, rfl⟩⟩
      show getO (mkObjs l y.2 (z.set o ⟨0, 0, some (.var (v.mk y.1))⟩)) o = _
      rw [mkObjs_ne n1, getO_set, if_pos ⟨rfl, hl o (by simp [idsO])⟩]
    · obtain ⟨o', c1, c, k1, k2, k3⟩ := tail h3 hq
      exact ⟨o', c1, c, k1, by simp [idsO, k2], k3⟩
  | (o, .rv v) :: l, y, e2, z, h, hn, hl, q, obe, hq => by cases h
  | (o, .mp k t) :: l, y, e2, z, h, hn, hl, q, obe, hq => by
    obtain ⟨n1, n2⟩ := List.nodup_cons.1 hn
    have tail : ∀ {e3 : List (Nat × Obe)}, exitE r fx m l y.2 = some e3 → (q, obe) ∈ e3 → _ := fun h3 hq => exitE_at (z := z.set o ⟨0, 0, some (.mp k t y.1)⟩) h3 n2 (fun o' ho' => by rw [List.length_set]; exact hl o' (by simp [idsO, ho'])) q obe hq
    simp only [exitE] at h
    obtain ⟨q0, hf, h⟩ := Option.bind_eq_some_iff.1 h
    obtain ⟨e3, h3, rfl⟩ := Option.map_eq_some_iff.1 h
    rcases List.mem_cons.1 hq with hq | hq
    · cases hq
      refine ⟨o, .mp k t y.1, .mp k t y.1, ?_, by simp [idsO], hf, rfl, rfl⟩
      show getO (mkObjs l y.2 (z.set o ⟨0, 0, some (.mp k t y.1)⟩)) o = _
      rw [mkObjs_ne n1, getO_set, if_pos ⟨rfl, hl o (by simp [idsO])⟩]
    · obtain ⟨o', c1, c, k1, k2, k3⟩ := tail h3 hq
      exact ⟨o', c1, c, k1, by simp [idsO, k2], k3⟩
theorem exitE_all {r : Rd} {fx : List Nat} {m : RenL} : ∀ {xo : List (Nat × OP)} {y : (objsTy xo).D} {e2 : List (Nat × Obe)}, exitE r fx m xo y = some e2 → ∀ o ∈ idsO xo, ∀ q, m.find o = some q → q ∈ wrote e2
  | [], y, e2, h, o, ho, q, hq => by cases ho
  | (o0, .arr t nn) :: l, y, e2, h, o, ho, q, hq => by
    simp only [exitE] at h
    split at h
    · rename_i q0 hf
      obtain ⟨e3, h3, rfl⟩ := Option.map_eq_some_iff.1 h
      rcases List.mem_cons.1 ho with rfl | ho
      · rw [hf] at hq; cases hq
        simp [wrote]
      · have := exitE_all h3 o ho q hq
        simp [wrote, this]
    · rename_i hf
      rcases List.mem_cons.1 ho with rfl | ho
      · rw [hf] at hq; cases hq
      · exact exitE_all h o ho q hq
  | (o0, .var v) :: l, y, e2, h, o, ho, q, hq => by
    simp only [exitE] at h
    obtain ⟨q0, hf, h⟩ := Option.bind_eq_some_iff.1 h
    obtain ⟨u, hu, h⟩ := Option.bind_eq_some_iff.1 h
    obtain ⟨e3, h3, rfl⟩ := Option.map_eq_some_iff.1 h
    rcases List.mem_cons.1 ho with rfl | ho
    · rw [hf] at hq; cases hq
      simp [wrote]
    · have := exitE_all h3 o ho q hq
      simp [wrote, this]
  | (o0, .rv v) :: l, y, e2, h, _, _, _, _ => by cases h
  | (o0, .mp k t) :: l, y, e2, h, o, ho, q, hq => by
    simp only [exitE] at h
    obtain ⟨q0, hf, h⟩ := Option.bind_eq_some_iff.1 h
    obtain ⟨e3, h3, rfl⟩ := Option.map_eq_some_iff.1 h
    rcases List.mem_cons.1 ho with rfl | ho
    · rw [hf] at hq; cases hq
      simp [wrote]
    · have := exitE_all h3 o ho q hq
      simp [wrote, this]
theorem exitE_inj {r : Rd} {fx : List Nat} {m : RenL} : ∀ {xo : List (Nat × OP)} {y : (objsTy xo).D} {e2 : List (Nat × Obe)}, exitE r fx m xo y = some e2 → (wrote e2).Nodup → ∀ o1 ∈ idsO xo, ∀ o2 ∈ idsO xo, ∀ q, m.find o1 = some q → m.find o2 = some q → o1 = o2
  | [], y, e2, h, hn, o1, h1, o2, h2, q, hq1, hq2 => by cases h1
  | (o0, .arr t nn) :: l, y, e2, h, hn, o1, h1, o2, h2, q, hq1, hq2 => by
    simp only [exitE] at h
    split at h
    · rename_i q0 hf
      obtain ⟨e3, h3, rfl⟩ := Option.map_eq_some_iff.1 h
      obtain ⟨n1, n2⟩ := List.nodup_cons.1 (show (q0 :: wrote e3).Nodup from hn)
      rcases List.mem_cons.1 h1 with e1 | h1' <;> rcases List.mem_cons.1 h2 with e2 | h2'
      · exact e1.trans e2.symm
      · rw [e1, hf] at hq1
        have e := Option.some.inj hq1
        exact absurd (exitE_all h3 o2 h2' q hq2) (e ▸ n1)
      · rw [e2, hf] at hq2
        have e := Option.some.inj hq2
        exact absurd (exitE_all h3 o1 h1' q hq1) (e ▸ n1)
      · exact exitE_inj h3 n2 o1 h1' o2 h2' q hq1 hq2
    · rename_i hf
      rcases List.mem_cons.1 h1 with rfl | h1
      · rw [hf] at hq1; cases hq1
      · rcases List.mem_cons.1 h2 with rfl | h2
        · rw [hf] at hq2; cases hq2
        · exact exitE_inj h hn o1 h1 o2 h2 q hq1 hq2
  | (o0, .var v) :: l, y, e2, h, hn, o1, h1, o2, h2, q, hq1, hq2 => by
    simp only [exitE] at h
    obtain ⟨q0, hf, h⟩ := Option.bind_eq_some_iff.1 h
    obtain ⟨u, hu, h⟩ := Option.bind_eq_some_iff.1 h
    obtain ⟨e3, h3, rfl⟩ := Option.map_eq_some_iff.1 h
    obtain ⟨n1, n2⟩ := List.nodup_cons.1 (show (q0 :: wrote e3).Nodup from hn)
    rcases List.mem_cons.1 h1 with e1 | h1' <;> rcases List.mem_cons.1 h2 with e2 | h2'
    · exact e1.trans e2.symm
    · rw [e1, hf] at hq1
      have e := Option.some.inj hq1
      exact absurd (exitE_all h3 o2 h2' q hq2) (e ▸ n1)
    · rw [e2, hf] at hq2
      have e := Option.some.inj hq2
      exact absurd (exitE_all h3 o1 h1' q hq1) (e ▸ n1)
    · exact exitE_inj h3 n2 o1 h1' o2 h2' q hq1 hq2
  | (o0, .rv v) :: l, y, e2, h, _, _, _, _, _, _, _, _ => by cases h
  | (o0, .mp k t) :: l, y, e2, h, hn, o1, h1, o2, h2, q, hq1, hq2 => by
    simp only [exitE] at h
    obtain ⟨q0, hf, h⟩ := Option.bind_eq_some_iff.1 h
    obtain ⟨e3, h3, rfl⟩ := Option.map_eq_some_iff.1 h
    obtain ⟨n1, n2⟩ := List.nodup_cons.1 (show (q0 :: wrote e3).Nodup from hn)
    rcases List.mem_cons.1 h1 with e1 | h1' <;> rcases List.mem_cons.1 h2 with e2 | h2'
    · exact e1.trans e2.symm
    · rw [e1, hf] at hq1
      have e := Option.some.inj hq1
      exact absurd (exitE_all h3 o2 h2' q hq2) (e ▸ n1)
    · rw [e2, hf] at hq2
      have e := Option.some.inj hq2
      exact absurd (exitE_all h3 o1 h1' q hq1) (e ▸ n1)
    · exact exitE_inj h3 n2 o1 h1' o2 h2' q hq1 hq2
theorem putO_at : ∀ {k : List (Nat × Obe)} {ob : List Obe} {q : Nat} {e : Obe}, (wrote k).Nodup → (q, e) ∈ k → q < ob.length → getO (putO ob k) q = e
  | (n, e0) :: k, ob, q, e, hn, hm, hl => by
    obtain ⟨n1, n2⟩ := List.nodup_cons.1 (show (n :: wrote k).Nodup from hn)
    show getO (putO (ob.set n e0) k) q = e
    rcases List.mem_cons.1 hm with hm | hm
    · cases hm
      rw [getO_putO_ne _ _ _ n1, getO_set, if_pos ⟨rfl, hl⟩]
    · exact putO_at n2 hm (by rw [List.length_set]; exact hl)
theorem wrote_mem : ∀ {k : List (Nat × Obe)} {q : Nat}, q ∈ wrote k → ∃ e, (q, e) ∈ k
  | (n, e) :: k, q, h => by
    rcases List.mem_cons.1 (show q ∈ n :: wrote k from h) with rfl | h
    · exact ⟨e, by simp⟩
    · obtain ⟨e', h'⟩ := wrote_mem h
      exact ⟨e', by simp [h']⟩
theorem mkR_sound {r : Rd} {fx : List Nat} {m : RenL} {S1 S2 : Side} {ob1 ob2 : List Obe} {w : World}
    (hm : ∀ o q, m.find o = some q → ∃ c1 c h, getO ob1 o = ⟨0, 0, some c1⟩ ∧ getO ob2 q = ⟨exitG r fx o q, h, some c⟩ ∧ ObMap r fx m c1 c ∧ S2.hd q = S1.hd o) :
    ∀ {v : VP} {y : v.ty.D} {u : VT} {cs : List Value}, v.mkR r fx m y = some u → VTC S1 ob1 w (v.mk y) cs → VTC S2 ob2 w u cs
  | .va t, y, u, cs, h, hc => by
    obtain ⟨hf, rfl⟩ := cond_some h
    exact (RO_flat hf).2 ((RO_flat hf).1 hc)
  | .rp _, _, _, _, h, _ => by cases h
  | .nl, _, _, _, h, hc => by cases h; exact hc
  | .em, _, _, _, h, hc => by cases h; exact hc
  | .np, _, _, _, h, hc => by cases h; exact hc
  | .an, _, _, _, h, hc => by cases h; exact hc
  | .un, _, _, _, h, hc => by cases h; exact hc
  | .sl o, _, _, _, h, hc => by
    obtain ⟨q, hq, rfl⟩ := Option.map_eq_some_iff.1 h
    obtain ⟨c1, c, hh, k1, k2, k3, k4⟩ := hm o q hq
    obtain ⟨v, rfl, j1, j2, j3⟩ := hc
    refine ⟨v, rfl, j1, .inr ⟨by rw [k2], Nat.zero_le _⟩, fun t xs nn hob _ _ => ?_, fun t xs nn j hob => by rw [k2] at hob; cases hob; exact absurd rfl (k3.nh _ _ _ _)⟩
    rw [k2] at hob
    cases hob
    cases c1 with
    | arr t1 xs1 nn1 =>
      cases k3
      obtain ⟨te, A, n, cap, g1, g2, g3⟩ := j3.1 t xs nn (by rw [k1]) (by rw [k1]) (.inl rfl)
      exact ⟨te, A, n, cap, g1, ⟨by rw [k4]; exact g2.1, g2.2⟩, g3⟩
    | var v1 => obtain ⟨_, _, _, _, _, e⟩ := k3; cases e
    | rv v1 => exact k3.elim
    | mp k t es => cases k3
    | arh t xs nn j => exact k3.elim
  | .pt o, _, _, _, h, hc => by
    obtain ⟨q, hq, rfl⟩ := Option.map_eq_some_iff.1 h
    obtain ⟨c1, c, hh, k1, k2, k3, k4⟩ := hm o q hq
    obtain ⟨v, rfl, j1, j2, j3, j4, j5⟩ := hc
    refine ⟨v, rfl, j1, .inr ⟨by rw [k2], Nat.zero_le _⟩, fun c2 u2 hob hu _ => ?_, fun t xs nn hob _ _ => ?_, fun k t es hob _ => ?_, fun t xs nn j hob => by rw [k2] at hob; cases hob; exact absurd rfl (k3.nh _ _ _ _)⟩
    · rw [k2] at hob
      cases hob
      cases c1 with
      | arr t1 xs1 nn1 => cases k3; cases hu
      | var v1 =>
        obtain ⟨b, k, g1, g2, g3⟩ := j3 _ v1 (by rw [k1]) rfl (by rw [k1])
        refine ⟨b, k, by rw [k4]; exact g1, ?_, g3⟩
        simp only [VT.off] at g2 ⊢
        exact g2
      | rv v1 => exact k3.elim
      | mp k t es => cases k3; cases hu
      | arh t xs nn j => exact k3.elim
    · rw [k2] at hob
      cases hob
      cases c1 with
      | arr t1 xs1 nn1 =>
        cases k3
        obtain ⟨b, off, g1, g2⟩ := j4 t xs nn (by rw [k1]) (by rw [k1]) (by rw [k1])
        simp [locA] at g1
      | var v1 => obtain ⟨_, _, _, _, _, e⟩ := k3; cases e
      | rv v1 => exact k3.elim
      | mp k t es => cases k3
      | arh t xs nn j => exact k3.elim
    · rw [k2] at hob
      cases hob
      cases c1 with
      | arr t1 xs1 nn1 => cases k3
      | var v1 => obtain ⟨_, _, _, _, _, e⟩ := k3; cases e
      | rv v1 => exact k3.elim
      | mp k1' t1 es1 =>
        cases k3
        obtain ⟨b, g1, g2⟩ := j5.1 k t es (by rw [k1]) (by rw [k1])
        exact ⟨b, by rw [k4]; exact g1, g2⟩
      | arh t xs nn j => exact k3.elim
  | .tu _, _, _, _, h, _ => by cases h
  | .fn f a, y, u, cs, h, hc => by
    obtain ⟨u1, h1, rfl⟩ := Option.map_eq_some_iff.1 h
    obtain ⟨caps, e, hc⟩ := hc
    exact ⟨caps, e, mkR_sound hm h1 hc⟩
  | .pr a b, y, u, cs, h, hc => by
    obtain ⟨u1, h1, h⟩ := Option.bind_eq_some_iff.1 h
    obtain ⟨u2, h2, rfl⟩ := Option.map_eq_some_iff.1 h
    obtain ⟨c1, c2, e, hc1, hc2⟩ := hc
    exact ⟨c1, c2, e, mkR_sound hm h1 hc1, mkR_sound hm h2 hc2⟩
end Go.Vm
set_option linter.unusedVariables false
set_option linter.unusedSimpArgs false
namespace Go.Vm
open Go Go.RowKit
def invF (m : RenL) : List Nat → Nat → Option Nat
  | [], _ => none
  | o :: l, q => if m.find o = some q then some o else invF m l q
theorem invF_some {m : RenL} {q : Nat} : ∀ {l : List Nat} {o : Nat}, invF m l q = some o → o ∈ l ∧ m.find o = some q
  | o' :: l, o, h => by
    unfold invF at h
    split at h
    · rename_i hf
      cases h
      exact ⟨by simp, hf⟩
    · obtain ⟨h1, h2⟩ := invF_some h
      exact ⟨by simp [h1], h2⟩
theorem invF_of {m : RenL} {q : Nat} : ∀ {l : List Nat} {o : Nat}, o ∈ l → m.find o = some q → ∃ o', invF m l q = some o'
  | o' :: l, o, h, hf => by
    unfold invF
    split
    · exact ⟨_, rfl⟩
    · rename_i hn
      rcases List.mem_cons.1 h with rfl | h
      · exact absurd hf hn
      · exact invF_of h hf
theorem mem_wrote : ∀ {k : List (Nat × Obe)} {q : Nat} {e : Obe}, (q, e) ∈ k → q ∈ wrote k
  | (n, e0) :: k, q, e, h => by
    rcases List.mem_cons.1 h with h | h
    · cases h; simp [wrote]
    · simp [wrote, mem_wrote h]
theorem rv_of_map {r : Rd} {fx : List Nat} {m : RenL} {c1 c : Ob} (h : ObMap r fx m c1 c) : c1.isRv = false ∧ c.isRv = false ∧ c.shape = c1.shape := by
  cases c1 with
  | arr t xs nn => cases h; exact ⟨rfl, rfl, rfl⟩
  | var v => obtain ⟨_, _, _, _, _, rfl⟩ := h; exact ⟨rfl, rfl, rfl⟩
  | rv v => exact h.elim
  | mp k t es => cases h; exact ⟨rfl, rfl, rfl⟩
  | arh t xs nn j => exact h.elim
def Ob.isMp : Ob → Nat
  | .mp _ _ _ => 2
  | .arh _ _ _ _ => 3
  | _ => 0
theorem mp_of_map {r : Rd} {fx : List Nat} {m : RenL} {c1 c : Ob} (h : ObMap r fx m c1 c) : c.isMp = c1.isMp := by
  cases c1 with
  | arr t xs nn => cases h; rfl
  | var v => obtain ⟨_, _, _, _, _, rfl⟩ := h; rfl
  | rv v => exact h.elim
  | mp k t es => cases h; rfl
  | arh t xs nn j => exact h.elim
theorem Inv.handed {C C1 : Ctx} {S S1 : Side} {x : X} {a a1 : Act} {w w' : World} (I : Inv C S x a w) {r : Rd} {fx : List Nat} {m : RenL} {xo : List (Nat × OP)} {y : (objsTy xo).D} {e2 : List (Nat × Obe)} {gl : List Nat} {M0 : Nat}
    (I1 : Inv C1 S1 ⟨[], mkObjs xo y (List.replicate M0 ⟨0, 0, none⟩)⟩ a1 w') (hw0 : C1.w0 = w)
    (hx : exitE r fx m xo y = some e2) (hn : (idsO xo).Nodup) (hlt : ∀ o ∈ idsO xo, o < M0) (hm : ∀ o q, m.find o = some q → o ∈ idsO xo)
    (hne : (wrote e2).Nodup) (hap : ∀ q ∈ wrote e2, q ∉ gl)
    (hr : ∀ q, q ∈ gl ∨ q ∈ wrote e2 → r.o q = getO x.ob q ∧ q < x.ob.length)
    (hdon : ∀ b, C1.don b → ∃ q c, (q ∈ gl ∨ q ∈ wrote e2) ∧ (getO x.ob q).c = some c ∧ c.isRv = false ∧ b ∈ S.fp q)
    (hlent : ∀ o q c1, memN fx o = true → m.find o = some q → (getO (mkObjs xo y (List.replicate M0 ⟨0, 0, none⟩)) o).c = some c1 → ∃ cq, (getO x.ob q).c = some cq ∧ S1.hd o = S.hd q ∧ c1.shape = cq.shape ∧ c1.isMp = cq.isMp ∧ ∀ uq, cq.held = some uq → ∃ u1, c1.held = some u1 ∧ uq.lay = u1.lay) :
    ∃ S2, Inv C S2 ⟨x.sl, putO x.ob (gone r gl ++ e2)⟩ a w' ∧ (∀ v cs, VTC S x.ob w v cs → VTC S2 (putO x.ob (gone r gl ++ e2)) w' v cs) ∧
      ∀ b, b < w'.heap.size → (w.heap.size ≤ b ∨ C1.don b) → (∀ o c, (getO (mkObjs xo y (List.replicate M0 ⟨0, 0, none⟩)) o).c = some c → b ∉ S1.fp o) → Free C S2 (putO x.ob (gone r gl ++ e2)) w' b := by
  have hlen : ∀ o ∈ idsO xo, o < (List.replicate M0 (⟨0, 0, none⟩ : Obe)).length := fun o ho => by rw [List.length_replicate]; exact hlt o ho
  have hat : ∀ q obe, (q, obe) ∈ e2 → getO (putO x.ob (gone r gl ++ e2)) q = obe := by
    intro q obe hq
    rw [putO_app]
    refine putO_at hne hq ?_
    rw [putO_length]
    exact (hr q (.inr (mem_wrote hq))).2
  have hgone : ∀ q ∈ gl, getO (putO x.ob (gone r gl ++ e2)) q = ⟨(r.o q).g, (r.o q).h, none⟩ := by
    intro q hq
    rw [putO_app, getO_putO_ne _ _ _ (fun h => hap q h hq)]
    exact getO_gone gl x.ob q (fun o ho => (hr o (.inl ho)).2) hq
  have hold : ∀ q, ¬ (q ∈ gl ∨ q ∈ wrote e2) → getO (putO x.ob (gone r gl ++ e2)) q = getO x.ob q := by
    intro q hq
    refine getO_putO_ne _ _ _ ?_
    rw [wrote_app, wrote_gone]
    simpa using hq
  have hinj := exitE_inj hx hne
  generalize hob2 : putO x.ob (gone r gl ++ e2) = ob2 at *
  generalize hob1 : mkObjs xo y (List.replicate M0 ⟨0, 0, none⟩) = ob1 at *
  let S2 : Side := ⟨S.ok, fun q => match invF m (idsO xo) q with | some o => S1.hd o | none => S.hd q, fun q => match invF m (idsO xo) q with | some o => S1.fp o | none => S.fp q⟩
  have hS2 : ∀ o q, o ∈ idsO xo → m.find o = some q → S2.hd q = S1.hd o ∧ S2.fp q = S1.fp o := by
    intro o q ho hf
    obtain ⟨o', h'⟩ := invF_of ho hf
    obtain ⟨h1, h2⟩ := invF_some h'
    have := hinj o' h1 o ho q h2 hf
    subst this
    simp only [S2, h']
    exact ⟨trivial, trivial⟩
  have hS2n : ∀ q, q ∉ wrote e2 → S2.hd q = S.hd q ∧ S2.fp q = S.fp q := by
    intro q hq
    have : invF m (idsO xo) q = none := by
      cases h : invF m (idsO xo) q with
      | none => rfl
      | some o =>
        obtain ⟨h1, h2⟩ := invF_some h
        exact absurd (exitE_all hx o h1 q h2) hq
    simp only [S2, this]
    exact ⟨trivial, trivial⟩
  have hinfo : ∀ q ∈ wrote e2, ∃ o c1 c, getO ob1 o = ⟨0, 0, some c1⟩ ∧ o ∈ idsO xo ∧ m.find o = some q ∧ getO ob2 q = ⟨exitG r fx o q, cond (memN fx o) ((r.o q).h + 1) 0, some c⟩ ∧ ObMap r fx m c1 c ∧ S2.hd q = S1.hd o ∧ S2.fp q = S1.fp o := by
    intro q hq
    obtain ⟨obe, hobe⟩ := wrote_mem hq
    obtain ⟨o, c1, c, k1, k2, k3, k4, k5⟩ := exitE_at (z := List.replicate M0 ⟨0, 0, none⟩) hx hn hlen q obe hobe
    rw [hob1] at k1
    exact ⟨o, c1, c, k1, k2, k3, by rw [hat q obe hobe, k4], k5, (hS2 o q k2 k3).1, (hS2 o q k2 k3).2⟩
  have hmk : ∀ o q, m.find o = some q → ∃ c1 c h, getO ob1 o = ⟨0, 0, some c1⟩ ∧ getO ob2 q = ⟨exitG r fx o q, h, some c⟩ ∧ ObMap r fx m c1 c ∧ S2.hd q = S1.hd o := by
    intro o q hf
    have ho := hm o q hf
    obtain ⟨o', c1, c, k1, k2, k3, k4, k5, k6, _⟩ := hinfo q (exitE_all hx o ho q hf)
    have := hinj o' k2 o ho q k3 hf
    subst this
    exact ⟨c1, c, _, k1, k4, k5, k6⟩
  have hcls : ∀ b, (w.heap.size ≤ b ∨ C1.don b) → ¬ S.ok b ∧ (C.w0.heap.size ≤ b ∨ C.don b) ∧ ∀ q c, ¬ (q ∈ gl ∨ q ∈ wrote e2) → (getO x.ob q).c = some c → b ∉ S.fp q := by
    rintro b (hb | hb)
    · exact ⟨fun h => by have := I.okb b h; omega, .inl (Nat.le_trans I.kept.size hb), fun q c _ hc hm => by have := ((I.objs q c hc).2.2 b hm).2.1; omega⟩
    · obtain ⟨q0, c0, h1, h2, h3, h4⟩ := hdon b hb
      obtain ⟨j1, j2, j3⟩ := (I.objs q0 c0 h2).2.2 b h4
      exact ⟨j1, j3.imp_right fun h => h.resolve_right (by rw [h3]; simp), fun q c hq hc hm => I.sep q q0 c c0 (fun e => hq (e ▸ h1)) hc h2 b hm h4⟩
  have hblk : ∀ o c1, (getO ob1 o).c = some c1 → c1.isRv = false → ∀ b ∈ S1.fp o, b < w'.heap.size ∧ (w.heap.size ≤ b ∨ C1.don b) := by
    intro o c1 hc hrv b hb
    obtain ⟨_, j2, j3⟩ := (I1.objs o c1 hc).2.2 b hb
    rw [hw0] at j3
    exact ⟨j2, j3.imp_right fun h => h.resolve_right (by rw [hrv]; simp)⟩
  have hsame : ∀ b, b < w.heap.size → ¬ C1.don b → w'.heap[b]? = w.heap[b]? := by
    intro b hb hd
    have := I1.kept.block b (by rw [hw0]; exact hb) hd
    rw [hw0] at this
    exact this
  have hsz : w.heap.size ≤ w'.heap.size := by have := I1.kept.size; rw [hw0] at this; exact this
  have hnd : ∀ q c, ¬ (q ∈ gl ∨ q ∈ wrote e2) → (getO x.ob q).c = some c → ∀ b ∈ S.fp q, ¬ C1.don b := fun q c hq hc b hb hd => (hcls b (.inr hd)).2.2 q c hq hc hb
  have hres := I.turn (S' := S2) (ob' := ob2) (w' := w') (fun q => q ∈ gl ∨ q ∈ wrote e2)
    (fun q hq => ⟨hold q hq, (hS2n q (fun h => hq (.inr h))).1, (hS2n q (fun h => hq (.inr h))).2, fun c hc b hb => ⟨hsame b ((I.objs q c hc).2.2 b hb).2.1 (hnd q c hq hc b hb), ((I.objs q c hc).2.2 b hb).1⟩⟩)
    (fun b hb => ⟨hb, hsame b (I.okb b hb) (fun hd => (hcls b (.inr hd)).1 hb)⟩)
    (fun q hq => by
      by_cases hqe : q ∈ wrote e2
      · obtain ⟨o, c1, c, k1, k2, k3, k4, k5, k6, k7⟩ := hinfo q hqe
        have hrq := (hr q (.inr hqe)).1
        cases hfx : memN fx o
        · have ht : Turned (getO x.ob q) (getO ob2 q) := by
            rw [k4, ← hrq]
            unfold exitG
            rw [hfx]
            exact .inl rfl
          exact ⟨fun g h p win v hrf _ => Turned.sl (S := S) (w := w) ht hrf, fun g h p v hrf _ => Turned.pt (S := S) (w := w) ht hrf⟩
        · obtain ⟨cq, j1, j2, j3, jm, j4⟩ := hlent o q c1 hfx k3 (by rw [k1])
          have hmp : c.isMp = cq.isMp := (mp_of_map k5).trans jm
          have hg0 : (getO ob2 q).g = (getO x.ob q).g := by rw [k4, ← hrq]; unfold exitG; rw [hfx]; rfl
          have hh0 : (getO ob2 q).h = (getO x.ob q).h + 1 := by rw [k4, ← hrq, hfx]; rfl
          have hsh : c.shape = cq.shape := (rv_of_map k5).2.2.trans j3
          refine ⟨fun g h p win v hrf hs => ⟨by unfold refOk at *; omega, fun t xs nn hc hg hp => ?_, fun t xs nn j hc => by rw [k4] at hc; cases hc; exact absurd rfl (k5.nh _ _ _ _)⟩, fun g h p v hrf hs => ⟨by unfold refOk at *; omega, fun c2 u2 hc hu hg => ?_, fun t xs nn hc hg hh => ?_, fun k3 t3 es3 hc hg => ?_, fun t xs nn j hc => by rw [k4] at hc; cases hc; exact absurd rfl (k5.nh _ _ _ _)⟩⟩
          · rw [k4] at hc
            cases hc
            rcases hp with rfl | hp
            · cases cq with
              | arr t' xs' nn' =>
                have e : (t, List.length xs) = (t', List.length xs') := Option.some.inj hsh
                injection e with e1 e2
                subst e1
                obtain ⟨te, A, n, cap, g1, g2, g3⟩ := hs.1 t xs' nn' j1 (by omega) (.inl rfl)
                exact ⟨te, A, n, cap, g1, ⟨by rw [k6, j2]; exact g2.1, by rw [e2]; exact g2.2⟩, g3⟩
              | var u => cases hsh
              | rv u => cases hsh
              | mp k t es => cases hsh
              | arh t xs nn j => cases hmp
            · unfold refOk at hrf; omega
          · rw [k4] at hc
            cases hc
            cases cq with
            | arr t' xs' nn' => cases c <;> first | (cases hu; done) | (cases hsh; done)
            | mp k t es => cases c <;> first | (cases hu; done) | (cases hmp; done)
            | arh t xs nn j => cases c <;> first | (cases hu; done) | (cases hmp; done)
            | var uq =>
              obtain ⟨u1, i1, i2⟩ := j4 uq rfl
              obtain ⟨b, k, g1, g2, g3⟩ := hs.1 _ uq j1 rfl (by omega)
              refine ⟨b, k, by rw [k6, j2]; exact g1, ?_, g3⟩
              have hl : u2.lay = u1.lay := by
                cases c1 with
                | arr t xs nn => cases i1
                | mp k t es => cases i1
                | arh t xs nn j => cases i1
                | var v1 =>
                  cases i1
                  obtain ⟨vp, y1, u, rfl, q2, rfl⟩ := k5
                  cases hu
                  rw [(mkR_lay q2).1, mk_lay]
                | rv v1 => exact k5.elim
              rw [off_lay p (hl.trans i2.symm)]
              exact g2
            | rv uq =>
              obtain ⟨u1, i1, i2⟩ := j4 uq rfl
              obtain ⟨b, k, g1, g2, g3⟩ := hs.1 _ uq j1 rfl (by omega)
              refine ⟨b, k, by rw [k6, j2]; exact g1, ?_, g3⟩
              have hl : u2.lay = u1.lay := by
                cases c1 with
                | arr t xs nn => cases i1
                | mp k t es => cases i1
                | arh t xs nn j => cases i1
                | var v1 =>
                  cases i1
                  obtain ⟨vp, y1, u, rfl, q2, rfl⟩ := k5
                  cases hu
                  rw [(mkR_lay q2).1, mk_lay]
                | rv v1 => exact k5.elim
              rw [off_lay p (hl.trans i2.symm)]
              exact g2
          · unfold refOk at hrf; omega
          · rw [k4] at hc
            cases hc
            cases cq with
            | mp k' t' es' =>
              obtain ⟨b, g1, g2⟩ := hs.2.2.1 k' t' es' j1 (by omega)
              exact ⟨b, by rw [k6, j2]; exact g1, g2⟩
            | _ => cases hmp
      · have hqg : q ∈ gl := hq.resolve_right hqe
        have ht : Turned (getO x.ob q) (getO ob2 q) := by
          rw [hgone q hqg, (hr q (.inl hqg)).1]
          exact .inr ⟨rfl, rfl, rfl⟩
        exact ⟨fun g h p win v hrf _ => Turned.sl (S := S) (w := w) ht hrf, fun g h p v hrf _ => Turned.pt (S := S) (w := w) ht hrf⟩)
    (fun hv q c hq hc => by
      by_cases hqe : q ∈ wrote e2
      · obtain ⟨o, c1, c', k1, k2, k3, k4, k5, k6, k7⟩ := hinfo q hqe
        rw [k4] at hc
        cases hc
        have hc1 : (getO ob1 o).c = some c1 := by rw [k1]
        obtain ⟨j1, j2, j3⟩ := I1.objs o c1 hc1
        refine ⟨?_, by rw [k7]; exact j2, fun b hb => ?_⟩
        · cases c1 with
          | arr t xs nn =>
            cases k5
            obtain ⟨i1, i2⟩ := j1
            unfold ObR
            rw [k6, k7]
            exact ⟨i1, i2⟩
          | var v1 =>
            obtain ⟨vp, y1, u, rfl, q2, rfl⟩ := k5
            obtain ⟨b, l, i1, i2, i3, i4⟩ := j1
            unfold ObR
            rw [k6, k7]
            exact ⟨b, l, i1, i2, mkR_sound hmk q2 i3, i4⟩
          | rv v1 => exact k5.elim
          | mp k t es =>
            cases k5
            unfold ObR
            rw [k6, k7]
            exact j1
          | arh t xs nn j => exact k5.elim
        · rw [k7] at hb
          obtain ⟨i1, i2⟩ := hblk o c1 hc1 (rv_of_map k5).1 b hb
          obtain ⟨i3, i4, _⟩ := hcls b i2
          exact ⟨i3, i1, i4.imp_right .inl⟩
      · rw [hgone q (hq.resolve_right hqe)] at hc
        cases hc)
    (fun q q' c c' hq hne' hc hc' b hb hb' => by
      by_cases hqe : q ∈ wrote e2
      · obtain ⟨o, c1, c2, k1, k2, k3, k4, k5, k6, k7⟩ := hinfo q hqe
        rw [k7] at hb
        have hc1 : (getO ob1 o).c = some c1 := by rw [k1]
        by_cases hqe' : q' ∈ wrote e2
        · obtain ⟨o', c1', c2', k1', k2', k3', k4', k5', k6', k7'⟩ := hinfo q' hqe'
          rw [k7'] at hb'
          refine I1.sep o o' c1 c1' (fun e => ?_) hc1 (by rw [k1']) b hb hb'
          subst e
          rw [k3] at k3'
          exact hne' (Option.some.inj k3')
        · have hq' : ¬ (q' ∈ gl ∨ q' ∈ wrote e2) := by
            rintro (h | h)
            · rw [hgone q' h] at hc'; cases hc'
            · exact hqe' h
          rw [(hS2n q' hqe').2] at hb'
          rw [hold q' hq'] at hc'
          exact (hcls b (hblk o c1 hc1 (rv_of_map k5).1 b hb).2).2.2 q' c' hq' hc' hb'
      · rw [hgone q (hq.resolve_right hqe)] at hc
        cases hc)
    hsz (fun b hb => Nat.lt_of_lt_of_le (I.okb b hb) hsz)
    ⟨by rw [I1.kept.os, hw0]; exact I.kept.os, Ahead.trans (by rw [← hw0]; exact I1.kept.tape) I.kept.tape, by rw [I1.kept.output, hw0]; exact I.kept.output, Nat.le_trans I.kept.size hsz, fun k hk hd => by
      rw [hsame k (Nat.lt_of_lt_of_le hk I.kept.size) (fun hd1 => by
        rcases (hcls k (.inr hd1)).2.1 with h | h
        · omega
        · exact hd h)]
      exact I.kept.block k hk hd⟩
    (fun q c hq hf hg hc => by
      by_cases hqe : q ∈ wrote e2
      · obtain ⟨o, c1, c', k1, k2, k3, k4, k5, k6, k7⟩ := hinfo q hqe
        have hrq := (hr q (.inr hqe)).1
        rw [k4] at hg hc
        cases hc
        cases hfx : memN fx o
        · have hg' : cond (memN fx o) (r.o q).g ((r.o q).g + 1) = 0 := hg
          rw [hfx] at hg'
          cases hg'
        · obtain ⟨cq, j1, j2, j3, jm, j4⟩ := hlent o q c1 hfx k3 (by rw [k1])
          have hg' : cond (memN fx o) (r.o q).g ((r.o q).g + 1) = 0 := hg
          rw [hfx, hrq] at hg'
          obtain ⟨f1, f2⟩ := I.fix q cq hf hg' j1
          exact ⟨by rw [k6, j2]; exact f1, by rw [← f2, ← j3]; exact (rv_of_map k5).2.2⟩
      · rw [hgone q (hq.resolve_right hqe)] at hc
        cases hc)
  refine ⟨S2, hres.1, hres.2, fun b hb hcl hno => ?_⟩
  obtain ⟨i1, i2, i3⟩ := hcls b hcl
  refine ⟨hb, i2, i1, fun q c hc hmem => ?_⟩
  by_cases hqe : q ∈ wrote e2
  · obtain ⟨o, c1, c', k1, k2, k3, k4, k5, k6, k7⟩ := hinfo q hqe
    rw [k7] at hmem
    exact hno o c1 (by rw [k1]) hmem
  · have hq' : ¬ (q ∈ gl ∨ q ∈ wrote e2) := by
      rintro (h | h)
      · rw [hgone q h] at hc; cases hc
      · exact hqe h
    rw [(hS2n q hqe).2] at hmem
    rw [hold q hq'] at hc
    exact i3 q c hq' hc hmem
end Go.Vm
set_option linter.unusedVariables false
set_option linter.unusedSimpArgs false
namespace Go.Vm
open Go Go.RowKit
theorem gFind_some {r : Rd} {f : Nat} {vs : List VT} : ∀ {l : List Fg} {g : Fg} {d : g.pat.ty.D} {M : Ren}, gFind r f vs l = some ⟨g, d, M⟩ → g ∈ l ∧ g.id = f ∧ vs.length ≤ g.pat.n ∧ g.pat.getR [] (argRd r vs) = some (d, M)
  | g0 :: l, g, d, M, h => by
    unfold gFind at h
    cases hb : (Nat.beq g0.id f && Nat.ble vs.length g0.pat.n) <;> rw [hb] at h
    · obtain ⟨h1, h2⟩ := gFind_some (l := l) h
      exact ⟨by simp [h1], h2⟩
    · simp only [cond_true] at h
      simp only [Bool.and_eq_true] at hb
      split at h
      · rename_i q hq
        cases h
        exact ⟨by simp, Nat.eq_of_beq_eq_true hb.1, Nat.le_of_ble_eq_true hb.2, hq⟩
      · obtain ⟨h1, h2⟩ := gFind_some (l := l) h
        exact ⟨by simp [h1], h2⟩
theorem fxR_find {M : RenL} : ∀ {fx : List Nat} {o q : Nat}, (fxR M fx).find o = some q ↔ o ∈ fx ∧ M.find o = some q
  | [], o, q => by simp [fxR, RenL.find]
  | o0 :: fx, o, q => by
    unfold fxR
    cases hf : M.find o0 with
    | none =>
      simp only
      rw [fxR_find]
      constructor
      · rintro ⟨h1, h2⟩; exact ⟨by simp [h1], h2⟩
      · rintro ⟨h1, h2⟩
        rcases List.mem_cons.1 h1 with rfl | h1
        · rw [hf] at h2; cases h2
        · exact ⟨h1, h2⟩
    | some q0 =>
      show cond (Nat.beq o0 o) (some q0) (RenL.find (fxR M fx) o) = some q ↔ _
      cases hb : Nat.beq o0 o
      · rw [cond_false, fxR_find]
        constructor
        · rintro ⟨h1, h2⟩; exact ⟨by simp [h1], h2⟩
        · rintro ⟨h1, h2⟩
          rcases List.mem_cons.1 h1 with rfl | h1
          · rw [Nat.beq_refl] at hb; cases hb
          · exact ⟨h1, h2⟩
      · have := Nat.eq_of_beq_eq_true hb
        subst this
        rw [cond_true]
        constructor
        · intro h; cases h; exact ⟨by simp, hf⟩
        · rintro ⟨_, h2⟩; rw [hf] at h2; exact h2
theorem freshR_ok {fx : List Nat} : ∀ {xo : List (Nat × OP)} {m0 m : RenL} {l : List Nat}, freshR fx xo m0 l = some m → (∀ o q, m0.find o = some q → m.find o = some q) ∧ ∀ o q, m.find o = some q → m0.find o = some q ∨ (o ∈ idsO xo ∧ memN fx o = false ∧ q ∈ l)
  | [], m0, m, l, h => by
    have h' : some m0 = some m := h
    cases h'
    exact ⟨fun _ _ h => h, fun _ _ h => .inl h⟩
  | (o0, p) :: xo, m0, m, l, h => by
    unfold freshR at h
    cases hf : memN fx o0 <;> rw [hf] at h
    · simp only [cond_false] at h
      split at h
      · cases h
      · rename_i hn
        split at h
        · rename_i n l'
          obtain ⟨h1, h2⟩ := freshR_ok h
          have hcons : ∀ o, RenL.find ((o0, n) :: m0) o = cond (Nat.beq o0 o) (some n) (RenL.find m0 o) := fun _ => rfl
          refine ⟨fun o q hq => h1 o q ?_, fun o q hq => ?_⟩
          · rw [hcons]
            cases hb : Nat.beq o0 o
            · exact hq
            · have := Nat.eq_of_beq_eq_true hb
              subst this
              rw [hn] at hq; cases hq
          · rcases h2 o q hq with h3 | ⟨h3, h4, h5⟩
            · rw [hcons] at h3
              cases hb : Nat.beq o0 o <;> rw [hb] at h3
              · exact .inl h3
              · have := Nat.eq_of_beq_eq_true hb
                subst this
                cases h3
                exact .inr ⟨by simp [idsO], hf, by simp⟩
            · exact .inr ⟨by simp [idsO, h3], h4, by simp [h5]⟩
        · cases h
    · obtain ⟨h1, h2⟩ := freshR_ok (show freshR fx xo m0 l = some m from h)
      exact ⟨h1, fun o q hq => (h2 o q hq).imp_right fun ⟨k1, k2, k3⟩ => ⟨by simp [idsO, k1], k2, k3⟩⟩
theorem givenR_mem {M : RenL} {fx : List Nat} : ∀ {l : List (Nat × OP)} {o q : Nat} {p : OP}, findO l o = some p → (∀ v, p ≠ .rv v) → memN fx o = false → M.find o = some q → q ∈ givenR M fx l
  | (o0, p0) :: l, o, q, p, h, hp, hf, hq => by
    have h' : cond (Nat.beq o0 o) (some p0) (findO l o) = some p := h
    cases hb : Nat.beq o0 o <;> rw [hb] at h'
    · have ih := givenR_mem (l := l) h' hp hf hq
      cases p0 with
      | rv v => exact ih
      | arr t nn =>
        show q ∈ cond (memN fx o0) (givenR M fx l) _
        cases memN fx o0
        · simp only [cond_false]
          split
          · simp [ih]
          · exact ih
        · exact ih
      | var v =>
        show q ∈ cond (memN fx o0) (givenR M fx l) _
        cases memN fx o0
        · simp only [cond_false]
          split
          · simp [ih]
          · exact ih
        · exact ih
      | mp k t =>
        show q ∈ cond (memN fx o0) (givenR M fx l) _
        cases memN fx o0
        · simp only [cond_false]
          split
          · simp [ih]
          · exact ih
        · exact ih
    · have := Nat.eq_of_beq_eq_true hb
      subst this
      cases h'
      cases p0 with
      | rv v => exact absurd rfl (hp v)
      | arr t nn =>
        show q ∈ cond (memN fx o0) (givenR M fx l) _
        rw [hf, hq]
        simp
      | var v =>
        show q ∈ cond (memN fx o0) (givenR M fx l) _
        rw [hf, hq]
        simp
      | mp k t =>
        show q ∈ cond (memN fx o0) (givenR M fx l) _
        rw [hf, hq]
        simp
theorem givenR_imgs {M : RenL} {fx : List Nat} : ∀ {l : List (Nat × OP)} {q : Nat}, q ∈ givenR M fx l → ∃ o, M.find o = some q
  | (o0, .rv v) :: l, q, h => givenR_imgs (l := l) h
  | (o0, .arr t nn) :: l, q, h => by
    have h' : q ∈ cond (memN fx o0) (givenR M fx l) (match M.find o0 with | some q => q :: givenR M fx l | none => givenR M fx l) := h
    cases hf0 : memN fx o0 <;> rw [hf0] at h'
    · simp only [cond_false] at h'
      split at h'
      · rename_i q0 hf
        rcases List.mem_cons.1 h' with rfl | h'
        · exact ⟨_, hf⟩
        · exact givenR_imgs h'
      · exact givenR_imgs h'
    · exact givenR_imgs (l := l) h'
  | (o0, .var v) :: l, q, h => by
    have h' : q ∈ cond (memN fx o0) (givenR M fx l) (match M.find o0 with | some q => q :: givenR M fx l | none => givenR M fx l) := h
    cases hf0 : memN fx o0 <;> rw [hf0] at h'
    · simp only [cond_false] at h'
      split at h'
      · rename_i q0 hf
        rcases List.mem_cons.1 h' with rfl | h'
        · exact ⟨_, hf⟩
        · exact givenR_imgs h'
      · exact givenR_imgs h'
    · exact givenR_imgs (l := l) h'
  | (o0, .mp k t) :: l, q, h => by
    have h' : q ∈ cond (memN fx o0) (givenR M fx l) (match M.find o0 with | some q => q :: givenR M fx l | none => givenR M fx l) := h
    cases hf0 : memN fx o0 <;> rw [hf0] at h'
    · simp only [cond_false] at h'
      split at h'
      · rename_i q0 hf
        rcases List.mem_cons.1 h' with rfl | h'
        · exact ⟨_, hf⟩
        · exact givenR_imgs h'
      · exact givenR_imgs h'
    · exact givenR_imgs (l := l) h'
theorem nthV_map : ∀ {vs : List VT} {t : Nat}, getL (vs.map some) t = nthV vs t
  | [], _ => rfl
  | v :: l, 0 => rfl
  | v :: l, t + 1 => nthV_map (vs := l)
theorem nthV_all {R : VT → Value → Prop} : ∀ {vs : List VT} {us : List Value} {t : Nat} {v : VT}, All2 R vs us → nthV vs t = some v → ∃ u, us[t]? = some u ∧ R v u
  | _, _, 0, v, .cons h t, e => by cases e; exact ⟨_, rfl, h⟩
  | _, _, n + 1, v, .cons h t, e => by
    obtain ⟨u, h1, h2⟩ := nthV_all t e
    exact ⟨u, by simpa using h1, h2⟩
theorem All2.len {α β : Type} {R : α → β → Prop} : ∀ {l : List α} {m : List β}, All2 R l m → l.length = m.length
  | _, _, .nil => rfl
  | _, _, .cons h t => by simp [All2.len t]
theorem backB_ok {a b : Option OP} (h : OP.backB a b = true) : (∃ t nn t' nn', a = some (.arr t nn) ∧ b = some (.arr t' nn')) ∨ (∃ v u, a = some (.var v) ∧ b = some (.var u) ∧ v.lay = u.lay) ∨ ∃ k t k' t', a = some (.mp k t) ∧ b = some (.mp k' t') := by
  unfold OP.backB at h
  split at h
  · exact .inl ⟨_, _, _, _, rfl, rfl⟩
  · exact .inr (.inl ⟨_, _, rfl, rfl, of_decide_eq_true h⟩)
  · exact .inr (.inr ⟨_, _, _, _, rfl, rfl⟩)
  · cases h
theorem findO_mem : ∀ {l : List (Nat × OP)} {o : Nat} {p : OP}, findO l o = some p → o ∈ idsO l
  | (o0, p0) :: l, o, p, h => by
    have h' : cond (Nat.beq o0 o) (some p0) (findO l o) = some p := h
    cases hb : Nat.beq o0 o <;> rw [hb] at h'
    · simp [idsO, findO_mem (l := l) h']
    · simp [idsO, Nat.eq_of_beq_eq_true hb]
structure OkG (g : Fg) : Prop where
  pn : (idsO g.pat.ob).Nodup
  pl : ∀ o ∈ idsO g.pat.ob, o < g.pat.m
  xn : (idsO g.xo).Nodup
  xl : ∀ o ∈ idsO g.xo, o < g.pat.m
  fx : ∀ o ∈ g.fx, OP.backB (findO g.pat.ob o) (findO g.xo o) = true
theorem okG_iff {g : Fg} (h : okG g = true) : OkG g := by
  unfold okG at h
  simp only [Bool.and_eq_true] at h
  obtain ⟨h1, h2, h3, h4, h5⟩ := h
  exact ⟨nodupN_iff.1 h1, fun o ho => Nat.le_of_ble_eq_true (List.all_eq_true.1 h2 o ho), nodupN_iff.1 h3, fun o ho => Nat.le_of_ble_eq_true (List.all_eq_true.1 h4 o ho), fun o ho => List.all_eq_true.1 h5 o ho⟩
section
variable {P : Program}
theorem callG0_sound {C : Ctx} {S : Side} {x : X} {a : Act} {w : World} (I : Inv C S x a w) {E : Env} (hG : ∀ g ∈ E.G, FgOk P g) {r : Rd} (R : RdOk r x) {o : Oper} {key f : Nat} {vs : List VT} {us : List Value} (hvs : All2 (VTV S x.ob w) vs us) {e : Eff}
    (h : (opCallG0 E key r f vs).has e) (hw : ∀ m ∈ wrote e.ob, r.o m = getO x.ob m ∧ m < x.ob.length)
    (hrun : (∃ fn c, P.funcs[f]? = some fn ∧ fn.name ≠ "runtime.NumGoroutine" ∧ fn.body = some c) → (execOp a.eval o).run P w = .ok (.enter f us.toArray) w) : Does P C o a w x e := by
  intro next Q hn
  unfold opCallG0 at h
  split at h
  rotate_left
  · exact h.elim
  rename_i g d M hfind
  obtain ⟨hmem, hid, hlen, hget⟩ := gFind_some hfind
  obtain ⟨hck, h⟩ := Br.when_has h
  simp only [Bool.and_eq_true] at hck
  obtain ⟨z, hz, h3⟩ := h
  obtain ⟨hok, hfg⟩ := hG g hmem
  have ok := okG_iff hok
  -- the arguments as slots
  have hul : us.length = vs.length := (All2.len hvs).symm
  have I2 : Inv C S ⟨vs.map some, x.ob⟩ { tmps := us.toArray, defers := [] } w := by
    refine ⟨rfl, by simp [hul], fun t v ht => ?_, I.objs, I.sep, I.okn, I.kept, I.fix⟩
    have ht' : nthV vs t = some v := by rw [← nthV_map]; exact ht
    obtain ⟨u, h1, h2⟩ := nthV_all hvs ht'
    exact ⟨u, by simpa using h1, h2⟩
  have R2 : RdOk (argRd r vs) ⟨vs.map some, x.ob⟩ := by
    refine ⟨fun y v hv => ?_, fun n c hc => R.o n c hc⟩
    cases y with
    | tmp t => show getL (vs.map some) t = some v; rw [nthV_map]; exact hv
    | const c => cases hv
    | global c => cases hv
    | func c => cases hv
  obtain ⟨S', Qm⟩ := match_sound hget I2 R2
  let C1 : Ctx := ⟨w, fun b => ∃ o c, (getO (g.pat.mk' d).ob o).c = some c ∧ c.isRv = false ∧ b ∈ S'.fp o, fun o => o ∈ g.fx, S'.hd, fun o => (getO (g.pat.mk' d).ob o).c.bind Ob.shape, fun _ => True⟩
  have I3 : Inv C1 S' (g.pat.mk' d) (actOf us g.pat.n) w := by
    refine ⟨rfl, ?_, fun t v ht => ?_, fun o c hc => ?_, Qm.sep, fun b hb => ⟨Qm.okb b hb, .inl trivial⟩, ⟨rfl, Ahead.refl _, rfl, Nat.le_refl _, fun _ _ _ => rfl⟩, fun o c _ _ hc => ⟨rfl, ?_⟩⟩
    · show (us ++ List.replicate (g.pat.n - us.length) undef).toArray.size = (mkSlots g.pat.sl d.1 (List.replicate g.pat.n none)).length
      rw [mkSlots_len]
      simp
      omega
    · obtain ⟨u, h1, h2⟩ := Qm.slots t v ht
      refine ⟨u, ?_, h2⟩
      have h1' : us[t]? = some u := by simpa using h1
      show (us ++ List.replicate (g.pat.n - us.length) undef).toArray[t]? = some u
      rw [List.getElem?_toArray, List.getElem?_append_left (List.getElem?_eq_some_iff.1 h1').1]
      exact h1'
    · obtain ⟨k1, k2, k3⟩ := Qm.objs o c hc
      refine ⟨k1, k2, fun b hb => ?_⟩
      obtain ⟨j1, j2, _⟩ := k3 b hb
      cases hrv : c.isRv
      · exact ⟨j1, j2, .inr (.inl ⟨o, c, hc, hrv, hb⟩)⟩
      · exact ⟨j1, j2, .inr (.inr rfl)⟩
    · show c.shape = (getO (g.pat.mk' d).ob o).c.bind Ob.shape
      rw [hc]; rfl
  obtain ⟨hfn, hcalls⟩ := hfg C1 S' w d us z (by omega) rfl (fun o => Iff.rfl) I3 hz
  rw [hid] at hfn hcalls
  unfold Oper.wp
  rw [hrun hfn, Oper.upon_enter]
  refine Calls.mono hcalls ?_
  rintro (v | ch | _) w' hres
  rotate_left
  · exact hres.elim
  · exact hres.elim
  obtain ⟨S1, F, I1, hr, hF, hFb⟩ := hres
  -- what becomes of the objects
  have main : ∀ {eo : List (Nat × Obe)} {l' : List Nat} {m : RenL} {e2 : List (Nat × Obe)}, (∀ n ∈ l', n ∈ freeOf r (alFind E.al key) ∧ n ∉ wrote eo) → (∀ n ∈ wrote eo, n ∈ freeOf r (alFind E.al key)) →
      freshR g.fx g.xo (fxR M.m g.fx) l' = some m → exitE r g.fx m g.xo z.2 = some e2 → nodupN (wrote e2) = true → apartN (wrote e2) (givenR M.m g.fx g.pat.ob) = true →
      (∀ q ∈ wrote (gone r (givenR M.m g.fx g.pat.ob) ++ (e2 ++ eo)), r.o q = getO x.ob q ∧ q < x.ob.length) →
      ∃ S2, Inv C S2 ⟨x.sl, putO x.ob (gone r (givenR M.m g.fx g.pat.ob) ++ e2)⟩ a w' ∧ (∀ b ∈ F, Free C S2 (putO x.ob (gone r (givenR M.m g.fx g.pat.ob) ++ e2)) w' b) ∧
        ∀ q ∈ wrote eo, r.o q = getO (putO x.ob (gone r (givenR M.m g.fx g.pat.ob) ++ e2)) q ∧ q < (putO x.ob (gone r (givenR M.m g.fx g.pat.ob) ++ e2)).length := by
    intro eo l' m e2 hl' heo hfr hex hne hap hw'
    obtain ⟨f1, f2⟩ := freshR_ok hfr
    have hne := nodupN_iff.1 hne
    have hap := apartN_iff.1 hap
    have hfr1 := apartN_iff.1 hck.2
    have hwr : ∀ q, q ∈ givenR M.m g.fx g.pat.ob ∨ q ∈ wrote e2 → q ∈ wrote (gone r (givenR M.m g.fx g.pat.ob) ++ (e2 ++ eo)) := by
      intro q hq
      rw [wrote_app, wrote_app, wrote_gone]
      rcases hq with h | h <;> simp [h]
    have hmx : ∀ o q, m.find o = some q → o ∈ idsO g.xo := by
      intro o q hq
      rcases f2 o q hq with h | h
      · obtain ⟨h1, _⟩ := fxR_find.1 h
        rcases backB_ok (ok.fx o h1) with ⟨_, _, _, _, _, k⟩ | ⟨_, _, _, k, _⟩ | ⟨_, _, _, _, _, k⟩ <;> exact findO_mem k
      · exact h.1
    have hfxM : ∀ o q, o ∈ g.fx → m.find o = some q → M.m.find o = some q := by
      intro o q ho hq
      rcases f2 o q hq with h | ⟨_, h, _⟩
      · exact (fxR_find.1 h).2
      · rw [memN_iff.2 ho] at h; cases h
    have hH := I.handed (r := r) (fx := g.fx) (m := m) (xo := g.xo) (y := z.2) (e2 := e2) (gl := givenR M.m g.fx g.pat.ob) (M0 := g.pat.m) I1 rfl hex ok.xn ok.xl hmx hne hap
      (fun q hq => hw' q (hwr q hq))
      (fun b hb => by
        obtain ⟨o, c, h1, h2, h3⟩ := hb
        obtain ⟨_, _, k3⟩ := Qm.objs o c h1
        obtain ⟨_, _, o', c', j1, j2, j3, j4⟩ := k3 b h3
        refine ⟨o', c', ?_, j2, ?_, j3⟩
        · have hpo : o ∈ idsO g.pat.ob := mkObjs_mem (y := d.2) (m := g.pat.m) h1
          obtain ⟨p, hp⟩ := findO_some hpo
          obtain ⟨y1, hy1⟩ := mkObjs_find (y := d.2) (z := List.replicate g.pat.m ⟨0, 0, none⟩) ok.pn (fun o ho => by rw [List.length_replicate]; exact ok.pl o ho) hp
          have hnr : ∀ v, p ≠ .rv v := by
            rintro v rfl
            have h1' : (getO (mkObjs g.pat.ob d.2 (List.replicate g.pat.m ⟨0, 0, none⟩)) o).c = some c := h1
            rw [hy1] at h1'
            cases h1'
            cases h2
          cases hfx : memN g.fx o
          · exact .inl (givenR_mem hp hnr hfx j1)
          · have ho := memN_iff.1 hfx
            have hmo : m.find o = some o' := f1 o o' (fxR_find.2 ⟨ho, j1⟩)
            exact .inr (exitE_all hex o (hmx o o' hmo) o' hmo)
        · cases hrv : c'.isRv
          · rfl
          · rw [j4 hrv] at h2; cases h2)
      (fun o q c1 hfx hq hc1 => by
        have ho := memN_iff.1 hfx
        have hMq := hfxM o q ho hq
        have plen : ∀ o ∈ idsO g.pat.ob, o < (List.replicate g.pat.m (⟨0, 0, none⟩ : Obe)).length := fun o ho => by rw [List.length_replicate]; exact ok.pl o ho
        have xlen : ∀ o ∈ idsO g.xo, o < (List.replicate g.pat.m (⟨0, 0, none⟩ : Obe)).length := fun o ho => by rw [List.length_replicate]; exact ok.xl o ho
        have hcx : ∀ {p : OP}, findO g.xo o = some p → (getO (mkObjs g.xo z.2 (List.replicate g.pat.m ⟨0, 0, none⟩)) o).g = 0 ∧ ∃ y1, c1 = p.mkOb y1 := by
          intro p hp
          obtain ⟨y1, hy1⟩ := mkObjs_find (y := z.2) (z := List.replicate g.pat.m ⟨0, 0, none⟩) ok.xn xlen hp
          rw [hy1] at hc1 ⊢
          cases hc1
          exact ⟨rfl, y1, rfl⟩
        have hmain : ∀ {p0 p1 : OP}, findO g.pat.ob o = some p0 → findO g.xo o = some p1 → ∃ y0 y1, getO (g.pat.mk' d).ob o = ⟨0, 0, some (p0.mkOb y0)⟩ ∧ c1 = p1.mkOb y1 ∧ S1.hd o = S.hd q ∧ c1.shape = (p0.mkOb y0).shape := by
          intro p0 p1 h0 h1
          obtain ⟨y0, hy0⟩ := mkObjs_find (y := d.2) (z := List.replicate g.pat.m ⟨0, 0, none⟩) ok.pn plen h0
          obtain ⟨k1, y1, k2⟩ := hcx h1
          obtain ⟨i1, i2⟩ := I1.fix o c1 ho k1 hc1
          refine ⟨y0, y1, hy0, k2, i1.trans (Qm.hd o q hMq), ?_⟩
          rw [i2]
          show (getO (g.pat.mk' d).ob o).c.bind Ob.shape = _
          have hy0' : getO (g.pat.mk' d).ob o = ⟨0, 0, some (p0.mkOb y0)⟩ := hy0
          rw [hy0']
          rfl
        have hne : o ∉ M.e := fun he => by rw [Qm.inj.e o he] at hMq; cases hMq
        rcases backB_ok (ok.fx o ho) with ⟨t, nn, t', nn', e0, e1⟩ | ⟨v, u, e0, e1, el⟩ | ⟨k, t, k', t', e0, e1⟩
        · obtain ⟨y0, y1, g1, g2, g3, g4⟩ := hmain e0 e1
          rcases (Qm.src o).2.2 _ (by rw [g1]) with ⟨he, _⟩ | ⟨o', hf', q1⟩
          · exact absurd he hne
          · rw [hMq] at hf'
            cases hf'
            obtain ⟨nn2, q2, _⟩ := q1
            refine ⟨_, q2, g3, g4, by rw [g2]; rfl, fun uq hu => by cases hu⟩
        · obtain ⟨y0, y1, g1, g2, g3, g4⟩ := hmain e0 e1
          rcases (Qm.src o).2.2 _ (by rw [g1]) with ⟨he, _⟩ | ⟨o', hf', q1⟩
          · exact absurd he hne
          · rw [hMq] at hf'
            cases hf'
            obtain ⟨u0, vp, r0, r1, y', q2, q3, q4, _⟩ := q1
            refine ⟨_, q2, g3, g4, by rw [g2]; rfl, fun uq hu => ?_⟩
            cases hu
            refine ⟨u.mk y1, by rw [g2]; rfl, ?_⟩
            rw [get_lay q3, mk_lay, ← el, ← mk_lay vp y', ← q4, mk_lay]
        · obtain ⟨y0, y1, g1, g2, g3, g4⟩ := hmain e0 e1
          rcases (Qm.src o).2.2 _ (by rw [g1]) with ⟨he, _⟩ | ⟨o', hf', q1⟩
          · exact absurd he hne
          · rw [hMq] at hf'
            cases hf'
            exact ⟨_, q1, g3, g4, by rw [g2]; rfl, fun uq hu => by cases hu⟩)
    obtain ⟨S2, k1, _, k3⟩ := hH
    refine ⟨S2, k1, fun b hb => k3 b (hFb b hb).1 (hFb b hb).2.1 (hFb b hb).2.2, fun q hq => ?_⟩
    have hqf := heo q hq
    have hq2 := hw' q (by rw [wrote_app, wrote_app]; simp [hq])
    refine ⟨?_, by rw [putO_length]; exact hq2.2⟩
    rw [getO_putO_ne]
    · exact hq2.1
    · rw [wrote_app, wrote_gone]
      intro hm
      rcases List.mem_append.1 hm with hm | hm
      · obtain ⟨o', ho'⟩ := givenR_imgs hm
        exact hfr1 q hqf (find_imgs ho')
      · obtain ⟨obe, hobe⟩ := wrote_mem hm
        obtain ⟨o', c1, c, j1, j2, j3, _⟩ := exitE_at (z := List.replicate g.pat.m ⟨0, 0, none⟩) hex ok.xn (fun o ho => by rw [List.length_replicate]; exact ok.xl o ho) q obe hobe
        rcases f2 o' q j3 with h | ⟨_, _, h⟩
        · exact hfr1 q hqf (find_imgs (fxR_find.1 h).2)
        · exact (hl' q h).2 hq
  have hnd' := nodupN_iff.1 hck.1
  have fin : ∀ {S' : Side} {nv : VT} {eo : List (Nat × Obe)}, Inv C S' ⟨x.sl, putO x.ob eo⟩ a w' → VTV S' (putO x.ob eo) w' nv v → e = ⟨some nv, eo⟩ → next (a.put o.dst v) w' := by
    intro S' nv eo I' hv' he
    subst he
    refine hn (a.put o.dst v) w' S' ?_
    have := I'.put o.dst (some nv) v (fun v' e => by cases e; exact hv')
    cases hd : o.dst <;> rw [hd] at this <;> exact this
  cases htup : g.tup
  · rw [htup] at hr h3
    obtain ⟨v2, eo, l', k1, k2, k3, k4⟩ := resV_sound h3 hnd' hr hF
    obtain ⟨m, hm, k1⟩ := Br.opt_has k1
    obtain ⟨e2, he2, k1⟩ := Br.opt_has k1
    obtain ⟨hck2, k1⟩ := Br.when_has k1
    simp only [Bool.and_eq_true] at hck2
    have k1' : (⟨some v2, gone r (givenR M.m g.fx g.pat.ob) ++ (e2 ++ eo)⟩ : Eff) = e := k1
    rw [← k1'] at hw
    obtain ⟨S2, i1, i2, i3⟩ := main k2.2 k3 hm he2 hck2.1 hck2.2 hw
    obtain ⟨S', _, q1, q2, ⟨cs, q3, q4⟩, _⟩ := k4 (S := S2) (sl := x.sl) (ob := putO x.ob (gone r (givenR M.m g.fx g.pat.ob) ++ e2)) i1 (fun b hb => hb.elim) i2 i3
    rw [← putO_app, List.append_assoc] at q1 q2 q3
    refine fin q1 ?_ k1'.symm
    rw [q4]
    exact VTC_VTV q3
  · rw [htup] at hr h3
    obtain ⟨us', rfl, hr⟩ := hr
    obtain ⟨v2, eo, l', k1, k2, k3, k4⟩ := resT_sound h3 hnd' hr hF
    obtain ⟨m, hm, k1⟩ := Br.opt_has k1
    obtain ⟨e2, he2, k1⟩ := Br.opt_has k1
    obtain ⟨hck2, k1⟩ := Br.when_has k1
    simp only [Bool.and_eq_true] at hck2
    have k1' : (⟨some (.tu v2), gone r (givenR M.m g.fx g.pat.ob) ++ (e2 ++ eo)⟩ : Eff) = e := k1
    rw [← k1'] at hw
    obtain ⟨S2, i1, i2, i3⟩ := main k2.2 k3 hm he2 hck2.1 hck2.2 hw
    obtain ⟨S', _, q1, q2, q3⟩ := k4 (S := S2) (sl := x.sl) (ob := putO x.ob (gone r (givenR M.m g.fx g.pat.ob) ++ e2)) i1 (fun b hb => hb.elim) i2 i3
    rw [← putO_app, List.append_assoc] at q1 q2 q3
    exact fin (nv := .tu v2) q1 ⟨us', rfl, q3⟩ k1'.symm
theorem All2.mono {α β : Type} {R R' : α → β → Prop} (h : ∀ a b, R a b → R' a b) : ∀ {l : List α} {m : List β}, All2 R l m → All2 R' l m
  | _, _, .nil => .nil
  | _, _, .cons a t => .cons (h _ _ a) (All2.mono h t)
theorem rowArg_at {R : VT → Value → Prop} : ∀ {vs : List VT} {us : List Value} {k : Nat} {q : Nat × Nat × Nat × Nat × Nat}, rowArg vs k = some q → All2 R vs us →
    ∃ u, k ≤ q.1 ∧ R (.sl q.2.1 q.2.2.1 q.2.2.2.1 [.i q.2.2.2.2] none) u ∧ ∀ (R' : VT → Value → Prop) v', (∀ v u, R v u → R' v u) → R' v' u → All2 R' (vs.set (q.1 - k) v') us := by
  intro vs
  induction vs with
  | nil => intro us k q h _; cases h
  | cons v l ih =>
    intro us k q h hall
    cases hall with
    | cons hv ht =>
      have rest : rowArg l (k + 1) = some q → ∃ u, k ≤ q.1 ∧ R (.sl q.2.1 q.2.2.1 q.2.2.2.1 [.i q.2.2.2.2] none) u ∧ ∀ (R' : VT → Value → Prop) v', (∀ v u, R v u → R' v u) → R' v' u → All2 R' ((v :: l).set (q.1 - k) v') (_ :: _) := fun h => by
        obtain ⟨u, h1, h2, h3⟩ := ih h ht
        refine ⟨u, by omega, h2, fun R' v' hm hn => ?_⟩
        rw [show q.1 - k = (q.1 - (k + 1)) + 1 by omega, List.set_cons_succ]
        exact .cons (hm _ _ hv) (h3 R' v' hm hn)
      cases v with
      | sl o g h0 p win =>
        match p, win, h with
        | [.i j], none, h =>
          have h := Option.some.inj h
          subst h
          refine ⟨_, Nat.le_refl _, hv, fun R' v' hm hn => ?_⟩
          simp only [Nat.sub_self, List.set_cons_zero]
          exact .cons hn (ht.mono hm)
        | [], _, h => exact rest h
        | .f _ :: [], _, h => exact rest h
        | .f _ :: _ :: _, _, h => exact rest h
        | .i _ :: _ :: _, _, h => exact rest h
        | [.i j], some _, h => exact rest h
      | _ => exact rest h
theorem callG_sound {C : Ctx} {S : Side} {x : X} {a : Act} {w : World} (I : Inv C S x a w) {E : Env} (hG : ∀ g ∈ E.G, FgOk P g) {r : Rd} (R : RdOk r x) {o : Oper} {key f : Nat} {vs : List VT} {us : List Value} (hvs : All2 (VTV S x.ob w) vs us) {e : Eff}
    (h : (opCallG E key r f vs).has e) (hw : ∀ m ∈ wrote e.ob, r.o m = getO x.ob m ∧ m < x.ob.length)
    (hrun : (∃ fn c, P.funcs[f]? = some fn ∧ fn.name ≠ "runtime.NumGoroutine" ∧ fn.body = some c) → (execOp a.eval o).run P w = .ok (.enter f us.toArray) w) : Does P C o a w x e := by
  unfold opCallG at h
  split at h
  · exact callG0_sound I hG R hvs h hw hrun
  · split at h
    · rename_i q n0 rest hq hal
      obtain ⟨p, hp, h2⟩ := Br.opt_has h
      obtain ⟨e0, h3, rfl⟩ := Br.mapE_has h2
      have hn0 := hw n0 (by simp [wrote])
      obtain ⟨u, k0, k1, k2⟩ := rowArg_at hq hvs
      obtain ⟨S', I1, hv1, hvr, R1, hne, hlo⟩ := rowOut_sound I R hp hn0.1 hn0.2 k1
      have := callG0_sound I1 hG R1 (k2 _ _ (fun v u hv => VTV_tr hv1 hv) hvr) h3 (fun m hm => by
        have := hw m (by simp [wrote, hm])
        exact ⟨put2_o hlo hn0.2 hne this.1, by rw [putO_length]; exact this.2⟩) hrun
      exact this
    · exact h.elim
end
end Go.Vm
set_option linter.unusedVariables false
set_option linter.unusedSimpArgs false
namespace Go.Vm
open Go Go.RowKit
def So.more (s : So) : List Value := s.rest.map fun f => .func (.func f) #[] #[]
def SoOk (P : Program) (s : So) : Prop := s.t.flat = true ∧ (∀ xs, (s.F xs).length = xs.length) ∧ (∃ fn c, P.funcs[s.id]? = some fn ∧ fn.name ≠ "runtime.NumGoroutine" ∧ fn.body = some c) ∧
  (∀ (w : World) (A : Option Addr) (cap : Nat), Calls P s.id (.slice A 0 cap :: s.more).toArray w fun e w' => e = .returned (.tuple #[]) ∧ w' = w) ∧
  ∀ (w : World) (b off cap : Nat) (l : List Value) (xs : List s.t.D), xs ≠ [] → List.length xs ≤ 1073741824 → hv w b = some l → off + List.length xs * s.t.cells ≤ l.length → (l.drop off).take (List.length xs * s.t.cells) = encs s.t xs →
    Calls P s.id (.slice (some ⟨b, off, none⟩) (List.length xs) cap :: s.more).toArray w fun e w' => e = .returned (.tuple #[]) ∧ w'.os = w.os ∧ Ahead w w' ∧ w'.output = w.output ∧ w.heap.size ≤ w'.heap.size ∧
      hv w' b = some (setC l off (encs s.t (s.F xs))) ∧ ∀ c, c < w.heap.size → c ≠ b → w'.heap[c]? = w.heap[c]?
theorem set_getD {α : Type} (xs : List α) (n : Nat) (d : α) : xs.set n (xs.getD n d) = xs := by
  apply List.ext_getElem?
  intro i
  rw [List.getElem?_set]
  split
  · rename_i e
    subst e
    split
    · rename_i h; simp [List.getD, List.getElem?_eq_getElem h]
    · rename_i h; rw [List.getElem?_eq_none (by omega)]
  · rfl
theorem setP_getP : ∀ (t : Ty) {x : t.D} {p : List Stp} {d : Dy}, getP t x p = some d → setP t x p d = some x := by
  intro t
  have nil : ∀ (t : Ty) {x : t.D} {d : Dy}, getP t x [] = some d → setP t x [] d = some x := by
    intro t x d h
    rw [getP_nil] at h
    cases h
    cases t <;> simp [setP, Dy.as]
  induction t with
  | int k | bool | str | un | op =>
    intro x p d h
    cases p with
    | nil => exact nil _ h
    | cons s p => simp [getP] at h
  | pr a b iha ihb =>
    intro x p d h
    cases p with
    | nil => exact nil _ h
    | cons s p => cases s with
      | i n => simp [getP] at h
      | f j => cases j with
        | zero =>
          have := iha (p := p) h
          simp [setP, this]
        | succ j =>
          have := ihb (p := .f j :: p) h
          simp [setP, this]
  | sl t ih =>
    intro x p d h
    cases p with
    | nil => exact nil _ h
    | cons s p => cases s with
      | f j => simp [getP] at h
      | i n =>
        have := ih (p := p) h
        simp only [setP, this, Option.map_some]
        rw [set_getD]
section
variable {P : Program} {S : Side} {w : World}
theorem Inv.over2 {C : Ctx} {x : X} {a : Act} (I : Inv C S x a w) {o g h : Nat} {t : Ty} {xs ys : List t.D} {nn : Bool} (he : getO x.ob o = ⟨g, h, some (.arr t xs nn)⟩) (hlt : o < x.ob.length) (hlen : ys.length = xs.length) {b : Nat} {w' : World}
    (hb : b ∈ S.fp o) (hoth : ∀ c, c < w.heap.size → c ≠ b → w'.heap[c]? = w.heap[c]?) (hsz : w.heap.size ≤ w'.heap.size) (hos : w'.os = w.os) (htape : Ahead w w') (hout : w'.output = w.output)
    (hown : OwnS (hv w') (Own (hv w') t) t.cells (S.hd o).1 (S.hd o).2 ys (S.fp o)) (hmono : ∀ c k v, cellAt (hv w) c k = some v → isSl v = true → cellAt (hv w') c k = some v) :
    Inv C S ⟨x.sl, putO x.ob [(o, ⟨g, h, some (.arr t ys nn)⟩)]⟩ a w' := by
  have hob : (getO x.ob o).c = some (.arr t xs nn) := by rw [he]
  obtain ⟨⟨_, hnn⟩, hnd, hmine⟩ := I.objs o _ hob
  have hbm := hmine b hb
  have hnew : getO (putO x.ob [(o, ⟨g, h, some (.arr t ys nn)⟩)]) o = ⟨g, h, some (.arr t ys nn)⟩ := by
    simp only [putO]
    rw [getO_set, if_pos ⟨rfl, hlt⟩]
  have hold : ∀ o', o' ≠ o → getO (putO x.ob [(o, ⟨g, h, some (.arr t ys nn)⟩)]) o' = getO x.ob o' := fun o' ho' => getO_putO_ne _ _ _ (by simp [wrote]; exact ho')
  have hne : ∀ c, (∃ o' k, o' ≠ o ∧ (getO x.ob o').c = some k ∧ c ∈ S.fp o') → c ≠ b := by
    rintro c ⟨o', k, ho', hk, hc⟩ e
    subst e
    exact I.sep o' o k _ ho' hk hob c hc hb
  refine (I.turn (S' := S) (ob' := putO x.ob [(o, ⟨g, h, some (.arr t ys nn)⟩)]) (w' := w') (fun m => m = o)
    (fun m hm => ⟨hold m hm, rfl, rfl, fun c hc c1 hc1 => ⟨hoth c1 ((I.objs m c hc).2.2 c1 hc1).2.1 (hne c1 ⟨m, c, hm, hc, hc1⟩), ((I.objs m c hc).2.2 c1 hc1).1⟩⟩)
    (fun c hc => ⟨hc, hoth c (I.okb c hc) (fun e => hbm.1 (e ▸ hc))⟩)
    (fun m hm => ?_) (fun _ m c hm hc => ?_) (fun m m' c c' hm hne' hc hc' d hd hd' => ?_) hsz (fun c hc => Nat.lt_of_lt_of_le (I.okb c hc) hsz)
    ⟨hos.trans I.kept.os, htape.trans I.kept.tape, hout.trans I.kept.output, Nat.le_trans I.kept.size hsz, fun k hk hd => by
      rw [← I.kept.block k hk hd]
      refine hoth k (Nat.lt_of_lt_of_le hk I.kept.size) (fun e => ?_)
      subst e
      rcases hbm.2.2 with h | h | h
      · omega
      · exact hd h
      · cases h⟩ (fun m c hm hf hg hc => ?_)).1
  · subst hm
    have hg0 : (getO (putO x.ob [(m, ⟨g, h, some (.arr t ys nn)⟩)]) m).g = (getO x.ob m).g := by rw [hnew, he]
    have hh0 : (getO (putO x.ob [(m, ⟨g, h, some (.arr t ys nn)⟩)]) m).h = (getO x.ob m).h := by rw [hnew, he]
    refine ⟨fun g1 h1' p1 win v1 hr1 hs1 => ⟨by unfold refOk at *; omega, fun t2 xs2 nn2 hc2' hg2 hp2 => ?_, fun t4 xs4 nn4 j4 hc4 => (by rw [hnew] at hc4; cases hc4)⟩, fun g1 h1' p1 v1 hr1 hs1 => ⟨by unfold refOk at *; omega, fun c0 u hc hh' => ?_, fun t2 xs2 nn2 hc2' hg2 hp2 => ?_, fun k3 t3 es3 hc3 => (by rw [hnew] at hc3; cases hc3), fun t4 xs4 nn4 j4 hc4 => (by rw [hnew] at hc4; cases hc4)⟩⟩
    · rw [hnew] at hc2'
      cases hc2'
      obtain ⟨te1, A1, n1, cap1, k1, k2, k3⟩ := hs1.1 t xs nn hob (by omega) (hp2.imp id (fun h => by omega))
      refine ⟨te1, A1, n1, cap1, k1, ?_, k3⟩
      cases p1 with
      | nil => exact ⟨k2.1, by rw [hlen]; exact k2.2⟩
      | cons s p1 =>
        obtain ⟨b1, o1, q1, q2⟩ := k2
        exact ⟨b1, o1, by rw [hlen]; exact locA_mono hmono q1, hmono _ _ _ q2 rfl⟩
    · rw [hnew] at hc; cases hc; cases hh'
    · rw [hnew] at hc2'
      cases hc2'
      obtain ⟨b1, o1, q1, q2⟩ := hs1.2.1 t xs nn hob (by omega) (by omega)
      exact ⟨b1, o1, by rw [hlen]; exact locA_mono hmono q1, q2⟩
  · subst hm
    rw [hnew] at hc
    cases hc
    refine ⟨⟨hown, hnn⟩, hnd, fun c hc => ?_⟩
    have := hmine c hc
    exact ⟨this.1, Nat.lt_of_lt_of_le this.2.1 hsz, this.2.2⟩
  · subst hm
    rw [hold m' (Ne.symm hne')] at hc'
    exact I.sep m m' _ c' hne' hob hc' d hd hd'
  · subst hm
    rw [hnew] at hg hc
    cases hc
    obtain ⟨f1, f2⟩ := I.fix m _ hf (by rw [he]; exact hg) hob
    refine ⟨f1, ?_⟩
    rw [← f2]
    simp [Ob.shape, hlen]
theorem rest_ok {S : Side} {ob : List Obe} {w : World} : ∀ {vs : List VT} {m : List Nat} {us : List Value}, restOk vs m = true → All2 (VTV S ob w) vs us → us = m.map fun f => Value.func (.func f) #[] #[]
  | [], [], us, _, h => by cases h; rfl
  | [], _ :: _, _, h, _ => by cases h
  | v :: l, m, us, h, hall => by
    cases hall with
    | cons hv ht =>
      cases v with
      | fn f c =>
        cases c with
        | un =>
          cases m with
          | nil => cases h
          | cons g m =>
            have h' : (Nat.blt f boN && (Nat.beq f g && restOk l m)) = true := h
            rw [Bool.and_eq_true, Bool.and_eq_true] at h'
            obtain ⟨hfb, h'⟩ := h'
            have e := Nat.eq_of_beq_eq_true h'.1
            subst e
            obtain ⟨cs, ⟨caps, e1, hc⟩, e2⟩ := hv
            simp only [VTC] at hc
            subst hc
            subst e1
            rw [rest_ok h'.2 ht, List.map_cons]
            congr 1
            rw [e2, fnVal_fn hfb]
            rfl
        | _ => cases m <;> cases h
      | _ => cases m <;> cases h
theorem sort_sound {C : Ctx} {x : X} {a : Act} (I : Inv C S x a w) {s : So} (hS : SoOk P s) {r : Rd} (R : RdOk r x) {o : Oper} {vs : List VT} {us : List Value} (hvs : All2 (VTV S x.ob w) vs us) {e : Eff} (h : (opSort r s vs).has e)
    (hw : ∀ m ∈ wrote e.ob, r.o m = getO x.ob m ∧ m < x.ob.length) (hrun : (∃ fn c, P.funcs[s.id]? = some fn ∧ fn.name ≠ "runtime.NumGoroutine" ∧ fn.body = some c) → (execOp a.eval o).run P w = .ok (.enter s.id us.toArray) w) : Does P C o a w x e := by
  intro next Q hn
  obtain ⟨hfl, hFl, hfn, hnone, hsome⟩ := hS
  have unit : ∀ (S' : Side) (ob' : List Obe) (w' : World), VTV S' ob' w' (.tu .un) (.tuple #[]) := fun S' ob' w' => ⟨[], rfl, rfl⟩
  have same : ∀ {A : Option Addr} {cap : Nat}, us = .slice A 0 cap :: s.more → e = ⟨some (.tu .un), []⟩ → o.wp P a w next Q := by
    intro A cap hu he
    subst he
    unfold Oper.wp
    rw [hrun hfn, Oper.upon_enter, hu]
    refine Calls.mono (hnone w A cap) ?_
    rintro (v | ch | _) w' ⟨h1, rfl⟩
    · cases h1
      refine hn (a.put o.dst (.tuple #[])) w' S ?_
      have := I.put o.dst (some (.tu .un)) (.tuple #[]) (fun v' e => by cases e; exact unit _ _ _)
      cases hd : o.dst <;> rw [hd] at this <;> exact this
    · cases h1
    · cases h1
  unfold opSort at h
  split at h
  · rename_i og g h0 p rest
    cases hvs with
    | cons hvv ht =>
      rename_i uv us'
      obtain ⟨hrest, h1⟩ := Br.when_has h
      obtain ⟨d, hd, h2⟩ := Br.opt_has h1
      obtain ⟨ys, hys, h3⟩ := Br.opt_has h2
      clear h h1 h2
      have hmore : us' = s.more := rest_ok hrest ht
      subst hmore
      split at h3
      case h_2 => exact h3.elim
      rename_i g' h' t xs nn he
      obtain ⟨zs, hzs, h4⟩ := Br.opt_has h3
      obtain ⟨hlim, h5⟩ := Br.cnd_has h4
      have hlim := Nat.le_of_ble_eq_true hlim
      cases h5
      obtain ⟨t0, xs0, nn0, te, A0, cap0, F0, ys0, hob, hg, hph, hgp, htp, hdeq, hro, hsl, _, _, _⟩ := slice_own I R hd
      obtain ⟨e1, e2, e3⟩ := ok_eq R he
      rw [e3] at hob
      cases hob
      have e4 := Dy_as hys
      rw [hdeq] at e4
      simp only [winL] at e4
      injection e4 with e5 e6
      injection e5 with e5
      subst e5
      cases e6
      obtain ⟨_, href, hslr⟩ := VTV_sl hvv
      obtain ⟨A, n, cap, F', rfl, hwin, hown, hF, hnil⟩ := hsl _ hslr
      have hwin' : uv = .slice A (List.length ys) cap := hwin
      subst hwin'
      have hon := hw og (by simp [wrote])
      rcases hown with ⟨rfl, rfl, rfl⟩ | ⟨b, off, l, G, rfl, hb, hcap, hlen, hrows, hF'⟩
      · -- nothing to sort
        have hz : s.F [] = [] := List.eq_nil_of_length_eq_zero (by rw [hFl]; rfl)
        rw [hz] at hzs
        rw [setP_getP _ hgp] at hzs
        cases hzs
        unfold Oper.wp
        rw [hrun hfn, Oper.upon_enter]
        refine Calls.mono (hnone w A 0) ?_
        rintro (v | ch | _) w' ⟨h1, rfl⟩
        · cases h1
          refine hn (a.put o.dst (.tuple #[])) w' S ?_
          have hsame : putO x.ob [(og, ⟨g', h', some (.arr t xs nn)⟩)] = x.ob := by
            simp only [putO]
            have : getO x.ob og = ⟨g', h', some (.arr t xs nn)⟩ := by rw [← hon.1, he]
            rw [← this]
            exact setO_same x.ob og
          have := I.put o.dst (some (.tu .un)) (.tuple #[]) (fun v' e => by cases e; exact unit _ _ _)
          have e7 : x.app o.dst ⟨some (.tu .un), [(og, ⟨g', h', some (.arr t xs nn)⟩)]⟩ = x.app o.dst ⟨some (.tu .un), []⟩ := by
            unfold X.app
            rw [hsame]
            rfl
          rw [e7]
          exact this
        · cases h1
        · cases h1
      · obtain ⟨q1, rr, q2⟩ := (rowsF_enc hfl).1 hrows
        subst q1
        have hmul : List.length ys * s.t.cells ≤ cap * s.t.cells := Nat.mul_le_mul_right _ hlen
        have htake : (l.drop off).take (List.length ys * s.t.cells) = encs s.t ys := by
          rw [q2, List.take_append_of_le_length (by rw [encs_len]; exact Nat.le_refl _), List.take_of_length_le (by rw [encs_len]; exact Nat.le_refl _)]
        by_cases hne : ys = []
        · subst hne
          have hz : s.F [] = [] := List.eq_nil_of_length_eq_zero (by rw [hFl]; rfl)
          rw [hz] at hzs
          rw [setP_getP _ hgp] at hzs
          cases hzs
          unfold Oper.wp
          rw [hrun hfn, Oper.upon_enter]
          refine Calls.mono (hnone w _ cap) ?_
          rintro (v | ch | _) w' ⟨h1, rfl⟩
          · cases h1
            refine hn (a.put o.dst (.tuple #[])) w' S ?_
            have hsame : putO x.ob [(og, ⟨g', h', some (.arr t xs nn)⟩)] = x.ob := by
              simp only [putO]
              have : getO x.ob og = ⟨g', h', some (.arr t xs nn)⟩ := by rw [← hon.1, he]
              rw [← this]
              exact setO_same x.ob og
            have := I.put o.dst (some (.tu .un)) (.tuple #[]) (fun v' e => by cases e; exact unit _ _ _)
            have e7 : x.app o.dst ⟨some (.tu .un), [(og, ⟨g', h', some (.arr t xs nn)⟩)]⟩ = x.app o.dst ⟨some (.tu .un), []⟩ := by
              unfold X.app
              rw [hsame]
              rfl
            rw [e7]
            exact this
          · cases h1
          · cases h1
        · unfold Oper.wp
          rw [hrun hfn, Oper.upon_enter]
          refine Calls.mono (hsome w b off cap l ys hne hlim hb (by omega) htake) ?_
          rintro (v | ch | _) w' ⟨h1, w1, w2, w3, w4, w5, w6⟩
          rotate_left
          · cases h1
          · cases h1
          cases h1
          obtain ⟨⟨hownO, hnnO⟩, hfnO, hmineO⟩ := I.objs og _ e3
          have hbO : b ∈ S.fp og := hF b (by rw [hF']; simp)
          have hel : (encs s.t (s.F ys)).length = List.length ys * s.t.cells := by rw [encs_len, hFl]
          have hrowsN : RowsF (Own (hv w') s.t) s.t.cells ((setC l off (encs s.t (s.F ys))).drop off) (s.F ys) [] := by
            refine (rowsF_enc hfl).2 ⟨rfl, l.drop (off + (encs s.t (s.F ys)).length), ?_⟩
            unfold setC
            rw [List.drop_append]
            have : (l.take off).length = off := by rw [List.length_take]; omega
            rw [this, Nat.sub_self, List.drop_zero, List.drop_eq_nil_of_le (by omega)]
            rfl
          have hownN : OwnS (hv w') (Own (hv w') s.t) s.t.cells (some ⟨b, off, none⟩) cap (s.F ys) [b] :=
            .inr ⟨b, off, _, [], rfl, w5, by rw [setC_len (by rw [hel]; omega)]; exact hcap, by rw [hFl]; exact hlen, hrowsN, rfl⟩
          have hstay : ∀ c, c < w.heap.size → c ≠ b → hv w' c = hv w c := fun c hc hcb => hv_same (w6 c hc hcb)
          have hsits : sits (hv w) b off (encs s.t ys) := ⟨l, hb, by rw [encs_len]; omega, by rw [encs_len]; exact htake⟩
          have hmono : ∀ c k v, cellAt (hv w) c k = some v → isSl v = true → cellAt (hv w') c k = some v := by
            intro c k v hc hs
            by_cases hcl : c < w.heap.size
            · have := hdr_stay (H := hv w) (H2 := fun c => if c < w.heap.size then hv w' c else hv w c) hb (by show (if b < w.heap.size then hv w' b else hv w b) = _; rw [if_pos ((hmineO b hbO).2.1)]; exact w5) (by rw [hel]; omega) hsits (by rw [hel, encs_len]) (encs_nosl hfl)
                (fun c hcb => by
                  show (if c < w.heap.size then hv w' c else hv w c) = _
                  split
                  · rename_i hc'; exact hstay c hc' hcb
                  · rfl) c k v hc hs
              unfold cellAt at this ⊢
              have this' : (if c < w.heap.size then hv w' c else hv w c).bind (fun l => l[k]?) = some v := this
              rw [if_pos hcl] at this'
              exact this'
            · exfalso
              unfold cellAt hv at hc
              rw [Array.getElem?_eq_none (by omega)] at hc
              simp at hc
          have hfin : zs.length = List.length xs ∧ OwnS (hv w') (Own (hv w') t) t.cells (S.hd og).1 (S.hd og).2 zs (S.fp og) := by
            cases p with
            | nil =>
              obtain ⟨k1, k2⟩ := hnil rfl
              rw [getP_nil] at hgp
              injection hgp with hgp
              injection hgp with g1 g2
              injection g1 with g1
              subst g1
              cases g2
              have hzs' : some (s.F ys) = some zs := by
                rw [← hzs]
                cases s
                simp [setP, Dy.as]
              cases hzs'
              rw [k1]
              refine ⟨hFl _, ?_⟩
              rw [← k2, hF']
              exact hownN
            | cons st p =>
              obtain ⟨te1, A1, n1, cap1, hty1, hh1, hw1⟩ := hslr.1 t xs nn e3 hg hph
              obtain ⟨b1, o1, hloc, hcell⟩ := hh1
              obtain ⟨l', cs', Pp, F2, Q, r1, r2, r3, r4, r5, r6, r7, r8⟩ := root_set w.heap.size (fun hm => by have := (hmineO _ hm).2.1; omega) hownO hfnO hgp hloc
              obtain ⟨A2, cap2, rfl, r4⟩ := r4
              have hc2 : cellAt (hv w) b1 o1 = some (.slice A2 (List.length ys) cap2) := by simpa using sits_cell r3 (j := 0) rfl
              rw [hcell] at hc2
              have hw1' : Value.slice (some ⟨b, off, none⟩) (List.length ys) cap = .slice A1 n1 cap1 := hw1
              rw [← hw1'] at hc2
              injection hc2 with hc2
              injection hc2 with i1 i2 i3
              subst i1; subst i3
              have hF2 : F2 = [b] := by
                rcases r4 with ⟨_, e, _⟩ | ⟨b2, off2, l2, G2, hA2, hb2, _, _, hr2, hF2⟩
                · exact absurd e hne
                · injection hA2 with hA2
                  injection hA2 with j1 j2 _
                  subst j1
                  rw [hF2, ((rowsF_enc hfl).1 hr2).1]
              have hb1 : b1 ≠ b := fun e => r7 (by rw [hF2, e]; simp)
              have hsetc : setC l' o1 [Value.slice (some ⟨b, off, none⟩) (List.length ys) cap] = l' := by
                obtain ⟨l3, m1, m2, m3⟩ := r3
                rw [r1] at m1
                cases m1
                apply List.ext_getElem?
                intro k
                by_cases hk : k = o1
                · subst hk
                  have e8 := setC_in (l := l') (off := k) (cs := [Value.slice (some ⟨b, off, none⟩) (List.length ys) cap]) (by simpa using m2) 0 (by simp)
                  rw [Nat.add_zero] at e8
                  rw [e8]
                  have := congrArg (fun z => z[0]?) m3
                  simp only [List.getElem?_take, List.getElem?_drop, Nat.add_zero] at this
                  simpa using this.symm
                · rw [setC_get (by simpa using m2) k (by simp; omega)]
              obtain ⟨y, hy, hyl, hyo⟩ := r8 (hv w') [Value.slice (some ⟨b, off, none⟩) (List.length ys) cap] (s.F ys) [b] rfl
                (by rw [hsetc, hstay b1 ((hmineO b1 (by rw [r5]; simp at r6 ⊢; grind)).2.1) hb1]; exact r1)
                (fun c hc _ => hstay c ((hmineO c (by rw [r5]; simp at hc ⊢; grind)).2.1) (fun e => by
                  subst e
                  rw [r5, hF2] at hfnO
                  have a1 := List.nodup_append.1 hfnO
                  have a2 := List.nodup_append.1 a1.2.1
                  rcases List.mem_append.1 hc with h | h
                  · exact a1.2.2 c h c (by simp) rfl
                  · exact a2.2.2 c (by simp) c h rfl))
                (by have := (hmineO b hbO).2.1; simp; omega) ⟨_, cap, by rw [hFl], hownN⟩
              rw [hzs] at hy
              cases hy
              refine ⟨hyl, ?_⟩
              rw [r5, hF2]
              exact hyo
          have heo : getO x.ob og = ⟨g', h', some (.arr t xs nn)⟩ := by rw [← hon.1, he]
          have I' := I.over2 heo hon.2 hfin.1 hbO w6 w4 w1 w2 w3 hfin.2 hmono
          refine hn (a.put o.dst (.tuple #[])) w' S ?_
          have := I'.put o.dst (some (.tu .un)) (.tuple #[]) (fun v' e => by cases e; exact unit _ _ _)
          cases hd : o.dst <;> rw [hd] at this <;> exact this
  · cases hvs with
    | cons hvv ht =>
      obtain ⟨hrest, h1⟩ := Br.when_has h
      obtain ⟨cs, hc, e1⟩ := hvv
      simp only [VTC] at hc
      subst hc
      exact same (A := none) (cap := 0) (by rw [rest_ok hrest ht]; rw [e1]; rfl) h1.symm
  · cases hvs with
    | cons hvv ht =>
      obtain ⟨hrest, h1⟩ := Br.when_has h
      obtain ⟨cs, ⟨A, hc⟩, e1⟩ := hvv
      subst hc
      exact same (A := A) (cap := 0) (by rw [rest_ok hrest ht]; rw [e1]; rfl) h1.symm
  · exact h.elim
end
end Go.Vm
