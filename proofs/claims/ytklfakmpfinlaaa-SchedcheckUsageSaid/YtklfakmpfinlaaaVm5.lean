/- The value machine, part 6 of 7. -/
import Derived.Test.YtklfakmpfinlaaaVm4
set_option linter.unusedVariables false
set_option linter.unusedSimpArgs false
set_option linter.unnecessarySimpa false
/- The value machine, 31: code. -/
set_option linter.unusedVariables false
set_option linter.unusedSimpArgs false
namespace Go.Vm
open Go Go.RowKit

theorem occsK_exit {id : Nat} : ∀ {k k' : List Item}, exitTo id k = some k' → ∀ q ∈ occsK k', q ∈ occsK k
  | [], k', h, q, hq => by simp [exitTo] at h
  | x :: k, k', h, q, hq => by
    have key : ∀ {k'}, exitTo id k = some k' → q ∈ occsK k' → q ∈ occsK (x :: k) := by
      intro k' h hq
      have := occsK_exit h q hq
      cases x <;> simp [occsK, this]
    cases x with
    | inBlock id' =>
      simp only [exitTo] at h
      split at h
      · cases h; simpa [occsK] using hq
      · exact key h hq
    | _ => exact key (by simpa [exitTo] using h) hq

theorem occs_sub : ∀ {c : Code} {k : List Item} {id : Nat} {z : List Item}, (id, z) ∈ occs c k → ∀ q ∈ occsK z, q ∈ occs c k ∨ q ∈ occsK k
  | .region i ops d, k, id, z, h, q, hq => by
    simp only [occs, List.mem_singleton] at h
    cases h
    simp only [occsK, List.mem_append] at hq
    exact hq
  | .seq a b, k, id, z, h, q, hq => by
    simp only [occs, List.mem_append] at h ⊢
    rcases h with h | h
    · rcases occs_sub h q hq with h | h
      · exact .inl (.inl h)
      · simp only [occsK, List.mem_append] at h
        rcases h with h | h
        · exact .inl (.inr h)
        · exact .inr h
    · rcases occs_sub h q hq with h | h
      · exact .inl (.inr h)
      · exact .inr h
  | .cond _ a b, k, id, z, h, q, hq => by
    simp only [occs, List.mem_append] at h ⊢
    rcases h with h | h
    · rcases occs_sub h q hq with h | h
      · exact .inl (.inl h)
      · exact .inr h
    · rcases occs_sub h q hq with h | h
      · exact .inl (.inr h)
      · exact .inr h
  | .block i c, k, id, z, h, q, hq => by
    simp only [occs] at h ⊢
    rcases occs_sub h q hq with h | h
    · exact .inl h
    · exact .inr (by simpa [occsK] using h)
  | .loop c, k, id, z, h, q, hq => by
    simp only [occs] at h ⊢
    rcases occs_sub h q hq with h | h
    · exact .inl h
    · simp only [occsK, List.mem_append] at h
      exact h
  | .skip, _, _, _, h, _, _ => by simp [occs] at h
  | .rangeFunc _ _ _ _, _, _, _, h, _, _ => by simp [occs] at h
  | .exit _, _, _, _, h, _, _ => by simp [occs] at h
  | .scope _, _, _, _, h, _, _ => by simp [occs] at h
  | .label _, _, _, _, h, _, _ => by simp [occs] at h
  | .goto _, _, _, _, h, _, _ => by simp [occs] at h
  | .ret, _, _, _, h, _, _ => by simp [occs] at h
  | .refuse _, _, _, _, h, _, _ => by simp [occs] at h

theorem occsK_sub : ∀ {k : List Item} {id : Nat} {z : List Item}, (id, z) ∈ occsK k → ∀ q ∈ occsK z, q ∈ occsK k
  | [], _, _, h, _, _ => by simp [occsK] at h
  | x :: k, id, z, h, q, hq => by
    have key : (id, z) ∈ occsK k → q ∈ occsK (x :: k) := fun h => by
      have := occsK_sub h q hq
      cases x <;> simp [occsK, this]
    cases x with
    | code c =>
      simp only [occsK, List.mem_append] at h
      rcases h with h | h
      · have := occs_sub h q hq
        simpa [occsK] using this
      · exact key h
    | inLoop c =>
      simp only [occsK, List.mem_append] at h
      rcases h with h | h
      · have := occs_sub h q hq
        simp only [occsK, List.mem_append] at this ⊢
        rcases this with h | h | h
        · exact .inl h
        · exact .inl h
        · exact .inr h
      · exact key h
    | _ => exact key (by simpa [occsK] using h)

section
variable {P : Program}

/-- from here on the function comes to its end, with this result -/
def Finds {R : Type} (P : Program) (b : Frame) (cs : List Frame) (fin : X → Option R) (y : R) (C : Ctx) (a : Act) (w : World) (k : List Item) : Prop :=
  ∃ a' w' todo S' x', Steps P (lone (b.at a k) cs w) (lone { b.at a' todo with mode := .returning } cs w') ∧ Inv C S' x' a' w' ∧ fin x' = some y

theorem Finds.step {R : Type} {b : Frame} {cs : List Frame} {fin : X → Option R} {y : R} {C : Ctx} {a a' : Act} {w w' : World} {k k' : List Item} (h : Steps P (lone (b.at a k) cs w) (lone (b.at a' k') cs w')) (h' : Finds P b cs fin y C a' w' k') : Finds P b cs fin y C a w k := by
  obtain ⟨a2, w2, todo, S', x', h1, h2, h3⟩ := h'
  exact ⟨a2, w2, todo, S', x', h.trans h1, h2, h3⟩

theorem exec_sound {R : Type} {E : Env} (hE : EnvOk P E) (hm : P.follows .mixedOrders = true) {all : List (Nat × List Item)} {cuts : List Nat} {J : Nat → X → Option R} {fin : X → Option R} {y : R} {C : Ctx} {b : Frame} {cs : List Frame}
    (hJ : ∀ id x S a w z, J id x = some y → (id, z) ∈ all → Inv C S x a w → Finds P b cs fin y C a w z) :
    ∀ (n : Nat) (s : Bool) (k : List Item) {x : X} {S : Side} {a : Act} {w : World}, (∀ q ∈ occsK k, q ∈ all) → Inv C S x a w → exec E cuts J fin n s k x = some y → Finds P b cs fin y C a w k := by
  intro n
  induction n with
  | zero => intro s k x S a w _ _ h; cases k <;> simp [exec] at h
  | succ n ih =>
    intro s k x S a w hk I h
    cases k with
    | nil =>
      simp only [exec] at h
      exact ⟨a, w, [], S, x, .one step_end, I, h⟩
    | cons z k =>
      cases z with
      | inBlock id =>
        simp only [exec] at h
        exact .step (.one step_inBlock) (ih _ _ (fun q hq => hk q (by simpa [occsK] using hq)) I h)
      | inLoop c =>
        simp only [exec] at h
        refine .step (.one step_inLoop) (ih _ _ (fun q hq => hk q ?_) I h)
        simp only [occsK, List.mem_append] at hq ⊢
        rcases hq with hq | hq | hq
        · exact .inl hq
        · exact .inl hq
        · exact .inr hq
      | code c =>
        cases c with
        | skip =>
          simp only [exec] at h
          exact .step (.one step_skip) (ih _ _ (fun q hq => hk q (by simpa [occsK, occs] using hq)) I h)
        | seq c d =>
          simp only [exec] at h
          refine .step (.one step_seq) (ih _ _ (fun q hq => hk q ?_) I h)
          simp only [occsK, occs, List.mem_append] at hq ⊢
          rcases hq with hq | hq | hq
          · exact .inl (.inl hq)
          · exact .inl (.inr hq)
          · exact .inr hq
        | region id ops draw =>
          simp only [exec] at h
          cases hc : (memN cuts id && !s) <;> rw [hc] at h
          · simp only [cond_false] at h
            obtain ⟨e, a1, w1, ⟨rfl, S1, x1, I1, h1⟩, harr⟩ := region_sound (id := id) hE hm I h b k cs
            exact .step harr (ih _ _ (fun q hq => hk q (by simp [occsK, hq])) I1 h1)
          · simp only [cond_true] at h
            exact hJ id x S a w _ h (hk _ (by simp [occsK, occs])) I
        | cond c t e =>
          simp only [exec] at h
          split at h
          · rename_i v hv
            have hb := VTV_bool (I.eval hv)
            have stp : Steps P (lone (b.at a (.code (.cond c t e) :: k)) cs w) (lone (b.at a (.code (if v then t else e) :: k)) cs w) := .one (step_cond hb)
            have ht : ∀ q ∈ occsK (.code t :: k), q ∈ all := fun q hq => hk q (by
              simp only [occsK, occs, List.mem_append] at hq ⊢
              rcases hq with hq | hq
              · exact .inl (.inl hq)
              · exact .inr hq)
            have he : ∀ q ∈ occsK (.code e :: k), q ∈ all := fun q hq => hk q (by
              simp only [occsK, occs, List.mem_append] at hq ⊢
              rcases hq with hq | hq
              · exact .inl (.inr hq)
              · exact .inr hq)
            cases c with
            | tmp r =>
              simp only at h
              have hl : ∀ v', v = v' → x.lit r v' = x := fun v' e' => by subst e'; exact lit_same hv
              cases v
              · simp only [cond_false] at h
                rw [hl _ rfl] at h
                exact .step stp (ih _ _ he I h)
              · simp only [cond_true] at h
                rw [hl _ rfl] at h
                exact .step stp (ih _ _ ht I h)
            | const u =>
              simp only at h
              cases v
              · exact .step stp (ih _ _ he I h)
              · exact .step stp (ih _ _ ht I h)
            | global g => simp [rdOf] at hv
            | func f => simp [rdOf] at hv
          · cases h
        | block id c =>
          simp only [exec] at h
          exact .step (.one step_block) (ih _ _ (fun q hq => hk q (by simpa [occsK, occs] using hq)) I h)
        | loop c =>
          simp only [exec] at h
          refine .step (.one step_loop) (ih _ _ (fun q hq => hk q ?_) I h)
          simp only [occsK, occs, List.mem_append] at hq ⊢
          rcases hq with hq | hq | hq
          · exact .inl hq
          · exact .inl hq
          · exact .inr hq
        | exit id =>
          simp only [exec] at h
          split at h
          · rename_i k' hk'
            refine .step (.one (step_exit hk')) (ih _ _ (fun q hq => hk q ?_) I h)
            have := occsK_exit hk' q hq
            simp [occsK, occs, this]
          · cases h
        | ret =>
          simp only [exec] at h
          exact ⟨a, w, _, S, x, .one step_ret, I, h⟩
        | _ => simp [exec] at h
      | _ => simp [exec] at h

theorem occFind_of : ∀ {l : List (Nat × List Item)} {id : Nat} {z : List Item}, (occIds l).Nodup → (id, z) ∈ l → occFind id l = some z
  | (i, k) :: l, id, z, hn, h => by
    simp only [occIds, List.nodup_cons] at hn
    have mem : ∀ {l : List (Nat × List Item)}, (id, z) ∈ l → id ∈ occIds l := by
      intro l
      induction l with
      | nil => intro h; cases h
      | cons q l ih =>
        intro h
        cases h with
        | head => simp [occIds]
        | tail _ h => obtain ⟨i, k⟩ := q; simp [occIds, ih h]
    unfold occFind
    cases hb : Nat.beq i id
    · rcases List.mem_cons.1 h with h | h
      · injection h with e1 e2
        subst e1
        have : Nat.beq id id = true := Nat.beq_refl id
        rw [this] at hb
        cases hb
      · exact occFind_of hn.2 h
    · have e := Nat.eq_of_beq_eq_true hb
      rcases List.mem_cons.1 h with h | h
      · injection h with e1 e2
        subst e2
        rfl
      · exact absurd (mem h) (e ▸ hn.1)

theorem occFind_mem : ∀ {l : List (Nat × List Item)} {id : Nat} {z : List Item}, occFind id l = some z → (id, z) ∈ l
  | (i, k) :: l, id, z, h => by
    unfold occFind at h
    cases hb : Nat.beq i id <;> rw [hb] at h
    · exact List.mem_cons_of_mem _ (occFind_mem h)
    · cases h
      have := Nat.eq_of_beq_eq_true hb
      subst this
      simp
end
end Go.Vm

/- The value machine, 32: where ways meet. -/
set_option linter.unusedVariables false
set_option linter.unusedSimpArgs false
namespace Go.Vm
open Go Go.RowKit

/-- blocks that are read through some objects -/
def okB (S : Side) (ob : List Obe) (l : List Nat) (b : Nat) : Prop := S.ok b ∨ ∃ o c, o ∈ l ∧ (getO ob o).c = some c ∧ b ∈ S.fp o

section
variable {S : Side} {w : World}

theorem okB_mono {ob : List Obe} {l m : List Nat} (h : ∀ o ∈ l, o ∈ m) : ∀ b, okB S ob l b → okB S ob m b := by
  rintro b (hb | ⟨o, c, h1, h2, h3⟩)
  · exact .inl hb
  · exact .inr ⟨o, c, h o h1, h2, h3⟩

theorem Rd_val_refs {C : Ctx} {x : X} {a : Act} (I : Inv C S x a w) {r : Rd} (R : RdOk r x) : ∀ {t : Ty} {v : VT} {y : t.D} {cs : List Value}, r.val t v = some y → VTC S x.ob w v cs → RO (okB S x.ob v.refs) (cv w) t cs y := by
  have hva : ∀ (t : Ty) (t' : Ty) (z : t'.D) (y : t.D) (cs : List Value), Dy.as ⟨t', z⟩ t = some y → VTC S x.ob w (.va t' z) cs → RO (okB S x.ob (VT.va t' z).refs) (cv w) t cs y := by
    intro t t' z y cs h hc
    have := Dy_as h
    injection this with e1 e2
    subst e1
    cases e2
    exact RO_mono (fun b hb => .inl hb) (fun _ _ _ => rfl) hc
  intro t
  induction t with
  | int k | bool | str | op =>
    intro v y cs h hc
    cases v <;> simp only [Rd.val] at h <;> first | exact hva _ _ _ _ _ h hc | cases h
  | un =>
    intro v y cs h hc
    cases v <;> simp only [Rd.val] at h <;> first | exact hva _ _ _ _ _ h hc | cases h
    exact hc
  | pr a b iha ihb =>
    intro v y cs h hc
    cases v <;> simp only [Rd.val] at h <;> first | exact hva _ _ _ _ _ h hc | cases h | skip
    rename_i v u
    rw [Option.bind_eq_some_iff] at h
    obtain ⟨y1, h1, h⟩ := h
    rw [Option.map_eq_some_iff] at h
    obtain ⟨y2, h2, rfl⟩ := h
    obtain ⟨c1, c2, e, hc1, hc2⟩ := hc
    exact ⟨c1, c2, e, RO_mono (okB_mono fun o ho => by simp [VT.refs, ho]) (fun _ _ _ => rfl) (iha h1 hc1), RO_mono (okB_mono fun o ho => by simp [VT.refs, ho]) (fun _ _ _ => rfl) (ihb h2 hc2)⟩
  | sl ty ih =>
    intro v y cs h hc
    cases v <;> simp only [Rd.val] at h <;> first | exact hva _ _ _ _ _ h hc | (cases h; done) | skip
    · cases h
      exact ⟨none, 0, hc, by simp, fun h => absurd rfl h⟩
    · cases h
      obtain ⟨A, hc⟩ := hc
      exact ⟨A, 0, hc, by simp, fun h => absurd rfl h⟩
    · rename_i o g hh p win
      rw [Option.bind_eq_some_iff] at h
      obtain ⟨d, hd, h⟩ := h
      obtain ⟨v0, rfl, h1, h2, h3⟩ := hc
      obtain ⟨t0, xs, nn, te, _, _, _, ys, hob, hg, hph, hgp, hty, hdeq, hro, hall, _⟩ := slice_own I R hd
      obtain ⟨A, n, cap, F', hn, hwin, hown, hF, _⟩ := hall v0 h3
      have := Dy_as h
      rw [hdeq] at this
      injection this with e1 e2
      injection e1 with e1
      subst e1
      cases e2
      have hro : RO (okB S x.ob (VT.sl o g hh p win).refs) (cv w) (.sl te) [.slice A n cap] ys := Own_RO (t := .sl te) (F := F') (H := hv w) (fun b hb => .inr ⟨o, _, by simp [VT.refs], hob, hF b hb⟩) (fun b _ l hl o => hv_cv hl o) (by subst hn; exact ⟨A, cap, rfl, hown⟩)
      cases win with
      | none => simp only [winR] at hwin; subst hwin; exact hro
      | some q =>
        obtain ⟨lo, m⟩ := q
        obtain ⟨hlm, A', e, hA⟩ := hwin
        subst e
        exact RO_win hn hro hlm hA
end

/-! ### renaming -/
structure RenLe (r r' : Ren) : Prop where
  m : ∀ a b, r.m.find a = some b → r'.m.find a = some b
  c : ∀ o ∈ r.c, o ∈ r'.c
  e : ∀ o ∈ r.e, o ∈ r'.e
structure RenInj (r : Ren) : Prop where
  m : ∀ a a' b, r.m.find a = some b → r.m.find a' = some b → a = a'
  e : ∀ o ∈ r.e, r.m.find o = none
theorem RenLe.refl (r : Ren) : RenLe r r := ⟨fun _ _ h => h, fun _ h => h, fun _ h => h⟩
theorem RenLe.trans {r r' r'' : Ren} (h : RenLe r r') (h' : RenLe r' r'') : RenLe r r'' := ⟨fun a b q => h'.m a b (h.m a b q), fun o q => h'.c o (h.c o q), fun o q => h'.e o (h.e o q)⟩

theorem find_imgs : ∀ {m : RenL} {a b : Nat}, m.find a = some b → b ∈ m.imgs
  | [], _, _, h => by simp [RenL.find] at h
  | (c, d) :: m, a, b, h => by
    have h : cond (Nat.beq c a) (some d) (RenL.find m a) = some b := h
    cases hb : Nat.beq c a <;> rw [hb] at h
    · simp [RenL.imgs, find_imgs (m := m) h]
    · cases h; simp [RenL.imgs]

theorem add_ok {r r' : Ren} {a b : Nat} (h : r.add a b = some r') : RenLe r r' ∧ r'.m.find a = some b ∧ (RenInj r → RenInj r') := by
  unfold Ren.add at h
  split at h
  · rename_i b' hb'
    cases hb : Nat.beq b b' <;> rw [hb] at h
    · cases h
    · cases h
      have := Nat.eq_of_beq_eq_true hb
      subst this
      exact ⟨.refl _, hb', fun h => h⟩
  · rename_i hn
    cases hme : (memN r.m.imgs b || memN r.e a) <;> rw [hme] at h
    · cases h
      rw [Bool.or_eq_false_iff] at hme
      obtain ⟨hm, he⟩ := hme
      have hcons : ∀ n, RenL.find ((a, b) :: r.m) n = cond (Nat.beq a n) (some b) (r.m.find n) := fun n => rfl
      have hself : RenL.find ((a, b) :: r.m) a = some b := by rw [hcons, Nat.beq_refl]; rfl
      have hold : ∀ n b', r.m.find n = some b' → RenL.find ((a, b) :: r.m) n = some b' := by
        intro n b' hn'
        rw [hcons]
        cases hb : Nat.beq a n
        · exact hn'
        · have := Nat.eq_of_beq_eq_true hb
          subst this
          rw [hn] at hn'
          cases hn'
      refine ⟨⟨hold, fun o ho => ho, fun o ho => ho⟩, hself, fun hi => ⟨fun a1 a2 b1 h1 h2 => ?_, fun o ho => ?_⟩⟩
      rotate_left
      · rw [hcons]
        cases hb : Nat.beq a o
        · exact hi.e o ho
        · have := Nat.eq_of_beq_eq_true hb
          subst this
          have := memN_iff.2 ho
          rw [he] at this
          cases this
      have hni : ∀ n, r.m.find n ≠ some b := fun n hn' => by
        have := memN_iff.2 (find_imgs hn')
        rw [hm] at this
        cases this
      rw [hcons] at h1 h2
      cases hb1 : Nat.beq a a1 <;> rw [hb1] at h1 <;> cases hb2 : Nat.beq a a2 <;> rw [hb2] at h2 <;> simp only [cond_true, cond_false] at h1 h2
      · exact hi.m _ _ _ h1 h2
      · cases h2; exact absurd h1 (hni _)
      · cases h1; exact absurd h2 (hni _)
      · exact (Nat.eq_of_beq_eq_true hb1).symm.trans (Nat.eq_of_beq_eq_true hb2)
    · cases h

theorem addE_ok {r r' : Ren} {a : Nat} (h : r.addE a = some r') : RenLe r r' ∧ a ∈ r'.e ∧ (RenInj r → RenInj r') := by
  unfold Ren.addE at h
  split at h
  · cases h
  · rename_i hn
    cases hm : memN r.e a <;> rw [hm] at h
    · cases h
      exact ⟨⟨fun _ _ h => h, fun _ h => h, fun o h => List.mem_cons_of_mem _ h⟩, List.mem_cons_self, fun hi => ⟨hi.m, fun o ho => by
        rcases List.mem_cons.1 ho with rfl | ho
        · exact hn
        · exact hi.e o ho⟩⟩
    · cases h

theorem splitPr_some {u : VT} {q : VT × VT} (h : splitPr u = some q) : (u = .pr q.1 q.2 ∨ ∃ s t, ∃ z : (Ty.pr s t).D, u = .va (.pr s t) z ∧ q = (.va s z.1, .va t z.2)) := by
  unfold splitPr at h
  split at h
  · cases h; exact .inl rfl
  · rename_i s t z
    cases h; exact .inr ⟨s, t, z, rfl, rfl⟩
  · cases h
theorem isUnV_true {u : VT} (h : isUnV u = true) : u = .un ∨ ∃ z, u = .va .un z := by
  unfold isUnV at h
  split at h
  · exact .inl rfl
  · rename_i z; exact .inr ⟨z, rfl⟩
  · cases h
theorem asRp_some {t : Ty} {u : VT} {y : t.D} (h : asRp t u = some y) : u = .rp t y := by
  unfold asRp at h
  split at h
  · rename_i t' z
    have := Dy_as h
    injection this with e1 e2
    subst e1
    cases e2
    rfl
  · cases h
theorem asSl_some {u : VT} {q : Nat × Nat} (h : asSl u = some q) : ∃ hh, u = .sl q.1 q.2 hh [] none := by
  unfold asSl at h
  split at h
  · cases h; exact ⟨_, rfl⟩
  · cases h
theorem asPt_some {u : VT} {q : Nat × Nat} (h : asPt u = some q) : ∃ hh, u = .pt q.1 q.2 hh [] := by
  unfold asPt at h
  split at h
  · cases h; exact ⟨_, rfl⟩
  · cases h
theorem asTu_some {u v : VT} (h : asTu u = some v) : u = .tu v := by
  unfold asTu at h
  split at h
  · cases h; rfl
  · cases h
theorem asFn_some {f : Nat} {u v : VT} (h : asFn f u = some v) : u = .fn f v := by
  unfold asFn at h
  split at h
  · rename_i f' a
    cases hb : Nat.beq f f' <;> rw [hb] at h <;> cases h
    have := Nat.eq_of_beq_eq_true hb
    subst this
    rfl
  · cases h
theorem cond_some {α : Type} {b : Bool} {a y : α} (h : cond b (some a) none = some y) : b = true ∧ a = y := by
  cases b
  · cases h
  · cases h; exact ⟨rfl, rfl⟩
theorem cond_opt {α : Type} {b : Bool} {a : Option α} {y : α} (h : cond b a none = some y) : b = true ∧ a = some y := by
  cases b
  · cases h
  · exact ⟨rfl, h⟩

theorem get_va {rd : Rd} {t : Ty} {u : VT} {r r' : Ren} {y : t.D} (h : (VP.va t).get rd u r = some (y, r')) : rd.val t u = some y ∧ r' = ⟨r.m, u.refs ++ r.c, r.e⟩ := by
  have h' : (rd.val t u).map (fun y => (y, (⟨r.m, u.refs ++ r.c, r.e⟩ : Ren))) = some (y, r') := h
  obtain ⟨y', hy, e⟩ := Option.map_eq_some_iff.1 h'
  cases e
  exact ⟨hy, rfl⟩
theorem get_rp {rd : Rd} {t : Ty} {u : VT} {r r' : Ren} {y : t.D} (h : (VP.rp t).get rd u r = some (y, r')) : u = .rp t y ∧ r' = r := by
  have h' : (asRp t u).map (fun y => (y, r)) = some (y, r') := h
  obtain ⟨y', hy, e⟩ := Option.map_eq_some_iff.1 h'
  cases e
  exact ⟨asRp_some hy, rfl⟩
theorem get_sl {rd : Rd} {o : Nat} {u : VT} {r r' : Ren} {y : Unit} (h : (VP.sl o).get rd u r = some (y, r')) : (∃ (q : Nat × Nat) (hh : Nat), u = .sl q.1 q.2 hh [] none ∧ live rd.o q.1 q.2 = true ∧ r.add o q.1 = some r') ∨ (u = .nl ∧ r.addE o = some r') := by
  have h' : (match asSl u with
    | some q => cond (live rd.o q.1 q.2) ((r.add o q.1).map fun r => ((), r)) none
    | none => cond (isNlV u) ((r.addE o).map fun r => ((), r)) none) = some (y, r') := h
  split at h'
  · rename_i q hq
    obtain ⟨h1, h2⟩ := cond_opt h'
    obtain ⟨r1, h3, e⟩ := Option.map_eq_some_iff.1 h2
    cases e
    obtain ⟨hh, e⟩ := asSl_some hq
    exact .inl ⟨q, hh, e, h1, h3⟩
  · obtain ⟨h1, h2⟩ := cond_opt h'
    obtain ⟨r1, h3, e⟩ := Option.map_eq_some_iff.1 h2
    cases e
    exact .inr ⟨(by cases u <;> first | rfl | (cases h1; done)), h3⟩
theorem get_pt {rd : Rd} {o : Nat} {u : VT} {r r' : Ren} {y : Unit} (h : (VP.pt o).get rd u r = some (y, r')) : ∃ (q : Nat × Nat) (hh : Nat), u = .pt q.1 q.2 hh [] ∧ liveV rd.o q.1 q.2 = true ∧ r.add o q.1 = some r' := by
  have h' : ((asPt u).bind fun q => cond (liveV rd.o q.1 q.2) ((r.add o q.1).map fun r => ((), r)) none) = some (y, r') := h
  obtain ⟨q, hq, h'⟩ := Option.bind_eq_some_iff.1 h'
  obtain ⟨h1, h2⟩ := cond_opt h'
  obtain ⟨r1, h3, e⟩ := Option.map_eq_some_iff.1 h2
  cases e
  obtain ⟨hh, e⟩ := asPt_some hq
  exact ⟨q, hh, e, h1, h3⟩
theorem get_pr {rd : Rd} {a b : VP} {u : VT} {r r' : Ren} {y : (VP.pr a b).ty.D} (h : (VP.pr a b).get rd u r = some (y, r')) : ∃ q r1, splitPr u = some q ∧ a.get rd q.1 r = some (y.1, r1) ∧ b.get rd q.2 r1 = some (y.2, r') := by
  have h' : ((splitPr u).bind fun q => (a.get rd q.1 r).bind fun x => (b.get rd q.2 x.2).map fun y => ((x.1, y.1), y.2)) = some (y, r') := h
  obtain ⟨q, hq, h'⟩ := Option.bind_eq_some_iff.1 h'
  obtain ⟨⟨y1, r1⟩, h1, h'⟩ := Option.bind_eq_some_iff.1 h'
  obtain ⟨⟨y2, r2⟩, h2, e⟩ := Option.map_eq_some_iff.1 h'
  cases e
  exact ⟨q, r1, hq, h1, h2⟩
theorem get_un {rd : Rd} {u : VT} {r r' : Ren} {y : Unit} (h : VP.un.get rd u r = some (y, r')) : isUnV u = true ∧ r' = r := by
  have h' : cond (isUnV u) (some ((), r)) none = some (y, r') := h
  obtain ⟨h1, e⟩ := cond_some h'
  cases e
  exact ⟨h1, rfl⟩
theorem get_nl {rd : Rd} {u : VT} {r r' : Ren} {y : Unit} (h : VP.nl.get rd u r = some (y, r')) : u = .nl ∧ r' = r := by
  have h' : cond (isNlV u) (some ((), r)) none = some (y, r') := h
  obtain ⟨h1, e⟩ := cond_some h'
  cases e
  exact ⟨(by cases u <;> first | rfl | (cases h1; done)), rfl⟩
theorem get_em {rd : Rd} {u : VT} {r r' : Ren} {y : Unit} (h : VP.em.get rd u r = some (y, r')) : u = .em ∧ r' = r := by
  have h' : cond (isEmV u) (some ((), r)) none = some (y, r') := h
  obtain ⟨h1, e⟩ := cond_some h'
  cases e
  exact ⟨(by cases u <;> first | rfl | (cases h1; done)), rfl⟩
theorem get_np {rd : Rd} {u : VT} {r r' : Ren} {y : Unit} (h : VP.np.get rd u r = some (y, r')) : u = .np ∧ r' = r := by
  have h' : cond (isNpV u) (some ((), r)) none = some (y, r') := h
  obtain ⟨h1, e⟩ := cond_some h'
  cases e
  exact ⟨(by cases u <;> first | rfl | (cases h1; done)), rfl⟩
theorem get_tu {rd : Rd} {a : VP} {u : VT} {r r' : Ren} {y : a.ty.D} (h : (VP.tu a).get rd u r = some (y, r')) : ∃ v, u = .tu v ∧ a.get rd v r = some (y, r') ∧ a.chain = true := by
  have h' : cond a.chain ((asTu u).bind fun u => a.get rd u r) none = some (y, r') := h
  obtain ⟨h1, h'⟩ := cond_opt h'
  obtain ⟨v, hv, h'⟩ := Option.bind_eq_some_iff.1 h'
  exact ⟨v, asTu_some hv, h', h1⟩
theorem get_fn {rd : Rd} {f : Nat} {a : VP} {u : VT} {r r' : Ren} {y : a.ty.D} (h : (VP.fn f a).get rd u r = some (y, r')) : ∃ v, u = .fn f v ∧ a.get rd v r = some (y, r') := by
  have h' : ((asFn f u).bind fun u => a.get rd u r) = some (y, r') := h
  obtain ⟨v, hv, h'⟩ := Option.bind_eq_some_iff.1 h'
  exact ⟨v, asFn_some hv, h'⟩

theorem VP.get_le {rd : Rd} : ∀ {v : VP} {u : VT} {r r' : Ren} {y : v.ty.D}, v.get rd u r = some (y, r') → RenLe r r' ∧ (RenInj r → RenInj r') := by
  intro v
  induction v with
  | va t =>
    intro u r r' y h
    obtain ⟨_, rfl⟩ := get_va h
    exact ⟨⟨fun _ _ h => h, (fun o ho => by simp [ho]), fun o ho => ho⟩, fun h => ⟨h.m, h.e⟩⟩
  | rp t => intro u r r' y h; obtain ⟨_, rfl⟩ := get_rp h; exact ⟨.refl _, fun h => h⟩
  | nl => intro u r r' y h; obtain ⟨_, rfl⟩ := get_nl h; exact ⟨.refl _, fun h => h⟩
  | em => intro u r r' y h; obtain ⟨_, rfl⟩ := get_em h; exact ⟨.refl _, fun h => h⟩
  | np => intro u r r' y h; obtain ⟨_, rfl⟩ := get_np h; exact ⟨.refl _, fun h => h⟩
  | sl o =>
    intro u r r' y h
    rcases get_sl h with ⟨q, hh, _, _, h1⟩ | ⟨_, h1⟩
    · obtain ⟨q1, _, q3⟩ := add_ok h1
      exact ⟨q1, q3⟩
    · obtain ⟨q1, _, q3⟩ := addE_ok h1
      exact ⟨q1, q3⟩
  | pt o =>
    intro u r r' y h
    obtain ⟨q, hh, _, _, h1⟩ := get_pt h
    obtain ⟨q1, _, q3⟩ := add_ok h1
    exact ⟨q1, q3⟩
  | un => intro u r r' y h; obtain ⟨_, rfl⟩ := get_un h; exact ⟨.refl _, fun h => h⟩
  | tu a ih => intro u r r' y h; obtain ⟨v, _, h, _⟩ := get_tu h; exact ih h
  | fn f a ih => intro u r r' y h; obtain ⟨v, _, h⟩ := get_fn h; exact ih h
  | pr a b iha ihb =>
    intro u r r' y h
    obtain ⟨q, r1, _, h1, h2⟩ := get_pr h
    obtain ⟨p1, p2⟩ := iha h1
    obtain ⟨q1, q2⟩ := ihb h2
    exact ⟨p1.trans q1, fun h => q2 (p2 h)⟩

/-! ### the state of a pattern -/
structure Fin (S S' : Side) (ob ob' : List Obe) (M : Ren) : Prop where
  ok : ∀ b, S.ok b → S'.ok b
  con : ∀ o ∈ M.c, ∀ c, (getO ob o).c = some c → ∀ b ∈ S.fp o, S'.ok b
  hd : ∀ o o', M.m.find o = some o' → S'.hd o = S.hd o'
  gen : ∀ o, (getO ob' o).g = 0 ∧ (getO ob' o).h = 0
  nil : ∀ o ∈ M.e, S'.hd o = (none, 0) ∧ ∀ c, (getO ob' o).c = some c → ∃ t, c = .arr t [] false
  arr : ∀ o o' t xs nn, M.m.find o = some o' → (getO ob' o).c = some (.arr t xs nn) → ∃ nn', (getO ob o').c = some (.arr t xs nn')
  var : ∀ o o' u, M.m.find o = some o' → (getO ob' o).c = some (.var u) → ∃ u', (getO ob o').c = some (.var u')

section
variable {S S' : Side} {w : World} {C : Ctx} {x : X} {a : Act} {ob' : List Obe} {M : Ren}

theorem rdOf_ok (x : X) : RdOk (rdOf x) x := ⟨fun _ _ h => h, fun _ _ _ => rfl⟩

theorem live_iff {o g : Nat} (h : live (rdOf x).o o g = true) : ∃ c, (getO x.ob o).c = some c ∧ g = (getO x.ob o).g := by
  unfold live at h
  split at h
  · rename_i g' h' c he
    have he' : getO x.ob o = ⟨g', h', some c⟩ := he
    rw [he']
    exact ⟨c, rfl, Nat.eq_of_beq_eq_true h⟩
  · cases h
theorem liveV_iff {o g : Nat} (h : liveV (rdOf x).o o g = true) : ∃ u, (getO x.ob o).c = some (.var u) ∧ g = (getO x.ob o).g := by
  unfold liveV at h
  split at h
  · rename_i g' h' c he
    have he' : getO x.ob o = ⟨g', h', some (.var c)⟩ := he
    rw [he']
    exact ⟨c, rfl, Nat.eq_of_beq_eq_true h⟩
  · cases h

theorem VP.get_sound (I : Inv C S x a w) (F : Fin S S' x.ob ob' M) : ∀ {v : VP} {u : VT} {r r' : Ren} {y : v.ty.D} {cs : List Value}, v.get (rdOf x) u r = some (y, r') → RenLe r' M → VTC S x.ob w u cs → VTC S' ob' w (v.mk y) cs := by
  intro v
  induction v with
  | va t =>
    intro u r r' y cs h hM hc
    obtain ⟨hy, rfl⟩ := get_va h
    have hro := Rd_val_refs I (rdOf_ok x) hy hc
    refine RO_mono (fun b hb => ?_) (fun _ _ _ => rfl) hro
    rcases hb with hb | ⟨o, c, h1, h2, h3⟩
    · exact F.ok b hb
    · exact F.con o (hM.c o (by simp [h1])) c h2 b h3
  | rp t =>
    intro u r r' y cs h hM hc
    obtain ⟨rfl, _⟩ := get_rp h
    obtain ⟨b, off, ccs, q1, q2, q3, q4⟩ := hc
    exact ⟨b, off, ccs, q1, F.ok b q2, q3, RO_mono F.ok (fun _ _ _ => rfl) q4⟩
  | nl => intro u r r' y cs h hM hc; obtain ⟨rfl, _⟩ := get_nl h; exact hc
  | em => intro u r r' y cs h hM hc; obtain ⟨rfl, _⟩ := get_em h; exact hc
  | np => intro u r r' y cs h hM hc; obtain ⟨rfl, _⟩ := get_np h; exact hc
  | sl o =>
    intro u r r' y cs h hM hc
    rcases get_sl h with ⟨q, hh, rfl, hl, h1⟩ | ⟨rfl, h1⟩
    rotate_left
    · obtain ⟨n1, n2⟩ := F.nil o (hM.e _ (addE_ok h1).2.1)
      have hc' : cs = [.slice none 0 0] := hc
      refine ⟨_, hc', rfl, .inr ⟨(F.gen o).1.symm, Nat.zero_le _⟩, fun t xs nn hob _ _ => ?_⟩
      obtain ⟨t', e⟩ := n2 _ hob
      injection e with e1 e2 e3
      subst e1
      cases e2
      exact ⟨t, none, 0, 0, rfl, ⟨n1, rfl⟩, rfl⟩
    have hf := hM.m _ _ (add_ok h1).2.1
    obtain ⟨c, hc1, hg⟩ := live_iff hl
    obtain ⟨v, rfl, k1, k2, k3⟩ := hc
    refine ⟨v, rfl, k1, .inr ⟨(F.gen o).1.symm, Nat.zero_le _⟩, fun t xs nn hob _ _ => ?_⟩
    obtain ⟨nn', hob'⟩ := F.arr o _ t xs nn hf hob
    obtain ⟨te, A, n, cap, j1, j2, j3⟩ := k3 t xs nn' hob' hg (.inl rfl)
    exact ⟨te, A, n, cap, j1, ⟨by rw [F.hd o _ hf]; exact j2.1, j2.2⟩, j3⟩
  | pt o =>
    intro u r r' y cs h hM hc
    obtain ⟨q, hh, rfl, hl, h1⟩ := get_pt h
    have hf := hM.m _ _ (add_ok h1).2.1
    obtain ⟨u, hc1, hg⟩ := liveV_iff hl
    obtain ⟨v, rfl, k1, k2, k3, k4⟩ := hc
    refine ⟨v, rfl, k1, .inr ⟨(F.gen o).1.symm, Nat.zero_le _⟩, fun u2 hob _ => ?_, fun t xs nn hob _ _ => ?_⟩
    · obtain ⟨b, k, j1, j2, j3⟩ := k3 u hc1 hg
      refine ⟨b, k, by rw [F.hd o _ hf]; exact j1, ?_, j3⟩
      simp only [VT.off] at j2 ⊢
      exact j2
    · obtain ⟨nn', hob'⟩ := F.arr o _ t xs nn hf hob
      rw [hc1] at hob'
      cases hob'
  | un =>
    intro u r r' y cs h hM hc
    obtain ⟨hu, _⟩ := get_un h
    rcases isUnV_true hu with rfl | ⟨z, rfl⟩ <;> exact hc
  | tu a ih => intro u r r' y cs h hM hc; obtain ⟨v, rfl, h, _⟩ := get_tu h; exact hc.elim
  | fn f a ih =>
    intro u r r' y cs h hM hc
    obtain ⟨v, rfl, h2⟩ := get_fn h
    obtain ⟨caps, e, hc⟩ := hc
    exact ⟨caps, e, ih h2 hM hc⟩
  | pr a b iha ihb =>
    intro u r r' y cs h hM hc
    obtain ⟨q, r1, hq, h1, h2⟩ := get_pr h
    have hc' : ∃ c1 c2, cs = c1 ++ c2 ∧ VTC S x.ob w q.1 c1 ∧ VTC S x.ob w q.2 c2 := by
      rcases splitPr_some hq with rfl | ⟨s, t, z, rfl, rfl⟩ <;> exact hc
    obtain ⟨c1, c2, e, hc1, hc2⟩ := hc'
    exact ⟨c1, c2, e, iha h1 ((VP.get_le h2).1.trans hM) hc1, ihb h2 hM hc2⟩

theorem VP.get_agg {rd : Rd} : ∀ {v : VP} {u : VT} {r r' : Ren} {y : v.ty.D}, v.get rd u r = some (y, r') → (v.mk y).isAgg = u.isAgg := by
  intro v u r r' y h
  cases v with
  | va t => rw [val_agg (get_va h).1]; rfl
  | rp t => rw [(get_rp h).1]; rfl
  | nl => rw [(get_nl h).1]; rfl
  | em => rw [(get_em h).1]; rfl
  | np => rw [(get_np h).1]; rfl
  | sl o => rcases get_sl h with ⟨q, hh, rfl, _⟩ | ⟨rfl, _⟩ <;> rfl
  | pt o => obtain ⟨q, hh, rfl, _⟩ := get_pt h; rfl
  | pr a b =>
    obtain ⟨q, r1, hq, _⟩ := get_pr h
    rcases splitPr_some hq with rfl | ⟨s, t, z, rfl, _⟩ <;> rfl
  | un => rcases isUnV_true (get_un h).1 with rfl | ⟨z, rfl⟩ <;> rfl
  | tu a => obtain ⟨v, rfl, _⟩ := get_tu h; rfl
  | fn f a => obtain ⟨v, rfl, _⟩ := get_fn h; rfl

theorem VP.get_soundT (I : Inv C S x a w) (F : Fin S S' x.ob ob' M) : ∀ {v : VP} {u : VT} {r r' : Ren} {y : v.ty.D} {us : List Value}, v.get (rdOf x) u r = some (y, r') → RenLe r' M → v.chain = true → VTT S x.ob w u us → VTT S' ob' w (v.mk y) us := by
  intro v
  induction v with
  | pr a b iha ihb =>
    intro u r r' y us h hM hch hc
    obtain ⟨q, r1, hq, h1, h2⟩ := get_pr h
    rcases splitPr_some hq with rfl | ⟨s, t, z, rfl, rfl⟩
    · cases us with
      | nil => exact hc.elim
      | cons z us =>
        obtain ⟨⟨cs, q1, q2⟩, q3⟩ := hc
        refine ⟨⟨cs, VP.get_sound I F h1 ((VP.get_le h2).1.trans hM) q1, ?_⟩, ihb h2 hM hch q3⟩
        rw [q2]
        unfold mkV
        rw [VP.get_agg h1]
    · exact hc.elim
  | un =>
    intro u r r' y us h hM _ hc
    rcases isUnV_true (get_un h).1 with rfl | ⟨z, rfl⟩
    · exact hc
    · exact hc.elim
  | _ => intro u r r' y us h hM hch; cases hch

theorem VP.get_soundV (I : Inv C S x a w) (F : Fin S S' x.ob ob' M) {v : VP} {u : VT} {r r' : Ren} {y : v.ty.D} {z : Value} (h : v.get (rdOf x) u r = some (y, r')) (hM : RenLe r' M) (hz : VTV S x.ob w u z) : VTV S' ob' w (v.mk y) z := by
  by_cases htu : ∃ v', v = .tu v'
  · obtain ⟨v', rfl⟩ := htu
    obtain ⟨u', rfl, h', hch⟩ := get_tu h
    obtain ⟨us, rfl, hus⟩ := hz
    exact ⟨us, rfl, VP.get_soundT I F h' hM hch hus⟩
  · have nt : (∀ q, u ≠ .tu q) ∧ u ≠ .ud := by
      constructor
      · rintro q rfl
        cases v with
        | va t => have := (get_va h).1; cases t <;> simp [Rd.val] at this
        | rp t => cases (get_rp h).1
        | nl => cases (get_nl h).1
        | em => cases (get_em h).1
        | np => cases (get_np h).1
        | sl o => rcases get_sl h with ⟨_, _, e, _⟩ | ⟨e, _⟩ <;> cases e
        | pt o => obtain ⟨_, _, e, _⟩ := get_pt h; cases e
        | pr a b => obtain ⟨_, _, e, _⟩ := get_pr h; cases e
        | un => cases (get_un h).1
        | tu a => exact htu ⟨a, rfl⟩
        | fn f a => obtain ⟨_, e, _⟩ := get_fn h; cases e
      · rintro rfl
        cases v with
        | va t => have := (get_va h).1; cases t <;> simp [Rd.val] at this
        | rp t => cases (get_rp h).1
        | nl => cases (get_nl h).1
        | em => cases (get_em h).1
        | np => cases (get_np h).1
        | sl o => rcases get_sl h with ⟨_, _, e, _⟩ | ⟨e, _⟩ <;> cases e
        | pt o => obtain ⟨_, _, e, _⟩ := get_pt h; cases e
        | pr a b => obtain ⟨_, _, e, _⟩ := get_pr h; cases e
        | un => cases (get_un h).1
        | tu a => exact htu ⟨a, rfl⟩
        | fn f a => obtain ⟨_, e, _⟩ := get_fn h; cases e
    obtain ⟨cs, hcs, e⟩ := VTV_of hz nt.1 nt.2
    have := VTC_VTV (VP.get_sound I F h hM hcs)
    rw [e]
    have e2 : mkV (v.mk y) cs = mkV u cs := by unfold mkV; rw [VP.get_agg h]
    rwa [e2] at this

/-! ### all slots, all objects -/
theorem mkSlots_len : ∀ {l : List (Nat × VP)} {y : (slotsTy l).D} {z : List (Option VT)}, (mkSlots l y z).length = z.length
  | [], _, _ => rfl
  | (t, v) :: l, y, z => by
    show (mkSlots l y.2 (z.set t (some (v.mk y.1)))).length = _
    rw [mkSlots_len, List.length_set]

theorem getSlots_le {rd : Rd} : ∀ {l : List (Nat × VP)} {r r' : Ren} {y : (slotsTy l).D}, getSlots rd l r = some (y, r') → RenLe r r' ∧ (RenInj r → RenInj r')
  | [], r, r', y, h => by
    have h' : some ((), r) = some (y, r') := h
    cases h'
    exact ⟨.refl _, fun h => h⟩
  | (t, v) :: l, r, r', y, h => by
    have h' : ((rd.v (.tmp t)).bind fun u => (v.get rd u r).bind fun x => (getSlots rd l x.2).map fun y => ((x.1, y.1), y.2)) = some (y, r') := h
    obtain ⟨u, hu, h'⟩ := Option.bind_eq_some_iff.1 h'
    obtain ⟨⟨y1, r1⟩, h1, h'⟩ := Option.bind_eq_some_iff.1 h'
    obtain ⟨⟨y2, r2⟩, h2, e⟩ := Option.map_eq_some_iff.1 h'
    cases e
    obtain ⟨p1, p2⟩ := VP.get_le h1
    obtain ⟨q1, q2⟩ := getSlots_le h2
    exact ⟨p1.trans q1, fun h => q2 (p2 h)⟩

theorem getSlots_sound (I : Inv C S x a w) (F : Fin S S' x.ob ob' M) : ∀ {l : List (Nat × VP)} {r r' : Ren} {y : (slotsTy l).D} {z : List (Option VT)}, getSlots (rdOf x) l r = some (y, r') → RenLe r' M → (∀ t v, getL z t = some v → ∃ u, a.tmps[t]? = some u ∧ VTV S' ob' w v u) →
    ∀ t v, getL (mkSlots l y z) t = some v → ∃ u, a.tmps[t]? = some u ∧ VTV S' ob' w v u
  | [], r, r', y, z, h, hM, hz, t, v, ht => hz t v ht
  | (t0, v0) :: l, r, r', y, z, h, hM, hz, t, v, ht => by
    have h' : (((rdOf x).v (.tmp t0)).bind fun u => (v0.get (rdOf x) u r).bind fun x' => (getSlots (rdOf x) l x'.2).map fun y => ((x'.1, y.1), y.2)) = some (y, r') := h
    obtain ⟨u, hu, h'⟩ := Option.bind_eq_some_iff.1 h'
    obtain ⟨⟨y1, r1⟩, h1, h'⟩ := Option.bind_eq_some_iff.1 h'
    obtain ⟨⟨y2, r2⟩, h2, e⟩ := Option.map_eq_some_iff.1 h'
    cases e
    refine getSlots_sound I F h2 hM (fun t v ht => ?_) t v ht
    rw [getL_set] at ht
    split at ht
    · rename_i e
      obtain ⟨rfl, _⟩ := e
      cases ht
      obtain ⟨z0, hz0, hv0⟩ := I.slots t0 u hu
      exact ⟨z0, hz0, VP.get_soundV I F h1 ((getSlots_le h2).1.trans hM) hv0⟩
    · exact hz t v ht

/-- where an object of the pattern comes from -/
def From (x : X) (M : Ren) (o : Nat) (e : Obe) : Prop := e.g = 0 ∧ e.h = 0 ∧ ∀ c, e.c = some c → (o ∈ M.e ∧ ∃ t, c = .arr t [] false) ∨ ∃ o', M.m.find o = some o' ∧ match c with
  | .arr t xs nn => ∃ nn', (getO x.ob o').c = some (.arr t xs nn') ∧ (nn = true → nn' = true)
  | .var v => ∃ u vp r0 r1, ∃ y : (VP.ty vp).D, (getO x.ob o').c = some (.var u) ∧ VP.get (rdOf x) vp u r0 = some (y, r1) ∧ v = VP.mk vp y ∧ RenLe r1 M

theorem getObjs_le {rd : Rd} : ∀ {l : List (Nat × OP)} {r r' : Ren} {y : (objsTy l).D}, getObjs rd l r = some (y, r') → RenLe r r' ∧ (RenInj r → RenInj r')
  | [], r, r', y, h => by
    have h' : some ((), r) = some (y, r') := h
    cases h'
    exact ⟨.refl _, fun h => h⟩
  | (o, .arr t nn) :: l, r, r', y, h => by
    simp only [getObjs] at h
    cases hme : memN r.e o <;> rw [hme] at h <;> simp only [cond_true, cond_false] at h
    · obtain ⟨o', ho', h⟩ := Option.bind_eq_some_iff.1 h
      split at h
      · obtain ⟨x1, h1, h⟩ := Option.bind_eq_some_iff.1 h
        obtain ⟨⟨y2, r2⟩, h2, e⟩ := Option.map_eq_some_iff.1 h
        cases e
        exact getObjs_le h2
      · cases h
    · cases nn
      · obtain ⟨⟨y2, r2⟩, h2, e⟩ := Option.map_eq_some_iff.1 h
        cases e
        exact getObjs_le h2
      · cases h
  | (o, .var v) :: l, r, r', y, h => by
    simp only [getObjs] at h
    obtain ⟨o', ho', h⟩ := Option.bind_eq_some_iff.1 h
    split at h
    · obtain ⟨⟨y1, r1⟩, h1, h⟩ := Option.bind_eq_some_iff.1 h
      obtain ⟨⟨y2, r2⟩, h2, e⟩ := Option.map_eq_some_iff.1 h
      cases e
      obtain ⟨p1, p2⟩ := VP.get_le h1
      obtain ⟨q1, q2⟩ := getObjs_le h2
      exact ⟨p1.trans q1, fun h => q2 (p2 h)⟩
    · cases h

theorem getObjs_from : ∀ {l : List (Nat × OP)} {r r' : Ren} {y : (objsTy l).D} {z : List Obe}, getObjs (rdOf x) l r = some (y, r') → RenLe r' M → (∀ o, From x M o (getO z o)) → ∀ o, From x M o (getO (mkObjs l y z) o)
  | [], r, r', y, z, h, hM, hz, o => hz o
  | (o0, .arr t nn) :: l, r, r', y, z, h, hM, hz, o => by
    simp only [getObjs] at h
    cases hme : memN r.e o0 <;> rw [hme] at h <;> simp only [cond_true, cond_false] at h
    · obtain ⟨o', ho', h⟩ := Option.bind_eq_some_iff.1 h
      split at h
      · rename_i t' xs nn' hob
        obtain ⟨x1, h1, h⟩ := Option.bind_eq_some_iff.1 h
        obtain ⟨⟨y2, r2⟩, h2, e⟩ := Option.map_eq_some_iff.1 h
        cases e
        obtain ⟨hnn, h1⟩ := cond_opt h1
        have := Dy_as h1
        injection this with e1 e2
        injection e1 with e1
        subst e1
        cases e2
        refine getObjs_from h2 hM (fun o => ?_) o
        rw [getO_set]
        split
        · rename_i e
          obtain ⟨rfl, _⟩ := e
          refine ⟨rfl, rfl, fun c hc => .inr ?_⟩
          cases hc
          refine ⟨o', hM.m _ _ ((getObjs_le h2).1.m _ _ ho'), nn', hob, fun hn => ?_⟩
          subst hn
          simpa using hnn
        · exact hz o
      · cases h
    · cases nn
      · obtain ⟨⟨y2, r2⟩, h2, e⟩ := Option.map_eq_some_iff.1 h
        cases e
        refine getObjs_from h2 hM (fun o => ?_) o
        rw [getO_set]
        split
        · rename_i e
          obtain ⟨rfl, _⟩ := e
          refine ⟨rfl, rfl, fun c hc => .inl ?_⟩
          cases hc
          exact ⟨hM.e _ ((getObjs_le h2).1.e _ (memN_iff.1 hme)), t, rfl⟩
        · exact hz o
      · cases h
  | (o0, .var v) :: l, r, r', y, z, h, hM, hz, o => by
    simp only [getObjs] at h
    obtain ⟨o', ho', h⟩ := Option.bind_eq_some_iff.1 h
    split at h
    · rename_i u hob
      obtain ⟨⟨y1, r1⟩, h1, h⟩ := Option.bind_eq_some_iff.1 h
      obtain ⟨⟨y2, r2⟩, h2, e⟩ := Option.map_eq_some_iff.1 h
      cases e
      refine getObjs_from h2 hM (fun o => ?_) o
      rw [getO_set]
      split
      · rename_i e
        obtain ⟨rfl, _⟩ := e
        refine ⟨rfl, rfl, fun c hc => .inr ?_⟩
        cases hc
        have hr1 : RenLe r1 M := (getObjs_le h2).1.trans hM
        exact ⟨o', hr1.m _ _ ((VP.get_le h1).1.m _ _ ho'), u, v, r, r1, y1, hob, h1, rfl, hr1⟩
      · exact hz o
    · cases h

theorem getO_rep (m o : Nat) : getO (List.replicate m (⟨0, 0, none⟩ : Obe)) o = ⟨0, 0, none⟩ := by
  induction m generalizing o with
  | zero => rfl
  | succ m ih => cases o with
    | zero => rfl
    | succ o => exact ih o
theorem getL_rep {α : Type} (m o : Nat) : getL (List.replicate m (none : Option α)) o = none := by
  induction m generalizing o with
  | zero => rfl
  | succ m ih => cases o with
    | zero => rfl
    | succ o => exact ih o

theorem jump_sound {p : Pat} {d : p.ty.D} (h : p.get (rdOf x) = some d) (hn : x.sl.length = p.n) (I : Inv C S x a w) : ∃ S', Inv C S' (p.mk' d) a w := by
  have h' : ((getSlots (rdOf x) p.sl ⟨[], [], []⟩).bind fun z => (getObjs (rdOf x) p.ob z.2).bind fun y => cond (apartN y.2.c y.2.m.imgs) (some (z.1, y.1)) none) = some d := h
  obtain ⟨⟨ys, r1⟩, h1, h'⟩ := Option.bind_eq_some_iff.1 h'
  obtain ⟨⟨yo, M⟩, h2, h'⟩ := Option.bind_eq_some_iff.1 h'
  obtain ⟨hap, rfl⟩ := cond_some h'
  have hinj : RenInj M := (getObjs_le h2).2 ((getSlots_le h1).2 ⟨fun a a' b h => by simp [RenL.find] at h, fun o ho => by cases ho⟩)
  have hap := apartN_iff.1 hap
  have hfrom : ∀ o, From x M o (getO (mkObjs p.ob yo (List.replicate p.m ⟨0, 0, none⟩)) o) := getObjs_from h2 (.refl _) fun o => by
    rw [getO_rep]
    exact ⟨rfl, rfl, fun c hc => by cases hc⟩
  let S' : Side := ⟨fun b => okB S x.ob M.c b, fun o => match M.m.find o with | some o' => S.hd o' | none => (none, 0), fun o => match M.m.find o with | some o' => S.fp o' | none => []⟩
  have ehd : ∀ o o', M.m.find o = some o' → S'.hd o = S.hd o' := fun o o' e => by simp only [S', e]
  have efp : ∀ o o', M.m.find o = some o' → S'.fp o = S.fp o' := fun o o' e => by simp only [S', e]
  have nhd : ∀ o ∈ M.e, S'.hd o = (none, 0) := fun o ho => by simp only [S', hinj.e o ho]
  have nfp : ∀ o ∈ M.e, S'.fp o = [] := fun o ho => by simp only [S', hinj.e o ho]
  have no : ∀ {o o'}, o ∈ M.e → M.m.find o = some o' → False := fun ho hf => by rw [hinj.e _ ho] at hf; cases hf
  have F : Fin S S' x.ob (mkObjs p.ob yo (List.replicate p.m ⟨0, 0, none⟩)) M := by
    refine ⟨fun b hb => .inl hb, fun o ho c hc b hb => .inr ⟨o, c, ho, hc, hb⟩, ehd, fun o => ⟨(hfrom o).1, (hfrom o).2.1⟩, fun o ho => ⟨nhd o ho, fun c hc => ?_⟩, fun o o' t xs nn hf hc => ?_, fun o o' u hf hc => ?_⟩
    · rcases (hfrom o).2.2 _ hc with ⟨_, q⟩ | ⟨o2, hf2, _⟩
      · exact q
      · exact (no ho hf2).elim
    · rcases (hfrom o).2.2 _ hc with ⟨ho, _⟩ | ⟨o2, hf2, nn', q, _⟩
      · exact (no ho hf).elim
      · rw [hf] at hf2
        cases hf2
        exact ⟨nn', q⟩
    · rcases (hfrom o).2.2 _ hc with ⟨ho, _⟩ | ⟨o2, hf2, u', vp, r0, r1, y, q, _⟩
      · exact (no ho hf).elim
      · rw [hf] at hf2
        cases hf2
        exact ⟨u', q⟩
  have src : ∀ o c, (getO (mkObjs p.ob yo (List.replicate p.m ⟨0, 0, none⟩)) o).c = some c → (o ∈ M.e) ∨ ∃ o' c', M.m.find o = some o' ∧ (getO x.ob o').c = some c' := by
    intro o c hc
    rcases (hfrom o).2.2 c hc with ⟨ho, _⟩ | ⟨o', hf, q⟩
    · exact .inl ho
    · refine .inr ?_
      cases c with
      | arr t xs nn => obtain ⟨nn', q, _⟩ := q; exact ⟨o', _, hf, q⟩
      | var v => obtain ⟨u', vp, r0, r1, y, q, _⟩ := q; exact ⟨o', _, hf, q⟩
  refine ⟨S', I.dfr, ?_, ?_, ?_, ?_, ?_, I.kept⟩
  · show a.tmps.size = (mkSlots p.sl ys (List.replicate p.n none)).length
    rw [mkSlots_len, List.length_replicate, ← hn]
    exact I.size
  · exact getSlots_sound I F h1 (getObjs_le h2).1 fun t v ht => by rw [getL_rep] at ht; cases ht
  · intro o c hc
    rcases (hfrom o).2.2 c hc with ⟨ho, t, rfl⟩ | ⟨o', hf, q⟩
    · refine ⟨?_, by rw [nfp o ho]; exact List.nodup_nil, fun b hb => by rw [nfp o ho] at hb; cases hb⟩
      unfold ObR
      rw [nhd o ho, nfp o ho]
      exact ⟨.inl ⟨rfl, rfl, rfl⟩, fun h => by cases h⟩
    · obtain ⟨o2, c', hf2, hc'⟩ := (src o c hc).resolve_left (fun ho => no ho hf)
      rw [hf] at hf2
      cases hf2
      obtain ⟨k1, k2, k3⟩ := I.objs o' c' hc'
      refine ⟨?_, by rw [efp o o' hf]; exact k2, fun b hb => ?_⟩
      · cases c with
        | arr t xs nn =>
          obtain ⟨nn', q1, q2⟩ := q
          rw [hc'] at q1
          cases q1
          obtain ⟨j1, j2⟩ := k1
          unfold ObR
          rw [ehd o o' hf, efp o o' hf]
          exact ⟨j1, fun hnn => j2 (q2 hnn)⟩
        | var v =>
          obtain ⟨u', vp, r0, r1, y, q1, q2, rfl, q4⟩ := q
          rw [hc'] at q1
          cases q1
          obtain ⟨b, l, j1, j2, j3, j4⟩ := k1
          unfold ObR
          rw [ehd o o' hf, efp o o' hf]
          exact ⟨b, l, j1, j2, VP.get_sound I F q2 q4 j3, j4⟩
      · rw [efp o o' hf] at hb
        refine ⟨?_, (k3 b hb).2⟩
        rintro (hb' | ⟨o3, c3, g1, g2, g3⟩)
        · exact (k3 b hb).1 hb'
        · have hne : o' ≠ o3 := fun e => hap o3 g1 (e ▸ find_imgs hf)
          exact I.sep o' o3 c' c3 hne hc' g2 b hb g3
  · intro o1 o2 c1 c2 hne hc1 hc2 b hb1 hb2
    rcases src o1 c1 hc1 with ho | ⟨o1', c1', hf1, q1⟩
    · rw [nfp o1 ho] at hb1; cases hb1
    rcases src o2 c2 hc2 with ho | ⟨o2', c2', hf2, q2⟩
    · rw [nfp o2 ho] at hb2; cases hb2
    rw [efp _ _ hf1] at hb1
    rw [efp _ _ hf2] at hb2
    exact I.sep o1' o2' c1' c2' (fun e => hne (hinj.m _ _ _ hf1 (e ▸ hf2))) q1 q2 b hb1 hb2
  · rintro b (hb | ⟨o, c, _, h4, h5⟩)
    · exact I.okb b hb
    · exact ((I.objs o c h4).2.2 b h5).2.1
end
end Go.Vm

/- The value machine, 33: results; functions. -/
set_option linter.unusedVariables false
set_option linter.unusedSimpArgs false
namespace Go.Vm
open Go Go.RowKit

/-! ### results -/
section
variable {P : Program} {S : Side} {w : World} {C : Ctx} {x : X} {a : Act}

theorem val_refs {t : Ty} {s : Ty} {z : s.D} : (VT.va s z).refs = [] := rfl

theorem no_some {α : Type} {y : α} {Q : Prop} (h : (none : Option α) = some y) : Q := by cases h

theorem own_sl {r : Rd} {t : Ty} {v : VT} {y : List t.D} {l : List Nat} (h : r.own (.sl t) v = some (y, l)) : v.isAgg = false ∧ l.Sublist v.refs := by
  cases v with
  | va s z =>
    have h' : cond (Ty.sl t).flat ((Dy.as ⟨s, z⟩ (.sl t)).map fun y => (y, ([] : List Nat))) none = some (y, l) := h
    cases (cond_opt h').1
  | nl => have h' : some (([] : List t.D), ([] : List Nat)) = some (y, l) := h; cases h'; exact ⟨rfl, List.nil_sublist _⟩
  | em => have h' : some (([] : List t.D), ([] : List Nat)) = some (y, l) := h; cases h'; exact ⟨rfl, List.nil_sublist _⟩
  | sl o g hh p win =>
    cases p with
    | nil =>
      cases win with
      | none =>
        have h' : ((r.slice o g hh [] none).bind fun d => (d.as (.sl t)).map fun y => (y, [o])) = some (y, l) := h
        obtain ⟨d, _, h'⟩ := Option.bind_eq_some_iff.1 h'
        obtain ⟨y2, _, e⟩ := Option.map_eq_some_iff.1 h'
        cases e
        exact ⟨rfl, List.Sublist.refl _⟩
      | some q => exact no_some h
    | cons s p => exact no_some h
  | _ => exact no_some h

theorem res_C (I : Inv C S x a w) : ∀ {t : Rt} {v : VT} {y : t.D} {cs : List Value}, (rdOf x).res t v = some y → VTC S x.ob w v cs →
    v.isAgg = t.agg ∧ ∃ l, ResC w t y cs (l.flatMap S.fp) ∧ AllLive (rdOf x) x l ∧ l.Sublist v.refs := by
  intro t
  induction t with
  | fl t =>
    intro v y cs h hc
    have h' : cond t.flat ((rdOf x).val t v) none = some y := by cases v <;> exact h
    obtain ⟨hf, h1⟩ := cond_opt h'
    refine ⟨val_agg h1, [], ⟨rfl, hf, ?_⟩, (fun o ho => by cases ho), List.nil_sublist _⟩
    have := Rd_val I (rdOf_ok x) h1 hc
    exact (RO_flat hf).2 ((RO_flat hf).1 this)
  | os t =>
    intro v y cs h hc
    have h' : ((rdOf x).own (.sl t) v).map (·.1) = some y := by cases v <;> exact h
    obtain ⟨⟨y', l⟩, h1, rfl⟩ := Option.map_eq_some_iff.1 h'
    obtain ⟨h2, h3⟩ := Rd_own I (rdOf_ok x) h1 hc
    obtain ⟨h4, h5⟩ := own_sl h1
    exact ⟨h4, l, h2, h3, h5⟩
  | on t =>
    intro v y cs h hc
    cases v with
    | nl =>
      have h' : (some none : Option (Option (List t.D))) = some y := h
      cases h'
      exact ⟨rfl, [], ⟨hc, rfl⟩, (fun o ho => by cases ho), List.nil_sublist _⟩
    | sl o g hh p win =>
      cases p with
      | cons s p => exact no_some h
      | nil =>
        cases win with
        | some q => exact no_some h
        | none =>
          have h' : cond (nnOf (rdOf x) o) (((rdOf x).own (.sl t) (.sl o g hh [] none)).map fun y => some y.1) none = some y := h
          obtain ⟨hnn, h1⟩ := cond_opt h'
          obtain ⟨⟨y', l⟩, h2, rfl⟩ := Option.map_eq_some_iff.1 h1
          obtain ⟨h3, h4⟩ := Rd_own I (rdOf_ok x) h2 hc
          have h5 : (((rdOf x).slice o g hh [] none).bind fun d => (d.as (.sl t)).map fun y => (y, [o])) = some (y', l) := h2
          obtain ⟨d, hd, h5⟩ := Option.bind_eq_some_iff.1 h5
          obtain ⟨y2, _, e⟩ := Option.map_eq_some_iff.1 h5
          cases e
          obtain ⟨A, cap, rfl, ho⟩ := h3
          refine ⟨rfl, [o], ⟨A, cap, rfl, ?_, ho⟩, h4, List.Sublist.refl _⟩
          unfold nnOf at hnn
          split at hnn
          · rename_i t' xs nn hob
            subst hnn
            have hob' : (getO x.ob o).c = some (.arr t' xs true) := hob
            have hA := (I.objs o _ hob').1.2 rfl
            obtain ⟨t0, xs0, nn0, te, _, _, _, ys, q1, q2, q3, q4, q5, q6, q7, q8, _⟩ := slice_own I (rdOf_ok x) hd
            obtain ⟨v, e, _, _, hs⟩ := hc
            cases e
            obtain ⟨A', n, cap', F', j1, j2, j3, j4, j5⟩ := q8 _ hs
            simp only [winR] at j2
            injection j2 with e1 e2 e3
            subst e1
            rw [(j5 rfl).1] at hA
            exact hA
          · cases hnn
    | _ => exact no_some h
  | un =>
    intro v y cs h hc
    cases v with
    | va s z =>
      cases s with
      | un => exact ⟨rfl, [], ⟨hc, rfl⟩, (fun o ho => by cases ho), List.nil_sublist _⟩
      | _ => exact no_some h
    | un => exact ⟨rfl, [], ⟨hc, rfl⟩, (fun o ho => by cases ho), List.nil_sublist _⟩
    | _ => exact no_some h
  | pr ta tb iha ihb =>
    intro v y cs h hc
    have two : ∀ {va vb : VT} {c1 c2 : List Value}, (((rdOf x).res ta va).bind fun y => ((rdOf x).res tb vb).map fun z => (y, z)) = some y → cs = c1 ++ c2 → VTC S x.ob w va c1 → VTC S x.ob w vb c2 →
        ∃ l, ResC w (.pr ta tb) y cs (l.flatMap S.fp) ∧ AllLive (rdOf x) x l ∧ l.Sublist (va.refs ++ vb.refs) := by
      intro va vb c1 c2 h e hc1 hc2
      obtain ⟨y1, h1, h⟩ := Option.bind_eq_some_iff.1 h
      obtain ⟨y2, h2, rfl⟩ := Option.map_eq_some_iff.1 h
      obtain ⟨_, l1, p1, p2, p3⟩ := iha h1 hc1
      obtain ⟨_, l2, q1, q2, q3⟩ := ihb h2 hc2
      refine ⟨l1 ++ l2, ⟨c1, c2, _, _, e, by rw [List.flatMap_append], p1, q1⟩, fun o ho => ?_, p3.append q3⟩
      rcases List.mem_append.1 ho with ho | ho
      · exact p2 o ho
      · exact q2 o ho
    cases v with
    | va s z =>
      cases s with
      | pr s1 s2 =>
        obtain ⟨c1, c2, e, hc1, hc2⟩ := hc
        exact ⟨rfl, two (va := .va _ z.1) (vb := .va _ z.2) h e hc1 hc2⟩
      | _ => exact no_some h
    | pr va vb =>
      obtain ⟨c1, c2, e, hc1, hc2⟩ := hc
      exact ⟨rfl, two h e hc1 hc2⟩
    | _ => exact no_some h

theorem val_tu (r : Rd) (t : Ty) (q : VT) : r.val t (.tu q) = none := by cases t <;> rfl
theorem val_ud (r : Rd) (t : Ty) : r.val t .ud = none := by cases t <;> rfl
theorem res_tu (r : Rd) (t : Rt) (q : VT) : r.res t (.tu q) = none := by
  cases t with
  | fl t => simp only [Rd.res]; rw [val_tu]; cases t.flat <;> rfl
  | os t => simp only [Rd.res]; rw [own_tu]; rfl
  | _ => rfl
theorem res_ud (r : Rd) (t : Rt) : r.res t .ud = none := by
  cases t with
  | fl t => simp only [Rd.res]; rw [val_ud]; cases t.flat <;> rfl
  | os t => simp only [Rd.res]; rw [own_ud]; rfl
  | _ => rfl

theorem res_V (I : Inv C S x a w) {t : Rt} {v : VT} {y : t.D} {u : Value} (h : (rdOf x).res t v = some y) (hv : VTV S x.ob w v u) : ∃ l, ResV w t y u (l.flatMap S.fp) ∧ AllLive (rdOf x) x l ∧ l.Sublist v.refs := by
  obtain ⟨cs, hc, rfl⟩ := VTV_of hv (fun z e => by rw [e, res_tu] at h; cases h) (fun e => by rw [e, res_ud] at h; cases h)
  obtain ⟨h1, l, h2, h3, h4⟩ := res_C I h hc
  exact ⟨l, ⟨cs, h2, by unfold mkV; rw [h1]⟩, h3, h4⟩

def VTU (S : Side) (ob : List Obe) (w : World) : VT → List Value → Prop
  | .pr a b, u :: us => VTV S ob w a u ∧ VTU S ob w b us
  | .un, us => us = []
  | _, _ => False

theorem res_T (I : Inv C S x a w) : ∀ {t : Rt} {v : VT} {y : t.D} {us : List Value}, t.chain = true → (rdOf x).res t v = some y → VTU S x.ob w v us → ∃ l, ResT w t y us (l.flatMap S.fp) ∧ AllLive (rdOf x) x l ∧ l.Sublist v.refs
  | .un, v, y, us, _, h, hv => by
    cases v with
    | un => exact ⟨[], ⟨hv, rfl⟩, (fun o ho => by cases ho), List.nil_sublist _⟩
    | va s z => cases us <;> exact hv.elim
    | _ => exact no_some h
  | .pr ta tb, v, y, us, hch, h, hv => by
    cases v with
    | va s z => cases us <;> exact hv.elim
    | pr va vb =>
     cases us with
     | nil => exact hv.elim
     | cons u us =>
      obtain ⟨hv1, hv2⟩ := hv
      have h' : (((rdOf x).res ta va).bind fun y => ((rdOf x).res tb vb).map fun z => (y, z)) = some y := h
      obtain ⟨y1, h1, h'⟩ := Option.bind_eq_some_iff.1 h'
      obtain ⟨y2, h2, rfl⟩ := Option.map_eq_some_iff.1 h'
      obtain ⟨l1, p1, p2, p3⟩ := res_V I h1 hv1
      obtain ⟨l2, q1, q2, q3⟩ := res_T (t := tb) I hch h2 hv2
      refine ⟨l1 ++ l2, ⟨_, _, by rw [List.flatMap_append], p1, q1⟩, fun o ho => ?_, p3.append q3⟩
      rcases List.mem_append.1 ho with ho | ho
      · exact p2 o ho
      · exact q2 o ho
    | _ => exact no_some h
  | .fl _, _, _, _, hch, _, _ => by cases hch
  | .os _, _, _, _, hch, _, _ => by cases hch
  | .on _, _, _, _, hch, _, _ => by cases hch

def resOf (tmps : Array Value) : ResultVar → Sem Value
  | .tmp t => pure (tmps.getD t undef)
  | .cell a t => do loadVar t (← asAddr (tmps.getD a undef))

theorem resSlot_run (I : Inv C S x a w) {T : Tab} (hT : TabOk P T) {r : ResultVar} {v : VT} (h : resSlot T (rdOf x) r = some v) : ∃ u, (resOf a.tmps r).run P w = .ok u w ∧ VTV S x.ob w v u := by
  cases r with
  | tmp t =>
    have hv := I.eval (y := .tmp t) (v := v) h
    exact ⟨_, rfl, hv⟩
  | cell t ty =>
    simp only [resSlot] at h
    obtain ⟨u, hu, h⟩ := Option.bind_eq_some_iff.1 h
    have hv := I.eval (y := .tmp t) (v := u) hu
    split at h
    · rename_i o g hh
      split at h
      · rename_i g' h' u1 te hob hte
        obtain ⟨hc, rfl⟩ := cond_some h
        rw [Bool.and_eq_true] at hc
        obtain ⟨_, _, hp, _⟩ := VTV_pt hv
        have hob' : getO x.ob o = ⟨g', h', some (.var u1)⟩ := hob
        obtain ⟨b, k, j1, j2, j3⟩ := hp u1 (by rw [hob']) (by rw [hob']; exact Nat.eq_of_beq_eq_true hc.1)
        obtain ⟨b', l, q1, q2, q3, q4⟩ := (I.objs o (.var u1) (by rw [hob'])).1
        have hk : k = 0 := by simp only [VT.off] at j2; cases j2; rfl
        subst hk
        have hb : b' = b := by rw [q1] at j1; cases j1; rfl
        subst hb
        have hlen : l.length = te.ty.cells := by rw [VTC_len q3, fits_cells hc.2]
        have hrun := run_loadV (P := P) hT hte hlen (hv_lies q2)
        refine ⟨mkV u1 l, ?_, VTC_VTV q3⟩
        have e1 : a.tmps.getD t undef = .pointer (some ⟨b', 0, none⟩) := j3
        show (do loadVar ty (← asAddr (a.tmps.getD t undef)) : Sem Value).run P w = _
        rw [e1]
        have e3 : (do loadVar ty (← asAddr (.pointer (some ⟨b', 0, none⟩))) : Sem Value).run P w = (loadVar ty ⟨b', 0, none⟩).run P w := by simp [asAddr]
        rw [e3, hrun]
        unfold mkV
        rw [fits_agg hc.2]
      · cases h
    · cases h

theorem resSlots_run (I : Inv C S x a w) {T : Tab} (hT : TabOk P T) : ∀ {l : List ResultVar} {v : VT}, resSlots T (rdOf x) l = some v → ∃ us : List Value, (l.mapM (resOf a.tmps)).run P w = .ok us w ∧ VTU S x.ob w v us ∧ us.length = l.length
  | [], v, h => by
    have h' : some VT.un = some v := h
    cases h'
    exact ⟨[], by simp, rfl, rfl⟩
  | r :: l, v, h => by
    have h' : ((resSlot T (rdOf x) r).bind fun v => (resSlots T (rdOf x) l).map fun u => VT.pr v u) = some v := h
    obtain ⟨v1, h1, h'⟩ := Option.bind_eq_some_iff.1 h'
    obtain ⟨v2, h2, rfl⟩ := Option.map_eq_some_iff.1 h'
    obtain ⟨u, k1, k2⟩ := resSlot_run I hT h1
    obtain ⟨us, k3, k4, k5⟩ := resSlots_run I hT h2
    exact ⟨u :: us, by rw [List.mapM_cons]; simp [k1, k3], ⟨k2, k4⟩, by simp [k5]⟩

theorem results_run {fn : Func} {tmps : Array Value} {us : List Value} (h : (fn.results.toList.mapM (resOf tmps)).run P w = .ok us w) :
    (results fn tmps).run P w = .ok (if h : us.toArray.size = 1 then us.toArray[0] else .tuple us.toArray) w := by
  have h2 : (fn.results.mapM (resOf tmps)).run P w = .ok us.toArray w := by
    rw [Array.mapM_eq_mapM_toList, Sem.run_map, h]
    rfl
  unfold results
  rw [Sem.run_bind]
  have h3 : ∀ f : ResultVar → Sem Value, (∀ r, f r = resOf tmps r) → (fn.results.mapM f).run P w = .ok us.toArray w := fun f hf => by rw [show f = resOf tmps from funext hf]; exact h2
  rw [h3 _ (fun r => by cases r <;> rfl)]
  rfl

theorem finish_sound (I : Inv C S x a w) {T : Tab} (hT : TabOk P T) {fn : Func} {tup : Bool} {rs : Rt} (hch : tup = true → rs.chain = true) (hone : tup = true → fn.results.size ≠ 1) {y : rs.D} (h : finish T fn tup rs x = some y) :
    ∃ v l, (results fn a.tmps).run P w = .ok v w ∧ ResR w tup rs y v (l.flatMap S.fp) ∧ AllLive (rdOf x) x l ∧ l.Nodup := by
  unfold finish at h
  cases tup
  · simp only [cond_false] at h
    split at h
    · rename_i rv hr
      obtain ⟨v, h1, h⟩ := Option.bind_eq_some_iff.1 h
      obtain ⟨honce, h⟩ := cond_opt h
      obtain ⟨u, k1, k2⟩ := resSlot_run I hT h1
      obtain ⟨l, q1, q2, q3⟩ := res_V I h k2
      have hm : (fn.results.toList.mapM (resOf a.tmps)).run P w = .ok [u] w := by
        rw [hr, List.mapM_cons]
        simp [k1]
      refine ⟨u, l, ?_, ?_, q2, q3.nodup (nodupN_iff.1 honce)⟩
      · rw [results_run hm]
        rfl
      · unfold ResR
        simp only [Bool.false_eq_true, if_false]
        exact q1
    · cases h
  · simp only [cond_true] at h
    obtain ⟨v, h1, h⟩ := Option.bind_eq_some_iff.1 h
    obtain ⟨honce, h⟩ := cond_opt h
    obtain ⟨us, k1, k2, k3⟩ := resSlots_run I hT h1
    obtain ⟨l, q1, q2, q3⟩ := res_T I (hch rfl) h k2
    have hsz : us.toArray.size ≠ 1 := by simp [k3]; exact hone rfl
    refine ⟨.tuple us.toArray, l, ?_, ?_, q2, q3.nodup (nodupN_iff.1 honce)⟩
    · rw [results_run k1]
      simp only [hsz, dif_neg, not_false_eq_true]
    · unfold ResR
      simp only [if_true]
      exact ⟨us, rfl, q1⟩
end
end Go.Vm

/- The value machine, 34: functions. -/
set_option linter.unusedVariables false
set_option linter.unusedSimpArgs false
namespace Go.Vm
open Go Go.RowKit

/-- how many parameters -/
def Ty.plen : Ty → Nat
  | .pr _ b => b.plen + 1
  | _ => 0

structure FnInfo (P : Program) (id : Nat) (fd : Func) (tup : Bool) (ps : Ty) (rs : Rt) (n : Nat) : Prop where
  fn : P.funcs[id]? = some fd
  name : fd.name ≠ "runtime.NumGoroutine"
  body : fd.body.isSome = true
  ids : nodupN (occIds (occsK (bodyOf fd))) = true
  tmps : fd.ntmps = n
  len : ps.plen ≤ n
  ch : (!tup || rs.chain) = true
  one : (!tup || !Nat.beq fd.results.size 1) = true

/-- what is looked at of a function -/
def infoFB (fd : Func) (tup : Bool) (ps : Ty) (rs : Rt) (n : Nat) : Bool :=
  !decide (fd.name = "runtime.NumGoroutine") && (fd.body.isSome && (nodupN (occIds (occsK (bodyOf fd))) && (Nat.beq fd.ntmps n && (Nat.ble ps.plen n && ((!tup || rs.chain) && (!tup || !Nat.beq fd.results.size 1))))))

theorem FnInfo.of {P : Program} {id : Nat} {fd : Func} {tup : Bool} {ps : Ty} {rs : Rt} {n : Nat} (h : P.funcs[id]? = some fd) (hb : infoFB fd tup ps rs n = true) : FnInfo P id fd tup ps rs n := by
  simp only [infoFB, Bool.and_eq_true] at hb
  obtain ⟨h1, h2, h3, h4, h5, h6, h7⟩ := hb
  exact ⟨h, by simpa using h1, h2, h3, Nat.eq_of_beq_eq_true h4, Nat.le_of_ble_eq_true h5, h6, h7⟩

def AllF (Q : Fn → Prop) : List Fn → Prop
  | [] => True
  | c :: l => Q c ∧ AllF Q l
theorem AllF.mem {Q : Fn → Prop} : ∀ {l : List Fn}, AllF Q l → ∀ c ∈ l, Q c
  | c :: l, h, c', hm => by
    rcases List.mem_cons.1 hm with rfl | hm
    · exact h.1
    · exact AllF.mem h.2 c' hm

section
variable {P : Program}

theorem startSlots_sound {S : Side} {w : World} {ob : List Obe} : ∀ {ps : Ty} {a : ps.D} {vs : List Value} {pre : List Value} {z : List (Option VT)} {rest : List Value}, ArgsR S.ok w ps a vs → 
    (∀ t v, getL z t = some v → ∃ u, (pre ++ (vs ++ rest))[t]? = some u ∧ VTV S ob w v u) → ∀ t v, getL (startSlots ps a z pre.length) t = some v → ∃ u, (pre ++ (vs ++ rest))[t]? = some u ∧ VTV S ob w v u
  | .pr s t0, a, u :: us, pre, z, rest, h, hz, t, v, ht => by
    obtain ⟨⟨cs, h1, h2⟩, h3⟩ := h
    have e : pre ++ (u :: us ++ rest) = (pre ++ [u]) ++ (us ++ rest) := by simp
    have el : pre.length + 1 = (pre ++ [u]).length := by simp
    have ht' : getL (startSlots t0 a.2 (z.set pre.length (some (.va s a.1))) (pre ++ [u]).length) t = some v := by rw [← el]; exact ht
    rw [e]
    refine startSlots_sound (pre := pre ++ [u]) h3 (fun t v ht => ?_) t v ht'
    rw [getL_set] at ht
    split at ht
    · rename_i q
      obtain ⟨rfl, _⟩ := q
      cases ht
      refine ⟨u, by simp, cs, h1, ?_⟩
      rw [h2]
      rfl
    · rw [← e]; exact hz t v ht
  | .pr s t0, a, [], pre, z, rest, h, hz, t, v, ht => h.elim
  | .un, a, vs, pre, z, rest, h, hz, t, v, ht => hz t v ht
  | .int _, a, vs, pre, z, rest, h, hz, t, v, ht => by cases vs <;> exact h.elim
  | .bool, a, vs, pre, z, rest, h, hz, t, v, ht => by cases vs <;> exact h.elim
  | .str, a, vs, pre, z, rest, h, hz, t, v, ht => by cases vs <;> exact h.elim
  | .sl _, a, vs, pre, z, rest, h, hz, t, v, ht => by cases vs <;> exact h.elim
  | .op, a, vs, pre, z, rest, h, hz, t, v, ht => by cases vs <;> exact h.elim

theorem startSlots_len : ∀ {ps : Ty} {a : ps.D} {z : List (Option VT)} {n : Nat}, (startSlots ps a z n).length = z.length
  | .pr s t0, a, z, n => by
    show (startSlots t0 a.2 (z.set n (some (.va s a.1))) (n + 1)).length = _
    rw [startSlots_len, List.length_set]
  | .un, _, _, _ | .int _, _, _, _ | .bool, _, _, _ | .str, _, _, _ | .sl _, _, _, _ | .op, _, _, _ => rfl

theorem args_len {ok : Nat → Prop} {w : World} : ∀ {ps : Ty} {a : ps.D} {vs : List Value}, ArgsR ok w ps a vs → vs.length = ps.plen
  | .pr s t0, a, [], h => h.elim
  | .pr s t0, a, u :: us, h => by simp [Ty.plen, args_len h.2]
  | .un, a, vs, h => by have h' : vs = [] := h; subst h'; rfl
  | .int _, a, vs, h => by cases vs <;> exact h.elim
  | .bool, a, vs, h => by cases vs <;> exact h.elim
  | .str, a, vs, h => by cases vs <;> exact h.elim
  | .sl _, a, vs, h => by cases vs <;> exact h.elim
  | .op, a, vs, h => by cases vs <;> exact h.elim

theorem jump_some {R : Type} {y : R} : ∀ {l : List (Cut R)} {id : Nat} {x : X}, jump l id x = some y → ∃ c ∈ l, c.id = id ∧ x.sl.length = c.pat.n ∧ ∃ d, c.pat.get (rdOf x) = some d ∧ c.C d = some y
  | c :: l, id, x, h => by
    have h' : cond (Nat.beq c.id id) (cond (Nat.beq x.sl.length c.pat.n) ((c.pat.get (rdOf x)).bind c.C) none) (jump l id x) = some y := h
    cases hb : Nat.beq c.id id <;> rw [hb] at h'
    · obtain ⟨c', h1, h2⟩ := jump_some (l := l) h'
      exact ⟨c', by simp [h1], h2⟩
    · obtain ⟨h1, h2⟩ := cond_opt h'
      obtain ⟨d, h3, h4⟩ := Option.bind_eq_some_iff.1 h2
      exact ⟨c, by simp, Nat.eq_of_beq_eq_true hb, Nat.eq_of_beq_eq_true h1, d, h3, h4⟩

def AllC {R : Type} (Q : Cut R → Prop) : List (Cut R) → Prop
  | [] => True
  | c :: l => Q c ∧ AllC Q l
theorem AllC.mem {R : Type} {Q : Cut R → Prop} : ∀ {l : List (Cut R)}, AllC Q l → ∀ c ∈ l, Q c
  | c :: l, h, c', hm => by
    rcases List.mem_cons.1 hm with rfl | hm
    · exact h.1
    · exact AllC.mem h.2 c' hm

/-- all ways from the start and from the cuts come to the end -/
theorem cuts_sound (hm : P.follows .mixedOrders = true) {fd : Func} (hids : nodupN (occIds (occsK (bodyOf fd))) = true) {tup : Bool} {rs : Rt} {T : Tab} {al : List (Nat × List Nat)} {Γ : Nat → List Fn} {cuts : Nat → List (Cut rs.D)} (hE : ∀ k, EnvOk P ⟨T, Γ k, al⟩)
    (h0 : AllC (fun c => ∀ d, c.C d = none) (cuts 0)) (hs : ∀ k, AllC (fun c => ∀ d, c.C d = runF ⟨T, Γ k, al⟩ fd tup rs (cuts k) (todoAt c.id (bodyOf fd)) true (c.pat.mk' d)) (cuts (k + 1))) {C : Ctx} {b : Frame} {cs : List Frame} {y : rs.D} :
    ∀ k id x S a w z, jump (cuts k) id x = some y → (id, z) ∈ occsK (bodyOf fd) → Inv C S x a w → Finds P b cs (finish T fd tup rs) y C a w z := by
  intro k
  induction k with
  | zero =>
    intro id x S a w z hj hz I
    obtain ⟨c, hc, _, _, d, _, h⟩ := jump_some hj
    rw [h0.mem c hc d] at h
    cases h
  | succ k ih =>
    intro id x S a w z hj hz I
    obtain ⟨c, hc, hid, hlen, d, hget, h⟩ := jump_some hj
    rw [(hs k).mem c hc d] at h
    obtain ⟨S', I'⟩ := jump_sound hget hlen I
    have htodo : todoAt c.id (bodyOf fd) = some z := by rw [hid]; exact occFind_of (nodupN_iff.1 hids) hz
    rw [htodo] at h
    have hsub : ∀ q ∈ occsK z, q ∈ occsK (bodyOf fd) := occsK_sub hz
    exact exec_sound (hE k) hm (all := occsK (bodyOf fd)) (J := jump (cuts k)) ih 4000 true z hsub I' h

theorem fn_sound (hm : P.follows .mixedOrders = true) {id : Nat} {fd : Func} {tup : Bool} {ps : Ty} {rs : Rt} {n m : Nat} (hi : FnInfo P id fd tup ps rs n) {T : Tab} {al : List (Nat × List Nat)} {Γ : Nat → List Fn} {cuts : Nat → List (Cut rs.D)} (hE : ∀ k, EnvOk P ⟨T, Γ k, al⟩)
    (h0 : AllC (fun c => ∀ d, c.C d = none) (cuts 0)) (hs : ∀ k, AllC (fun c => ∀ d, c.C d = runF ⟨T, Γ k, al⟩ fd tup rs (cuts k) (todoAt c.id (bodyOf fd)) true (c.pat.mk' d)) (cuts (k + 1)))
    {F : Nat → ps.D → Option rs.D} (hF : ∀ k d, F k d = runF ⟨T, Γ k, al⟩ fd tup rs (cuts k) (some (bodyOf fd)) false (start ps n m d)) (k : Nat) : FnOk P ⟨id, ps, tup, rs, F k⟩ := by
  intro ok w a vs y hok hargs hFa
  obtain ⟨hf, hname, hb, hids, htm, hlen, hch, hone⟩ := hi
  obtain ⟨c, hb⟩ := Option.isSome_iff_exists.1 hb
  refine ⟨⟨fd, c, hf, hname, hb⟩, fun cs => ?_⟩
  have hbody : bodyOf fd = [.code c] := by simp [bodyOf, hb]
  let b : Frame := { (default : Frame) with fn := id, kind := .normal }
  let a0 : Act := { tmps := vs.toArray ++ Array.replicate (fd.ntmps - vs.toArray.size) undef, defers := [] }
  have henter : Frame.enter P id vs.toArray .normal = b.at a0 [.code c] := by
    simp [Frame.enter, Frame.at, hf, hb, b, a0]
  let S : Side := ⟨ok, fun _ => (none, 0), fun _ => []⟩
  have hx : F k a = runF ⟨T, Γ k, al⟩ fd tup rs (cuts k) (some (bodyOf fd)) false (start ps n m a) := hF k a
  have hvl : vs.length = ps.plen := args_len hargs
  have no : ∀ o c', (getO (start ps n m a).ob o).c = some c' → False := fun o c' h => by
    have : (getO (List.replicate m (⟨0, 0, none⟩ : Obe)) o).c = some c' := h
    rw [getO_rep] at this
    cases this
  have I : Inv ⟨w, fun _ => False⟩ S (start ps n m a) a0 w := by
    refine ⟨rfl, ?_, ?_, fun o c' h => (no o c' h).elim, fun o o' c' c'' _ h => (no o c' h).elim, hok, ⟨rfl, rfl, rfl, Nat.le_refl _, fun _ _ _ => rfl⟩⟩
    · show a0.tmps.size = (startSlots ps a (List.replicate n none) 0).length
      rw [startSlots_len]
      simp [a0]
      omega
    · intro t v ht
      have := startSlots_sound (S := S) (ob := (start ps n m a).ob) (w := w) (pre := []) (z := List.replicate n none) (rest := List.replicate (fd.ntmps - vs.length) undef) hargs (fun t v ht => by rw [getL_rep] at ht; cases ht) t v ht
      obtain ⟨u, hu, hv⟩ := this
      refine ⟨u, ?_, hv⟩
      have e : a0.tmps.toList = vs ++ List.replicate (fd.ntmps - vs.length) undef := by simp [a0]
      rw [← Array.getElem?_toList, e]
      simpa using hu
  have hFa' : F k a = some y := hFa
  rw [hx] at hFa'
  have hfinds : Finds P b cs (finish T fd tup rs) y ⟨w, fun _ => False⟩ a0 w (bodyOf fd) :=
    exec_sound (hE k) hm (all := occsK (bodyOf fd)) (J := jump (cuts k)) (cuts_sound hm hids hE h0 hs k) 4000 false (bodyOf fd) (fun q hq => hq) I hFa'
  obtain ⟨a', w', todo, S', x', hst, I', hfin⟩ := hfinds
  have hch' : tup = true → rs.chain = true := fun e => by subst e; simpa using hch
  have hone' : tup = true → fd.results.size ≠ 1 := fun e h1 => by
    subst e
    rw [h1] at hone
    cases hone
  obtain ⟨v, l, r1, r2, r3, r4⟩ := finish_sound I' (hE k).tab hch' hone' hfin
  rw [hbody, ← henter] at hst
  refine ⟨.returned v, w', _, ⟨⟨I'.kept.os, I'.kept.tape, I'.kept.output, I'.kept.size, fun b hb => I'.kept.block b hb (fun h => h)⟩, l.flatMap S'.fp, r2, fps_nodup I' r3 r4, fun b hb => ?_⟩, hst, rfl, rfl, I'.dfr, rfl, fd, hf, r1⟩
  obtain ⟨o, ho, hb⟩ := List.mem_flatMap.1 hb
  obtain ⟨_, c', hc'⟩ := r3 o ho
  obtain ⟨q1, q2, q3⟩ := (I'.objs o c' hc').2.2 b hb
  rcases q3 with q3 | q3
  · exact ⟨q3, q2⟩
  · exact q3.elim
end
end Go.Vm
