/- The value machine, part 9 of 9. -/
import Derived.Test.YtjddmekfeckphaaGreatVm6
import Derived.RangeFuncFrom
import Derived.RangeFuncLeaves
import Derived.OrdersIn
set_option linter.unusedVariables false
set_option linter.unusedSimpArgs false
set_option linter.unnecessarySimpa false
set_option linter.unusedVariables false
set_option linter.unusedSimpArgs false
namespace Go.Vm
open Go Go.RowKit
def wideR (ro : Option Nat) : Fence := { Fence.wide with round := ro }
theorem wideR_in (ro : Option Nat) (l : Nat) : (wideR ro).inRound l = wideR (some l) := rfl
theorem wideR_none : wideR none = Fence.wide := rfl
section
variable {P : Program} {ro : Option Nat}
theorem callsInR {n : Nat} {f : FuncId} {args : Array Value} {w : World} {R : Ending → World → Prop} (h : Calls P f args w R) : CallsIn (wideR ro) n P f args w R :=
  (callsIn_wide (n := n)).2 h
theorem rowsInR {n : Nat} {row : String} {args : Array Value} {w : World} {R : Value → World → Prop} (h : Go.Rows P row args w R) : RowsIn (wideR ro) n P row args w R :=
  fun c cs _ => let ⟨v, w', r, s⟩ := h c cs; ⟨v, w', r, stepsIn_wide.2 s⟩
def Oper.calm (o : Oper) : Bool := match o.op with
  | .defer _ => false
  | _ => true
theorem Oper.calm_ne {o : Oper} (h : Oper.calm o = true) : ∀ c, o.op ≠ .defer c := by
  intro c e
  unfold Oper.calm at h
  rw [e] at h
  cases h
def Act.wd (a : Act) (ds : List Deferred) : Act := { a with defers := a.defers ++ ds }
theorem Act.wd_put (a : Act) (ds : List Deferred) (d : Option Tmp) (v : Value) : (Act.wd a ds).put d v = Act.wd (a.put d v) ds := by cases d <;> rfl
theorem Act.wd_eval (a : Act) (ds : List Deferred) : (Act.wd a ds).eval = a.eval := by
  funext x
  cases x <;> rfl
def QD (ds : List Deferred) (Q : Exit → Act → World → Prop) (e : Exit) (a : Act) (w : World) : Prop := ∃ a0, a = Act.wd a0 ds ∧ Q e a0 w
theorem upon_in {n : Nat} {o : Oper} {ds : List Deferred} {a : Act} {K K' : Act → World → Prop} {Q : Exit → Act → World → Prop} (hL : ¬ LetsOut Q) (hK : ∀ a w, K a w → K' (Act.wd a ds) w) {r : Result Next}
    (h : o.upon P a K Q r) : o.uponIn (wideR ro) n P (Act.wd a ds) K' (QD ds Q) r := by
  have hp : ∀ v w', K (a.put o.dst v) w' → K' ((Act.wd a ds).put o.dst v) w' := fun v w' hk => by
    rw [Act.wd_put]; exact hK _ _ hk
  cases r with
  | ok x w' =>
    cases x with
    | value v => exact hp _ _ h
    | skip => exact hp _ _ h
    | defer d =>
      have := hK _ _ h
      rw [← Act.wd_put] at this
      exact this
    | enter f args =>
      have hh : Calls P f args w' _ := h
      refine ⟨fun h => (by cases h), callsInR (Calls.mono hh (fun e w'' he => ?_))⟩
      cases e with
      | returned v => exact hp _ _ he
      | panicked c => exact ⟨a, rfl, he⟩
      | outgrown => exact absurd he hL
    | row row args =>
      have hh : Go.Rows P row args w' _ := h
      exact ⟨fun h => (by cases h), rowsInR (Go.Rows.mono hh (fun v w'' he => hp _ _ he))⟩
    | _ => exact h.elim
  | halt x w' =>
    cases x with
    | panic v => exact ⟨a, rfl, h⟩
    | _ => exact h.elim
theorem wpOp_in {n : Nat} {ops : Array Oper} (hc : ∀ (i : Nat) (o : Oper), ops[i]? = some o → Oper.calm o = true) {ds : List Deferred} {a : Act} {w : World} {K K' : Act → World → Prop} {Q : Exit → Act → World → Prop} (hL : ¬ LetsOut Q) (hK : ∀ a w, K a w → K' (Act.wd a ds) w) {i : Nat}
    (h : wpOp P ops Q i K a w) : wpOpIn (wideR ro) n P ops (QD ds Q) i K' (Act.wd a ds) w := by
  unfold wpOp at h
  unfold wpOpIn
  cases ho : ops[i]? with
  | none => rw [ho] at h; exact hK _ _ h
  | some o =>
    rw [ho] at h
    simp only at h ⊢
    have hy : yielded ops (Act.wd a ds).tmps = yielded ops a.tmps := rfl
    rw [hy]
    split at h
    · rename_i hw
      rw [if_pos hw]
      refine ⟨fun _ _ => trivial, ?_⟩
      rw [Oper.semAt_eq _ _ _ (Oper.calm_ne (hc i o ho)), Act.wd_eval]
      rcases h with h | h
      · exact upon_in hL hK h
      · exact absurd h.2 hL
    · rename_i hw
      rw [if_neg hw]
      exact ⟨fun _ _ => trivial, (Act.wd_put a ds o.dst undef) ▸ hK _ _ h⟩
theorem wpOps_in {n : Nat} {ops : Array Oper} (hc : ∀ (i : Nat) (o : Oper), ops[i]? = some o → Oper.calm o = true) {ds : List Deferred} {Q : Exit → Act → World → Prop} (hL : ¬ LetsOut Q) : ∀ (l : List Nat) (a : Act) (w : World),
    wpOps P ops Q l a w → wpOpsIn (wideR ro) n P ops (QD ds Q) l (Act.wd a ds) w
  | [], a, w, h => ⟨a, rfl, h⟩
  | i :: l, a, w, h => by
    rw [wpOps_cons] at h
    rw [wpOpsIn_cons]
    exact wpOp_in hc hL (wpOps_in hc hL l) h
theorem wpAny_in {n : Nat} {ops : Array Oper} (hc : ∀ (i : Nat) (o : Oper), ops[i]? = some o → Oper.calm o = true) {ds : List Deferred} {Q : Exit → Act → World → Prop} (hL : ¬ LetsOut Q) {md : Region.Mode} : ∀ (fuel : Nat) (listed : Array Bool) (a : Act) (w : World),
    wpAny P md ops Q fuel listed a w → wpAnyIn (wideR ro) n P md ops (QD ds Q) fuel listed (Act.wd a ds) w
  | 0, listed, a, w, h => ⟨h.1, a, rfl, h.2⟩
  | fuel + 1, listed, a, w, h => ⟨fun hr => ⟨a, rfl, h.1 hr⟩, fun i hi => wpOp_in hc hL (wpAny_in hc hL fuel _) (h.2 i hi)⟩
theorem regionX {R : Type} {E : Env} (hE : EnvOk P E) (hm : P.follows .mixedOrders = true) {ops : Array Oper} {draw : Bool} {K : X → Option R} {y : R} {C : Ctx} {S : Side} {x : X} {a : Act} {w : World} {id : Nat} {ds : List Deferred} {n : Nat}
    (hc : ∀ (i : Nat) (o : Oper), ops[i]? = some o → Oper.calm o = true) (I : Inv C S x a w)
    (h : regRun E ops draw x K = some y) : (Code.region id ops draw).wpIn (wideR ro) n P (QD ds (fun e a w => e = .normal ∧ ∃ S x', Inv C S x' a w ∧ K x' = some y)) (Act.wd a ds) w := by
  have hL : ¬ LetsOut (fun e a w => e = Exit.normal ∧ ∃ S x', Inv C S x' a w ∧ K x' = some y) := by
    rintro ⟨_, _, h, _⟩
    cases h
  cases draw
  · refine wpIn_region (wpOps_in hc hL _ _ _ ?_)
    have := wpOps_of hE ops.toList 0 (fun k o hk => by simpa using hk) I h
    rwa [Array.length_toList, ← List.range_eq_range'] at this
  · obtain ⟨es, hch, hk⟩ := opsRunD_rel h
    cases hok : commOk ops ((trOf E ops ops.toList es 0 x).reverse ++ []) <;> rw [hok] at hk
    · cases hk
    · refine wpIn_region_any hm (wpAny_in hc hL _ _ _ _ (wpAny_of hE hch (fun a ha => by simpa using ha) hok hk ops.size _ (S := S) (by simp) ?_ ?_ ?_))
      · have : ∀ n, cnt (fun i => (Array.replicate ops.size false).getD i false) n = n := by
          intro n
          induction n with
          | zero => rfl
          | succ n ih =>
            simp only [cnt, ih]
            have : (Array.replicate ops.size false).getD n false = false := rep_false _ _
            rw [this]
            rfl
        rw [this]
        exact Nat.le_refl _
      · intro i o _ hD
        have := rep_false ops.size i
        exact absurd (hD.symm.trans this) (by simp)
      · rw [appD_none fun k _ => rep_false _ _]
        exact I.same rfl rfl ⟨rfl, Nat.le_succ _⟩ rfl
def calmC : Code → Bool
  | .region _ ops _ => ops.toList.all Oper.calm
  | .seq a b => calmC a && calmC b
  | .cond _ a b => calmC a && calmC b
  | .block _ c => calmC c
  | .loop c => calmC c
  | .skip => true
  | .exit _ => true
  | _ => false
def calmK : List Item → Bool
  | [] => true
  | .code c :: k => calmC c && calmK k
  | .inLoop c :: k => calmC c && calmK k
  | .inBlock _ :: k => calmK k
  | _ :: _ => false
theorem calm_exit {id : Nat} : ∀ {k k' : List Item}, exitTo id k = some k' → calmK k = true → calmK k' = true
  | [], k', h, _ => by simp [exitTo] at h
  | x :: k, k', h, hc => by
    cases x with
    | inBlock id' =>
      simp only [exitTo] at h
      split at h
      · cases h; exact hc
      · exact calm_exit h hc
    | code c => exact calm_exit (k := k) (by simpa [exitTo] using h) (by simp [calmK] at hc; exact hc.2)
    | inLoop c => exact calm_exit (k := k) (by simpa [exitTo] using h) (by simp [calmK] at hc; exact hc.2)
    | _ => simp [calmK] at hc
theorem exit_app {id : Nat} {z : List Item} : ∀ {k k' : List Item}, exitTo id k = some k' → exitTo id (k ++ z) = some (k' ++ z)
  | [], k', h => by simp [exitTo] at h
  | x :: k, k', h => by
    cases x with
    | inBlock id' =>
      simp only [exitTo, List.cons_append] at h ⊢
      split at h
      · rename_i hb; rw [if_pos hb]; cases h; rfl
      · rename_i hb; rw [if_neg hb]; exact exit_app h
    | _ => simp only [exitTo, List.cons_append] at h ⊢; exact exit_app h
theorem occs_calm : ∀ {c : Code} {k : List Item} {id : Nat} {z : List Item}, (id, z) ∈ occs c k → calmC c = true → calmK k = true → calmK z = true
  | .region i ops d, k, id, z, h, h1, h2 => by
    simp only [occs, List.mem_singleton] at h
    cases h
    simp [calmK, h1, h2]
  | .seq a b, k, id, z, h, h1, h2 => by
    simp only [occs, List.mem_append] at h
    simp only [calmC, Bool.and_eq_true] at h1
    rcases h with h | h
    · exact occs_calm h h1.1 (by simp [calmK, h1.2, h2])
    · exact occs_calm h h1.2 h2
  | .cond _ a b, k, id, z, h, h1, h2 => by
    simp only [occs, List.mem_append] at h
    simp only [calmC, Bool.and_eq_true] at h1
    rcases h with h | h
    · exact occs_calm h h1.1 h2
    · exact occs_calm h h1.2 h2
  | .block i c, k, id, z, h, h1, h2 => by
    simp only [occs] at h
    exact occs_calm h h1 h2
  | .loop c, k, id, z, h, h1, h2 => by
    simp only [occs] at h
    exact occs_calm h h1 (by simp only [calmK, h2, Bool.and_true]; exact h1)
  | .skip, _, _, _, h, _, _ => by simp [occs] at h
  | .rangeFunc _ _ _ _, _, _, _, h, _, _ => by simp [occs] at h
  | .exit _, _, _, _, h, _, _ => by simp [occs] at h
  | .scope _, _, _, _, h, _, _ => by simp [occs] at h
  | .label _, _, _, _, h, _, _ => by simp [occs] at h
  | .goto _, _, _, _, h, _, _ => by simp [occs] at h
  | .ret, _, _, _, h, _, _ => by simp [occs] at h
  | .refuse _, _, _, _, h, _, _ => by simp [occs] at h
theorem occsK_calm : ∀ {k : List Item} {id : Nat} {z : List Item}, (id, z) ∈ occsK k → calmK k = true → calmK z = true
  | [], _, _, h, _ => by simp [occsK] at h
  | x :: k, id, z, h, hc => by
    cases x with
    | code c =>
      simp only [calmK, Bool.and_eq_true] at hc
      simp only [occsK, List.mem_append] at h
      rcases h with h | h
      · exact occs_calm h hc.1 hc.2
      · exact occsK_calm h hc.2
    | inLoop c =>
      simp only [calmK, Bool.and_eq_true] at hc
      simp only [occsK, List.mem_append] at h
      rcases h with h | h
      · exact occs_calm h hc.1 (by simp only [calmK, hc.1, hc.2]; rfl)
      · exact occsK_calm h hc.2
    | inBlock id' => exact occsK_calm (k := k) (by simpa [occsK] using h) hc
    | _ => simp [calmK] at hc
def FindsX {R : Type} (P : Program) (b : Frame) (cs : List Frame) (z : List Item) (ds : List Deferred) (fin : X → Option R) (y : R) (C : Ctx) (a : Act) (w : World) (k : List Item) : Prop :=
  ∃ a' w' S' x', Steps P (lone (b.atR (Act.wd a ds) (k ++ z)) cs w) (lone (b.atR (Act.wd a' ds) z) cs w') ∧ Inv C S' x' a' w' ∧ fin x' = some y
theorem FindsX.step {R : Type} {b : Frame} {cs : List Frame} {z : List Item} {ds : List Deferred} {fin : X → Option R} {y : R} {C : Ctx} {a a' : Act} {w w' : World} {k k' : List Item} (h : Steps P (lone (b.atR (Act.wd a ds) (k ++ z)) cs w) (lone (b.atR (Act.wd a' ds) (k' ++ z)) cs w'))
    (h' : FindsX P b cs z ds fin y C a' w' k') : FindsX P b cs z ds fin y C a w k := by
  obtain ⟨a2, w2, S', x', h1, h2, h3⟩ := h'
  exact ⟨a2, w2, S', x', h.trans h1, h2, h3⟩
theorem exec_soundX {R : Type} {E : Env} (hE : EnvOk P E) (hm : P.follows .mixedOrders = true) {all : List (Nat × List Item)} {cuts : List Nat} {J : Nat → X → Option R} {fin : X → Option R} {y : R} {C : Ctx} {b : Frame} {cs : List Frame} {zz : List Item} {ds : List Deferred}
    (hb : b.roundOf = ro)
    (hJ : ∀ id x S a w z, J id x = some y → (id, z) ∈ all → Inv C S x a w → FindsX P b cs zz ds fin y C a w z) :
    ∀ (n : Nat) (s : Bool) (k : List Item) {x : X} {S : Side} {a : Act} {w : World}, (∀ q ∈ occsK k, q ∈ all) → calmK k = true → Inv C S x a w → exec E cuts J fin n s k x = some y → FindsX P b cs zz ds fin y C a w k := by
  intro n
  induction n with
  | zero => intro s k x S a w _ _ _ h; cases k <;> simp [exec] at h
  | succ n ih =>
    intro s k x S a w hk hcalm I h
    cases k with
    | nil =>
      simp only [exec] at h
      exact ⟨a, w, S, x, .refl _ _, I, h⟩
    | cons z k =>
      cases z with
      | inBlock id =>
        simp only [exec] at h
        exact .step (.one stepR_inBlock) (ih _ _ (fun q hq => hk q (by simpa [occsK] using hq)) hcalm I h)
      | inLoop c =>
        simp only [exec] at h
        simp only [calmK, Bool.and_eq_true] at hcalm
        refine .step (k' := .code c :: .inLoop c :: k) (.one stepR_inLoop) (ih _ _ (fun q hq => hk q ?_) (by simp [calmK, hcalm.1, hcalm.2]) I h)
        simp only [occsK, List.mem_append] at hq ⊢
        rcases hq with hq | hq | hq
        · exact .inl hq
        · exact .inl hq
        · exact .inr hq
      | code c =>
        simp only [calmK, Bool.and_eq_true] at hcalm
        cases c with
        | skip =>
          simp only [exec] at h
          exact .step (.one stepR_skip) (ih _ _ (fun q hq => hk q (by simpa [occsK, occs] using hq)) hcalm.2 I h)
        | seq c d =>
          simp only [exec] at h
          have hcc := hcalm.1
          simp only [calmC, Bool.and_eq_true] at hcc
          refine .step (k' := .code c :: .code d :: k) (.one stepR_seq) (ih _ _ (fun q hq => hk q ?_) (by simp [calmK, hcc.1, hcc.2, hcalm.2]) I h)
          simp only [occsK, occs, List.mem_append] at hq ⊢
          rcases hq with hq | hq | hq
          · exact .inl (.inl hq)
          · exact .inl (.inr hq)
          · exact .inr hq
        | region id ops draw =>
          simp only [exec] at h
          cases hc : (memN cuts id && !s) <;> rw [hc] at h
          · simp only [cond_false] at h
            have hops : ∀ (i : Nat) (o : Oper), ops[i]? = some o → Oper.calm o = true := by
              intro i o ho
              have h1 : ops.toList.all Oper.calm = true := hcalm.1
              exact List.all_eq_true.1 h1 o (List.mem_of_getElem? (i := i) (by simpa using ho))
            obtain ⟨e, a1, w1, ⟨a0, rfl, rfl, S1, x1, I1, h1⟩, harr⟩ := regionX (ro := ro) (id := id) (ds := ds) (n := 0) hE hm hops I h b (k ++ zz) cs hb trivial (room_wide _)
            exact .step (k' := k) (stepsIn_wide.1 harr) (ih _ _ (fun q hq => hk q (by simp [occsK, hq])) hcalm.2 I1 h1)
          · simp only [cond_true] at h
            exact hJ id x S a w _ h (hk _ (by simp [occsK, occs])) I
        | cond c t e =>
          simp only [exec] at h
          have hcc := hcalm.1
          simp only [calmC, Bool.and_eq_true] at hcc
          split at h
          · rename_i v hv
            have hbv := VTV_bool (I.eval hv)
            have stp : Steps P (lone (b.atR (Act.wd a ds) ((.code (.cond c t e) :: k) ++ zz)) cs w) (lone (b.atR (Act.wd a ds) ((.code (if v then t else e) :: k) ++ zz)) cs w) := .one (stepR_cond (by rw [Act.wd_eval]; exact hbv))
            have ht : ∀ q ∈ occsK (.code t :: k), q ∈ all := fun q hq => hk q (by
              simp only [occsK, occs, List.mem_append] at hq ⊢
              rcases hq with hq | hq
              · exact .inl (.inl hq)
              · exact .inr hq)
            have he : ∀ q ∈ occsK (.code e :: k), q ∈ all := fun q hq => hk q (by
              simp only [occsK, occs, List.mem_append] at hq ⊢
              rcases hq with hq | hq
              · exact .inl (.inr hq)
              · exact .inr hq)
            have ct : calmK (.code t :: k) = true := by simp [calmK, hcc.1, hcalm.2]
            have ce : calmK (.code e :: k) = true := by simp [calmK, hcc.2, hcalm.2]
            cases c with
            | tmp r =>
              simp only at h
              have hl : ∀ v', v = v' → x.lit r v' = x := fun v' e' => by subst e'; exact lit_same hv
              cases v
              · simp only [cond_false] at h
                rw [hl _ rfl] at h
                exact .step stp (ih _ _ he ce I h)
              · simp only [cond_true] at h
                rw [hl _ rfl] at h
                exact .step stp (ih _ _ ht ct I h)
            | const u =>
              simp only at h
              cases v
              · exact .step stp (ih _ _ he ce I h)
              · exact .step stp (ih _ _ ht ct I h)
            | global g => simp [rdOf] at hv
            | func f => simp only [rdOf] at hv; cases hq : Nat.blt f boN <;> rw [hq] at hv <;> cases hv
          · rename_i f u hv
            cases c with
            | tmp r =>
              simp only at h
              obtain ⟨hf, h⟩ := cond_opt h
              obtain ⟨h1, h2⟩ := both_some h
              obtain ⟨bb, hbb⟩ := I.evalB hv hf
              have stp : Steps P (lone (b.atR (Act.wd a ds) ((.code (.cond (.tmp r) t e) :: k) ++ zz)) cs w) (lone (b.atR (Act.wd a ds) ((.code (if bb then t else e) :: k) ++ zz)) cs w) := .one (stepR_cond (by rw [Act.wd_eval]; exact hbb))
              have ht : ∀ q ∈ occsK (.code t :: k), q ∈ all := fun q hq => hk q (by
                simp only [occsK, occs, List.mem_append] at hq ⊢
                rcases hq with hq | hq
                · exact .inl (.inl hq)
                · exact .inr hq)
              have he : ∀ q ∈ occsK (.code e :: k), q ∈ all := fun q hq => hk q (by
                simp only [occsK, occs, List.mem_append] at hq ⊢
                rcases hq with hq | hq
                · exact .inl (.inr hq)
                · exact .inr hq)
              have ct : calmK (.code t :: k) = true := by simp [calmK, hcc.1, hcalm.2]
              have ce : calmK (.code e :: k) = true := by simp [calmK, hcc.2, hcalm.2]
              have I' := I.litB hv hbb
              cases bb
              · exact .step stp (ih _ _ he ce I' h2)
              · exact .step stp (ih _ _ ht ct I' h1)
            | _ => cases h
          · cases h
        | block id c =>
          simp only [exec] at h
          exact .step (k' := .code c :: .inBlock id :: k) (.one stepR_block) (ih _ _ (fun q hq => hk q (by simpa [occsK, occs] using hq)) (by simpa [calmK, calmC] using hcalm) I h)
        | loop c =>
          simp only [exec] at h
          have hcc : calmC c = true := hcalm.1
          refine .step (k' := .code c :: .inLoop c :: k) (.one stepR_loop) (ih _ _ (fun q hq => hk q ?_) (by simp [calmK, hcc, hcalm.2]) I h)
          simp only [occsK, occs, List.mem_append] at hq ⊢
          rcases hq with hq | hq | hq
          · exact .inl hq
          · exact .inl hq
          · exact .inr hq
        | exit id =>
          simp only [exec] at h
          split at h
          · rename_i k' hk'
            refine .step (k' := k') (.one (stepR_exit (exit_app hk'))) (ih _ _ (fun q hq => hk q ?_) (calm_exit hk' hcalm.2) I h)
            have := occsK_exit hk' q hq
            simp [occsK, occs, this]
          · cases h
        | _ => simp [calmC] at hcalm
      | _ => simp [exec] at h
theorem cuts_soundX (hm : P.follows .mixedOrders = true) {k0 : List Item} (hids : nodupN (occIds (occsK k0)) = true) (hcalm : calmK k0 = true) {R : Type} {fin : X → Option R} {fx : List Nat} {E : Nat → Env} {cuts : Nat → List (Cut R)} {K : Nat} (hE : ∀ k, k ≤ K → EnvOk P (E k))
    (h0 : AllC (fun c => ∀ d, c.C d = none) (cuts 0)) (hs : ∀ k, AllC (fun c => ∀ d, c.C d = runX (E k) fx fin (cuts k) (occFind c.id (occsK k0)) true (c.pat.mk' d)) (cuts (k + 1))) {C : Ctx} (hfx : ∀ o, C.fx o → o ∈ fx) {b : Frame} {cs : List Frame} {zz : List Item} {ds : List Deferred} {y : R}
    (hb : b.roundOf = ro) :
    ∀ k, k ≤ K → ∀ id x S a w z, jump fx (cuts k) id x = some y → (id, z) ∈ occsK k0 → Inv C S x a w → FindsX P b cs zz ds fin y C a w z := by
  intro k
  induction k with
  | zero =>
    intro _ id x S a w z hj hz I
    obtain ⟨c, hc, _, _, d, _, _, h⟩ := jump_some hj
    rw [h0.mem c hc d] at h
    cases h
  | succ k ih =>
    intro hk id x S a w z hj hz I
    obtain ⟨c, hc, hid, hlen, d, M, hget, h⟩ := jump_some hj
    rw [(hs k).mem c hc d] at h
    obtain ⟨S', I'⟩ := jump_sound hget hlen I hfx
    have htodo : occFind c.id (occsK k0) = some z := by rw [hid]; exact occFind_of (nodupN_iff.1 hids) hz
    rw [htodo] at h
    have hsub : ∀ q ∈ occsK z, q ∈ occsK k0 := occsK_sub hz
    exact exec_soundX (hE k (by omega)) hm (all := occsK k0) (J := jump fx (cuts k)) hb (ih (by omega)) 4000 true z hsub (occsK_calm hz hcalm) I' h
theorem items_sound (hm : P.follows .mixedOrders = true) {k0 : List Item} (hids : nodupN (occIds (occsK k0)) = true) (hcalm : calmK k0 = true) {R : Type} {fin : X → Option R} {fx : List Nat} {E : Nat → Env} {cuts : Nat → List (Cut R)} {K : Nat} (hE : ∀ k, k ≤ K → EnvOk P (E k))
    (h0 : AllC (fun c => ∀ d, c.C d = none) (cuts 0)) (hs : ∀ k, AllC (fun c => ∀ d, c.C d = runX (E k) fx fin (cuts k) (occFind c.id (occsK k0)) true (c.pat.mk' d)) (cuts (k + 1))) {C : Ctx} (hfx : ∀ o, C.fx o → o ∈ fx) {b : Frame} {cs : List Frame} {zz : List Item} {ds : List Deferred} {y : R}
    (hb : b.roundOf = ro) {x : X} {S : Side} {a : Act} {w : World} (I : Inv C S x a w) (h : runX (E K) fx fin (cuts K) (some k0) false x = some y) : FindsX P b cs zz ds fin y C a w k0 :=
  exec_soundX (hE K (Nat.le_refl _)) hm (all := occsK k0) (J := jump fx (cuts K)) hb (cuts_soundX hm hids hcalm hE h0 hs hfx hb K (Nat.le_refl _)) 4000 false k0 (fun q hq => hq) hcalm I h
end
end Go.Vm
set_option linter.unusedVariables false
set_option linter.unusedSimpArgs false
namespace Go.Vm
open Go Go.RowKit
def reC (S : Side) (x : X) (w : World) (fx : List Nat) : Ctx := ⟨w, fun b => ∃ o c, (getO x.ob o).c = some c ∧ c.isRv = false ∧ b ∈ S.fp o, fun o => o ∈ fx, S.hd, fun o => (getO x.ob o).c.bind Ob.shape, S.ok⟩
theorem Inv.re {C : Ctx} {S : Side} {x : X} {a : Act} {w : World} (I : Inv C S x a w) (fx : List Nat) : Inv (reC S x w fx) S x a w := by
  refine ⟨I.dfr, I.size, I.slots, fun o c hc => ?_, I.sep, fun b hb => ⟨I.okb b hb, .inl hb⟩, ⟨rfl, Ahead.refl _, rfl, Nat.le_refl _, fun _ _ _ => rfl⟩, fun o c _ _ hc => ⟨rfl, ?_⟩⟩
  · obtain ⟨k1, k2, k3⟩ := I.objs o c hc
    refine ⟨k1, k2, fun b hb => ⟨(k3 b hb).1, (k3 b hb).2.1, ?_⟩⟩
    cases hrv : c.isRv
    · exact .inr (.inl ⟨o, c, hc, hrv, hb⟩)
    · exact .inr (.inr rfl)
  · show c.shape = (getO x.ob o).c.bind Ob.shape
    rw [hc]; rfl
theorem Inv.don {C : Ctx} {S : Side} {x : X} {a : Act} {w : World} (I : Inv C S x a w) {fx : List Nat} : ∀ b, (reC S x w fx).don b → C.w0.heap.size ≤ b ∨ C.don b := by
  rintro b ⟨o, c, h1, h2, h3⟩
  rcases ((I.objs o c h1).2.2 b h3).2.2 with h | h | h
  · exact .inl h
  · exact .inr h
  · rw [h2] at h; cases h
theorem Inv.back {C : Ctx} {S S' : Side} {x x' : X} {a a' : Act} {w w' : World} {fx : List Nat} (I : Inv C S x a w) (hfx : ∀ o, ¬ C.fx o) (I' : Inv (reC S x w fx) S' x' a' w') : Inv C S' x' a' w' := by
  have hs := I.kept.size
  refine ⟨I'.dfr, I'.size, I'.slots, fun o c hc => ?_, I'.sep, fun b hb => ⟨I'.okb b hb, ?_⟩, ⟨I'.kept.os.trans I.kept.os, I'.kept.tape.trans I.kept.tape, I'.kept.output.trans I.kept.output, Nat.le_trans hs I'.kept.size, fun k hk hd => ?_⟩, fun o c h => absurd h (hfx o)⟩
  · obtain ⟨k1, k2, k3⟩ := I'.objs o c hc
    refine ⟨k1, k2, fun b hb => ⟨(k3 b hb).1, (k3 b hb).2.1, ?_⟩⟩
    rcases (k3 b hb).2.2 with h | h | h
    · exact .inl (Nat.le_trans hs h)
    · exact (I.don b h).imp_right .inl
    · exact .inr (.inr h)
  · rcases (I'.okn b hb).2 with h | h | h
    · exact (I.okn b h).2
    · exact .inr (.inl (Nat.le_trans hs h))
    · exact .inr (I.don b h)
  · have hk' : k < w.heap.size := Nat.lt_of_lt_of_le hk hs
    have h1 := I'.kept.block k hk' (fun h => (I.don k h).elim (fun h => by omega) hd)
    exact h1.trans (I.kept.block k hk hd)
theorem Inv.beside {C : Ctx} {S : Side} {x : X} {a : Act} {w w' : World} (I : Inv C S x a w) (h1 : w'.os = w.os) (h2 : Ahead w w') (h3 : w'.output = w.output) (hsz : w.heap.size ≤ w'.heap.size)
    (hb : ∀ b, b < w.heap.size → w'.heap[b]? = w.heap[b]? ∨ (C.w0.heap.size ≤ b ∧ ¬ S.ok b ∧ ∀ o c, (getO x.ob o).c = some c → b ∉ S.fp o)) : Inv C S x a w' := by
  have hfp : ∀ o c, (getO x.ob o).c = some c → ∀ b ∈ S.fp o, w'.heap[b]? = w.heap[b]? := fun o c hc b hbf => by
    rcases hb b ((I.objs o c hc).2.2 b hbf).2.1 with h | h
    · exact h
    · exact absurd hbf (h.2.2 o c hc)
  exact (I.turn (S' := S) (ob' := x.ob) (w' := w') (fun _ => False) (fun o _ => ⟨rfl, rfl, rfl, fun c hc b hbf => ⟨hfp o c hc b hbf, ((I.objs o c hc).2.2 b hbf).1⟩⟩)
    (fun b hok => ⟨hok, (hb b (I.okb b hok)).resolve_right fun h => h.2.1 hok⟩) (fun o h => h.elim) (fun _ o c h => h.elim) (fun o o' c c' h => h.elim)
    hsz (fun b hok => Nat.lt_of_lt_of_le (I.okb b hok) hsz) ⟨h1.trans I.kept.os, h2.trans I.kept.tape, h3.trans I.kept.output, Nat.le_trans I.kept.size hsz, fun k hk hd => by
      have hk' := Nat.lt_of_lt_of_le hk I.kept.size
      rcases hb k hk' with h | h
      · exact h.trans (I.kept.block k hk hd)
      · omega⟩ (fun o c h => h.elim)).1
theorem Inv.putObj {C : Ctx} {S : Side} {x : X} {a : Act} {w : World} (I : Inv C S x a w) {l : Nat} (o : Obj) (h0 : C.w0.heap.size ≤ l) (h1 : ¬ S.ok l) (h2 : ∀ i c, (getO x.ob i).c = some c → l ∉ S.fp i) : Inv C S x a (w.putObj l o) := by
  refine I.beside rfl (Ahead.refl _) rfl (by simp [World.putObj]) fun b hb => ?_
  by_cases e : b = l
  · subst e; exact .inr ⟨h0, h1, h2⟩
  · exact .inl (World.putObj_heap_other e)
theorem Inv.alloc {C : Ctx} {S : Side} {x : X} {a : Act} {w : World} (I : Inv C S x a w) (o : Obj) : Inv C S x a (w.alloc o) :=
  I.beside rfl (Ahead.refl _) rfl (by simp) fun b hb => .inl (Below.heap_alloc _ _ _ hb)
def VT.ptr : VT → Bool
  | .pt _ 0 0 [] => true
  | .fn _ v => v.ptr
  | .pr a b => a.ptr && b.ptr
  | .un => true
  | _ => false
def SameVar (S S' : Side) (ob ob' : List Obe) (o : Nat) : Prop := S'.hd o = S.hd o ∧ ∃ c u c' u', getO ob o = ⟨0, 0, some c⟩ ∧ c.held = some u ∧ getO ob' o = ⟨0, 0, some c'⟩ ∧ c'.held = some u'
theorem ptr_tr {S S' : Side} {ob ob' : List Obe} {w w' : World} : ∀ {v : VT} {cs : List Value}, v.ptr = true → (∀ o ∈ v.refs, SameVar S S' ob ob' o) → VTC S ob w v cs → VTC S' ob' w' v cs
  | .pt o g h p, cs, hp, hr, hv => by
    have e : g = 0 ∧ h = 0 ∧ p = [] := by
      unfold VT.ptr at hp
      split at hp
      · rename_i e; cases e; exact ⟨rfl, rfl, rfl⟩
      · rename_i e; cases e
      · rename_i e; cases e
      · rename_i e; cases e
      · cases hp
    obtain ⟨rfl, rfl, rfl⟩ := e
    obtain ⟨v, e1, e2, e3, e4⟩ := hv
    obtain ⟨hd, c, u, c', u', h1, h2, h3, h4⟩ := hr o (by simp [VT.refs])
    obtain ⟨b, k, k1, k2, k3⟩ := e4.1 c u (by rw [h1]) h2 (by rw [h1])
    cases k2
    refine ⟨v, e1, e2, ?_, ?_, ?_, ?_, ?_⟩
    · right; rw [h3]; exact ⟨rfl, Nat.le_refl _⟩
    · intro c2 u2 _ _ _
      exact ⟨b, 0, by rw [hd]; exact k1, rfl, k3⟩
    · intro t xs nn hc
      rw [h3] at hc
      cases hc
      cases h4
    · intro k t es hc
      rw [h3] at hc
      cases hc
      cases h4
    · intro t xs nn j hc
      rw [h3] at hc
      cases hc
      cases h4
  | .fn f v, cs, hp, hr, ⟨caps, e, h⟩ => ⟨caps, e, ptr_tr (v := v) hp hr h⟩
  | .pr a b, cs, hp, hr, ⟨c1, c2, e, h1, h2⟩ => by
    have hp' : (a.ptr && b.ptr) = true := hp
    simp only [Bool.and_eq_true] at hp'
    exact ⟨c1, c2, e, ptr_tr hp'.1 (fun o ho => hr o (by simp [VT.refs, ho])) h1, ptr_tr hp'.2 (fun o ho => hr o (by simp [VT.refs, ho])) h2⟩
  | .un, cs, _, _, h => h
  | .va _ _, _, hp, _, _ | .rp _ _, _, hp, _, _ | .nl, _, hp, _, _ | .em, _, hp, _, _ | .np, _, hp, _, _ | .sl _ _ _ _ _, _, hp, _, _ | .tu _, _, hp, _, _ | .an, _, hp, _, _ | .ud, _, hp, _, _ => by cases hp
theorem ptr_trV {S S' : Side} {ob ob' : List Obe} {w w' : World} {v : VT} {u : Value} (hp : v.ptr = true) (hr : ∀ o ∈ v.refs, SameVar S S' ob ob' o) (h : VTV S ob w v u) : VTV S' ob' w' v u := by
  cases v with
  | pt _ _ _ _ | fn _ _ | pr _ _ | un => obtain ⟨cs, h1, h2⟩ := h; exact ⟨cs, ptr_tr hp hr h1, h2⟩
  | _ => cases hp
section
variable {P : Program} {ro : Option Nat}
theorem code_wpIn (hm : P.follows .mixedOrders = true) {c : Code} (hids : nodupN (occIds (occsK [.code c])) = true) (hcalm : calmK [.code c] = true) {R : Type} {fin : X → Option R} {fx : List Nat} {E : Nat → Env} {cuts : Nat → List (Cut R)} {K : Nat} (hE : ∀ k, k ≤ K → EnvOk P (E k))
    (h0 : AllC (fun c => ∀ d, c.C d = none) (cuts 0)) (hs : ∀ k, AllC (fun q => ∀ d, q.C d = runX (E k) fx fin (cuts k) (occFind q.id (occsK [.code c])) true (q.pat.mk' d)) (cuts (k + 1))) {C : Ctx} (hfx : ∀ o, C.fx o → o ∈ fx) {ds : List Deferred} {y : R}
    {x : X} {S : Side} {a : Act} {w : World} (I : Inv C S x a w) (h : runX (E K) fx fin (cuts K) (some [.code c]) false x = some y) {n : Nat} : c.wpIn (wideR ro) n P (fun e a' w' => e = .normal ∧ ∃ a0 S' x', a' = Act.wd a0 ds ∧ Inv C S' x' a0 w' ∧ fin x' = some y) (Act.wd a ds) w := by
  intro b k cs hro _ _
  obtain ⟨a', w', S', x', hst, I', hf⟩ := items_sound (b := b) (cs := cs) (zz := k) (ds := ds) hm hids hcalm hE h0 hs hfx (ro := ro) hro I h
  exact ⟨.normal, _, w', ⟨rfl, a', S', x', rfl, I', hf⟩, stepsIn_wide.2 hst⟩
theorem wd_nil (a : Act) : Act.wd a [] = a := by simp [Act.wd]
end
end Go.Vm
set_option linter.unusedVariables false
set_option linter.unusedSimpArgs false
namespace Go.Vm
open Go Go.RowKit
structure Rg where
  pat : Pat
  fx : List Nat
  p0 : Nat      -- the slots of yield's parameters, and the slot that the round reads
  p1 : Nat
  p2 : Nat
def OP.plainB : OP → Bool
  | .arr _ _ => true
  | .var _ => true
  | _ => false
def slotsPtr : List (Nat × VP) → Bool
  | [] => true
  | (_, .pt _) :: l => slotsPtr l
  | _ => false
def slotsVar (obs : List (Nat × OP)) (fx : List Nat) : List (Nat × VP) → Bool
  | [] => true
  | (_, .pt o) :: l => memN fx o && (match findO obs o with | some (.var _) => true | _ => false) && slotsVar obs fx l
  | _ => false
def Rg.okB (g : Rg) : Bool := nodupN (idsO g.pat.ob) && ((idsO g.pat.ob).all fun o => Nat.blt o g.pat.m) && (g.pat.ob.all fun q => q.2.plainB) && slotsVar g.pat.ob g.fx g.pat.sl &&
  (Nat.blt g.p0 g.pat.n && (Nat.blt g.p1 g.pat.n && (Nat.blt g.p2 g.pat.n && !Nat.beq g.p0 g.p1)))
def Rg.patE (g : Rg) : Pat := ⟨g.pat.n, g.pat.m, [], g.pat.ob⟩
def Rg.start (g : Rg) (s : (slotsTy g.pat.sl).D) (d : (objsTy g.pat.ob).D) (i v : Int) : X :=
  ⟨(((g.pat.mk' (s, d)).sl.set g.p0 (some (.va (.int .i64) i))).set g.p1 (some (.va (.int .i64) v))).set g.p2 (some (.va (.int .i64) v)), (g.pat.mk' (s, d)).ob⟩
def Rg.fin (g : Rg) (x : X) : Option (objsTy g.pat.ob).D :=
  cond (Nat.beq x.sl.length g.pat.n) ((g.patE.getR g.fx (rdOf x)).map fun r => r.1.2) none
theorem slotsVar_at {obs : List (Nat × OP)} {fx : List Nat} : ∀ {l : List (Nat × VP)} {s : (slotsTy l).D} {z : List (Option VT)}, slotsVar obs fx l = true → ∀ t v, getL (mkSlots l s z) t = some v → getL z t = some v ∨ ∃ o u, v = .pt o 0 0 [] ∧ o ∈ fx ∧ findO obs o = some (.var u)
  | [], s, z, _, t, v, h => .inl h
  | (t0, .pt o) :: l, s, z, h, t, v, hv => by
    have h' : (memN fx o && (match findO obs o with | some (.var _) => true | _ => false) && slotsVar obs fx l) = true := h
    simp only [Bool.and_eq_true] at h'
    obtain ⟨⟨h1, h2⟩, h3⟩ := h'
    have hv' : getL (mkSlots l s.2 (z.set t0 (some (.pt o 0 0 [])))) t = some v := hv
    rcases slotsVar_at h3 t v hv' with h | h
    · rw [getL_set] at h
      split at h
      · cases h
        split at h2
        · rename_i u hf
          exact .inr ⟨o, u, rfl, memN_iff.1 h1, hf⟩
        · cases h2
      · exact .inl h
    · exact .inr h
  | (_, .va _) :: _, _, _, h, _, _, _ | (_, .rp _) :: _, _, _, h, _, _, _ | (_, .nl) :: _, _, _, h, _, _, _ | (_, .em) :: _, _, _, h, _, _, _ | (_, .np) :: _, _, _, h, _, _, _
  | (_, .sl _) :: _, _, _, h, _, _, _ | (_, .pr _ _) :: _, _, _, h, _, _, _ | (_, .un) :: _, _, _, h, _, _, _ | (_, .tu _) :: _, _, _, h, _, _, _ | (_, .fn _ _) :: _, _, _, h, _, _, _ | (_, .an) :: _, _, _, h, _, _, _ => by cases h
structure Rg.Ok (g : Rg) : Prop where
  nd : (idsO g.pat.ob).Nodup
  lt : ∀ o ∈ idsO g.pat.ob, o < g.pat.m
  plain : ∀ q ∈ g.pat.ob, q.2.plainB = true
  sl : slotsVar g.pat.ob g.fx g.pat.sl = true
  p0 : g.p0 < g.pat.n
  p1 : g.p1 < g.pat.n
  p2 : g.p2 < g.pat.n
  ne : g.p0 ≠ g.p1
theorem Rg.ok_of {g : Rg} (h : g.okB = true) : g.Ok := by
  unfold Rg.okB at h
  simp only [Bool.and_eq_true, Bool.not_eq_true', List.all_eq_true, Nat.blt_eq] at h
  obtain ⟨⟨⟨⟨h1, h2⟩, h3⟩, h4⟩, h5, h6, h7, h8⟩ := h
  exact ⟨nodupN_iff.1 h1, h2, h3, h4, h5, h6, h7, fun e => by rw [e, Nat.beq_refl] at h8; cases h8⟩
theorem findO_memP : ∀ {l : List (Nat × OP)} {o : Nat} {p : OP}, findO l o = some p → ∃ q ∈ l, q.2 = p
  | (o0, p0) :: l, o, p, h => by
    have h' : cond (Nat.beq o0 o) (some p0) (findO l o) = some p := h
    cases hb : Nat.beq o0 o <;> rw [hb] at h'
    · obtain ⟨q, h1, h2⟩ := findO_memP (l := l) h'
      exact ⟨q, by simp [h1], h2⟩
    · cases h'
      exact ⟨(o0, _), List.mem_cons_self, rfl⟩
theorem Rg.Ok.obj {g : Rg} (ok : g.Ok) {d : (objsTy g.pat.ob).D} {o : Nat} {c : Ob} (h : (getO (mkObjs g.pat.ob d (List.replicate g.pat.m ⟨0, 0, none⟩)) o).c = some c) : c.isRv = false := by
  have hm := mkObjs_mem h
  obtain ⟨p, hp⟩ := findO_some hm
  obtain ⟨y1, hy⟩ := mkObjs_find (y := d) (z := List.replicate g.pat.m ⟨0, 0, none⟩) ok.nd (fun o ho => by rw [List.length_replicate]; exact ok.lt o ho) hp
  rw [hy] at h
  cases h
  obtain ⟨q, h1, h2⟩ := findO_memP hp
  have := ok.plain q h1
  rw [h2] at this
  cases p with
  | arr _ _ => rfl
  | var _ => rfl
  | rv _ => cases this
  | mp _ _ => rfl
theorem Rg.Ok.var {g : Rg} (ok : g.Ok) {d : (objsTy g.pat.ob).D} {o : Nat} {u : VP} (hf : findO g.pat.ob o = some (.var u)) : ∃ v, getO (mkObjs g.pat.ob d (List.replicate g.pat.m ⟨0, 0, none⟩)) o = ⟨0, 0, some (.var v)⟩ := by
  obtain ⟨y1, hy⟩ := mkObjs_find (y := d) (z := List.replicate g.pat.m ⟨0, 0, none⟩) ok.nd (fun o ho => by rw [List.length_replicate]; exact ok.lt o ho) hf
  exact ⟨_, hy⟩
section
variable {P : Program}
def RJ (C : Ctx) (g : Rg) (s : (slotsTy g.pat.sl).D) (a : Act) (K : Nat → Option Obj) (L : List Nat) (d : (objsTy g.pat.ob).D) (W : World) : Prop :=
  ∃ S, Inv C S (g.pat.mk' (s, d)) a W ∧ (∀ b o, K b = some o → W.heap[b]? = some o ∧ ∀ i c, (getO (g.pat.mk' (s, d)).ob i).c = some c → b ∉ S.fp i) ∧ ∀ b ∈ L, ¬ S.ok b
theorem round_sound (hm : P.follows .mixedOrders = true) {g : Rg} (hok : g.Ok) {s : (slotsTy g.pat.sl).D} {ia : Nat} {oa : Oper} {body : Code}
    (ha1 : oa.op = .assign (.tmp g.p1)) (ha2 : oa.dst = some g.p2) (ha3 : oa.guard = none)
    (hids : nodupN (occIds (occsK [.code body])) = true) (hcalm : calmK [.code body] = true) {E : Nat → Env} {cuts : Nat → List (Cut (objsTy g.pat.ob).D)} {N : Nat} (hE : ∀ k, k ≤ N → EnvOk P (E k))
    (h0 : AllC (fun c => ∀ d, c.C d = none) (cuts 0)) (hs : ∀ k, AllC (fun q => ∀ d, q.C d = runX (E k) g.fx g.fin (cuts k) (occFind q.id (occsK [.code body])) true (q.pat.mk' d)) (cuts (k + 1)))
    {C : Ctx} (hC : ∀ o, ¬ C.fx o) {a : Act} {K : Nat → Option Obj} {l : Nat} {L : List Nat} (hL : ∀ b ∈ L, ∃ o, K b = some o) (hlL : l ∈ L) {rec : Loop} (hK : K l = some (.loop rec)) (hl0 : C.w0.heap.size ≤ l) (hrec : rec.state = .ready) (hpend : rec.pending = none) {d d' : (objsTy g.pat.ob).D} {i v : Int} {W : World}
    (hJ : RJ C g s a K L d W) (hr : runX (E N) g.fx g.fin (cuts N) (some [.code body]) false (g.start s d i v) = some d') {n : Nat} {f : FuncId} {tmps : Array Value}
    (htmps : tmps = (a.tmps.setIfInBounds g.p0 (.int .i64 i)).setIfInBounds g.p1 (.int .i64 v)) :
    RoundIn Fence.wide n P l f tmps (.region ia #[oa] false) body W fun e W' => e = .returned (.bool true) ∧ RJ C g s a K L d' W' := by
  obtain ⟨S, I, hKW, hokL⟩ := hJ
  have hokl := hokL l hlL
  obtain ⟨hl1, hl2⟩ := hKW l _ hK
  -- the act of the round
  let a1 : Act := ((a.put (some g.p0) (.int .i64 i)).put (some g.p1) (.int .i64 v))
  have e1 : a1 = { tmps := tmps, defers := [] } := by
    have := I.dfr
    simp [a1, Act.put, htmps, this]
  have I1 : Inv C S ⟨((g.pat.mk' (s, d)).sl.set g.p0 (some (.va (.int .i64) i))).set g.p1 (some (.va (.int .i64) v)), (g.pat.mk' (s, d)).ob⟩ a1 W := by
    have h1 := I.slot g.p0 (some (.va (.int .i64) i)) (.int .i64 i) (fun v' e => by cases e; exact ⟨[.int .i64 i], rfl, rfl⟩)
    have h2 := h1.slot g.p1 (some (.va (.int .i64) v)) (.int .i64 v) (fun v' e => by cases e; exact ⟨[.int .i64 v], rfl, rfl⟩)
    exact h2
  have hn : a.tmps.size = g.pat.n := by
    rw [I.size]
    show (mkSlots g.pat.sl s (List.replicate g.pat.n none)).length = _
    rw [mkSlots_len, List.length_replicate]
  have hev : a1.eval (.tmp g.p1) = .int .i64 v := by
    have h1 := hok.p1
    simp [a1, Act.put, Act.eval, hn, h1]
  let a2 : Act := a1.put (some g.p2) (.int .i64 v)
  have I2 : Inv C S (g.start s d i v) a2 W := I1.slot g.p2 (some (.va (.int .i64) v)) (.int .i64 v) (fun v' e => by cases e; exact ⟨[.int .i64 v], rfl, rfl⟩)
  refine roundIn_of_wpIn trivial ?_
  rw [← e1]
  -- the assignment
  refine wpIn_region ?_
  show wpOpsIn (wideR (some l)) n P #[oa] _ [0] a1 W
  simp only [wpOpsIn, List.getElem?_toArray, List.getElem?_cons_zero]
  rw [if_pos (by simp [Region.wanted, ha3])]
  refine ⟨fun _ _ => trivial, ?_⟩
  rw [Oper.semAt_eq _ _ _ (fun c => by rw [ha1]; intro e; cases e)]
  have hrun : (execOp a1.eval oa).run P W = .ok (.value (.int .i64 v)) W := by
    unfold execOp
    rw [ha1]
    simp only [hev]
    rfl
  rw [hrun, Oper.uponIn_value, ha2]
  show ∃ w₂, (Instr.beginRound l).run P W = .ok () w₂ ∧ body.wpIn (wideR (some l)) n P _ a2 w₂
  refine ⟨_, run_beginRound hl1 hrec, ?_⟩
  -- the record is busy
  have hlt : l < W.heap.size := (Array.getElem?_eq_some_iff.1 hl1).1
  obtain ⟨W2, hW2⟩ : ∃ W2, W.putObj l (.loop { rec with state := .busy }) = W2 := ⟨_, rfl⟩
  rw [hW2]
  have I3 : Inv C S (g.start s d i v) a2 W2 := hW2 ▸ I2.putObj _ hl0 hokl hl2
  have hsz2 : W2.heap.size = W.heap.size := by rw [← hW2]; simp [World.putObj]
  have hl3 : W2.heap[l]? = some (.loop { rec with state := .busy }) := by rw [← hW2]; exact World.putObj_heap_same hlt
  have ho3 : ∀ b, b ≠ l → W2.heap[b]? = W.heap[b]? := fun b hb => by rw [← hW2]; exact World.putObj_heap_other hb
  have hnd : ∀ b o, K b = some o → ¬ (reC S (g.start s d i v) W2 g.fx).don b := by
    rintro b o hb ⟨j, c, h1, _, h3⟩
    exact (hKW b o hb).2 j c h1 h3
  have hbody := code_wpIn (ro := some l) (n := n) (ds := []) hm hids hcalm hE h0 hs (C := reC S (g.start s d i v) W2 g.fx) (fun o h => h) (I3.re g.fx) hr
  rw [wd_nil] at hbody
  refine wpIn_mono hbody ?_
  rintro e a3 W3 ⟨rfl, a0, S3, x3, rfl, I4, hf⟩
  rw [wd_nil]
  unfold Rg.fin at hf
  obtain ⟨hlen, hf⟩ := cond_opt hf
  obtain ⟨⟨⟨u, d1⟩, M⟩, hget, he⟩ := Option.map_eq_some_iff.1 hf
  cases he
  obtain ⟨S4, I5⟩ := jump_sound hget (Nat.eq_of_beq_eq_true hlen) I4 (fun o h => h)
  have I6 : Inv C S4 (g.patE.mk' (u, d1)) a0 W3 := I3.back hC I5
  have hsame : ∀ o v, findO g.pat.ob o = some (.var v) → o ∈ g.fx → SameVar S S4 (g.pat.mk' (s, d)).ob (g.patE.mk' (u, d1)).ob o := by
    intro o vp hfo hfx
    obtain ⟨v1, h1⟩ := hok.var (d := d) hfo
    obtain ⟨v2, h2⟩ := hok.var (d := d1) hfo
    have h2' : getO (g.patE.mk' (u, d1)).ob o = ⟨0, 0, some (.var v2)⟩ := h2
    refine ⟨(I5.fix o (.var v2) hfx (by rw [h2']) (by rw [h2'])).1, _, v1, _, v2, h1, rfl, h2, rfl⟩
  have I7 : Inv C S4 (g.pat.mk' (s, d1)) a W3 := by
    refine ⟨I.dfr, I.size, fun t vt ht => ?_, I6.objs, I6.sep, I6.okn, I6.kept, I6.fix⟩
    obtain ⟨w, hw1, hw2⟩ := I.slots t vt ht
    refine ⟨w, hw1, ?_⟩
    have ht' : getL (mkSlots g.pat.sl s (List.replicate g.pat.n none)) t = some vt := ht
    rcases slotsVar_at hok.sl t vt ht' with h | ⟨o, vp, rfl, h1, h2⟩
    · rw [getL_rep] at h; cases h
    · exact ptr_trV (v := .pt o 0 0 []) rfl (fun o' ho' => by simp [VT.refs] at ho'; subst ho'; exact hsame _ vp h2 h1) hw2
  have hk3 : ∀ b o, K b = some o → W3.heap[b]? = W2.heap[b]? := fun b o hb =>
    I4.kept.block b (by show b < W2.heap.size; rw [hsz2]; exact (Array.getElem?_eq_some_iff.1 (hKW b o hb).1).1) (hnd b o hb)
  have hfp : ∀ b o, K b = some o → ∀ i c, (getO (g.pat.mk' (s, d1)).ob i).c = some c → b ∉ S4.fp i := by
    intro b o hb i c hc hbf
    rcases ((I5.objs i c hc).2.2 b hbf).2.2 with h | h | h
    · have h' : W2.heap.size ≤ b := h
      have := (Array.getElem?_eq_some_iff.1 (hKW b o hb).1).1
      omega
    · exact hnd b o hb h
    · rw [hok.obj hc] at h; cases h
  have hokl4 : ∀ b ∈ L, ¬ S4.ok b := by
    intro b hb h
    obtain ⟨o, ho⟩ := hL b hb
    rcases (I5.okn b h).2 with h | h | h
    · exact hokL b hb h
    · have h' : W2.heap.size ≤ b := h
      have := (Array.getElem?_eq_some_iff.1 (hKW b o ho).1).1
      omega
    · exact hnd b o ho h
  have hl4 : W3.heap[l]? = some (.loop { rec with state := .busy }) := (hk3 l _ hK).trans hl3
  refine ⟨_, _, run_endRound none hl4, rfl, S4, I7.putObj _ hl0 (hokl4 l hlL) (hfp l _ hK), fun b o hb => ⟨?_, hfp b o hb⟩, hokl4⟩
  by_cases e : b = l
  · subst e
    rw [World.putObj_heap_same (Array.getElem?_eq_some_iff.1 hl4).1]
    rw [hK] at hb
    cases hb
    obtain ⟨st, pe, _, _, _, _, _, _⟩ := rec
    simp only at hrec hpend
    subst hrec hpend
    rfl
  · rw [World.putObj_heap_other e, hk3 b o hb, ho3 b e]
    exact (hKW b o hb).1
def rst {D : Type} (rf : D → Int → Int → Option D) (zs : List Int) : Nat → D → Option D
  | 0, d => some d
  | k + 1, d => (rst rf zs k d).bind fun d => rf d ((zs.length - 1 - k : Nat) : Int) (zs.getD (zs.length - 1 - k) 0)
theorem rst_pre {D : Type} {rf : D → Int → Int → Option D} {zs : List Int} {d d' : D} : ∀ {n k : Nat}, k ≤ n → rst rf zs n d = some d' → ∃ d1, rst rf zs k d = some d1
  | n, k, hk, h => by
    induction n generalizing d' with
    | zero => obtain rfl : k = 0 := by omega
              exact ⟨d', h⟩
    | succ n ih =>
      by_cases e : k = n + 1
      · subst e; exact ⟨d', h⟩
      · obtain ⟨d1, h1, _⟩ := Option.bind_eq_some_iff.1 h
        exact ih (by omega) h1
def BoxAt (Bs : Nat) (zs : List Int) (W : World) : Prop :=
  ∃ A cap, W.cell? ⟨Bs, 0, none⟩ = some (.slice A zs.length cap) ∧ (zs.length ≤ cap) ∧ ∀ j, j < zs.length → ∃ b off, A = some ⟨b, off, none⟩ ∧ W.cell? ⟨b, off + j, none⟩ = some (.int .i64 (zs.getD j 0))
def IterOk (P : Program) (gf : Nat) : Prop := ∀ (n l Bs : Nat) (zs : List Int) (J : Nat → World → Prop) (W : World), zs.length ≤ 1073741824 →
  (∀ k W, J k W → BoxAt Bs zs W) →
  (∀ k W, J k W → k < zs.length → YieldAt Fence.wide n P l #[.int .i64 ((zs.length - 1 - k : Nat) : Int), .int .i64 (zs.getD (zs.length - 1 - k) 0)] W fun e W' => e = .returned (.bool true) ∧ J (k + 1) W') →
  J 0 W → CallsIn Fence.wide (n + 1) P gf #[.func (.yield l) #[] #[], .pointer (some ⟨Bs, 0, none⟩)] W fun e W' => (∃ v, e = .returned v) ∧ J zs.length W'
theorem range_sound (hm : P.follows .mixedOrders = true) {g : Rg} (hok : g.Ok) {s : (slotsTy g.pat.sl).D} {ia : Nat} {oa : Oper} {body : Code}
    (ha1 : oa.op = .assign (.tmp g.p1)) (ha2 : oa.dst = some g.p2) (ha3 : oa.guard = none)
    (hids : nodupN (occIds (occsK [.code body])) = true) (hcalm : calmK [.code body] = true) {E : Nat → Env} {cuts : Nat → List (Cut (objsTy g.pat.ob).D)} {N : Nat} (hE : ∀ k, k ≤ N → EnvOk P (E k))
    (h0 : AllC (fun c => ∀ d, c.C d = none) (cuts 0)) (hs : ∀ k, AllC (fun q => ∀ d, q.C d = runX (E k) g.fx g.fin (cuts k) (occFind q.id (occsK [.code body])) true (q.pat.mk' d)) (cuts (k + 1)))
    {rf : (objsTy g.pat.ob).D → Int → Int → Option (objsTy g.pat.ob).D} (hrf : ∀ d i v, rf d i v = runX (E N) g.fx g.fin (cuts N) (some [.code body]) false (g.start s d i v))
    {C : Ctx} (hC : ∀ o, ¬ C.fx o) {S : Side} {a : Act} {w : World} {d0 dE : (objsTy g.pat.ob).D} (I : Inv C S (g.pat.mk' (s, d0)) a w)
    {K0 : Nat → Option Obj} (hK0 : ∀ b o, K0 b = some o → w.heap[b]? = some o ∧ ∀ i c, (getO (g.pat.mk' (s, d0)).ob i).c = some c → b ∉ S.fp i)
    {gt gf Bs : Nat} {zs : List Int} (hzs : zs.length ≤ 1073741824) (hg : a.eval (.tmp gt) = .func (.func gf) #[] #[.pointer (some ⟨Bs, 0, none⟩)]) (eg : ∀ args w, (callFunc gf args).run P w = .ok (.enter gf args) w)
    (hbox : ∀ W : World, (∀ b o, K0 b = some o → W.heap[b]? = some o) → BoxAt Bs zs W) (hit : IterOk P gf) (hend : rst rf zs zs.length d0 = some dE) {n : Nat} :
    (Code.rangeFunc (.tmp gt) #[g.p0, g.p1] (.region ia #[oa] false) body).wpIn Fence.wide n P
      (fun e a' w' => e = .normal ∧ ∃ D, a' = Act.wd a [{ target := .collected D, args := #[] }] ∧ C.w0.heap.size ≤ D ∧ w'.heap[D]? = some (.deferred (some [])) ∧
        ∃ S', Inv C S' (g.pat.mk' (s, dE)) a w' ∧ ¬ S'.ok D ∧ ∀ i c, (getO (g.pat.mk' (s, dE)).ob i).c = some c → D ∉ S'.fp i) a w := by
  refine wpIn_rangeFunc ?_
  intro fn _
  obtain ⟨rec, hrec⟩ : ∃ rec : Loop, rec = { state := .ready, pending := none, fn, tmps := a.tmps, params := #[g.p0, g.p1], assign := .region ia #[oa] false, body, defers := w.heap.size } := ⟨_, rfl⟩
  obtain ⟨W1, hW1⟩ : ∃ W1, (w.alloc (.deferred (some []))).alloc (.loop rec) = W1 := ⟨_, rfl⟩
  have hL1 : W1.heap[w.heap.size + 1]? = some (.loop rec) := by
    rw [← hW1]; have := World.alloc_heap_new (w.alloc (.deferred (some []))) (.loop rec); rwa [World.size_alloc] at this
  have hD1 : W1.heap[w.heap.size]? = some (.deferred (some [])) := by
    rw [← hW1]; exact (Below.heap_alloc _ _ _ (by simp)).trans (World.alloc_heap_new w _)
  have hO1 : ∀ b, b < w.heap.size → W1.heap[b]? = w.heap[b]? := fun b hb => by
    rw [← hW1]; exact (Below.heap_alloc _ _ _ (by simp; omega)).trans (Below.heap_alloc _ _ _ hb)
  have I1 : Inv C S (g.pat.mk' (s, d0)) a W1 := by rw [← hW1]; exact (I.alloc _).alloc _
  let K : Nat → Option Obj := fun b => if b = w.heap.size then some (.deferred (some [])) else if b = w.heap.size + 1 then some (.loop rec) else K0 b
  have hKl : K (w.heap.size + 1) = some (.loop rec) := by
    show (if w.heap.size + 1 = w.heap.size then _ else if w.heap.size + 1 = w.heap.size + 1 then some (Obj.loop rec) else _) = _
    rw [if_neg (by omega), if_pos rfl]
  have hKD : K w.heap.size = some (.deferred (some [])) := if_pos rfl
  have hKo : ∀ b o, K0 b = some o → K b = some o := fun b o h => by
    have hb := (Array.getElem?_eq_some_iff.1 (hK0 b o h).1).1
    show (if b = w.heap.size then _ else if b = w.heap.size + 1 then _ else K0 b) = _
    rw [if_neg (by omega), if_neg (by omega)]
    exact h
  have hnew : ∀ b, w.heap.size ≤ b → ∀ i c, (getO (g.pat.mk' (s, d0)).ob i).c = some c → b ∉ S.fp i := fun b hb i c hc hbf => by
    have := ((I.objs i c hc).2.2 b hbf).2.1
    omega
  have hJ0 : RJ C g s a K [w.heap.size + 1, w.heap.size] d0 W1 := by
    refine ⟨S, I1, fun b o h => ?_, fun b hb h => ?_⟩
    · have h' : (if b = w.heap.size then some (Obj.deferred (some [])) else if b = w.heap.size + 1 then some (.loop rec) else K0 b) = some o := h
      by_cases e : b = w.heap.size
      · rw [if_pos e] at h'
        cases h'
        subst e
        exact ⟨hD1, hnew _ (Nat.le_refl _)⟩
      · rw [if_neg e] at h'
        by_cases e2 : b = w.heap.size + 1
        · rw [if_pos e2] at h'
          cases h'
          subst e2
          exact ⟨hL1, hnew _ (by omega)⟩
        · rw [if_neg e2] at h'
          have := hK0 b o h'
          exact ⟨(hO1 b (Array.getElem?_eq_some_iff.1 this.1).1).trans this.1, this.2⟩
    · have := I.okb b h
      simp at hb
      omega
  have hC0 := I.kept.size
  refine ⟨w.heap.size + 1, [{ target := .collected w.heap.size, args := #[] }], W1, { target := .fn (.func gf) #[.pointer (some ⟨Bs, 0, none⟩)], args := #[.func (.yield (w.heap.size + 1)) #[] #[]] }, W1, gf,
    #[.func (.yield (w.heap.size + 1)) #[] #[]] ++ #[.pointer (some ⟨Bs, 0, none⟩)], W1, ?_, ?_, fun _ _ => trivial, ?_, fun h => (by cases h), ?_⟩
  · rw [← hW1, hrec]; exact run_enterLoop_outer _ _ _ _ _
  · simp only [resolve, hg]
    simp [go_sem]
  · simp [invoke, go_sem, eg]
  · have hh := hit (n - 1) (w.heap.size + 1) Bs zs (fun k W => ∃ d, rst rf zs k d0 = some d ∧ RJ C g s a K [w.heap.size + 1, w.heap.size] d W) W1 hzs
    refine callsIn_wide.2 (Calls.mono ((hh ?_ ?_ ⟨d0, rfl, hJ0⟩).calls (fun _ => room_wide _)) ?_)
    · rintro k W ⟨d, _, S', _, hk, _⟩
      exact hbox W fun b o h => (hk b o (hKo b o h)).1
    · rintro k W ⟨d, hd, hJ⟩ hk
      obtain ⟨d', hd'⟩ := rst_pre (k := k + 1) (by omega) hend
      have hd2 : (rst rf zs k d0).bind (fun d => rf d ((zs.length - 1 - k : Nat) : Int) (zs.getD (zs.length - 1 - k) 0)) = some d' := hd'
      rw [hd] at hd2
      have hr : rf d ((zs.length - 1 - k : Nat) : Int) (zs.getD (zs.length - 1 - k) 0) = some d' := hd2
      rw [hrf] at hr
      have hlW : W.heap[w.heap.size + 1]? = some (.loop rec) := by
        obtain ⟨S', _, hk, _⟩ := hJ
        exact (hk _ _ hKl).1
      have hy := run_yield (P := P) (args := #[.int .i64 ((zs.length - 1 - k : Nat) : Int), .int .i64 (zs.getD (zs.length - 1 - k) 0)]) hlW (by rw [hrec]; rfl)
      rw [hrec] at hy
      refine ⟨_, _, _, _, hy, ?_⟩
      refine (round_sound hm hok (ia := ia) (oa := oa) (body := body) ha1 ha2 ha3 hids hcalm hE h0 hs hC (K := K) (l := w.heap.size + 1) (L := [w.heap.size + 1, w.heap.size]) (fun b hb => ?_) (by simp) hKl (by omega) (by rw [hrec]) (by rw [hrec]) hJ hr (by simp)).mono ?_
      · simp at hb
        rcases hb with rfl | rfl
        · exact ⟨_, hKl⟩
        · exact ⟨_, hKD⟩
      · rintro e W' ⟨he, hJ'⟩
        exact ⟨he, d', hd', hJ'⟩
    · rintro e W' ⟨⟨v, rfl⟩, d, hd, S', I', hk, hokL⟩
      rw [hend] at hd
      cases hd
      obtain ⟨hl1, hl2⟩ := hk _ _ hKl
      obtain ⟨hd1, hd2⟩ := hk _ _ hKD
      have hend' := run_endLoop (P := P) hl1 (by rw [hrec]; simp)
      rw [hrec] at hend'
      refine ⟨none, _, hend', rfl, w.heap.size, ?_, by omega, ?_, S', ?_, hokL _ (by simp), hd2⟩
      · have := I.dfr
        simp [Act.wd, this]
      · exact (World.putObj_heap_other (by omega)).trans hd1
      · exact I'.putObj _ (by omega) (hokL _ (by simp)) hl2
end
end Go.Vm
set_option linter.unusedVariables false
set_option linter.unusedSimpArgs false
namespace Go.Vm
open Go Go.RowKit
theorem Inv.sub {C : Ctx} {S : Side} {x : X} {a : Act} {w : World} (I : Inv C S x a w) {sl' : List (Option VT)} (hl : sl'.length = x.sl.length) (h : ∀ t v, getL sl' t = some v → getL x.sl t = some v) : Inv C S ⟨sl', x.ob⟩ a w :=
  ⟨I.dfr, I.size.trans hl.symm, fun t v ht => I.slots t v (h t v ht), I.objs, I.sep, I.okn, I.kept, I.fix⟩
theorem mkSlots_at : ∀ {l : List (Nat × VP)} {s : (slotsTy l).D} {z : List (Option VT)} {t : Nat} {v : VT}, getL (mkSlots l s z) t = some v → getL z t = some v ∨ t ∈ l.map (·.1)
  | [], s, z, t, v, h => .inl h
  | (t0, p) :: l, s, z, t, v, h => by
    have h' : getL (mkSlots l s.2 (z.set t0 (some (p.mk s.1)))) t = some v := h
    rcases mkSlots_at h' with h1 | h1
    · rw [getL_set] at h1
      split at h1
      · rename_i e
        exact .inr (by simp [e.1])
      · exact .inl h1
    · exact .inr (by simp [h1])
def BackOk (P : Program) (bf gf : Nat) : Prop := (∃ fn c, P.funcs[bf]? = some fn ∧ fn.name ≠ "runtime.NumGoroutine" ∧ fn.body = some c) ∧
  ∀ (A : Option Addr) (len cap : Nat) (w : World), Calls P bf #[.slice A len cap] w fun e w' => e = .returned (.func (.func gf) #[] #[.pointer (some ⟨w.heap.size, 0, none⟩)]) ∧ ∃ t, w' = w.alloc (.cells #[.slice A len cap] t)
section
variable {P : Program}
open Classical in
theorem rangeCut (hm : P.follows .mixedOrders = true) {g : Rg} (hok : g.Ok) {s : (slotsTy g.pat.sl).D} {ia : Nat} {oa : Oper} {body : Code}
    (ha1 : oa.op = .assign (.tmp g.p1)) (ha2 : oa.dst = some g.p2) (ha3 : oa.guard = none)
    (hids : nodupN (occIds (occsK [.code body])) = true) (hcalm : calmK [.code body] = true) {E : Nat → Env} {cuts : Nat → List (Cut (objsTy g.pat.ob).D)} {N : Nat} (hE : ∀ k, k ≤ N → EnvOk P (E k))
    (h0 : AllC (fun c => ∀ d, c.C d = none) (cuts 0)) (hs : ∀ k, AllC (fun q => ∀ d, q.C d = runX (E k) g.fx g.fin (cuts k) (occFind q.id (occsK [.code body])) true (q.pat.mk' d)) (cuts (k + 1)))
    {rf : (objsTy g.pat.ob).D → Int → Int → Option (objsTy g.pat.ob).D} (hrf : ∀ d i v, rf d i v = runX (E N) g.fx g.fin (cuts N) (some [.code body]) false (g.start s d i v))
    {i9 ib it bf gf gt t0 t1 : Nat} {o9a o9b : Oper} {ats : Array TypeId} {opsT : Array Oper}
    (hA : o9a.op = .move (.tmp t0) ∧ o9a.dst = some t1 ∧ o9a.guard = none) (hB : o9b.op = .call ⟨.value (.func bf), #[.tmp t1], ats⟩ ∧ o9b.dst = some gt ∧ o9b.guard = none)
    (hback : BackOk P bf gf) (hit : IterOk P gf) (hgf : ∃ fn c, P.funcs[gf]? = some fn ∧ fn.name ≠ "runtime.NumGoroutine" ∧ fn.body = some c)
    (hne : t1 ∉ g.pat.sl.map (·.1) ∧ gt ∉ g.pat.sl.map (·.1) ∧ t0 ∉ g.pat.sl.map (·.1)) (hlt : t0 < g.pat.n ∧ t1 < g.pat.n ∧ gt < g.pat.n)
    {ET : Env} (hET : EnvOk P ET) (hcT : opsT.toList.all Oper.calm = true)
    {C : Ctx} (hC : ∀ o, ¬ C.fx o) {S : Side} {a : Act} {w : World} {d0 : (objsTy g.pat.ob).D} {zs : List Int}
    (I : Inv C S ⟨(g.pat.mk' (s, d0)).sl.set t0 (some (.va (.sl (.int .i64)) zs)), (g.pat.mk' (s, d0)).ob⟩ a w)
    {R : Type} {fin : X → Option R} {y : R} (h : cond (Nat.ble zs.length 1073741824) ((rst rf zs zs.length d0).bind fun dE => regRun ET opsT false (g.pat.mk' (s, dE)) fin) none = some y) {b : Frame} {cs : List Frame} :
    Finds P b cs fin y C a w [.code (.region i9 #[o9a, o9b] false), .code (.block ib (.rangeFunc (.tmp gt) #[g.p0, g.p1] (.region ia #[oa] false) body)), .code (.seq (.region it opsT false) .ret)] := by
  obtain ⟨hzs, h⟩ := cond_opt h
  obtain ⟨dE, hend, hT⟩ := Option.bind_eq_some_iff.1 h
  have hzs := Nat.le_of_ble_eq_true hzs
  have hlen0 : (g.pat.mk' (s, d0)).sl.length = g.pat.n := by
    show (mkSlots g.pat.sl s (List.replicate g.pat.n none)).length = _
    rw [mkSlots_len, List.length_replicate]
  have hsz : a.tmps.size = g.pat.n := by rw [I.size, List.length_set, hlen0]
  -- the slice
  obtain ⟨u, hu, cs0, hro, hue⟩ := I.slots t0 (.va (.sl (.int .i64)) zs) (by rw [getL_set, if_pos ⟨rfl, by rw [hlen0]; exact hlt.1⟩])
  obtain ⟨A, cap, rfl, hcap, hcells⟩ := hro
  have hu2 : u = .slice A zs.length cap := hue
  subst hu2
  have hev0 : a.eval (.tmp t0) = .slice A zs.length cap := by simp [Act.eval, hu]
  -- the iterator is made
  let a1 : Act := a.put (some t1) (.slice A zs.length cap)
  let fv : Value := .func (.func gf) #[] #[.pointer (some ⟨w.heap.size, 0, none⟩)]
  let a2 : Act := a1.put (some gt) fv
  have hev1 : a1.eval (.tmp t1) = .slice A zs.length cap := by
    have := hlt.2.1
    simp [a1, Act.put, Act.eval, hsz, this]
  have hev2 : a2.eval (.tmp gt) = fv := by
    have := hlt.2.2
    simp [a2, a1, Act.put, Act.eval, hsz, this]
  have hreg : (Code.region i9 #[o9a, o9b] false).wp P (fun e a' w' => e = .normal ∧ a' = a2 ∧ ∃ t, w' = w.alloc (.cells #[.slice A zs.length cap] t)) a w := by
    refine wp_region ?_
    show wpOps P #[o9a, o9b] _ [0, 1] a w
    simp only [wpOps, List.getElem?_toArray, List.getElem?_cons_zero, List.getElem?_cons_succ]
    rw [if_pos (by simp [Region.wanted, hA.2.2])]
    refine .inl ?_
    have hr0 : (execOp a.eval o9a).run P w = .ok (.value (.slice A zs.length cap)) w := by
      unfold execOp
      rw [hA.1]
      simp only [hev0]
      rfl
    unfold Oper.wp
    rw [hr0, Oper.upon_value, hA.2.1]
    show if _ then _ else _
    rw [if_pos (by simp [Region.wanted, hB.2.2])]
    refine .inl ?_
    obtain ⟨⟨fn, c, f1, f2, f3⟩, hcall⟩ := hback
    have hr1 : (execOp a1.eval o9b).run P w = .ok (.enter bf #[.slice A zs.length cap]) w := by
      obtain ⟨dst, op, ty, pos, af, gd⟩ := o9b
      simp only at hB
      rw [hB.1]
      simp [execOp, resolve, Deferred.ofValue, invoke, callFunc, Act.eval, f1, f2, f3]
      simpa [Act.eval, Array.getD_eq_getD_getElem?] using hev1
    show Oper.upon P o9b a1 _ _ ((execOp a1.eval o9b).run P w)
    rw [hr1, Oper.upon_enter]
    refine Calls.mono (hcall A zs.length cap w) ?_
    rintro e w' ⟨rfl, t, rfl⟩
    rw [hB.2.1]
    exact ⟨trivial, rfl, t, rfl⟩
  obtain ⟨e, a2', w1, ⟨rfl, rfl, t, rfl⟩, hst1⟩ := hreg b [.code (.block ib (.rangeFunc (.tmp gt) #[g.p0, g.p1] (.region ia #[oa] false) body)), .code (.seq (.region it opsT false) .ret)] cs
  obtain ⟨w1, hw1⟩ : ∃ w1, w.alloc (.cells #[.slice A zs.length cap] t) = w1 := ⟨_, rfl⟩
  rw [hw1] at hst1
  have I1 : Inv C S (g.pat.mk' (s, d0)) a2 w := by
    have h1 := (I.slot t1 none (.slice A zs.length cap) (fun v e => by cases e)).slot gt none fv (fun v e => by cases e)
    refine h1.sub (sl' := (g.pat.mk' (s, d0)).sl) (by simp) fun t' v ht => ?_
    have hm : t' ∈ g.pat.sl.map (·.1) := by
      rcases mkSlots_at (l := g.pat.sl) (s := s) (z := List.replicate g.pat.n none) ht with h | h
      · rw [getL_rep] at h; cases h
      · exact h
    show getL ((((g.pat.mk' (s, d0)).sl.set t0 _).set t1 none).set gt none) t' = some v
    rw [getL_set, if_neg (fun e : gt = t' ∧ _ => hne.2.1 (e.1 ▸ hm)), getL_set, if_neg (fun e : t1 = t' ∧ _ => hne.1 (e.1 ▸ hm)), getL_set, if_neg (fun e : t0 = t' ∧ _ => hne.2.2 (e.1 ▸ hm))]
    exact ht
  have I2 : Inv C S (g.pat.mk' (s, d0)) a2 w1 := hw1 ▸ I1.alloc _
  -- the blocks that stay
  have hBs : w1.heap[w.heap.size]? = some (.cells #[.slice A zs.length cap] t) := by rw [← hw1]; exact World.alloc_heap_new _ _
  have hold : ∀ b, b < w.heap.size → w1.heap[b]? = w.heap[b]? := fun b hb => by rw [← hw1]; exact Below.heap_alloc _ _ _ hb
  let K0 : Nat → Option Obj := fun b => if b = w.heap.size ∨ S.ok b then w1.heap[b]? else none
  have hK0 : ∀ b o, K0 b = some o → w1.heap[b]? = some o ∧ ∀ i c, (getO (g.pat.mk' (s, d0)).ob i).c = some c → b ∉ S.fp i := by
    intro b o hb
    have hb' : (if b = w.heap.size ∨ S.ok b then w1.heap[b]? else none) = some o := hb
    split at hb'
    · rename_i hor
      refine ⟨hb', fun i c hc hbf => ?_⟩
      obtain ⟨q1, q2, _⟩ := (I1.objs i c hc).2.2 b hbf
      rcases hor with rfl | h
      · omega
      · exact q1 h
    · cases hb'
  have hbox : ∀ W : World, (∀ b o, K0 b = some o → W.heap[b]? = some o) → BoxAt w.heap.size zs W := by
    intro W hW
    have k1 : W.heap[w.heap.size]? = some (.cells #[.slice A zs.length cap] t) := hW _ _ (by show (if _ then _ else _) = _; rw [if_pos (.inl rfl)]; exact hBs)
    refine ⟨A, cap, ?_, hcap, fun j hj => ?_⟩
    · unfold World.cell?
      simp [k1]
    · obtain ⟨b, off, hAe, hokb, ccs, hcl, hli, hrows⟩ := hcells (fun e => by rw [e] at hj; simp at hj)
      have hblt := I1.okb b hokb
      have hWb : W.heap[b]? = w.heap[b]? := by
        obtain ⟨o, ho⟩ : ∃ o, w.heap[b]? = some o := ⟨_, Array.getElem?_eq_getElem hblt⟩
        rw [ho]
        refine hW b o ?_
        show (if _ then _ else _) = _
        rw [if_pos (.inr hokb), hold b hblt]
        exact ho
      refine ⟨b, off, hAe, ?_⟩
      have hc2 : cv W b (off + j) = cv w b (off + j) := cv_same hWb _
      show cv W b (off + j) = _
      rw [hc2]
      obtain ⟨p, c, q, e1, e2, e3, e4⟩ := Rows_get (sz := 1) j 0 hj hrows
      have e4' : c = [.int .i64 (zs.getD j 0)] := e4
      refine hli j _ ?_
      rw [e1, e4', List.getElem?_append_right (by omega)]
      have : j - p.length = 0 := by omega
      rw [this]
      rfl
  -- the range
  let b' : Frame := { b with roundOf := none }
  have hat : ∀ a k, b'.atR a k = b.at a k := fun a k => Frame.atR_of_none (b := b') rfl a k
  obtain ⟨gfn, gc, g1, g2, g3⟩ := hgf
  have hrange := range_sound (ia := ia) hm hok ha1 ha2 ha3 hids hcalm hE h0 hs hrf hC I2 hK0 hzs hev2 (fun args w => by simp [callFunc, g1, g2, g3]) hbox hit hend (n := 0)
  obtain ⟨e, a3, w3, ⟨rfl, D, rfl, hD0, hD1, S3, I3, hD2, hD3⟩, hst2⟩ := hrange b' [.inBlock ib, .code (.seq (.region it opsT false) .ret)] cs rfl trivial (room_wide _)
  have hst2 := stepsIn_wide.1 hst2
  -- the tail
  have hcT' : ∀ (i : Nat) (o : Oper), opsT[i]? = some o → Oper.calm o = true := fun i o ho => List.all_eq_true.1 hcT o (List.mem_of_getElem? (i := i) (by simpa using ho))
  obtain ⟨e, a4, w4, ⟨a5, rfl, rfl, S5, x5, I5, hy⟩, hst3⟩ := regionX (ro := none) (id := it) (ds := [{ target := .collected D, args := #[] }]) (n := 0) hET hm hcT' (I3.re []) hT b' [.code .ret] cs rfl trivial (room_wide _)
  have hst3 := stepsIn_wide.1 hst3
  have hDlt : D < w3.heap.size := (Array.getElem?_eq_some_iff.1 hD1).1
  have hnd : ¬ (reC S3 (g.pat.mk' (s, dE)) w3 []).don D := by
    rintro ⟨j, c, h1, _, h3⟩
    exact hD3 j c h1 h3
  have hD4 : w4.heap[D]? = some (.deferred (some [])) := (I5.kept.block D hDlt hnd).trans hD1
  have hD5 : ¬ S5.ok D := by
    intro h
    rcases (I5.okn D h).2 with h | h | h
    · exact hD2 h
    · have h' : w3.heap.size ≤ D := h
      omega
    · exact hnd h
  have hD6 : ∀ i c, (getO x5.ob i).c = some c → D ∉ S5.fp i := by
    intro i c hc hbf
    obtain ⟨q0, _, q3⟩ := I5.objs i c hc
    rcases (q3 D hbf).2.2 with h | h | h
    · have h' : w3.heap.size ≤ D := h
      omega
    · exact hnd h
    · cases c with
      | rv v =>
        obtain ⟨b0, l, _, r2, _, r4⟩ := q0
        rw [r4] at hbf
        simp at hbf
        subst hbf
        obtain ⟨e, r5⟩ := hv_eq r2
        rw [hD4] at r5
        cases r5
      | _ => cases h
  have I6 : Inv C S5 x5 a5 w4 := I3.back hC I5
  have I7 : Inv C S5 x5 a5 (w4.putObj D (.deferred none)) := I6.putObj _ hD0 hD5 hD6
  have hst4 : Steps P (lone (b'.atR (Act.wd a5 [{ target := .collected D, args := #[] }]) [.code .ret]) cs w4) (lone { b'.atR (Act.wd a5 [{ target := .collected D, args := #[] }]) [.code .ret] with mode := .returning } cs w4) := .one (stepR_ret rfl)
  have hst5 := step_collected (P := P) (fr := { b'.atR (Act.wd a5 [{ target := .collected D, args := #[] }]) [.code .ret] with mode := .returning }) (cs := cs) (w := w4) (d := { target := .collected D, args := #[] }) (r := D) (ds := []) (calls := [])
    (by simp) (by simp [Frame.atR, Act.wd, I6.dfr]) rfl (run_takeDeferred hD4)
  have hfr : ({ ({ b'.atR (Act.wd a5 [{ target := .collected D, args := #[] }]) [.code .ret] with mode := .returning } : Frame) with defers := [] ++ [] } : Frame) = { b.at a5 [.code .ret] with mode := .returning } := by
    have := I6.dfr
    simp [Frame.atR, Frame.at, Act.wd, this, b']
  rw [hfr] at hst5
  refine ⟨a5, w4.putObj D (.deferred none), [.code .ret], S5, x5, ?_, I7, hy⟩
  refine hst1.trans ?_
  rw [← hat]
  refine Steps.trans (.one stepR_block) (Steps.trans hst2 (Steps.trans (.one stepR_inBlock) (Steps.trans (.one stepR_seq) (Steps.trans hst3 (Steps.trans hst4 (.one hst5))))))
end
end Go.Vm
set_option linter.unusedVariables false
set_option linter.unusedSimpArgs false
namespace Go.Vm
open Go Go.RowKit
section
variable {P : Program}
def HandCut {R : Type} (P : Program) (fd : Func) (fin : X → Option R) (c : Cut R) : Prop :=
  ∀ (C : Ctx), (∀ o, ¬ C.fx o) → ∀ (S : Side) (a : Act) (w : World) (z : List Item) (b : Frame) (cs : List Frame) (y : R) (d : c.pat.ty.D), (c.id, z) ∈ occsK (bodyOf fd) → Inv C S (c.pat.mk' d) a w → c.C d = some y → Finds P b cs fin y C a w z
theorem handCut_of {R : Type} {fd : Func} {fin : X → Option R} {c : Cut R} (hids : nodupN (occIds (occsK (bodyOf fd))) = true) {z0 : List Item} (hz : occFind c.id (occsK (bodyOf fd)) = some z0)
    (h : ∀ (C : Ctx), (∀ o, ¬ C.fx o) → ∀ (S : Side) (a : Act) (w : World) (b : Frame) (cs : List Frame) (y : R) (d : c.pat.ty.D), Inv C S (c.pat.mk' d) a w → c.C d = some y → Finds P b cs fin y C a w z0) : HandCut P fd fin c := by
  intro C hC S a w z b cs y d hm I hy
  have := occFind_of (nodupN_iff.1 hids) hm
  rw [hz] at this
  cases this
  exact h C hC S a w b cs y d I hy
theorem cuts_soundH (hm : P.follows .mixedOrders = true) {fd : Func} (hids : nodupN (occIds (occsK (bodyOf fd))) = true) {R : Type} {fin : X → Option R} {E : Nat → Env} {cuts : Nat → List (Cut R)} {K : Nat} (hE : ∀ k, k ≤ K → EnvOk P (E k))
    (h0 : AllC (fun c => (∀ d, c.C d = none) ∨ HandCut P fd fin c) (cuts 0)) (hs : ∀ k, AllC (fun c => (∀ d, c.C d = runX (E k) [] fin (cuts k) (todoAt c.id (bodyOf fd)) true (c.pat.mk' d)) ∨ HandCut P fd fin c) (cuts (k + 1))) {C : Ctx} (hfx : ∀ o, ¬ C.fx o) {b : Frame} {cs : List Frame} {y : R} :
    ∀ k, k ≤ K → ∀ id x S a w z, jump [] (cuts k) id x = some y → (id, z) ∈ occsK (bodyOf fd) → Inv C S x a w → Finds P b cs fin y C a w z := by
  intro k
  induction k with
  | zero =>
    intro _ id x S a w z hj hz I
    obtain ⟨c, hc, hid, hlen, d, M, hget, h⟩ := jump_some hj
    obtain ⟨S', I'⟩ := jump_sound hget hlen I (fun o h => absurd h (hfx o))
    rcases h0.mem c hc with h1 | h1
    · rw [h1 d] at h
      cases h
    · exact h1 C hfx S' a w z b cs y d (by rw [hid]; exact hz) I' h
  | succ k ih =>
    intro hk id x S a w z hj hz I
    obtain ⟨c, hc, hid, hlen, d, M, hget, h⟩ := jump_some hj
    obtain ⟨S', I'⟩ := jump_sound hget hlen I (fun o h => absurd h (hfx o))
    rcases (hs k).mem c hc with h1 | h1
    · rw [h1 d] at h
      have htodo : todoAt c.id (bodyOf fd) = some z := by rw [hid]; exact occFind_of (nodupN_iff.1 hids) hz
      rw [htodo] at h
      have hsub : ∀ q ∈ occsK z, q ∈ occsK (bodyOf fd) := occsK_sub hz
      exact exec_sound (hE k (by omega)) hm (all := occsK (bodyOf fd)) (J := jump [] (cuts k)) (ih (by omega)) 4000 true z hsub I' h
    · exact h1 C hfx S' a w z b cs y d (by rw [hid]; exact hz) I' h
theorem fn_soundH (hm : P.follows .mixedOrders = true) {id : Nat} {fd : Func} {tup : Bool} {ps : Ty} {rs : Rt} {n m : Nat} (hi : FnInfo P id fd tup ps rs n) {so : List So} {T : Tab} {al : List (Nat × List Nat)} {Γ : Nat → List Fn} {G : Nat → List Fg} {cuts : Nat → List (Cut rs.D)} (hE : ∀ k, EnvOk P ⟨T, Γ k, al, G k, so⟩)
    (h0 : AllC (fun c => (∀ d, c.C d = none) ∨ HandCut P fd (finish T fd tup rs) c) (cuts 0)) (hs : ∀ k, AllC (fun c => (∀ d, c.C d = runF ⟨T, Γ k, al, G k, so⟩ fd tup rs (cuts k) (todoAt c.id (bodyOf fd)) true (c.pat.mk' d)) ∨ HandCut P fd (finish T fd tup rs) c) (cuts (k + 1)))
    {F : Nat → ps.D → Option rs.D} (hF : ∀ k d, F k d = runF ⟨T, Γ k, al, G k, so⟩ fd tup rs (cuts k) (some (bodyOf fd)) false (start ps n m d)) (k : Nat) : FnOk P ⟨id, ps, tup, rs, F k⟩ := by
  intro ok w a vs y hok hargs hFa
  obtain ⟨hf, hname, hb, hids, htm, hlen, hch, hone⟩ := hi
  obtain ⟨c, hb⟩ := Option.isSome_iff_exists.1 hb
  refine ⟨⟨fd, c, hf, hname, hb⟩, fun cs => ?_⟩
  have hbody : bodyOf fd = [.code c] := by simp [bodyOf, hb]
  let b : Frame := { (default : Frame) with fn := id, kind := .normal }
  let a0 : Act := { tmps := vs.toArray ++ Array.replicate (fd.ntmps - vs.toArray.size) undef, defers := [] }
  have henter : Frame.enter P id vs.toArray .normal = b.at a0 [.code c] := by
    simp [Frame.enter, Frame.at, hf, hb, b, a0]
  let S : Side := ⟨ok, fun _ => (none, 0), fun _ => []⟩
  have hx : F k a = runF ⟨T, Γ k, al, G k, so⟩ fd tup rs (cuts k) (some (bodyOf fd)) false (start ps n m a) := hF k a
  have hvl : vs.length = ps.plen := args_len hargs
  have no : ∀ o c', (getO (start ps n m a).ob o).c = some c' → False := fun o c' h => by
    have : (getO (List.replicate m (⟨0, 0, none⟩ : Obe)) o).c = some c' := h
    rw [getO_rep] at this
    cases this
  let C : Ctx := ⟨w, fun _ => False, fun _ => False, fun _ => (none, 0), fun _ => none, ok⟩
  have I : Inv C S (start ps n m a) a0 w := by
    refine ⟨rfl, ?_, ?_, fun o c' h => (no o c' h).elim, fun o o' c' c'' _ h => (no o c' h).elim, fun b hb => ⟨hok b hb, .inl hb⟩, ⟨rfl, Ahead.refl _, rfl, Nat.le_refl _, fun _ _ _ => rfl⟩, fun o c h => h.elim⟩
    · show a0.tmps.size = (startSlots ps a (List.replicate n none) 0).length
      rw [startSlots_len]
      simp [a0]
      omega
    · intro t v ht
      have := startSlots_sound (S := S) (ob := (start ps n m a).ob) (w := w) (pre := []) (z := List.replicate n none) (rest := List.replicate (fd.ntmps - vs.length) undef) hargs (fun t v ht => by rw [getL_rep] at ht; cases ht) t v ht
      obtain ⟨u, hu, hv⟩ := this
      refine ⟨u, ?_, hv⟩
      have e : a0.tmps.toList = vs ++ List.replicate (fd.ntmps - vs.length) undef := by simp [a0]
      rw [← Array.getElem?_toList, e]
      simpa using hu
  have hFa' : F k a = some y := hFa
  rw [hx] at hFa'
  have hfinds : Finds P b cs (finish T fd tup rs) y C a0 w (bodyOf fd) :=
    exec_sound (hE k) hm (all := occsK (bodyOf fd)) (J := jump [] (cuts k)) (cuts_soundH hm hids (E := fun k => ⟨T, Γ k, al, G k, so⟩) (fin := finish T fd tup rs) (fun k _ => hE k) h0 hs (C := C) (fun o h => h) k (Nat.le_refl k)) 4000 false (bodyOf fd) (fun q hq => hq) I hFa'
  obtain ⟨a', w', todo, S', x', hst, I', hfin⟩ := hfinds
  have hch' : tup = true → rs.chain = true := fun e => by subst e; simpa using hch
  have hone' : tup = true → fd.results.size ≠ 1 := fun e h1 => by
    subst e
    rw [h1] at hone
    cases hone
  obtain ⟨v, l, r1, r2, r3, r4⟩ := finish_sound I' (hE k).tab hch' hone' hfin
  rw [hbody, ← henter] at hst
  refine ⟨.returned v, w', _, ⟨⟨I'.kept.os, I'.kept.tape, I'.kept.output, I'.kept.size, fun b hb => I'.kept.block b hb (fun h => h)⟩, S'.ok, l.flatMap S'.fp, r2, fps_nodup I' r3 r4, fun b hb => ?_, fun b hb => ?_⟩, hst, rfl, rfl, I'.dfr, rfl, fd, hf, r1⟩
  · obtain ⟨o, ho, hb⟩ := List.mem_flatMap.1 hb
    obtain ⟨_, c', hc', hrv⟩ := r3 o ho
    obtain ⟨q1, q2, q3⟩ := (I'.objs o c' hc').2.2 b hb
    rcases q3 with q3 | q3 | q3
    · exact ⟨q3, q2, q1⟩
    · exact q3.elim
    · rw [hrv] at q3; cases q3
  · obtain ⟨q1, q2⟩ := I'.okn b hb
    rcases q2 with q2 | q2 | q2
    · exact ⟨q1, .inl q2⟩
    · exact ⟨q1, .inr q2⟩
    · exact q2.elim
end
end Go.Vm
set_option linter.unusedVariables false
set_option linter.unusedSimpArgs false
namespace Go.Vm
open Go Go.RowKit
def zBody : List Item → Code
  | [_, .code (.block _ (.rangeFunc _ _ _ b)), _] => b
  | _ => .skip
def zTail : List Item → Array Oper
  | [_, _, .code (.seq (.region _ ops _) _)] => ops
  | _ => #[]
def isNone {α : Type} : Option α → Bool
  | none => true
  | some _ => false
theorem isNone_eq {α : Type} {o : Option α} (h : isNone o = true) : o = none := by cases o with
  | none => rfl
  | some _ => cases h
def dstIs (o : Oper) (d : Nat) : Bool := match o.dst with
  | some e => Nat.beq e d
  | none => false
theorem dstIs_eq {o : Oper} {d : Nat} (h : dstIs o d = true) : o.dst = some d := by
  unfold dstIs at h
  split at h
  · rename_i e he
    rw [he, Nat.eq_of_beq_eq_true h]
  · cases h
def assignIs (o : Oper) (t : Nat) : Bool := match o.op with
  | .assign (.tmp t') => Nat.beq t' t
  | _ => false
theorem assignIs_eq {o : Oper} {t : Nat} (h : assignIs o t = true) : o.op = .assign (.tmp t) := by
  unfold assignIs at h
  split at h
  · rename_i e he
    rw [he, Nat.eq_of_beq_eq_true h]
  · cases h
def moveIs (o : Oper) (t : Nat) : Bool := match o.op with
  | .move (.tmp t') => Nat.beq t' t
  | _ => false
theorem moveIs_eq {o : Oper} {t : Nat} (h : moveIs o t = true) : o.op = .move (.tmp t) := by
  unfold moveIs at h
  split at h
  · rename_i e he
    rw [he, Nat.eq_of_beq_eq_true h]
  · cases h
def callIs (o : Oper) (bf t : Nat) : Bool := match o.op with
  | .call ⟨.value (.func f), ⟨[.tmp t']⟩, _⟩ => Nat.beq f bf && Nat.beq t' t
  | _ => false
theorem callIs_eq {o : Oper} {bf t : Nat} (h : callIs o bf t = true) : ∃ ats, o.op = .call ⟨.value (.func bf), #[.tmp t], ats⟩ := by
  unfold callIs at h
  split at h
  · rename_i f t' ats he
    simp only [Bool.and_eq_true] at h
    exact ⟨ats, by rw [he, Nat.eq_of_beq_eq_true h.1, Nat.eq_of_beq_eq_true h.2]⟩
  · cases h
structure Rz where
  bf : Nat
  gf : Nat
  t0 : Nat
  t1 : Nat
  gt : Nat
def zB (z : List Item) (g : Rg) (q : Rz) : Bool := match z with
  | [.code (.region _ ⟨[a, b]⟩ false), .code (.block _ (.rangeFunc (.tmp gt) ⟨[p0, p1]⟩ (.region _ ⟨[oa]⟩ false) body)), .code (.seq (.region _ opsT false) .ret)] =>
    (moveIs a q.t0 && dstIs a q.t1 && isNone a.guard) && (callIs b q.bf q.t1 && dstIs b q.gt && isNone b.guard) && (assignIs oa g.p1 && dstIs oa g.p2 && isNone oa.guard) &&
      (Nat.beq gt q.gt && Nat.beq p0 g.p0 && Nat.beq p1 g.p1) && opsT.toList.all Oper.calm && nodupN (occIds (occsK [.code body])) && calmK [.code body] && g.okB &&
      (!memN (g.pat.sl.map (·.1)) q.t0 && !memN (g.pat.sl.map (·.1)) q.t1 && !memN (g.pat.sl.map (·.1)) q.gt) && (Nat.blt q.t0 g.pat.n && Nat.blt q.t1 g.pat.n && Nat.blt q.gt g.pat.n)
  | _ => false
theorem memN_false {l : List Nat} {n : Nat} (h : (!memN l n) = true) : n ∉ l := fun hm => by
  rw [memN_iff.2 hm] at h
  cases h
section
variable {P : Program}
theorem rangeHand (hm : P.follows .mixedOrders = true) {g : Rg} {q : Rz} {fd : Func} (hidsF : nodupN (occIds (occsK (bodyOf fd))) = true) {R : Type} {fin : X → Option R} {c : Cut R} {z : List Item} (hz : occFind c.id (occsK (bodyOf fd)) = some z) (hzB : zB z g q = true)
    {E : Nat → Env} {cuts : Nat → List (Cut (objsTy g.pat.ob).D)} {N : Nat} (hE : ∀ k, k ≤ N → EnvOk P (E k))
    (h0 : AllC (fun c => ∀ d, c.C d = none) (cuts 0)) (hs : ∀ k, AllC (fun q => ∀ d, q.C d = runX (E k) g.fx g.fin (cuts k) (occFind q.id (occsK [.code (zBody z)])) true (q.pat.mk' d)) (cuts (k + 1)))
    {rf : (objsTy g.pat.ob).D → Int → Int → Option (objsTy g.pat.ob).D} {s : (slotsTy g.pat.sl).D} (hrf : ∀ d i v, rf d i v = runX (E N) g.fx g.fin (cuts N) (some [.code (zBody z)]) false (g.start s d i v))
    (hback : BackOk P q.bf q.gf) (hit : IterOk P q.gf) (hgf : ∃ fn c, P.funcs[q.gf]? = some fn ∧ fn.name ≠ "runtime.NumGoroutine" ∧ fn.body = some c)
    {ET : Env} (hET : EnvOk P ET) {zs : c.pat.ty.D → List Int} {d0 : c.pat.ty.D → (objsTy g.pat.ob).D} (hpat : ∀ d, c.pat.mk' d = ⟨(g.pat.mk' (s, d0 d)).sl.set q.t0 (some (.va (.sl (.int .i64)) (zs d))), (g.pat.mk' (s, d0 d)).ob⟩)
    (hC : ∀ d, c.C d = cond (Nat.ble (zs d).length 1073741824) ((rst rf (zs d) (zs d).length (d0 d)).bind fun dE => regRun ET (zTail z) false (g.pat.mk' (s, dE)) fin) none) : HandCut P fd fin c := by
  refine handCut_of hidsF hz fun C hCx S a w b cs y d I h => ?_
  rw [hC] at h
  rw [hpat] at I
  unfold zB at hzB
  split at hzB
  rotate_left
  · cases hzB
  rename_i i9 a9 b9 ib gt p0 p1 ia oa body it opsT
  simp only [Bool.and_eq_true] at hzB
  obtain ⟨⟨⟨⟨⟨⟨⟨⟨⟨⟨⟨a1, a2⟩, a3⟩, ⟨b1, b2⟩, b3⟩, ⟨c1, c2⟩, c3⟩, ⟨e1, e2⟩, e3⟩, k1⟩, k2⟩, k3⟩, k4⟩, ⟨m0, m1⟩, m2⟩, ⟨n0, n1⟩, n2⟩ := hzB
  obtain ⟨ats, b1⟩ := callIs_eq b1
  have e1 := Nat.eq_of_beq_eq_true e1
  have e2 := Nat.eq_of_beq_eq_true e2
  have e3 := Nat.eq_of_beq_eq_true e3
  subst e1 e2 e3
  exact rangeCut hm (Rg.ok_of k4) (assignIs_eq c1) (dstIs_eq c2) (isNone_eq c3) k2 k3 hE h0 hs hrf ⟨moveIs_eq a1, dstIs_eq a2, isNone_eq a3⟩ ⟨b1, dstIs_eq b2, isNone_eq b3⟩ hback hit hgf
    ⟨memN_false m1, memN_false m2, memN_false m0⟩ ⟨by simpa using n0, by simpa using n1, by simpa using n2⟩ hET k1 hCx I h
end
end Go.Vm
