/- Chapter 02: the program's rounds for the immediate dominators, and the law GraphDominators. -/
import Derived.Test.YtebekmcoeacdeaaG02s
set_option linter.unusedVariables false
set_option linter.unusedSimpArgs false
namespace Go.Proofs.YtebekmcoeacdeaaV
open Go Go.Vm

/-- what is left to come down -/
noncomputable def meas (g : Graph) (pl O : Nat → Nat) (P : Nat → Prop) : Nat := sumN (fun v => bif dec (P v) then pl (O v) else gN g + 1) (gN g)

/-- all that the rounds rest on -/
structure SET (g : Graph) (s : Nat) (L : List Int) (pl f : Nat → Nat) (PF : Nat → Int) : Prop where
  hs : s < gN g
  hn : gN g ≤ 1000
  D : DG (AJ g) (REA g s) s pl f
  nd : L.Nodup
  mem : ∀ v : Nat, (v : Int) ∈ L ↔ REA g s v
  node : ∀ x ∈ L, ∃ v : Nat, x = (v : Int) ∧ v < gN g
  first : rd L 0 = (s : Int)
  pos : 0 < L.length
  place : ∀ i : Nat, i < L.length → ∀ v : Nat, rd L (i : Int) = (v : Int) → pl v = i
  hPF : ∀ v, REA g s v → PF v = (pl v : Int)

section
variable {g : Graph} {s : Nat} {L : List Int} {pl f : Nat → Nat} {PF : Nat → Int}
theorem SET.len (S : SET g s L pl f PF) : L.length ≤ gN g := (pigeon _ _ S.nd fun x hx => by
  obtain ⟨v, rfl, hv⟩ := S.node x hx
  omega).1
theorem SET.at (S : SET g s L pl f PF) {v : Nat} (h : REA g s v) : pl v < L.length ∧ rd L (pl v : Int) = (v : Int) := by
  obtain ⟨i, hi, e⟩ := mem_rd ((S.mem v).2 h)
  have := S.place i hi v e
  rw [this]
  exact ⟨hi, e⟩
theorem SET.root (S : SET g s L pl f PF) : pl s = 0 := S.place 0 S.pos s S.first

/-- the predecessors of one node, met one after the other -/
theorem preds_ev (S : SET g s L pl f PF) {O : Nat → Nat} {P : Nat → Prop} {cur : Nat} (C : CK (AJ g) (REA g s) s pl f O P cur) {v : Nat} (hv : v < gN g) (ch : Bool) (xs : List Int) (i : Nat) {Q : List Int → Prop}
    (fin : ∀ z : Int, ((z = -1 ∧ ∀ p, P p → AJ g p v → False) ∨ ∃ c : Nat, z = (c : Int) ∧ P c ∧ MEET (AJ g) O P v c) →
      W (fun k => graph_Dominators.c35 k (s : Int) (NEXT (TURN g)) ch (v : Int) z xs (xs.length : Int) (i : Int) (succs (TURN g) v) ((succs (TURN g) v).length : Int) ((succs (TURN g) v).length : Int) L (RCH g (-1) (s : Int)) (tb (gN g) (OL O P)) (tb (gN g) PF)) Q) :
    W (fun k => graph_Dominators.c35 k (s : Int) (NEXT (TURN g)) ch (v : Int) (-1) xs (xs.length : Int) (i : Int) (succs (TURN g) v) ((succs (TURN g) v).length : Int) 0 L (RCH g (-1) (s : Int)) (tb (gN g) (OL O P)) (tb (gN g) PF)) Q := by
  have hs := S.hs
  have hsl : (succs (TURN g) v).length ≤ gN g := by have := succs_len (TURN g) v; rwa [TURN_gN] at this
  have hn := S.hn
  have loop : ∀ (e j : Nat), j + e = (succs (TURN g) v).length → ∀ z : Int, ((z = -1 ∧ ∀ p : Nat, (p : Int) ∈ (succs (TURN g) v).take j → ¬ P p) ∨ ∃ c : Nat, z = (c : Int) ∧ P c ∧ ∀ x, AN O c x ↔ ∀ p : Nat, P p → (p : Int) ∈ (succs (TURN g) v).take j → AN O p x) →
      W (fun k => graph_Dominators.c35 k (s : Int) (NEXT (TURN g)) ch (v : Int) z xs (xs.length : Int) (i : Int) (succs (TURN g) v) ((succs (TURN g) v).length : Int) (j : Int) L (RCH g (-1) (s : Int)) (tb (gN g) (OL O P)) (tb (gN g) PF)) Q := by
    intro e
    induction e with
    | zero =>
      intro j hj z hz
      rw [show j = (succs (TURN g) v).length by omega] at hz ⊢
      rw [List.take_length] at hz
      have hmem : ∀ p : Nat, (p : Int) ∈ succs (TURN g) v ↔ AJ g p v := fun p => by
        rw [mem_succs]
        exact ⟨fun ⟨b, e, h⟩ => by rw [TURN_adj] at h; rwa [show p = b by omega], fun h => ⟨p, rfl, by rw [TURN_adj]; exact h⟩⟩
      refine fin z ?_
      rcases hz with ⟨h1, h2⟩ | ⟨c, h1, h2, h3⟩
      · exact .inl ⟨h1, fun p hp hr => h2 p ((hmem p).2 hr) hp⟩
      · exact .inr ⟨c, h1, h2, fun x => (h3 x).trans ⟨fun h p hp hr => h p hp ((hmem p).2 hr), fun h p hp hr => h p hp ((hmem p).1 hr)⟩⟩
    | succ e ih =>
      intro j hj z hz
      have hjl : j < (succs (TURN g) v).length := by omega
      obtain ⟨p, hp, hap, hpn⟩ := succs_rd (g := TURN g) (a := v) hjl
      rw [TURN_gN] at hpn
      have htk : ∀ q : Nat, (q : Int) ∈ (succs (TURN g) v).take (j + 1) ↔ (q : Int) ∈ (succs (TURN g) v).take j ∨ p = q := fun q => succs_mem_take hjl hp q
      have keep : ¬ P p → W (fun k => graph_Dominators.c35 k (s : Int) (NEXT (TURN g)) ch (v : Int) z xs (xs.length : Int) (i : Int) (succs (TURN g) v) ((succs (TURN g) v).length : Int) ((j : Int) + 1) L (RCH g (-1) (s : Int)) (tb (gN g) (OL O P)) (tb (gN g) PF)) Q := fun hnp => by
        refine ih (j + 1) (by omega) z ?_
        rcases hz with ⟨h1, h2⟩ | ⟨c, h1, h2, h3⟩
        · refine .inl ⟨h1, fun q hq => ?_⟩
          rcases (htk q).1 hq with h4 | rfl
          · exact h2 q h4
          · exact hnp
        · refine .inr ⟨c, h1, h2, fun x => (h3 x).trans ⟨fun h q hq hm => ?_, fun h q hq hm => h q hq ((htk q).2 (.inl hm))⟩⟩
          rcases (htk q).1 hm with h4 | rfl
          · exact h q hq h4
          · exact absurd hq hnp
      refine .succ ?_
      simp (disch := first | omega | (rw [RCH_len]; omega) | (rw [tb_len]; omega)) only [graph_Dominators.c35, ↓cdT, hp, ↓if_pos, RCH_rd hpn, tb_rd hpn, w64_id]
      refine .cond (fun h1 => keep fun hP => ?_) fun h1 => ?_
      · rw [Bool.not_eq_true', dec_false, RR_REA hs] at h1
        exact h1 (C.pr p hP)
      · refine .dec (fun h2 => keep (OL_pos.1 h2)) fun h2 => ?_
        have hP : P p := Classical.byContradiction fun hn => h2 (OL_pos.2 hn)
        rcases hz with ⟨h3, h4⟩ | ⟨c, h3, h4, h5⟩
        · simp (disch := omega) only [↓cdT]
          refine ih (j + 1) (by omega) (p : Int) (.inr ⟨p, rfl, hP, fun x => ⟨fun h q hq hm => ?_, fun h => h p hP ((htk p).2 (.inr rfl))⟩⟩)
          rcases (htk q).1 hm with h6 | rfl
          · exact absurd hq (h4 q h6)
          · exact h
        · subst h3
          simp (disch := omega) only [↓cdF]
          refine .bind (meet_ev hs S.D C S.hPF h4 hP) fun r hr => ?_
          obtain ⟨c', h6, h7, h8⟩ := hr
          rw [h6]
          refine ih (j + 1) (by omega) (c' : Int) (.inr ⟨c', rfl, h7, fun x => ?_⟩)
          rw [h8, h5]
          constructor
          · rintro ⟨k1, k2⟩ q hq hm
            rcases (htk q).1 hm with h9 | rfl
            · exact k1 q hq h9
            · exact k2
          · intro h
            exact ⟨fun q hq hm => h q hq ((htk q).2 (.inl hm)), h p hP ((htk p).2 (.inr rfl))⟩
  exact loop (succs (TURN g) v).length 0 (by omega) (-1) (.inl ⟨rfl, fun p hp => by simp at hp⟩)

def DANS (g : Graph) (s : Nat) (r : List Int) : Prop := ∀ F' : Nat → Int, (∀ v, v < gN g → IDOM g (s : Int) v (F' v)) → r = tb (gN g) F'

theorem upd_same {O : Nat → Nat} {y : Nat} : upd O y (O y) = O := by
  funext u
  by_cases e : u = y
  · subst e; exact upd_eq ..
  · exact upd_ne e
theorem OL_upd {O : Nat → Nat} {P : Nat → Prop} {y d : Nat} (n : Nat) : (tb n fun u => if u = y then (d : Int) else OL O P u) = tb n (OL (upd O y d) (fun v => P v ∨ v = y)) := tb_congr fun c _ => by
  by_cases e : c = y
  · subst e
    rw [if_pos rfl, OL_p (.inr rfl), upd_eq]
  · rw [if_neg e]
    by_cases h : P c
    · rw [OL_p h, OL_p (.inl h), upd_ne e]
    · rw [OL_n h, OL_n (fun h2 => h2.elim h e)]

theorem meas_lt {O : Nat → Nat} {P : Nat → Prop} {v c : Nat} (hv : v < gN g) (hc : pl c < gN g + 1) (h : P v → pl c < pl (O v)) : meas g pl (upd O v c) (fun u => P u ∨ u = v) < meas g pl O P := by
  refine sumN_lt (v := v) (fun u hu => ?_) hv ?_
  · by_cases e : u = v
    · subst e
      show (bif dec (P u ∨ u = u) then pl (upd O u c u) else gN g + 1) ≤ (bif dec (P u) then pl (O u) else gN g + 1)
      rw [dec_true (.inr rfl), cond_true, upd_eq]
      by_cases hp : P u
      · rw [dec_true hp, cond_true]; exact Nat.le_of_lt (h hp)
      · rw [dec_false.2 hp, cond_false]; omega
    · show (bif dec (P u ∨ u = v) then pl (upd O v c u) else gN g + 1) ≤ (bif dec (P u) then pl (O u) else gN g + 1)
      rw [dec_congr (show (P u ∨ u = v) ↔ P u from ⟨fun h => h.resolve_right e, .inl⟩), upd_ne e]
      exact Nat.le_refl _
  · show (bif dec (P v ∨ v = v) then pl (upd O v c v) else gN g + 1) < (bif dec (P v) then pl (O v) else gN g + 1)
    rw [dec_true (.inr rfl), cond_true, upd_eq]
    by_cases hp : P v
    · rw [dec_true hp, cond_true]; exact h hp
    · rw [dec_false.2 hp, cond_false]; exact hc

theorem round_ev (S : SET g s L pl f PF) (m : Nat) (ih : ∀ m', m' < m → ∀ (O : Nat → Nat) (P : Nat → Prop), meas g pl O P ≤ m' → CK (AJ g) (REA g s) s pl f O P 1 →
    W (fun k => graph_Dominators.c28 k (s : Int) (NEXT (TURN g)) true L (RCH g (-1) (s : Int)) (tb (gN g) (OL O P)) (tb (gN g) PF)) (DANS g s)) (O0 : Nat → Nat) (P0 : Nat → Prop) (hm : meas g pl O0 P0 ≤ m) (C0 : CK (AJ g) (REA g s) s pl f O0 P0 1) :
    W (fun k => graph_Dominators.c28 k (s : Int) (NEXT (TURN g)) true L (RCH g (-1) (s : Int)) (tb (gN g) (OL O0 P0)) (tb (gN g) PF)) (DANS g s) := by
  have hs := S.hs
  have hn := S.hn
  have hll := S.len
  have hpos := S.pos
  have hdl : (List.drop 1 L).length = L.length - 1 := by simp
  have hdr : ∀ i : Nat, i + 1 < L.length → rd (List.drop 1 L) (i : Int) = rd L ((i + 1 : Nat) : Int) := fun i hi => by
    rw [rd_eq (by rw [hdl]; omega), rd_eq hi, List.getElem_drop]
    congr 1; omega
  have loop : ∀ (e i : Nat), i + e = (List.drop 1 L).length → ∀ (O : Nat → Nat) (P : Nat → Prop) (ch : Bool), CK (AJ g) (REA g s) s pl f O P (i + 1) → (∀ v, REA g s v → pl v < i + 1 → P v) → meas g pl O P ≤ meas g pl O0 P0 →
      (ch = true → meas g pl O P < meas g pl O0 P0) → (ch = false → ∀ v, REA g s v → v ≠ s → pl v < i + 1 → MEET (AJ g) O P v (O v)) →
      W (fun k => graph_Dominators.c31 k (s : Int) (NEXT (TURN g)) ch (List.drop 1 L) ((List.drop 1 L).length : Int) (i : Int) L (RCH g (-1) (s : Int)) (tb (gN g) (OL O P)) (tb (gN g) PF)) (DANS g s) := by
    intro e
    induction e with
    | zero =>
      intro i hi O P ch C hall hle hlt hmeet
      have hall' : ∀ v, REA g s v → P v := fun v hv => hall v hv (by have := (S.at hv).1; omega)
      refine .succ ?_
      simp (disch := omega) only [graph_Dominators.c31, ↓cdF]
      cases ch with
      | true =>
        have h1 := hlt rfl
        exact ih (m - 1) (by omega) O P (by omega) (C.again fun v hv => by have := (S.at (C.pr v hv)).1; omega)
      | false =>
        refine .succ ?_
        simp (disch := first | omega | (rw [tb_len]; omega)) only [graph_Dominators.c28, cond_false, ↓if_pos, Int.toNat_natCast, tb_set]
        refine .ret fun F' hF' => tb_congr fun v hv => ?_
        have hm' : ∀ v, REA g s v → v ≠ s → MEET (AJ g) O P v (O v) := fun v hv hvs => hmeet rfl v hv hvs (by have := (S.at hv).1; omega)
        exact IDOM_unique hs S.D C hall' hm' (IDOM_prog hs S.D C hall' hm' v) (hF' v hv)
    | succ e ihe =>
      intro i hi O P ch C hall hle hlt hmeet
      have hi1 : i + 1 < L.length := by omega
      obtain ⟨v, hv, hvn⟩ := S.node _ (rd_mem (xs := L) (i := ((i + 1 : Nat) : Int)) (by omega) (by omega))
      have hRv : REA g s v := (S.mem v).1 (by rw [← hv]; exact rd_mem (by omega) (by omega))
      have hpv : pl v = i + 1 := S.place (i + 1) hi1 v hv
      have hvs : v ≠ s := fun e => by rw [e, S.root] at hpv; omega
      obtain ⟨f1, f2, f3⟩ := S.D.fwd v hRv hvs
      have hPf : P (f v) := hall _ f1 (by omega)
      have hsv : rd (NEXT (TURN g)) (v : Int) = succs (TURN g) v := NEXT_rd (by rw [TURN_gN]; exact hvn)
      have hrv : rd (List.drop 1 L) (i : Int) = (v : Int) := by rw [hdr i hi1]; exact hv
      refine .succ ?_
      simp (disch := first | omega | (rw [NEXT_len, TURN_gN]; omega)) only [graph_Dominators.c31, ↓cdT, hrv, ↓if_pos, hsv]
      refine preds_ev S C hvn ch (List.drop 1 L) i fun z hz => ?_
      rcases hz with ⟨_, hno⟩ | ⟨c, rfl, hPc, hM⟩
      · exact (hno (f v) hPf f2).elim
      have hlc : pl c < L.length := (S.at (C.pr c hPc)).1
      obtain ⟨C', hsh⟩ := C.step S.D hRv hvs hpv hPf hM
      refine .succ ?_
      simp (disch := first | omega | (rw [tb_len]; omega)) only [graph_Dominators.c35, ↓cdF, ↓if_pos, tb_rd hvn, w64_id, Int.toNat_natCast, tb_set, OL_upd]
      have hall2 : ∀ u, REA g s u → pl u < i + 1 + 1 → (P u ∨ u = v) := fun u hu hlt2 => by
        by_cases e : pl u = i + 1
        · exact .inr (S.D.inj u v hu hRv (by omega))
        · exact .inl (hall u hu (by omega))
      by_cases hch : OL O P v = (c : Int)
      · have hPv : P v := Classical.byContradiction fun h => by rw [OL_n h] at hch; omega
        have hOv : O v = c := by rw [OL_p hPv] at hch; omega
        simp (disch := first | omega | exact hch) only [↓cnF]
        have eP : (fun u => P u ∨ u = v) = P := by
          funext u
          exact propext ⟨fun h => h.elim id fun e => e ▸ hPv, .inl⟩
        rw [← hOv, upd_same, eP] at C'
        refine ihe (i + 1) (by omega) O P ch C' (fun u hu h2 => (hall2 u hu h2).elim id fun e => e ▸ hPv) hle hlt fun h u hu hus h2 => ?_
        by_cases e : pl u = i + 1
        · have : u = v := S.D.inj u v hu hRv (by omega)
          rw [this, hOv]; exact hM
        · exact hmeet h u hu hus (by omega)
      · simp (disch := first | omega | exact hch) only [↓cnT]
        have hml : meas g pl (upd O v c) (fun u => P u ∨ u = v) < meas g pl O P := meas_lt hvn (by omega) fun hPv => by
          have h1 := C.tr.an (C.tr.dn v hPv hvs).1 (hsh hPv)
          rcases h1.2.2 with h2 | h2
          · rw [OL_p hPv] at hch; exact absurd (by rw [h2]) hch
          · exact h2
        exact ihe (i + 1) (by omega) (upd O v c) (fun u => P u ∨ u = v) true C' hall2 (by omega) (fun _ => by omega) (fun h => by cases h)
  refine .succ ?_
  have e1 : (1 : Int).toNat = 1 := rfl
  simp (disch := omega) only [graph_Dominators.c28, cond_true, ↓if_pos, e1]
  refine loop (List.drop 1 L).length 0 (by omega) O0 P0 false C0 (fun v hv h => ?_) (Nat.le_refl _) (fun h => by cases h) (fun _ v hv hvs h => ?_)
  · have h1 := (S.at hv).2
    rw [show pl v = 0 by omega] at h1
    have h2 := S.first
    have : v = s := by
      have h1' : rd L 0 = (v : Int) := h1
      omega
    rw [this]; exact C0.tr.p0
  · have h1 := (S.at hv).2
    rw [show pl v = 0 by omega] at h1
    have h2 := S.first
    have h1' : rd L 0 = (v : Int) := h1
    exact absurd (by omega) hvs
theorem rounds_ev (S : SET g s L pl f PF) (O : Nat → Nat) (P : Nat → Prop) (C : CK (AJ g) (REA g s) s pl f O P 1) :
    W (fun k => graph_Dominators.c28 k (s : Int) (NEXT (TURN g)) true L (RCH g (-1) (s : Int)) (tb (gN g) (OL O P)) (tb (gN g) PF)) (DANS g s) := by
  have key : ∀ m (O : Nat → Nat) (P : Nat → Prop), meas g pl O P ≤ m → CK (AJ g) (REA g s) s pl f O P 1 → W (fun k => graph_Dominators.c28 k (s : Int) (NEXT (TURN g)) true L (RCH g (-1) (s : Int)) (tb (gN g) (OL O P)) (tb (gN g) PF)) (DANS g s) := by
    intro m
    induction m using Nat.strongRecOn with
    | _ m ih => exact fun O P hm C => round_ev S m ih O P hm C
  exact key _ O P (Nat.le_refl _) C
end
end Go.Proofs.YtebekmcoeacdeaaV
