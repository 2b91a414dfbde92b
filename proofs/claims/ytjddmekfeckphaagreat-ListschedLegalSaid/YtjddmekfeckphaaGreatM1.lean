/- Proofs about the functions, part 2 of 4. -/
import Derived.Test.YtjddmekfeckphaaGreatM0
import Derived.Test.YtjddmekfeckphaaGreatF
set_option linter.unusedVariables false
set_option linter.unusedSimpArgs false
namespace Go.Proofs.YtjddmekfeckphaaGreatV
open Go Go.Vm
theorem mn_l (a b : Int) : mn a b <= a := by unfold mn; split <;> omega
theorem mn_r (a b : Int) : mn a b <= b := by unfold mn; split <;> omega
theorem mn_or (a b : Int) : mn a b = a \/ mn a b = b := by unfold mn; split <;> simp
theorem min_ev (xs : List Int) (h0 : 0 < xs.length) (hl : xs.length <= 1000000) : W (fun k => slices_Min_int_int.f k xs) (fun r => (∀ i : Nat, i < xs.length -> r <= rd xs (i : Int)) /\ ∃ i : Nat, i < xs.length /\ r = rd xs (i : Int)) := by
 simp (disch := omega) only [slices_Min_int_int.f, ↓cdF]
 refine .succ ?_
 simp (disch := omega) only [slices_Min_int_int.c3, ↓if_pos]
 have loop : ∀ (d i : Nat) (v : Int), i + d = xs.length -> (∀ j : Nat, j < i -> v <= rd xs (j : Int)) -> (∃ j : Nat, j < xs.length /\ v = rd xs (j : Int)) -> W (fun k => slices_Min_int_int.c5 k xs v (i : Int)) (fun r => (∀ i : Nat, i < xs.length -> r <= rd xs (i : Int)) /\ ∃ i : Nat, i < xs.length /\ r = rd xs (i : Int)) := by
  intro d
  induction d with
  | zero =>
    intro i v hi h1 h2
    refine .succ ?_
    simp (disch := omega) only [slices_Min_int_int.c5, ↓cdF]
    exact .ret ⟨fun j hj => h1 j (by omega), h2⟩
  | succ d ih =>
    intro i v hi h1 h2
    refine .succ ?_
    simp (disch := omega) only [slices_Min_int_int.c5, ↓cdT, ↓if_pos, w64_id]
    refine ih (i + 1) _ (by omega) (fun j hj => ?_) ?_
    . by_cases e : j = i
      . subst e; exact mn_r _ _
      . have := h1 j (by omega); have := mn_l v (rd xs (i : Int)); omega
    . rcases mn_or v (rd xs (i : Int)) with e | e
      . rw [e]; exact h2
      . rw [e]; exact ⟨i, by omega, rfl⟩
 exact loop (xs.length - 1) 1 _ (by omega) (fun j hj => by rw [show j = 0 by omega]; exact Int.le_refl _) ⟨0, h0, rfl⟩
def Same (g : Graph) (a b : Nat) : Prop := RT (ADJ g) a b /\ RT (ADJ g) b a
theorem Same.refl {g : Graph} (a : Nat) : Same g a a := ⟨.refl _, .refl _⟩
theorem Same.symm {g : Graph} {a b : Nat} (h : Same g a b) : Same g b a := ⟨h.2, h.1⟩
theorem Same.trans {g : Graph} {a b c : Nat} (h : Same g a b) (k : Same g b c) : Same g a c := ⟨h.1.trans k.1, k.2.trans h.2⟩
theorem cmp_ex (g : Graph) (v : Nat) : ∃ w, Same g v w /\ ∀ u, Same g v u -> w <= u := by
 have key : ∀ n w : Nat, w <= n -> Same g v w -> ∃ w, Same g v w /\ ∀ u, Same g v u -> w <= u := by
  intro n
  induction n with
  | zero => intro w hw h; exact ⟨w, h, fun u _ => by omega⟩
  | succ n ih =>
    intro w hw h
    by_cases e : ∃ u, Same g v u /\ u < w
    . obtain ⟨u, h1, h2⟩ := e
      exact ih u (by omega) h1
    . exact ⟨w, h, fun u hu => by
       rcases Nat.lt_or_ge u w with h2 | h2
       . exact absurd ⟨u, hu, h2⟩ e
       . exact h2⟩
 exact key v v (Nat.le_refl _) (.refl _)
noncomputable def cmp (g : Graph) (v : Nat) : Nat := Classical.choose (cmp_ex g v)
theorem cmp_same (g : Graph) (v : Nat) : Same g v (cmp g v) := (Classical.choose_spec (cmp_ex g v)).1
theorem cmp_le {g : Graph} {v u : Nat} (h : Same g v u) : cmp g v <= u := (Classical.choose_spec (cmp_ex g v)).2 u h
theorem cmp_eq {g : Graph} {v w : Nat} (h : Same g v w) : cmp g v = cmp g w := by
 have h1 := cmp_le (h.trans (cmp_same g w))
 have h2 := cmp_le (h.symm.trans (cmp_same g v))
 omega
theorem cmp_is {g : Graph} {v w : Nat} (h : Same g v w) (hl : ∀ u, Same g v u -> w <= u) : cmp g v = w := by
 have h1 := cmp_le h
 have h2 := hl _ (cmp_same g v)
 omega
noncomputable def COMPS (g : Graph) : List Int := tb (gN g) fun v => (cmp g v : Int)
def PAST (g : Graph) (F : List Int) (j v : Nat) : Prop := ∃ i b : Nat, j <= i /\ i < F.length /\ rd F (i : Int) = (b : Int) /\ Same g v b
noncomputable def NUM (g : Graph) (F : List Int) (j v : Nat) : Int := @ite _ (PAST g F j v) (Classical.propDecidable _) (cmp g v : Int) (-1)
theorem NUM_pos {g : Graph} {F : List Int} {j v : Nat} (h : PAST g F j v) : NUM g F j v = (cmp g v : Int) := by unfold NUM; rw [if_pos h]
theorem NUM_neg {g : Graph} {F : List Int} {j v : Nat} (h : ¬ PAST g F j v) : NUM g F j v = -1 := by unfold NUM; rw [if_neg h]
theorem NUM_iff {g : Graph} {F : List Int} {j v : Nat} : 0 <= NUM g F j v ↔ PAST g F j v := by
 by_cases h : PAST g F j v
 . rw [NUM_pos h]; exact ⟨fun _ => h, fun _ => by omega⟩
 . rw [NUM_neg h]; exact ⟨fun h => by omega, fun h' => absurd h' h⟩
theorem PAST_same {g : Graph} {F : List Int} {j v w : Nat} (h : Same g v w) (hw : PAST g F j w) : PAST g F j v := by
 obtain ⟨i, b, h1, h2, h3, h4⟩ := hw
 exact ⟨i, b, h1, h2, h3, h.trans h4⟩
theorem PAST_at {g : Graph} {F : List Int} {j r : Nat} (hj : j < F.length) (hr : rd F (j : Int) = (r : Int)) (v : Nat) : PAST g F j v ↔ Same g v r \/ PAST g F (j + 1) v := by
 constructor
 . rintro ⟨i, b, h1, h2, h3, h4⟩
   by_cases e : i = j
   . subst e
     rw [show r = b by omega]
     exact .inl h4
   . exact .inr ⟨i, b, by omega, h2, h3, h4⟩
 . rintro (h | ⟨i, b, h1, h2, h3, h4⟩)
   . exact ⟨j, r, Nat.le_refl _, hj, hr, h⟩
   . exact ⟨i, b, by omega, h2, h3, h4⟩
structure CLU (g : Graph) (F : List Int) (j r : Nat) (l : List Int) : Prop where
 nd : l.Nodup
 mem : ∀ x ∈ l, ∃ v : Nat, x = (v : Int) /\ v < gN g /\ ¬ PAST g F (j + 1) v /\ RT (ADJ g) v r
 st : (r : Int) ∈ l
theorem CLU.len {g : Graph} {F : List Int} {j r : Nat} {l : List Int} (h : CLU g F j r l) : l.length <= gN g := (pigeon (gN g) _ h.nd fun x hx => by
 obtain ⟨v, rfl, hv, _⟩ := h.mem x hx
 omega).1
def CSH (g : Graph) (F : List Int) (j : Nat) (l : List Int) (i : Nat) : Prop := ∀ p : Nat, p < i -> p < l.length -> ∀ v w : Nat, rd l (p : Int) = (v : Int) -> adj g w v = true -> (w : Int) ∈ l \/ PAST g F (j + 1) w
theorem CLU.app {g : Graph} {F : List Int} {j r v w : Nat} {l : List Int} (h : CLU g F j r l) (hv : (v : Int) ∈ l) (hw : adj g w v = true) (hp : ¬ PAST g F (j + 1) w) (hn : (w : Int) ∉ l) : CLU g F j r (l ++ [(w : Int)]) := by
 refine ⟨?_, fun x hx => ?_, List.mem_append_left _ h.st⟩
 . rw [List.nodup_append]
   refine ⟨h.nd, by simp, fun a ha b hb e => ?_⟩
   simp at hb
   subst hb; subst e
   exact hn ha
 . rcases List.mem_append.1 hx with hx | hx
   . exact h.mem x hx
   . simp at hx
     obtain ⟨v', e, h1, h2, h3⟩ := h.mem _ hv
     rw [<- show v = v' by omega] at h3
     exact ⟨w, hx, adj_l hw, hp, (RT.one hw).trans h3⟩
theorem CLU.end {g : Graph} {F : List Int} {j r : Nat} {l : List Int} (hF : FINI g F) (h : CLU g F j r l) (hs : CSH g F j l l.length) (hj : j < F.length) (hr : rd F (j : Int) = (r : Int)) (hp : ¬ PAST g F (j + 1) r) (v : Nat) : (v : Int) ∈ l ↔ Same g v r := by
 constructor
 . intro hv
   obtain ⟨v', e, hvn, hvp, h3⟩ := h.mem _ hv
   rw [<- show v = v' by omega] at hvn hvp h3
   refine ⟨h3, kosaraju hF.nd hF.all (fun a b hab => adj_r hab) hF.t2 hj hr hvn h3 fun i hi hil b hb hsame => ?_⟩
   exact hvp ⟨i, b, by omega, hil, hb, hsame⟩
 . have key : ∀ a b, TC (ADJ g) a b -> b = r -> RT (ADJ g) r a -> (a : Int) ∈ l := by
    intro a b hab
    induction hab with
    | @one a b h1 =>
      rintro rfl hra
      obtain ⟨p, hp1, e⟩ := mem_rd h.st
      rcases hs p hp1 hp1 _ _ e h1 with h2 | h2
      . exact h2
      . exact absurd (PAST_same ⟨hra, .one h1⟩ h2) hp
    | @step a b c h1 h2 ih =>
      rintro rfl hra
      obtain ⟨p, hp1, e⟩ := mem_rd (ih rfl (hra.trans (.one h1)))
      rcases hs p hp1 hp1 _ _ e h1 with h3 | h3
      . exact h3
      . exact absurd (PAST_same ⟨hra, .inr (.step h1 h2)⟩ h3) hp
   rintro ⟨h1, h2⟩
   rcases h1 with rfl | h1
   . exact h.st
   . exact key _ _ h1 rfl h2
end Go.Proofs.YtjddmekfeckphaaGreatV
namespace Go.Proofs.YtjddmekfeckphaaGreatV
open Go Go.Vm
theorem FINI.len {g : Graph} {F : List Int} (h : FINI g F) : F.length = gN g := by
 have h1 := (pigeon (gN g) F h.nd fun x hx => by
  obtain ⟨v, rfl, hv⟩ := h.mem x hx
  omega).1
 have h2 := pigeon2 (gN g) F h.nd h.all
 omega
noncomputable def ARR (g : Graph) (F : List Int) (j r : Nat) (l : List Int) (v : Nat) : Int := if (v : Int) ∈ l then (r : Int) else NUM g F (j + 1) v
noncomputable def ARS (g : Graph) (F : List Int) (j r : Nat) (l : List Int) (y : Int) (p : Nat) (v : Nat) : Int := if (v : Int) ∈ l.take p then y else ARR g F j r l v
theorem round_prog (g : Graph) (hn : gN g <= 1000) {F : List Int} (hF : FINI g F) {j r : Nat} (hj : j < F.length) (hr : rd F (j : Int) = (r : Int)) (i : Int) :
 Ev (fun k => graph_Components.b.f k i (r : Int) (r : Int) (NEXT (TURN g)) (tb (gN g) (NUM g F (j + 1)))) (NEXT (TURN g), (), tb (gN g) (NUM g F j), ()) := by
 have hrn : r < gN g := by
  obtain ⟨v, e, hv⟩ := hF.mem _ (hr ▸ rd_mem (xs := F) (i := (j : Int)) (by omega) (by omega))
  omega
 have hT := TURN_gN g
 simp (disch := first | omega | (rw [tb_len]; omega)) only [graph_Components.b.f, ↓if_pos, tb_rd hrn]
 refine .dec (fun h0 => ?_) fun h0 => ?_
 . -- it has a number
   have hp := NUM_iff.1 h0
   refine (Ev.ret _).congr fun k => ?_
   congr 3
   refine Prod.ext (tb_congr fun v hv => ?_) rfl
   by_cases e : PAST g F (j + 1) v
   . rw [NUM_pos e, NUM_pos ((PAST_at hj hr v).2 (.inr e))]
   . rw [NUM_neg e, NUM_neg fun h => e (((PAST_at hj hr v).1 h).elim (fun h => PAST_same h hp) id)]
 . have hp : ¬ PAST g F (j + 1) r := fun h => h0 (NUM_iff.2 h)
   simp only [Int.toNat_natCast, tb_set]
   refine W.ev ?_
   -- the search
   have last : ∀ l : List Int, CLU g F j r l -> CSH g F j l l.length ->
    W (fun k => graph_Components.b.c15 k (r : Int) (l.length : Int) (NEXT (TURN g)) (tb (gN g) (ARR g F j r l)) l) (fun z => z = (NEXT (TURN g), (), tb (gN g) (NUM g F j), ())) := by
    intro l hc hs
    have hlen := hc.len
    have hpos : 0 < l.length := List.length_pos_of_mem hc.st
    have hend := hc.end hF hs hj hr hp
    refine .succ ?_
    simp (disch := omega) only [graph_Components.b.c15, ↓cdF]
    refine .bind (min_ev l hpos (by omega)) fun y ⟨hy1, p0, hp0, hy2⟩ => ?_
    have hy : y = (cmp g r : Int) := by
     obtain ⟨w, hw, hwn, _, _⟩ := hc.mem (rd l (p0 : Int)) (rd_mem (by omega) (by omega))
     have hws : Same g w r := (hend w).1 (hw ▸ rd_mem (by omega) (by omega))
     rw [hy2, hw]
     congr 1
     refine (cmp_is hws.symm fun u hu => ?_).symm
     obtain ⟨q, hq, e⟩ := mem_rd ((hend u).2 hu.symm)
     have := hy1 q hq
     omega
    have loop : ∀ (d p : Nat), p + d = l.length -> W (fun k => graph_Components.b.c26 k y (l.length : Int) (p : Int) (NEXT (TURN g)) (tb (gN g) (ARS g F j r l y p)) l) (fun z => z = (NEXT (TURN g), (), tb (gN g) (NUM g F j), ())) := by
     intro d
     induction d with
     | zero =>
       intro p hpd
       refine .succ ?_
       simp (disch := omega) only [graph_Components.b.c26, ↓cdF]
       refine .ret ?_
       refine Prod.ext rfl (Prod.ext rfl (Prod.ext (tb_congr fun v hv => ?_) rfl))
       unfold ARS ARR
       rw [List.take_of_length_le (by omega)]
       by_cases e : (v : Int) ∈ l
       . have hs2 := (hend v).1 e
         rw [if_pos e, NUM_pos ((PAST_at hj hr v).2 (.inl hs2)), hy, cmp_eq hs2]
       . rw [if_neg e, if_neg e]
         have hns : ¬ Same g v r := fun h => e ((hend v).2 h)
         by_cases e2 : PAST g F (j + 1) v
         . rw [NUM_pos e2, NUM_pos ((PAST_at hj hr v).2 (.inr e2))]
         . rw [NUM_neg e2, NUM_neg fun h => e2 (((PAST_at hj hr v).1 h).resolve_left hns)]
     | succ d ih =>
       intro p hpd
       have hpl : p < l.length := by omega
       obtain ⟨w, hw, hwn, _, _⟩ := hc.mem (rd l (p : Int)) (rd_mem (by omega) (by omega))
       refine .succ ?_
       simp (disch := first | omega | (rw [tb_len]; omega)) only [graph_Components.b.c26, ↓cdT, ↓if_pos, hw, Int.toNat_natCast, tb_set, w64_id]
       have e0 : (tb (gN g) fun u => if u = w then y else ARS g F j r l y p u) = tb (gN g) (ARS g F j r l y (p + 1)) := tb_congr fun u hu => by
        unfold ARS
        have hm := take_mem_succ hpl (u : Int)
        rw [hw] at hm
        by_cases e : u = w
        . subst e
          rw [if_pos rfl, if_pos (hm.2 (.inr rfl))]
        . rw [if_neg e]
          have : ((u : Int) ∈ l.take (p + 1)) ↔ (u : Int) ∈ l.take p := ⟨fun h => (hm.1 h).resolve_right (by omega), fun h => hm.2 (.inl h)⟩
          simp only [this]
       rw [e0]
       exact ih (p + 1) (by omega)
    have := loop l.length 0 (by omega)
    have e0 : tb (gN g) (ARS g F j r l y 0) = tb (gN g) (ARR g F j r l) := tb_congr fun u hu => by unfold ARS; simp
    rw [e0] at this
    exact this
   have main : ∀ (d i : Nat), gN g = i + d -> ∀ l : List Int, CLU g F j r l -> CSH g F j l i -> i <= l.length ->
    W (fun k => graph_Components.b.c15 k (r : Int) (i : Int) (NEXT (TURN g)) (tb (gN g) (ARR g F j r l)) l) (fun z => z = (NEXT (TURN g), (), tb (gN g) (NUM g F j), ())) := by
    intro d
    induction d with
    | zero =>
      intro i hi l hc hs hil
      have := hc.len
      obtain rfl : i = l.length := by omega
      exact last l hc hs
    | succ d ih =>
      intro i hi l hc hs hil
      by_cases hend : i = l.length
      . subst hend; exact last l hc hs
      . have hlen := hc.len
        have hil' : i < l.length := by omega
        obtain ⟨v, hv, hvn, _, _⟩ := hc.mem _ (rd_mem (xs := l) (i := (i : Int)) (by omega) (by omega))
        have hvT : v < gN (TURN g) := by omega
        have hsl := succs_len (TURN g) v
        refine .succ ?_
        simp (disch := first | omega | (rw [NEXT_len]; omega)) only [graph_Components.b.c15, ↓cdT, ↓if_pos, hv, NEXT_rd hvT]
        have loop : ∀ (e p : Nat), p + e = (succs (TURN g) v).length -> ∀ l2 : List Int, CLU g F j r l2 -> CSH g F j l2 i -> i < l2.length -> rd l2 (i : Int) = (v : Int) -> (∀ w : Nat, (w : Int) ∈ (succs (TURN g) v).take p -> (w : Int) ∈ l2 \/ PAST g F (j + 1) w) ->
         W (fun k => graph_Components.b.c18 k (r : Int) (i : Int) (succs (TURN g) v) ((succs (TURN g) v).length : Int) (p : Int) (NEXT (TURN g)) (tb (gN g) (ARR g F j r l2)) l2) (fun z => z = (NEXT (TURN g), (), tb (gN g) (NUM g F j), ())) := by
         intro e
         induction e with
         | zero =>
           intro p hp2 l2 hb2 hs2 hi2 hv2 ht
           refine .succ ?_
           simp (disch := omega) only [graph_Components.b.c18, ↓cdF, w64_id]
           refine ih (i + 1) (by omega) l2 hb2 (fun q hq hql v' w' e' ha' => ?_) (by omega)
           by_cases e2 : q = i
           . subst e2
             rw [hv2] at e'
             rw [<- show v = v' by omega] at ha'
             rw [List.take_of_length_le (by omega)] at ht
             exact ht w' (mem_succs.2 ⟨w', rfl, by rw [TURN_adj]; exact ha'⟩)
           . exact hs2 q (by omega) hql v' w' e' ha'
         | succ e ihe =>
           intro p hp2 l2 hb2 hs2 hi2 hv2 ht
           have hpl : p < (succs (TURN g) v).length := by omega
           obtain ⟨w, hw, haw⟩ : ∃ w : Nat, rd (succs (TURN g) v) (p : Int) = (w : Int) /\ adj (TURN g) v w = true := mem_succs.1 (rd_mem (by omega) (by omega))
           rw [TURN_adj] at haw
           have hwn := adj_l haw
           have hlen2 := hb2.len
           have htk : ∀ x, x ∈ (succs (TURN g) v).take (p + 1) ↔ x ∈ (succs (TURN g) v).take p \/ (w : Int) = x := fun x => by rw [take_mem_succ hpl, hw]
           refine .succ ?_
           simp (disch := first | omega | (rw [tb_len]; omega)) only [graph_Components.b.c18, ↓cdT, ↓if_pos, hw, tb_rd hwn, Int.toNat_natCast, tb_set, w64_id]
           have go : ∀ l3 : List Int, CLU g F j r l3 -> CSH g F j l3 i -> i < l3.length -> rd l3 (i : Int) = (v : Int) -> (∀ x, x ∈ l2 -> x ∈ l3) -> ((w : Int) ∈ l3 \/ PAST g F (j + 1) w) -> W (fun k => graph_Components.b.c18 k (r : Int) (i : Int) (succs (TURN g) v) ((succs (TURN g) v).length : Int) ((p : Int) + 1) (NEXT (TURN g)) (tb (gN g) (ARR g F j r l3)) l3) (fun z => z = (NEXT (TURN g), (), tb (gN g) (NUM g F j), ())) := by
            intro l3 h1 h2 h3 h4 h5 h6
            have := ihe (p + 1) (by omega) l3 h1 h2 h3 h4 fun x hx => by
             rcases (htk _).1 hx with hx | hx
             . exact (ht x hx).imp_left (h5 _)
             . rw [<- show w = x by omega]; exact h6
            simpa only [natC] using this
           refine .dec (fun h4 => ?_) fun h4 => ?_
           . have hnl : (w : Int) ∉ l2 := fun h => by
              unfold ARR at h4
              rw [if_pos h] at h4; omega
             have hnp : ¬ PAST g F (j + 1) w := fun h => by
              unfold ARR at h4
              rw [if_neg hnl, NUM_pos h] at h4; omega
             simp (disch := first | omega | (simp only [List.length_cons, List.length_nil]; omega)) only [↓bleT]
             have e0 : (tb (gN g) fun u => if u = w then (r : Int) else ARR g F j r l2 u) = tb (gN g) (ARR g F j r (l2 ++ [(w : Int)])) := tb_congr fun u hu => by
              unfold ARR
              simp only [List.mem_append, List.mem_singleton]
              by_cases e : u = w
              . subst e; simp
              . have : (u : Int) ≠ (w : Int) := by omega
                simp only [if_neg e, this, or_false]
             rw [e0]
             have hvm : (v : Int) ∈ l2 := hv2 ▸ rd_mem (by omega) (by omega)
             refine go _ (hb2.app hvm haw hnp hnl) (fun q hq hql v' w' e' ha' => ?_) (by simp; omega) (by rw [rd_app_l hi2]; exact hv2) (fun x hx => List.mem_append_left _ hx) (.inl (by simp))
             rw [rd_app_l (by omega)] at e'
             exact (hs2 q hq (by omega) v' w' e' ha').imp_left (List.mem_append_left _)
           . refine go l2 hb2 hs2 hi2 hv2 (fun _ h => h) ?_
             by_cases e : (w : Int) ∈ l2
             . exact .inl e
             . unfold ARR at h4
               rw [if_neg e] at h4
               exact .inr (NUM_iff.1 (by omega))
        exact loop (succs (TURN g) v).length 0 (by omega) l hc hs hil' hv fun w hw => by simp at hw
   have := main (gN g) 0 (by omega) [(r : Int)] ⟨by simp, fun x hx => ⟨r, by simpa using hx, hrn, hp, .refl _⟩, by simp⟩ (fun q hq => absurd hq (Nat.not_lt_zero _)) (by simp)
   have e0 : (tb (gN g) fun u => if u = r then (r : Int) else NUM g F (j + 1) u) = tb (gN g) (ARR g F j r [(r : Int)]) := tb_congr fun u hu => by
    unfold ARR
    simp only [List.mem_singleton]
    by_cases e : u = r
    . subst e; simp
    . have : (u : Int) ≠ (r : Int) := by omega
      simp only [if_neg e, if_neg this]
   rw [e0]
   exact this
end Go.Proofs.YtjddmekfeckphaaGreatV
namespace Go.Proofs.YtjddmekfeckphaaGreatV
open Go Go.Vm
theorem rounds_prog (g : Graph) (hn : gN g <= 1000) {F : List Int} (hF : FINI g F) : ∀ m : Nat, m <= F.length ->
 Ev (fun k => Vm.rst (graph_Components.rf k) F m (NEXT (TURN g), (), tb (gN g) (fun _ => (-1 : Int)), ())) (NEXT (TURN g), (), tb (gN g) (NUM g F (F.length - m)), ())
 | 0, _ => by
   refine (Ev.ret _).congr fun k => ?_
   show some _ = some _
   congr 3
   refine Prod.ext (tb_congr fun v hv => ?_) rfl
   exact (NUM_neg (fun ⟨i, b, h1, h2, _⟩ => by omega)).symm
 | m + 1, hm => by
   have ih := rounds_prog g hn hF m (by omega)
   show Ev (fun k => (Vm.rst (graph_Components.rf k) F m (NEXT (TURN g), (), tb (gN g) (fun _ => (-1 : Int)), ())).bind fun d => graph_Components.rf k d ((F.length - 1 - m : Nat) : Int) (F.getD (F.length - 1 - m) 0)) _
   refine Ev.bind ih ?_
   obtain ⟨j, hj⟩ : ∃ j : Nat, F.length - 1 - m = j := ⟨_, rfl⟩
   have hjl : j < F.length := by omega
   obtain ⟨r, hr, hrn⟩ := hF.mem _ (rd_mem (xs := F) (i := (j : Int)) (by omega) (by omega))
   have e1 : F.getD j 0 = (r : Int) := by
    rw [<- hr, rd_eq hjl]
    simp [hjl]
   rw [hj, e1, show F.length - m = j + 1 by omega, show F.length - (m + 1) = j by omega]
   exact round_prog g hn hF hjl hr _
theorem Components_prog (g : Graph) (hn : gN g <= 1000) (hl : g.2.1.length <= 1000000) : Ev (fun k => graph_Components.f k g) (COMPS g) := by
 refine W.ev ?_
 simp only [graph_Components.f]
 refine .bindEv (Next_prog g hl) (.bind (finished_prog g hn) fun F hF => .bindEv (Turn_prog g hn hl) ?_)
 have hT := TURN_gN g
 have hLT : (TURN g).2.1.length <= 1000000 := by
  have := LINKS_len g
  have h2 : gN g * gN g <= 1000 * 1000 := Nat.mul_le_mul hn hn
  show (LINKS g).length <= 1000000
  omega
 refine .bindEv (Next_prog (TURN g) hLT) ?_
 have hFl := hF.len
 simp (disch := omega) only [↓if_pos, List.length_replicate, Int.toNat_natCast]
 have e0 : List.replicate F.length (0 : Int) = tb (gN g) fun v => if v < 0 then (-1 : Int) else 0 := by rw [hFl, tb_rep]; exact tb_congr fun c hc => by simp
 rw [e0]
 have loop : ∀ (d i : Nat), i + d = gN g -> W (fun k => graph_Components.c5 k (F.length : Int) (i : Int) F (NEXT (TURN g)) (tb (gN g) fun v => if v < i then (-1 : Int) else 0)) (fun z => z = COMPS g) := by
  intro d
  induction d with
  | zero =>
    intro i hi
    refine .succ ?_
    simp (disch := omega) only [graph_Components.c5, ↓cdF]
    have e1 : (tb (gN g) fun v => if v < i then (-1 : Int) else 0) = tb (gN g) fun _ => (-1 : Int) := tb_congr fun c hc => by rw [if_pos (by omega)]
    rw [e1]
    simp only [graph_Components.c9]
    have hb : Nat.ble F.length 1073741824 = true := by simp; omega
    rw [hb]
    simp only [cond_true]
    refine .bindEv (rounds_prog g hn hF F.length (Nat.le_refl _)) ?_
    refine .ret ?_
    refine tb_congr fun v hv => ?_
    obtain ⟨i, hi, e⟩ := mem_rd (hF.all v hv)
    exact NUM_pos ⟨i, v, by omega, hi, e, .refl _⟩
  | succ d ih =>
    intro i hi
    refine .succ ?_
    simp (disch := first | omega | (rw [tb_len]; omega)) only [graph_Components.c5, ↓cdT, ↓if_pos, Int.toNat_natCast, tb_set, w64_id]
    have e1 : (tb (gN g) fun d => if d = i then (-1 : Int) else if d < i then (-1 : Int) else 0) = tb (gN g) fun v => if v < i + 1 then (-1 : Int) else 0 := tb_congr fun c hc => by
     by_cases e : c = i
     . subst e; rw [if_pos rfl, if_pos (by omega)]
     . rw [if_neg e]
       by_cases e2 : c < i
       . rw [if_pos e2, if_pos (by omega)]
       . rw [if_neg e2, if_neg (by omega)]
    rw [e1]
    have := ih (i + 1) (by omega)
    simpa only [natC] using this
 exact loop (gN g) 0 (by omega)
end Go.Proofs.YtjddmekfeckphaaGreatV
namespace Go.Proofs.YtjddmekfeckphaaGreatV
open Go Go.Vm
abbrev Flow.N (f : Flow) : Int := Flow.Insts f + Flow.Params f
def VArc (f : Flow) (a : Arc) : Prop := 0 <= Arc.From a /\ Arc.From a <= Flow.N f /\ 0 <= Arc.To a /\ Arc.To a <= Flow.N f + 1 /\ 0 <= Arc.Lat a /\ Arc.Lat a <= 4096 /\ 0 <= Arc.Dist a /\ Arc.Dist a <= 256 /\ (Flow.Loop f = false -> Arc.Dist a = 0)
def VHead (f : Flow) (v : Nat) : Prop := rd (Flow.Arcs f) (v : Int) = (Flow.N f, if (v : Int) = Flow.N f then Flow.N f + 1 else (v : Int), 0, 0, ())
def VRes (r : Resource) : Prop := 1 <= Resource.Kind r /\ Resource.Kind r <= 4 /\ 1 <= Resource.Count r /\ Resource.Count r <= 1024
def VTail (f : Flow) (v : Nat) : Prop := Arc.From (rd (Flow.Arcs f) (Flow.N f + 1 + v)) = v /\ Arc.To (rd (Flow.Arcs f) (Flow.N f + 1 + v)) = Flow.N f + 1 /\ Arc.Dist (rd (Flow.Arcs f) (Flow.N f + 1 + v)) = 0 /\
 ((v : Int) < Flow.Insts f -> 1 <= Arc.Lat (rd (Flow.Arcs f) (Flow.N f + 1 + v)) /\ Need.Busy (rd (Flow.Needs f) (v : Int)) <= Arc.Lat (rd (Flow.Arcs f) (Flow.N f + 1 + v)))
def VNeed (f : Flow) (x : Need) : Prop := (Need.Res x = -1 /\ Need.Busy x = 0) \/ (0 <= Need.Res x /\ Need.Res x < ((Flow.Res f).length : Int) /\ 1 <= Need.Busy x /\ Need.Busy x <= 256)
structure VALID (f : Flow) : Prop where
 i0 : 0 <= Flow.Insts f
 i1 : Flow.Insts f <= 4096
 p0 : 0 <= Flow.Params f
 p1 : Flow.Params f <= 4094
 needs : ((Flow.Needs f).length : Int) = Flow.Insts f
 arcs : ∀ i, i < (Flow.Arcs f).length -> VArc f (rd (Flow.Arcs f) (i : Int))
 len : 2 * Flow.N f + 1 <= ((Flow.Arcs f).length : Int)
 head : ∀ v : Nat, v < (Flow.N f).toNat + 1 -> VHead f v
 res : ∀ i, i < (Flow.Res f).length -> VRes (rd (Flow.Res f) (i : Int))
 tail : ∀ v : Nat, v < (Flow.N f).toNat -> VTail f v
 need : ∀ i, i < (Flow.Needs f).length -> VNeed f (rd (Flow.Needs f) (i : Int))
theorem eqArc {a b : Arc} : eqB Arc.T a b = true ↔ a = b := by
 obtain ⟨a1, a2, a3, a4, _⟩ := a
 obtain ⟨b1, b2, b3, b4, _⟩ := b
 simp [eqB]
structure SIZES (f : Flow) : Prop where
 arcs : (Flow.Arcs f).length <= 1000000000
 res : (Flow.Res f).length <= 1000000000
 needs : (Flow.Needs f).length <= 1000000000
section
variable {f : Flow}
theorem framed14 (S : SIZES f) {Q : Prop} (i0 : 0 <= Flow.Insts f) (i1 : Flow.Insts f <= 4096) (p0 : 0 <= Flow.Params f) (p1 : Flow.Params f <= 4094) (hl : 2 * Flow.N f + 1 <= ((Flow.Arcs f).length : Int)) (hnd : ((Flow.Needs f).length : Int) = Flow.Insts f)
 (hQ : Q ↔ ∀ v : Nat, v < (Flow.N f).toNat -> VTail f v) : EvP (fun k => dataflow_framed.c14 k (Flow.N f) (Flow.N f) 0 f) Q := by
 have hNe : Flow.N f = Flow.Insts f + Flow.Params f := rfl
 have hN : ((Flow.N f).toNat : Int) = Flow.N f := by omega
 have hs := S.arcs
 refine EvP.all' 1 (c := fun k i => dataflow_framed.c14 k (Flow.N f) (Flow.N f) (i : Int) f) (n := (Flow.N f).toNat) (P := VTail f) (fun q => hQ.1 q) (fun i hi k => ?_) (fun h => ?_)
 . have h1 : (i : Int) < Flow.N f := by omega
   simp only [dataflow_framed.c14, dataflow_End.f, Option.bind_some, natC]
   simp (disch := omega) only [w64_id]
   rw [decide_eq_true h1, if_pos (by omega)]
   unfold VTail
   simp only [cond_true, lt_mx]
   clear hQ
   generalize rd (Flow.Arcs f) (Flow.N f + 1 + (i : Int)) = a
   generalize dataflow_framed.c14 k _ _ _ _ = r
   have hb : ((i : Int) < Flow.Insts f) -> (0 <= (i : Int) /\ (i : Int) < ((Flow.Needs f).length : Int)) := fun h => by omega
   generalize rd (Flow.Needs f) (i : Int) = z at *
   obtain ⟨a1, a2, a3, a4, _⟩ := a
   obtain ⟨z1, z2, _⟩ := z
   unfold Flow.N
   generalize ((Flow.Needs f).length : Int) = L at *
   clear h1 hi hs hN hNe hnd hl p1 p0 i1 i0 S
   generalize Flow.Insts f = I at *
   generalize Flow.Params f = p at *
   grind (splits := 40)
 . refine EvP.step (.tt (hQ.2 h)) fun k => ?_
   simp only [dataflow_framed.c14]
   rw [hN]
   simp
theorem framed5 (S : SIZES f) {Q : Prop} (i0 : 0 <= Flow.Insts f) (i1 : Flow.Insts f <= 4096) (p0 : 0 <= Flow.Params f) (p1 : Flow.Params f <= 4094) (hl : 2 * Flow.N f + 1 <= ((Flow.Arcs f).length : Int)) (hnd : ((Flow.Needs f).length : Int) = Flow.Insts f)
 (hQ : Q ↔ (∀ v : Nat, v < (Flow.N f).toNat + 1 -> VHead f v) /\ ∀ v : Nat, v < (Flow.N f).toNat -> VTail f v) : EvP (fun k => dataflow_framed.c5 k (Flow.N f) (Flow.N f + 1) 0 f) Q := by
 have hNe : Flow.N f = Flow.Insts f + Flow.Params f := rfl
 have hN : ((Flow.N f).toNat : Int) = Flow.N f := by omega
 have hs := S.arcs
 refine EvP.all' 2 (c := fun k i => dataflow_framed.c5 k (Flow.N f) (Flow.N f + 1) (i : Int) f) (n := (Flow.N f).toNat + 1) (P := VHead f) (fun q => (hQ.1 q).1) (fun i hi k => ?_) (fun h => ?_)
 . have h1 : (i : Int) < Flow.N f + 1 := by omega
   show _ /\ dataflow_framed.c5 (k + 1 + 1) _ _ _ _ = _ \/ _ /\ dataflow_framed.c5 (k + 1 + 1) _ _ _ _ = _
   simp only [dataflow_framed.c5, dataflow_framed.c10, dataflow_End.f, Option.bind_some, natC]
   simp (disch := omega) only [w64_id]
   have hb : 0 <= (i : Int) /\ (i : Int) < ((Flow.Arcs f).length : Int) := by omega
   rw [decide_eq_true h1]
   simp only [if_pos hb, cond_true]
   unfold VHead
   by_cases he : (i : Int) = Flow.N f
   . rw [decide_eq_true he, if_pos he]
     simp only [cond_true]
     by_cases hq : rd (Flow.Arcs f) (i : Int) = (Flow.N f, Flow.N f + 1, 0, 0, ())
     . exact .inl ⟨hq, by rw [eqArc.2 hq]; rfl⟩
     . exact .inr ⟨hq, by rw [Bool.eq_false_iff.2 (fun e => hq (eqArc.1 e))]; rfl⟩
   . rw [decide_eq_false he, if_neg he]
     simp only [cond_false]
     by_cases hq : rd (Flow.Arcs f) (i : Int) = (Flow.N f, (i : Int), 0, 0, ())
     . exact .inl ⟨hq, by rw [eqArc.2 hq]; rfl⟩
     . exact .inr ⟨hq, by rw [Bool.eq_false_iff.2 (fun e => hq (eqArc.1 e))]; rfl⟩
 . refine EvP.step (framed14 S i0 i1 p0 p1 hl hnd (Q := Q) (hQ.trans ⟨fun q => q.2, fun q => ⟨h, q⟩⟩)) fun k => ?_
   simp only [dataflow_framed.c5]
   rw [decide_eq_false (by omega)]
   rfl
theorem framed_ev (S : SIZES f) (i0 : 0 <= Flow.Insts f) (i1 : Flow.Insts f <= 4096) (p0 : 0 <= Flow.Params f) (p1 : Flow.Params f <= 4094) (hnd : ((Flow.Needs f).length : Int) = Flow.Insts f) :
 EvP (fun k => dataflow_framed.f k f) (2 * Flow.N f + 1 <= ((Flow.Arcs f).length : Int) /\ (∀ v : Nat, v < (Flow.N f).toNat + 1 -> VHead f v) /\ ∀ v : Nat, v < (Flow.N f).toNat -> VTail f v) := by
 have hNe : Flow.N f = Flow.Insts f + Flow.Params f := rfl
 have hs := S.arcs
 simp only [dataflow_framed.f, dataflow_Source.f, Option.bind_some]
 simp (disch := omega) only [w64_id]
 refine .cond (fun h => .ff fun q => ?_) (fun h => ?_)
 . have := of_decide_eq_true h
   omega
 . have h := of_decide_eq_false h
   exact framed5 S i0 i1 p0 p1 (by omega) hnd ⟨fun q => q.2, fun q => ⟨by omega, q⟩⟩
theorem valid19 (S : SIZES f) {Q : Prop} (i0 : 0 <= Flow.Insts f) (i1 : Flow.Insts f <= 4096) (p0 : 0 <= Flow.Params f) (p1 : Flow.Params f <= 4094) (hnd : ((Flow.Needs f).length : Int) = Flow.Insts f)
 (hQ : Q ↔ (∀ i, i < (Flow.Needs f).length -> VNeed f (rd (Flow.Needs f) (i : Int))) /\ 2 * Flow.N f + 1 <= ((Flow.Arcs f).length : Int) /\ (∀ v : Nat, v < (Flow.N f).toNat + 1 -> VHead f v) /\ ∀ v : Nat, v < (Flow.N f).toNat -> VTail f v) :
 EvP (fun k => dataflow_Valid.c19 k (Flow.Needs f) ((Flow.Needs f).length : Int) 0 f) Q := by
 have hs := S.needs
 have hs2 := S.res
 refine EvP.all' 1 (c := fun k i => dataflow_Valid.c19 k (Flow.Needs f) ((Flow.Needs f).length : Int) (i : Int) f) (n := (Flow.Needs f).length) (P := fun i => VNeed f (rd (Flow.Needs f) (i : Int))) (fun q => (hQ.1 q).1) (fun i hi k => ?_) (fun h => ?_)
 . have h1 : (i : Int) < ((Flow.Needs f).length : Int) := by omega
   simp only [dataflow_Valid.c19, dataflow_between.f, natC]
   simp (disch := omega) only [w64_id]
   rw [decide_eq_true h1, if_pos (by omega)]
   unfold VNeed
   generalize rd (Flow.Needs f) (i : Int) = a
   simp only [cond_true]
   grind
 . refine EvP.step (g := fun k => (dataflow_framed.f k f).bind fun y => some y) (.iff (.test (framed_ev S i0 i1 p0 p1 hnd) (fun h2 => .tt h2) (fun h2 => .ff h2)) ?_) fun k => ?_
   . rw [hQ]; exact ⟨fun q => ⟨h, q⟩, fun q => q.2⟩
   . simp only [dataflow_Valid.c19]
     rw [decide_eq_false (by omega)]
     rfl
theorem valid13 (S : SIZES f) {Q : Prop} (i0 : 0 <= Flow.Insts f) (i1 : Flow.Insts f <= 4096) (p0 : 0 <= Flow.Params f) (p1 : Flow.Params f <= 4094) (hnd : ((Flow.Needs f).length : Int) = Flow.Insts f)
 (hQ : Q ↔ (∀ i, i < (Flow.Res f).length -> VRes (rd (Flow.Res f) (i : Int))) /\ (∀ i, i < (Flow.Needs f).length -> VNeed f (rd (Flow.Needs f) (i : Int))) /\ 2 * Flow.N f + 1 <= ((Flow.Arcs f).length : Int) /\ (∀ v : Nat, v < (Flow.N f).toNat + 1 -> VHead f v) /\ ∀ v : Nat, v < (Flow.N f).toNat -> VTail f v) :
 EvP (fun k => dataflow_Valid.c13 k (Flow.Res f) ((Flow.Res f).length : Int) 0 f) Q := by
 have hs := S.res
 refine EvP.all' 1 (c := fun k i => dataflow_Valid.c13 k (Flow.Res f) ((Flow.Res f).length : Int) (i : Int) f) (n := (Flow.Res f).length) (P := fun i => VRes (rd (Flow.Res f) (i : Int))) (fun q => (hQ.1 q).1) (fun i hi k => ?_) (fun h => ?_)
 . have h1 : (i : Int) < ((Flow.Res f).length : Int) := by omega
   simp only [dataflow_Valid.c13, dataflow_between.f, natC]
   simp (disch := omega) only [w64_id]
   rw [decide_eq_true h1, if_pos (by omega)]
   unfold VRes
   generalize rd (Flow.Res f) (i : Int) = a
   simp only [cond_true]
   generalize dataflow_Valid.c13 k _ _ _ _ = r
   obtain ⟨a1, a2, a3, a4, _⟩ := a
   clear hQ h1 hi hs hnd p1 p0 i1 i0 S
   grind (splits := 40)
 . refine EvP.step (valid19 S i0 i1 p0 p1 hnd (Q := Q) (hQ.trans ⟨fun q => q.2, fun q => ⟨h, q⟩⟩)) fun k => ?_
   simp only [dataflow_Valid.c13]
   rw [decide_eq_false (by omega)]
   rfl
theorem valid7 (S : SIZES f) {Q : Prop} (i0 : 0 <= Flow.Insts f) (i1 : Flow.Insts f <= 4096) (p0 : 0 <= Flow.Params f) (p1 : Flow.Params f <= 4094) (hnd : ((Flow.Needs f).length : Int) = Flow.Insts f) {x : Int} (hx : x = bif Flow.Loop f then 256 else 0)
 (hQ : Q ↔ (∀ i, i < (Flow.Arcs f).length -> VArc f (rd (Flow.Arcs f) (i : Int))) /\ (∀ i, i < (Flow.Res f).length -> VRes (rd (Flow.Res f) (i : Int))) /\ (∀ i, i < (Flow.Needs f).length -> VNeed f (rd (Flow.Needs f) (i : Int))) /\ 2 * Flow.N f + 1 <= ((Flow.Arcs f).length : Int) /\ (∀ v : Nat, v < (Flow.N f).toNat + 1 -> VHead f v) /\ ∀ v : Nat, v < (Flow.N f).toNat -> VTail f v) :
 EvP (fun k => dataflow_Valid.c7 k x (Flow.Arcs f) ((Flow.Arcs f).length : Int) 0 f) Q := by
 have hs := S.arcs
 refine EvP.all' 1 (c := fun k i => dataflow_Valid.c7 k x (Flow.Arcs f) ((Flow.Arcs f).length : Int) (i : Int) f) (n := (Flow.Arcs f).length) (P := fun i => VArc f (rd (Flow.Arcs f) (i : Int))) (fun q => (hQ.1 q).1) (fun i hi k => ?_) (fun h => ?_)
 . have h1 : (i : Int) < ((Flow.Arcs f).length : Int) := by omega
   simp only [dataflow_Valid.c7, dataflow_between.f, dataflow_Source.f, dataflow_End.f, Option.bind_some, natC]
   simp (disch := omega) only [w64_id]
   rw [decide_eq_true h1, if_pos (by omega)]
   unfold VArc Flow.N
   generalize rd (Flow.Arcs f) (i : Int) = a
   generalize Flow.Loop f = lo at hx ⊢
   simp only [cond_true]
   generalize dataflow_Valid.c7 k _ _ _ _ _ = r
   obtain ⟨a1, a2, a3, a4, _⟩ := a
   generalize Flow.Insts f + Flow.Params f = N at *
   clear hQ h1 hi hs hnd p1 p0 i1 i0 S
   cases lo <;> simp only [cond_true, cond_false] at hx <;> subst hx <;> grind (splits := 40)
 . refine EvP.step (valid13 S i0 i1 p0 p1 hnd (Q := Q) (hQ.trans ⟨fun q => q.2, fun q => ⟨h, q⟩⟩)) fun k => ?_
   simp only [dataflow_Valid.c7]
   rw [decide_eq_false (by omega)]
   rfl
theorem valid_prog (S : SIZES f) : EvP (fun k => dataflow_Valid.f k f) (VALID f) := by
 simp only [dataflow_Valid.f, dataflow_between.f]
 by_cases h1 : 0 <= Flow.Insts f /\ Flow.Insts f <= 4096
 . by_cases h2 : 0 <= Flow.Params f /\ Flow.Params f <= 4094
   . by_cases h3 : ((Flow.Needs f).length : Int) = Flow.Insts f
     . have go : ∀ x, x = (bif Flow.Loop f then 256 else 0) -> EvP (fun k => dataflow_Valid.c6 k x f) (VALID f) := fun x hx => by
        refine EvP.step (valid7 S h1.1 h1.2 h2.1 h2.2 h3 hx (Q := VALID f) ⟨fun v => ⟨v.arcs, v.res, v.need, v.len, v.head, v.tail⟩, fun ⟨a1, a2, a3, a4, a5, a6⟩ => ⟨h1.1, h1.2, h2.1, h2.2, h3, a1, a4, a5, a2, a6, a3⟩⟩) fun k => ?_
        simp only [dataflow_Valid.c6]
       simp only [decide_eq_true h1.1, decide_eq_true h1.2, decide_eq_true h2.1, decide_eq_true h2.2, decide_eq_true h3, cond_true, cond_false, Option.bind_some, Bool.not_true]
       cases hl : Flow.Loop f
       . exact go 0 (by rw [hl]; rfl)
       . exact go 256 (by rw [hl]; rfl)
     . refine EvP.congr (.ff (fun v => h3 v.needs)) fun k => ?_
       simp [h1, h2, h3]
   . refine EvP.congr (.ff (fun v => h2 ⟨v.p0, v.p1⟩)) fun k => ?_
     grind
 . refine EvP.congr (.ff (fun v => h1 ⟨v.i0, v.i1⟩)) fun k => ?_
   grind
end
end Go.Proofs.YtjddmekfeckphaaGreatV
namespace Go.Proofs.YtjddmekfeckphaaGreatV
open Go Go.Vm
section
variable {f : Flow}
theorem rvalid36 (S : SIZES f) {Q : Prop} (hQ : Q ↔ (∀ i, i < (Flow.Needs f).length -> VNeed f (rd (Flow.Needs f) (i : Int)))) : EvP (fun k => jacquardref28_Valid.c36 k ((Flow.Needs f).length : Int) 0 f) Q := by
 have hs := S.needs
 have hs2 := S.res
 refine EvP.all' 1 (c := fun k i => jacquardref28_Valid.c36 k ((Flow.Needs f).length : Int) (i : Int) f) (n := (Flow.Needs f).length) (P := fun i => VNeed f (rd (Flow.Needs f) (i : Int))) (fun q => hQ.1 q) (fun i hi k => ?_) (fun h => ?_)
 . have h1 : (i : Int) < ((Flow.Needs f).length : Int) := by omega
   simp only [jacquardref28_Valid.c36, natC]
   simp (disch := omega) only [w64_id]
   rw [decide_eq_true h1, if_pos (by omega)]
   unfold VNeed
   generalize rd (Flow.Needs f) (i : Int) = a
   simp only [cond_true]
   generalize jacquardref28_Valid.c36 k _ _ _ = r
   obtain ⟨a1, a2, _⟩ := a
   have hL : 0 <= ((Flow.Res f).length : Int) := by omega
   clear hs2
   generalize ((Flow.Res f).length : Int) = L at *
   clear hQ h1 hi hs S
   grind (splits := 40)
 . refine EvP.step (.tt (hQ.2 h)) fun k => ?_
   simp only [jacquardref28_Valid.c36]
   rw [decide_eq_false (by omega)]
   rfl
theorem rvalid29 (S : SIZES f) {Q : Prop} (i0 : 0 <= Flow.Insts f) (i1 : Flow.Insts f <= 4096) (p0 : 0 <= Flow.Params f) (p1 : Flow.Params f <= 4094) (hl : 2 * Flow.N f + 1 <= ((Flow.Arcs f).length : Int)) (hnd : ((Flow.Needs f).length : Int) = Flow.Insts f)
 (hQ : Q ↔ (∀ v : Nat, v < (Flow.N f).toNat -> VTail f v) /\ ∀ i, i < (Flow.Needs f).length -> VNeed f (rd (Flow.Needs f) (i : Int))) : EvP (fun k => jacquardref28_Valid.c29 k (Flow.N f + 2) (Flow.N f) 0 f) Q := by
 have hNe : Flow.N f = Flow.Insts f + Flow.Params f := rfl
 have hN : ((Flow.N f).toNat : Int) = Flow.N f := by omega
 have hs := S.arcs
 refine EvP.all' 1 (c := fun k i => jacquardref28_Valid.c29 k (Flow.N f + 2) (Flow.N f) (i : Int) f) (n := (Flow.N f).toNat) (P := VTail f) (fun q => (hQ.1 q).1) (fun i hi k => ?_) (fun h => ?_)
 . have h1 : (i : Int) < Flow.N f := by omega
   have e1 : Flow.N f + 2 - 1 = Flow.N f + 1 := by omega
   simp only [jacquardref28_Valid.c29, jacquardref28_End.f, Option.bind_some, natC]
   simp (disch := omega) only [w64_id]
   rw [decide_eq_true h1, e1, if_pos (by omega)]
   unfold VTail
   simp only [cond_true, lt_mx]
   clear hQ
   generalize rd (Flow.Arcs f) (Flow.N f + 1 + (i : Int)) = a
   generalize jacquardref28_Valid.c29 k _ _ _ _ = r
   have hb : ((i : Int) < Flow.Insts f) -> (0 <= (i : Int) /\ (i : Int) < ((Flow.Needs f).length : Int)) := fun h => by omega
   generalize rd (Flow.Needs f) (i : Int) = z at *
   obtain ⟨a1, a2, a3, a4, _⟩ := a
   obtain ⟨z1, z2, _⟩ := z
   unfold Flow.N
   generalize ((Flow.Needs f).length : Int) = L at *
   clear h1 hi hs hN hNe hnd hl p1 p0 i1 i0 S e1
   generalize Flow.Insts f = I at *
   generalize Flow.Params f = p at *
   grind (splits := 40)
 . refine EvP.step (rvalid36 S (Q := Q) (hQ.trans ⟨fun q => q.2, fun q => ⟨h, q⟩⟩)) fun k => ?_
   simp only [jacquardref28_Valid.c29]
   rw [hN, decide_eq_false (by omega)]
   rfl
theorem rvalid23 (S : SIZES f) {Q : Prop} (i0 : 0 <= Flow.Insts f) (i1 : Flow.Insts f <= 4096) (p0 : 0 <= Flow.Params f) (p1 : Flow.Params f <= 4094) (hl : 2 * Flow.N f + 1 <= ((Flow.Arcs f).length : Int)) (hnd : ((Flow.Needs f).length : Int) = Flow.Insts f)
 (hQ : Q ↔ (∀ i, i < (Flow.Res f).length -> VRes (rd (Flow.Res f) (i : Int))) /\ (∀ v : Nat, v < (Flow.N f).toNat -> VTail f v) /\ ∀ i, i < (Flow.Needs f).length -> VNeed f (rd (Flow.Needs f) (i : Int))) :
 EvP (fun k => jacquardref28_Valid.c23 k (Flow.N f + 2) ((Flow.Res f).length : Int) 0 f) Q := by
 have hs := S.res
 have hNe : Flow.N f = Flow.Insts f + Flow.Params f := rfl
 refine EvP.all' 1 (c := fun k i => jacquardref28_Valid.c23 k (Flow.N f + 2) ((Flow.Res f).length : Int) (i : Int) f) (n := (Flow.Res f).length) (P := fun i => VRes (rd (Flow.Res f) (i : Int))) (fun q => (hQ.1 q).1) (fun i hi k => ?_) (fun h => ?_)
 . have h1 : (i : Int) < ((Flow.Res f).length : Int) := by omega
   have h2 : 0 <= (i : Int) /\ (i : Int) < ((Flow.Res f).length : Int) := by omega
   simp only [jacquardref28_Valid.c23, natC]
   simp (disch := omega) only [w64_id]
   rw [decide_eq_true h1]
   simp only [if_pos h2]
   unfold VRes
   generalize rd (Flow.Res f) (i : Int) = a
   simp only [cond_true]
   generalize jacquardref28_Valid.c23 k _ _ _ _ = r
   obtain ⟨a1, a2, a3, a4, _⟩ := a
   clear hQ h1 h2 hi hs hnd p1 p0 i1 i0 S
   grind (splits := 40)
 . refine EvP.step (rvalid29 S i0 i1 p0 p1 hl hnd (Q := Q) (hQ.trans ⟨fun q => q.2, fun q => ⟨h, q⟩⟩)) fun k => ?_
   simp only [jacquardref28_Valid.c23]
   simp (disch := omega) only [w64_id]
   rw [decide_eq_false (show ¬ ((Flow.Res f).length : Int) < ((Flow.Res f).length : Int) by omega), show Flow.N f + 2 - 2 = Flow.N f by omega]
   rfl
theorem rvalid14 (S : SIZES f) {Q : Prop} (i0 : 0 <= Flow.Insts f) (i1 : Flow.Insts f <= 4096) (p0 : 0 <= Flow.Params f) (p1 : Flow.Params f <= 4094) (hl : 2 * Flow.N f + 1 <= ((Flow.Arcs f).length : Int)) (hnd : ((Flow.Needs f).length : Int) = Flow.Insts f)
 (hQ : Q ↔ (∀ v : Nat, v < (Flow.N f).toNat + 1 -> VHead f v) /\ (∀ i, i < (Flow.Res f).length -> VRes (rd (Flow.Res f) (i : Int))) /\ (∀ v : Nat, v < (Flow.N f).toNat -> VTail f v) /\ ∀ i, i < (Flow.Needs f).length -> VNeed f (rd (Flow.Needs f) (i : Int))) :
 EvP (fun k => jacquardref28_Valid.c14 k (Flow.N f + 2) (Flow.N f + 1) 0 f) Q := by
 have hNe : Flow.N f = Flow.Insts f + Flow.Params f := rfl
 have hN : ((Flow.N f).toNat : Int) = Flow.N f := by omega
 have hs := S.arcs
 refine EvP.all' 2 (c := fun k i => jacquardref28_Valid.c14 k (Flow.N f + 2) (Flow.N f + 1) (i : Int) f) (n := (Flow.N f).toNat + 1) (P := VHead f) (fun q => (hQ.1 q).1) (fun i hi k => ?_) (fun h => ?_)
 . have h1 : (i : Int) < Flow.N f + 1 := by omega
   show _ /\ jacquardref28_Valid.c14 (k + 1 + 1) _ _ _ _ = _ \/ _ /\ jacquardref28_Valid.c14 (k + 1 + 1) _ _ _ _ = _
   simp only [jacquardref28_Valid.c14, jacquardref28_Valid.c19, jacquardref28_Source.f, Option.bind_some, natC]
   simp (disch := omega) only [w64_id]
   have hb : 0 <= (i : Int) /\ (i : Int) < ((Flow.Arcs f).length : Int) := by omega
   rw [decide_eq_true h1]
   simp only [if_pos hb, cond_true]
   unfold VHead
   by_cases he : (i : Int) = Flow.N f
   . rw [decide_eq_true (show Flow.Insts f + Flow.Params f <= (i : Int) by omega), if_pos he]
     simp only [cond_true]
     by_cases hq : rd (Flow.Arcs f) (i : Int) = (Flow.N f, Flow.N f + 1, 0, 0, ())
     . exact .inl ⟨hq, by rw [eqArc.2 (by rw [hq, he])]; rfl⟩
     . exact .inr ⟨hq, by rw [Bool.eq_false_iff.2 (fun e => hq ((eqArc.1 e).trans (by rw [<- hNe, he])))]; rfl⟩
   . rw [decide_eq_false (show ¬ Flow.Insts f + Flow.Params f <= (i : Int) by omega), if_neg he]
     simp only [cond_false]
     by_cases hq : rd (Flow.Arcs f) (i : Int) = (Flow.N f, (i : Int), 0, 0, ())
     . exact .inl ⟨hq, by rw [eqArc.2 hq]; rfl⟩
     . exact .inr ⟨hq, by rw [Bool.eq_false_iff.2 (fun e => hq (eqArc.1 e))]; rfl⟩
 . refine EvP.step (rvalid23 S i0 i1 p0 p1 hl hnd (Q := Q) (hQ.trans ⟨fun q => q.2, fun q => ⟨h, q⟩⟩)) fun k => ?_
   simp only [jacquardref28_Valid.c14]
   rw [decide_eq_false (by omega)]
   rfl
theorem rvalid5 (S : SIZES f) {Q : Prop} (i0 : 0 <= Flow.Insts f) (i1 : Flow.Insts f <= 4096) (p0 : 0 <= Flow.Params f) (p1 : Flow.Params f <= 4094) (hnd : ((Flow.Needs f).length : Int) = Flow.Insts f)
 (hQ : Q ↔ (∀ i, i < (Flow.Arcs f).length -> VArc f (rd (Flow.Arcs f) (i : Int))) /\ 2 * Flow.N f + 1 <= ((Flow.Arcs f).length : Int) /\ (∀ v : Nat, v < (Flow.N f).toNat + 1 -> VHead f v) /\ (∀ i, i < (Flow.Res f).length -> VRes (rd (Flow.Res f) (i : Int))) /\ (∀ v : Nat, v < (Flow.N f).toNat -> VTail f v) /\ ∀ i, i < (Flow.Needs f).length -> VNeed f (rd (Flow.Needs f) (i : Int))) :
 EvP (fun k => jacquardref28_Valid.c5 k (Flow.N f + 2) ((Flow.Arcs f).length : Int) 0 f) Q := by
 have hs := S.arcs
 have hNe : Flow.N f = Flow.Insts f + Flow.Params f := rfl
 refine EvP.all' 1 (c := fun k i => jacquardref28_Valid.c5 k (Flow.N f + 2) ((Flow.Arcs f).length : Int) (i : Int) f) (n := (Flow.Arcs f).length) (P := fun i => VArc f (rd (Flow.Arcs f) (i : Int))) (fun q => (hQ.1 q).1) (fun i hi k => ?_) (fun h => ?_)
 . have h1 : (i : Int) < ((Flow.Arcs f).length : Int) := by omega
   simp only [jacquardref28_Valid.c5, natC]
   simp (disch := omega) only [w64_id]
   rw [decide_eq_true h1, if_pos (by omega)]
   unfold VArc Flow.N
   generalize rd (Flow.Arcs f) (i : Int) = a
   generalize Flow.Loop f = lo
   simp only [cond_true]
   generalize jacquardref28_Valid.c5 k _ _ _ _ = r
   obtain ⟨a1, a2, a3, a4, _⟩ := a
   generalize Flow.Insts f + Flow.Params f = N at *
   clear hQ h1 hi hs hnd p1 p0 i1 i0 S hNe
   cases lo <;> grind (splits := 40)
 . have hcond : ∀ k, jacquardref28_Valid.c5 (k + 1) (Flow.N f + 2) ((Flow.Arcs f).length : Int) ((Flow.Arcs f).length : Int) f = bif decide (((Flow.Arcs f).length : Int) < 2 * Flow.N f + 1) then some false else jacquardref28_Valid.c14 k (Flow.N f + 2) (Flow.N f + 1) 0 f := fun k => by
    simp only [jacquardref28_Valid.c5]
    simp (disch := omega) only [w64_id]
    rw [decide_eq_false (show ¬ ((Flow.Arcs f).length : Int) < ((Flow.Arcs f).length : Int) by omega), show 2 * (Flow.N f + 2) - 3 = 2 * Flow.N f + 1 by omega, show Flow.N f + 2 - 1 = Flow.N f + 1 by omega]
    rfl
   refine EvP.step (.cond (fun hlt => .ff fun q => ?_) (fun hlt => ?_)) hcond
   . have := of_decide_eq_true hlt
     have := (hQ.1 q).2.1
     omega
   . have hlt := of_decide_eq_false hlt
     exact rvalid14 S i0 i1 p0 p1 (by omega) hnd (hQ.trans ⟨fun q => q.2.2, fun q => ⟨h, by omega, q⟩⟩)
theorem valid_ref (S : SIZES f) : EvP (fun k => jacquardref28_Valid.f k f) (VALID f) := by
 simp only [jacquardref28_Valid.f]
 refine .cond (fun h => .ff fun v => ?_) fun h1 => .cond (fun h => .ff fun v => ?_) fun h2 => .cond (fun h => .ff fun v => ?_) fun h3 => .cond (fun h => .ff fun v => ?_) fun h4 => .cond (fun h => .ff fun v => ?_) fun h5 => ?_
 . have := of_decide_eq_true h; have := v.i0; omega
 . have := of_decide_eq_true h; have := v.i1; omega
 . have := of_decide_eq_true h; have := v.p0; omega
 . have := of_decide_eq_true h; have := v.p1; omega
 . have := v.needs; simp [this] at h
 . have h1 := of_decide_eq_false h1
   have h2 := of_decide_eq_false h2
   have h3 := of_decide_eq_false h3
   have h4 := of_decide_eq_false h4
   have h5 : ((Flow.Needs f).length : Int) = Flow.Insts f := by simpa using h5
   simp (disch := omega) only [w64_id]
   exact rvalid5 S (by omega) (by omega) (by omega) (by omega) h5 (Q := VALID f) ⟨fun v => ⟨v.arcs, v.len, v.head, v.res, v.tail, v.need⟩, fun ⟨a1, a2, a3, a4, a5, a6⟩ => ⟨by omega, by omega, by omega, by omega, h5, a1, a2, a3, a4, a5, a6⟩⟩
structure FITS (f : Flow) (s : Sched) : Prop where
 start : ((Sched.Start s).length : Int) = Flow.Insts f
 unit : ((Sched.Unit s).length : Int) = Flow.Insts f
 params : ((Sched.Params s).length : Int) = Flow.Params f
 ii : 0 <= Sched.II s /\ Sched.II s <= 256
 loop : 0 < Sched.II s ↔ Flow.Loop f = true
 depth : 1 <= Sched.Depth s /\ Sched.Depth s <= 4096
 starts : ∀ i, i < (Sched.Start s).length -> 0 <= rd (Sched.Start s) (i : Int) /\ rd (Sched.Start s) (i : Int) <= 4096
 parms : ∀ i, i < (Sched.Params s).length -> 0 <= rd (Sched.Params s) (i : Int) /\ rd (Sched.Params s) (i : Int) <= 4096
 units : ∀ i, i < (Sched.Unit s).length -> (Need.Res (rd (Flow.Needs f) (i : Int)) < 0 -> rd (Sched.Unit s) (i : Int) = -1) /\
  (0 <= Need.Res (rd (Flow.Needs f) (i : Int)) -> 0 <= rd (Sched.Unit s) (i : Int) /\ rd (Sched.Unit s) (i : Int) < Resource.Count (rd (Flow.Res f) (Need.Res (rd (Flow.Needs f) (i : Int)))))
structure SSIZES (s : Sched) : Prop where
 start : (Sched.Start s).length <= 1000000000
 unit : (Sched.Unit s).length <= 1000000000
 params : (Sched.Params s).length <= 1000000000
variable {s : Sched}
theorem rfits11 (S : SSIZES s) {Q : Prop} (hQ : Q ↔ ∀ i, i < (Sched.Params s).length -> 0 <= rd (Sched.Params s) (i : Int) /\ rd (Sched.Params s) (i : Int) <= 4096) : EvP (fun k => jacquardref28_Fits.c11 k ((Sched.Params s).length : Int) 0 s) Q := by
 have hs := S.params
 refine EvP.all' 1 (c := fun k i => jacquardref28_Fits.c11 k ((Sched.Params s).length : Int) (i : Int) s) (n := (Sched.Params s).length) (P := fun i => 0 <= rd (Sched.Params s) (i : Int) /\ rd (Sched.Params s) (i : Int) <= 4096) (fun q => hQ.1 q) (fun i hi k => ?_) (fun h => ?_)
 . have h1 : (i : Int) < ((Sched.Params s).length : Int) := by omega
   have h2 : 0 <= (i : Int) /\ (i : Int) < ((Sched.Params s).length : Int) := by omega
   simp only [jacquardref28_Fits.c11, natC]
   simp (disch := omega) only [w64_id]
   rw [decide_eq_true h1]
   simp only [if_pos h2, cond_true]
   generalize rd (Sched.Params s) (i : Int) = a
   generalize jacquardref28_Fits.c11 k _ _ _ = r
   clear hQ h1 h2 hi hs S
   grind
 . refine EvP.step (.tt (hQ.2 h)) fun k => ?_
   simp only [jacquardref28_Fits.c11]
   rw [decide_eq_false (by omega)]
   rfl
theorem fits_ref (V : VALID f) (S : SSIZES s) : EvP (fun k => jacquardref28_Fits.f k f s) (FITS f s) := by
 simp only [jacquardref28_Fits.f]
 have hs1 := S.start
 refine .cond (fun h => .ff fun v => ?_) fun h1 => .cond (fun h => .ff fun v => ?_) fun h2 => .cond (fun h => .ff fun v => ?_) fun h3 => .cond (fun h => .ff fun v => ?_) fun h4 => .cond (fun h => .ff fun v => ?_) fun h5 =>
  .cond (fun h => .ff fun v => ?_) fun h6 => .cond (fun h => .ff fun v => ?_) fun h7 => .cond (fun h => .ff fun v => ?_) fun h8 => ?_
 . have := v.start; simp [this] at h
 . have := v.unit; simp [this] at h
 . have := v.params; simp [this] at h
 . have := of_decide_eq_true h; have := v.ii; omega
 . have := of_decide_eq_true h; have := v.ii; omega
 . have := v.loop
   cases hl : Flow.Loop f <;> rw [hl] at h this <;> simp at h this <;> omega
 . have := of_decide_eq_true h; have := v.depth; omega
 . have := of_decide_eq_true h; have := v.depth; omega
 . have h1 : ((Sched.Start s).length : Int) = Flow.Insts f := by simpa using h1
   have h2 : ((Sched.Unit s).length : Int) = Flow.Insts f := by simpa using h2
   have h3 : ((Sched.Params s).length : Int) = Flow.Params f := by simpa using h3
   have h4 := of_decide_eq_false h4
   have h5 := of_decide_eq_false h5
   have h6 : 0 < Sched.II s ↔ Flow.Loop f = true := by
    cases hl : Flow.Loop f <;> rw [hl] at h6 <;> simp at h6 ⊢ <;> omega
   have h7 := of_decide_eq_false h7
   have h8 := of_decide_eq_false h8
   have hnd := V.needs
   refine EvP.all' 1 (c := fun k i => jacquardref28_Fits.c4 k ((Sched.Start s).length : Int) (i : Int) f s) (n := (Sched.Start s).length)
    (P := fun i => (0 <= rd (Sched.Start s) (i : Int) /\ rd (Sched.Start s) (i : Int) <= 4096) /\ (Need.Res (rd (Flow.Needs f) (i : Int)) < 0 -> rd (Sched.Unit s) (i : Int) = -1) /\
     (0 <= Need.Res (rd (Flow.Needs f) (i : Int)) -> 0 <= rd (Sched.Unit s) (i : Int) /\ rd (Sched.Unit s) (i : Int) < Resource.Count (rd (Flow.Res f) (Need.Res (rd (Flow.Needs f) (i : Int))))))
    (fun q i hi => ⟨q.starts i hi, q.units i (by omega)⟩) (fun i hi k => ?_) (fun h => ?_)
   . have g1 : (i : Int) < ((Sched.Start s).length : Int) := by omega
     have g2 : 0 <= (i : Int) /\ (i : Int) < ((Sched.Start s).length : Int) := by omega
     have g3 : 0 <= (i : Int) /\ (i : Int) < ((Sched.Unit s).length : Int) := by omega
     have g4 : 0 <= (i : Int) /\ (i : Int) < ((Flow.Needs f).length : Int) := by omega
     have vn := V.need i (by omega)
     unfold VNeed at vn
     simp only [jacquardref28_Fits.c4, natC]
     simp (disch := omega) only [w64_id]
     rw [decide_eq_true g1]
     simp only [if_pos g2, if_pos g3, if_pos g4, cond_true]
     generalize rd (Sched.Start s) (i : Int) = st
     generalize rd (Sched.Unit s) (i : Int) = un
     generalize rd (Flow.Needs f) (i : Int) = nd at *
     obtain ⟨nr, nb, _⟩ := nd
     have e1 : Need.Res (nr, nb, ()) = nr := rfl
     rw [e1]
     generalize hc : Resource.Count (rd (Flow.Res f) nr) = ct
     generalize jacquardref28_Fits.c4 k _ _ _ _ = r
     have vn' : nr = -1 \/ (0 <= nr /\ nr < ((Flow.Res f).length : Int)) := by
      rcases vn with ⟨a, _⟩ | ⟨a, b, _⟩
      . exact .inl a
      . exact .inr ⟨a, b⟩
     clear vn g1 g2 g3 g4 hi hnd h1 h2 h3 h4 h5 h6 h7 h8 hs1 S V hc
     generalize ((Flow.Res f).length : Int) = L at *
     grind (splits := 40)
   . refine EvP.step (rfits11 S (Q := FITS f s) ⟨fun q => q.parms, fun q => ⟨h1, h2, h3, by omega, h6, by omega, fun i hi => (h i hi).1, q, fun i hi => (h i (by omega)).2⟩⟩) fun k => ?_
     simp only [jacquardref28_Fits.c4]
     rw [decide_eq_false (by omega)]
     rfl
end
end Go.Proofs.YtjddmekfeckphaaGreatV
namespace Go.Proofs.YtjddmekfeckphaaGreatV
open Go Go.Vm
structure SMALL (f : Flow) (n m : Int) : Prop where
 insts : Flow.Insts f <= n
 params : Flow.Params f <= m
 arcs : (Flow.Arcs f).length <= 90
 res : (Flow.Res f).length <= 6
 arc : ∀ i, i < (Flow.Arcs f).length -> Arc.Lat (rd (Flow.Arcs f) (i : Int)) <= 60 /\ Arc.Dist (rd (Flow.Arcs f) (i : Int)) <= 20
 busy : ∀ i, i < (Flow.Needs f).length -> Need.Busy (rd (Flow.Needs f) (i : Int)) <= 20
section
variable {f : Flow}
theorem small_ref (n m : Int) (ha : (Flow.Arcs f).length <= 140737488351232) (hn : (Flow.Needs f).length <= 140737488351232) : EvP (fun k => jacquardref28_Small.f k f n m) (SMALL f n m) := by
 simp only [jacquardref28_Small.f]
 refine EvP.all' 1 (c := fun k i => jacquardref28_Small.c2 k n m ((Flow.Arcs f).length : Int) (i : Int) f) (n := (Flow.Arcs f).length) (P := fun i => Arc.Lat (rd (Flow.Arcs f) (i : Int)) <= 60 /\ Arc.Dist (rd (Flow.Arcs f) (i : Int)) <= 20) (fun q => q.arc) (fun i hi k => ?_) (fun h1 => ?_)
 . have b1 : 0 <= (i : Int) /\ (i : Int) < ((Flow.Arcs f).length : Int) := by omega
   simp only [jacquardref28_Small.c2, natC]
   rw [decide_eq_true b1.2, w64_id (by omega) (by omega)]
   simp only [if_pos b1, cond_true]
   generalize jacquardref28_Small.c2 k _ _ _ _ _ = r
   generalize rd (Flow.Arcs f) (i : Int) = a
   obtain ⟨a1, a2, a3, a4, _⟩ := a
   clear b1 hi ha hn
   grind
 . refine EvP.step (g := fun k => jacquardref28_Small.c8 k n m ((Flow.Needs f).length : Int) 0 f) ?_ fun k => ?_
   . refine EvP.all' 1 (c := fun k i => jacquardref28_Small.c8 k n m ((Flow.Needs f).length : Int) (i : Int) f) (n := (Flow.Needs f).length) (P := fun i => Need.Busy (rd (Flow.Needs f) (i : Int)) <= 20) (fun q => q.busy) (fun i hi k => ?_) (fun h2 => ?_)
     . have b1 : 0 <= (i : Int) /\ (i : Int) < ((Flow.Needs f).length : Int) := by omega
       simp only [jacquardref28_Small.c8, natC]
       rw [decide_eq_true b1.2, w64_id (by omega) (by omega)]
       simp only [if_pos b1, cond_true]
       generalize jacquardref28_Small.c8 k _ _ _ _ _ = r
       generalize rd (Flow.Needs f) (i : Int) = a
       obtain ⟨a1, a2, _⟩ := a
       clear b1 hi ha hn h1
       grind
     . refine EvP.step (g := fun _ => bif decide (Flow.Insts f <= n) then bif decide (Flow.Params f <= m) then bif decide (((Flow.Arcs f).length : Int) <= 90) then some (decide (((Flow.Res f).length : Int) <= 6)) else some false else some false else some false) ?_ fun k => ?_
       . refine .cond (fun q1 => .cond (fun q2 => .cond (fun q3 => .dec ?_) fun q3 => .ff fun v => ?_) fun q2 => .ff fun v => ?_) fun q1 => .ff fun v => ?_
         . have q1 := of_decide_eq_true q1
           have q2 := of_decide_eq_true q2
           have q3 := of_decide_eq_true q3
           exact ⟨fun q => ⟨q1, q2, by omega, by omega, h1, h2⟩, fun q => by have := q.res; omega⟩
         . have := v.arcs; have := of_decide_eq_false q3; omega
         . have := v.params; have := of_decide_eq_false q2; omega
         . have := v.insts; have := of_decide_eq_false q1; omega
       . simp only [jacquardref28_Small.c8]
         rw [decide_eq_false (by omega)]
         rfl
   . simp only [jacquardref28_Small.c2]
     rw [decide_eq_false (by omega)]
     rfl
end
end Go.Proofs.YtjddmekfeckphaaGreatV
namespace Go.Proofs.YtjddmekfeckphaaGreatV.Diff
open Go Go.Vm
theorem wrap_id {n : Int} (h0 : -9223372036854775808 <= n) (h1 : n <= 9223372036854775807) : w64 n = n := w64_id h0 (by omega)
theorem rd_eq {α : Type} [Inhabited α] {xs : List α} {i : Int} {j : Nat} (h : i = j) (hl : j < xs.length) : rd xs i = xs[j] := by
 subst h; exact Go.Vm.rd_eq hl
theorem rd_set {α : Type} [Inhabited α] {xs : List α} {i j : Int} {v : α} (hi : 0 <= i) (hil : i < xs.length) (hj : 0 <= j) : rd (xs.set i.toNat v) j = if j = i then v else rd xs j := by
 obtain ⟨a, rfl⟩ : ∃ a : Nat, i = (a : Int) := ⟨i.toNat, by omega⟩
 obtain ⟨b, rfl⟩ : ∃ b : Nat, j = (b : Int) := ⟨j.toNat, by omega⟩
 rw [Int.toNat_natCast, Go.Vm.rd_set (by omega)]
 by_cases h : a = b
 . subst h; rw [if_pos rfl, if_pos rfl]
 . rw [if_neg h, if_neg (by omega)]
theorem rd_replicate {α : Type} [Inhabited α] {n : Nat} {v : α} {i : Int} (h0 : 0 <= i) (h1 : i < n) : rd (List.replicate n v) i = v := by
 obtain ⟨a, rfl⟩ : ∃ a : Nat, i = (a : Int) := ⟨i.toNat, by omega⟩
 exact Go.Vm.rd_replicate (by omega)
theorem rd_append_left {α : Type} [Inhabited α] {xs ys : List α} {i : Int} (h1 : i.toNat < xs.length) : rd (xs ++ ys) i = rd xs i := by
 unfold rd; simp only [List.getD, List.getElem?_append_left h1]
theorem rd_append_right {α : Type} [Inhabited α] {xs : List α} {v : α} {i : Int} (h : i = xs.length) : rd (xs ++ [v]) i = v := by
 subst h; exact rd_app_at
theorem rd_ext {α : Type} [Inhabited α] {xs ys : List α} (hl : xs.length = ys.length) (h : ∀ i : Int, 0 <= i -> i < xs.length -> rd xs i = rd ys i) : xs = ys :=
 list_ext_rd hl fun i hi => h i (by omega) (by omega)
theorem W.step {α : Type} {g f : Nat -> Option α} {Q : α -> Prop} (h : ∀ k, g (k + 1) = f k) (e : W f Q) : W g Q := by
 obtain ⟨r, he, hq⟩ := e
 exact ⟨r, he.step h, hq⟩
theorem W.congr {α : Type} {g f : Nat -> Option α} {Q : α -> Prop} (h : ∀ k, g k = f k) (e : W f Q) : W g Q := by
 obtain ⟨r, he, hq⟩ := e
 exact ⟨r, he.congr h, hq⟩
theorem nodup_le : ∀ (n : Nat) (l : List Int), l.Nodup -> (∀ x ∈ l, 0 <= x /\ x < n) -> l.length <= n
 | 0, l, _, h => by
   cases l with
   | nil => simp
   | cons a r => have := h a List.mem_cons_self; omega
 | n + 1, l, hd, h => by
   have h1 := nodup_le n (l.erase (n : Int)) (hd.erase _) (fun x hx => by
    have hm := List.mem_of_mem_erase hx
    have hne : x ≠ n := fun e => by subst e; exact (List.Nodup.not_mem_erase hd) hx
    have := h x hm
    omega)
   have h2 : l.length <= (l.erase (n : Int)).length + 1 := by
    rw [List.length_erase]; split <;> omega
   omega
theorem pigeon (n : Nat) (f : Nat -> Int) (h : ∀ i, i <= n -> 0 <= f i /\ f i < n) : ∃ i j, i < j /\ j <= n /\ f i = f j := by
 apply Classical.byContradiction
 intro hc
 have hd : ((List.range (n + 1)).map f).Nodup := by
  rw [List.Nodup, List.pairwise_map]
  refine List.Pairwise.imp_of_mem (R := fun a b => a < b) ?_ List.pairwise_lt_range
  intro a b ha hb hab he
  exact hc ⟨a, b, hab, by have := List.mem_range.1 hb; omega, he⟩
 have := nodup_le n _ hd (fun x hx => by
  obtain ⟨i, hi, rfl⟩ := List.mem_map.1 hx
  exact h i (by have := List.mem_range.1 hi; omega))
 simp at this
 omega
def wt (a : Arc) (ii : Int) : Int := mn (mx (Arc.Lat a) (-1048576)) 1048576 - mn (mx ii 0) 256 * mn (mx (Arc.Dist a) (-1048576)) 1048576
theorem prod_le {x y : Int} (h0 : 0 <= x) (h1 : x <= 256) (h2 : -1048576 <= y) (h3 : y <= 1048576) : -268435456 <= x * y /\ x * y <= 268435456 := by
 constructor
 . have := Int.mul_le_mul_of_nonneg_left h2 h0
   omega
 . have := Int.mul_le_mul_of_nonneg_left h3 h0
   omega
theorem clamp_le (x lo hi : Int) (h : lo <= hi) : lo <= mn (mx x lo) hi /\ mn (mx x lo) hi <= hi := by unfold mn mx; omega
theorem wt_le (a : Arc) (ii : Int) : -269484032 <= wt a ii /\ wt a ii <= 269484032 := by
 have h1 := clamp_le (Arc.Lat a) (-1048576) 1048576 (by omega)
 have h2 := clamp_le (Arc.Dist a) (-1048576) 1048576 (by omega)
 have h3 := clamp_le ii 0 256 (by omega)
 have h4 := prod_le h3.1 h3.2 h2.1 h2.2
 unfold wt
 omega
theorem weight_f (a : Arc) (ii : Int) : diffcons_Weight.f a ii = some (wt a ii) := by
 have h1 := clamp_le (Arc.Lat a) (-1048576) 1048576 (by omega)
 have h2 := clamp_le (Arc.Dist a) (-1048576) 1048576 (by omega)
 have h3 := clamp_le ii 0 256 (by omega)
 have h4 := prod_le h3.1 h3.2 h2.1 h2.2
 unfold diffcons_Weight.f diffcons_limit.f
 simp only [Option.bind_some]
 rw [wrap_id (n := mn (mx ii 0) 256 * mn (mx (Arc.Dist a) (-1048576)) 1048576) (by omega) (by omega), wrap_id (by omega) (by omega)]
 rfl
def Inn (n : Int) (a : Arc) : Prop := 0 <= (Arc.From a) /\ (Arc.From a) < n /\ 0 <= (Arc.To a) /\ (Arc.To a) < n
instance (n : Int) (a : Arc) : Decidable (Inn n a) := by unfold Inn; infer_instance
theorem within_f (n : Int) (a : Arc) : diffcons_within.f a n = some (decide (Inn n a)) := by
 unfold diffcons_within.f
 by_cases h0 : 0 <= (Arc.From a) <;> by_cases h1 : (Arc.From a) < n <;> by_cases h2 : 0 <= (Arc.To a) <;> by_cases h3 : (Arc.To a) < n <;> simp [Inn, h0, h1, h2, h3]
def bnd (l : List Int) (v : Int) : Int := if v >= (l.length : Int) then 0 else mn (mx (rd l v) (-1073741824)) 1073741824
theorem bnd_le (l : List Int) (v : Int) : -1073741824 <= bnd l v /\ bnd l v <= 1073741824 := by
 unfold bnd
 split
 . omega
 . exact clamp_le _ _ _ (by omega)
theorem bound_f {l : List Int} {v : Int} (h : 0 <= v) : diffcons_bound.f l v = some (bnd l v) := by
 unfold diffcons_bound.f bnd diffcons_limit.f
 by_cases h1 : (l.length : Int) <= v
 . simp (disch := omega) only [↓cdT, if_pos]
 . simp (disch := omega) only [↓cdF, if_pos, if_neg, Option.bind_some]
def nod (n : Int) : Int := mn (mx n 0) 8192
theorem nodes_f (n : Int) : diffcons_nodes.f n = some (nod n) := by
 unfold diffcons_nodes.f diffcons_limit.f nod; rfl
theorem nod_le (n : Int) : 0 <= nod n /\ nod n <= 8192 := clamp_le _ _ _ (by omega)
def Feas (n : Int) (arcs : List Arc) (ii : Int) (p : Int -> Int) : Prop := ∀ i : Int, 0 <= i -> i < arcs.length -> Inn n (rd arcs i) -> p (Arc.From (rd arcs i)) + wt (rd arcs i) ii <= p (Arc.To (rd arcs i))
structure Inv (n : Int) (arcs : List Arc) (ii : Int) (lo : Int -> Int) (s b : List Int) (T : Int -> Int) (t0 j last : Int) : Prop where
 ls : (s.length : Int) = n
 lb : (b.length : Int) = n
 low : ∀ v, 0 <= v -> v < n -> lo v <= rd s v
 cap : ∀ v, 0 <= v -> v < n -> rd s v <= 1073741824 + (t0 + j) * 269484032
 least : ∀ p : Int -> Int, Feas n arcs ii p -> (∀ v, 0 <= v -> v < n -> lo v <= p v) -> ∀ v, 0 <= v -> v < n -> rd s v <= p v
 tn : ∀ v, 0 <= v -> v < n -> 0 <= T v /\ T v <= t0 + j
 byr : ∀ v, 0 <= v -> v < n -> (rd b v = -1 /\ T v = 0) \/ (0 < T v /\ 0 <= rd b v /\ rd b v < arcs.length /\ Inn n (rd arcs (rd b v)) /\ (Arc.To (rd arcs (rd b v))) = v /\
  rd s v <= rd s (Arc.From (rd arcs (rd b v))) + wt (rd arcs (rd b v)) ii /\ (T v <= T (Arc.From (rd arcs (rd b v))) -> rd s v < rd s (Arc.From (rd arcs (rd b v))) + wt (rd arcs (rd b v)) ii) /\ T v <= T (Arc.From (rd arcs (rd b v))) + arcs.length)
 sat : ∀ i : Int, 0 <= i -> i < arcs.length -> Inn n (rd arcs i) -> rd s (Arc.From (rd arcs i)) + wt (rd arcs i) ii <= rd s (Arc.To (rd arcs i)) \/ (if i < j then t0 + i else t0 - arcs.length + i) < T (Arc.From (rd arcs i))
 lst : (last = -1 /\ ∀ v, 0 <= v -> v < n -> T v <= t0) \/ (0 <= last /\ last < n /\ t0 < T last)
section
variable {n : Int} {arcs : List Arc} {ii : Int} {lo : Int -> Int} {s b : List Int} {T : Int -> Int} {t0 j last : Int}
theorem Inv.skip (h : Inv n arcs ii lo s b T t0 j last) (hj : 0 <= j) (hs : Inn n (rd arcs j) -> rd s (Arc.From (rd arcs j)) + wt (rd arcs j) ii <= rd s (Arc.To (rd arcs j))) : Inv n arcs ii lo s b T t0 (j + 1) last where
 ls := h.ls
 lb := h.lb
 low := h.low
 cap v h0 h1 := by have := h.cap v h0 h1; omega
 least := h.least
 tn v h0 h1 := by have := h.tn v h0 h1; omega
 byr := h.byr
 sat i h0 h1 hi := by
  by_cases e : i = j
  . subst e; exact Or.inl (hs hi)
  . rcases h.sat i h0 h1 hi with h2 | h2
    . exact Or.inl h2
    . right
      by_cases hlt : i < j
      . rw [if_pos (by omega)]; rw [if_pos hlt] at h2; exact h2
      . rw [if_neg (by omega)]; rw [if_neg hlt] at h2; exact h2
 lst := h.lst
theorem Inv.put (h : Inv n arcs ii lo s b T t0 j last) (hj : 0 <= j) (hjl : j < arcs.length) (hi : Inn n (rd arcs j)) (hv : rd s (Arc.To (rd arcs j)) < rd s (Arc.From (rd arcs j)) + wt (rd arcs j) ii) :
 Inv n arcs ii lo (s.set (Arc.To (rd arcs j)).toNat (rd s (Arc.From (rd arcs j)) + wt (rd arcs j) ii)) (b.set (Arc.To (rd arcs j)).toNat j) (fun x => if x = (Arc.To (rd arcs j)) then t0 + j + 1 else T x) t0 (j + 1) (Arc.To (rd arcs j)) := by
 have hA := h.sat j hj hjl hi
 rw [if_neg (by omega)] at hA
 have hT : t0 - arcs.length + j < T (Arc.From (rd arcs j)) := by
  rcases hA with hA | hA
  . omega
  . exact hA
 clear hA
 obtain ⟨hu0, hu1, hv0, hv1⟩ := id hi
 have hls := h.ls
 have hlb := h.lb
 have hw := wt_le (rd arcs j) ii
 have hself : (Arc.From (rd arcs j)) = (Arc.To (rd arcs j)) -> 0 < wt (rd arcs j) ii := fun e => by rw [e] at hv; omega
 generalize hS : rd s (Arc.From (rd arcs j)) + wt (rd arcs j) ii = S at hv
 have rs : ∀ x, 0 <= x -> rd (s.set (Arc.To (rd arcs j)).toNat S) x = if x = (Arc.To (rd arcs j)) then S else rd s x := fun x hx => rd_set hv0 (by omega) hx
 have rb : ∀ x, 0 <= x -> rd (b.set (Arc.To (rd arcs j)).toNat j) x = if x = (Arc.To (rd arcs j)) then j else rd b x := fun x hx => rd_set hv0 (by omega) hx
 have tu := h.tn _ hu0 hu1
 have tv := h.tn _ hv0 hv1
 refine ⟨by simpa using hls, by simpa using hlb, ?_, ?_, ?_, ?_, ?_, ?_, Or.inr ⟨hv0, hv1, by rw [if_pos rfl]; omega⟩⟩
 . intro v h0 h1
   rw [rs v h0]
   have := h.low v h0 h1
   split
   . rename_i e; subst e; omega
   . exact this
 . intro v h0 h1
   rw [rs v h0]
   have := h.cap v h0 h1
   have := h.cap _ hu0 hu1
   split <;> omega
 . intro p hp hlo v h0 h1
   rw [rs v h0]
   have h2 := h.least p hp hlo
   split
   . rename_i e
     have := hp j hj hjl hi
     have := h2 _ hu0 hu1
     subst e; omega
   . exact h2 v h0 h1
 . intro v h0 h1
   have := h.tn v h0 h1
   try dsimp only
   split <;> omega
 . intro v h0 h1
   rw [rb v h0]
   by_cases e : v = (Arc.To (rd arcs j))
   . right
     rw [if_pos e]
     try dsimp only
     rw [if_pos e, rs v h0, if_pos e, rs _ hu0]
     refine ⟨by omega, hj, hjl, hi, e.symm, ?_, ?_, ?_⟩
     . split
       . rename_i e2; have := hself e2; omega
       . omega
     . intro hle
       split
       . rename_i e2; have := hself e2; omega
       . rename_i e2; rw [if_neg e2] at hle; omega
     . split <;> omega
   . rw [if_neg e]
     rcases h.byr v h0 h1 with ⟨a1, a2⟩ | ⟨a1, a2, a3, a4, a5, a6, a7, a8⟩
     . left
       exact ⟨a1, by rw [if_neg e]; exact a2⟩
     . right
       try dsimp only
       rw [if_neg e, rs v h0, if_neg e, rs _ a4.1]
       refine ⟨a1, a2, a3, a4, a5, ?_, ?_, ?_⟩
       . split
         . rename_i e2; rw [e2] at a6; omega
         . exact a6
       . intro hle
         split
         . rename_i e2; rw [e2] at a6; omega
         . rename_i e2; rw [if_neg e2] at hle; exact a7 hle
       . split
         . rename_i e2; rw [e2] at a8; omega
         . exact a8
 . intro i h0 h1 hin
   obtain ⟨hiu0, hiu1, hiv0, hiv1⟩ := id hin
   rw [rs _ hiu0, rs _ hiv0]
   try dsimp only
   have tiu := h.tn _ hiu0 hiu1
   by_cases e : (Arc.From (rd arcs i)) = (Arc.To (rd arcs j))
   . right
     rw [if_pos e]
     split <;> omega
   . rw [if_neg e, if_neg e]
     by_cases ij : i = j
     . subst ij
       left
       rw [if_pos rfl]; omega
     . rcases h.sat i h0 h1 hin with h2 | h2
       . left
         split
         . rename_i e2; rw [e2] at h2; omega
         . exact h2
       . right
         by_cases hlt : i < j
         . rw [if_pos (by omega)]; rw [if_pos hlt] at h2; exact h2
         . rw [if_neg (by omega)]; rw [if_neg hlt] at h2; exact h2
theorem Inv.next (h : Inv n arcs ii lo s b T t0 j last) (hj : j = arcs.length) : Inv n arcs ii lo s b T (t0 + arcs.length) 0 (-1) where
 ls := h.ls
 lb := h.lb
 low := h.low
 cap v h0 h1 := by have := h.cap v h0 h1; omega
 least := h.least
 tn v h0 h1 := by have := h.tn v h0 h1; omega
 byr := h.byr
 sat i h0 h1 hi := by
  rcases h.sat i h0 h1 hi with h2 | h2
  . exact Or.inl h2
  . right
    rw [if_neg (by omega)]; rw [if_pos (by omega)] at h2; omega
 lst := Or.inl ⟨rfl, fun v h0 h1 => by have := h.tn v h0 h1; omega⟩
theorem Inv.feas (h : Inv n arcs ii lo s b T t0 j last) (hj : j = arcs.length) (hl : last < 0) : Feas n arcs ii (rd s) := by
 intro i h0 h1 hi
 rcases h.sat i h0 h1 hi with h2 | h2
 . exact h2
 . exfalso
   rw [if_pos (by omega)] at h2
   rcases h.lst with ⟨_, h3⟩ | ⟨h3, _⟩
   . have := h3 _ hi.1 hi.2.1
     omega
   . omega
end
def Path (n : Int) (arcs : List Arc) : List Int -> Int -> Int -> Prop
 | [], u, v => u = v
 | i :: c, u, v => 0 <= i /\ i < arcs.length /\ Inn n (rd arcs i) /\ (Arc.From (rd arcs i)) = u /\ Path n arcs c (Arc.To (rd arcs i)) v
def sumw (arcs : List Arc) (ii : Int) : List Int -> Int
 | [] => 0
 | i :: c => wt (rd arcs i) ii + sumw arcs ii c
def Cyc (n : Int) (arcs : List Arc) (ii : Int) (c : List Int) : Prop := c ≠ [] /\ (∃ u, Path n arcs c u u) /\ (c.map fun i => (Arc.From (rd arcs i))).Nodup /\ 0 < sumw arcs ii c
section
variable {n : Int} {arcs : List Arc} {ii : Int}
theorem Path.pot {p : Int -> Int} : ∀ {c : List Int} {u v : Int}, Path n arcs c u v -> (∀ i ∈ c, p (Arc.From (rd arcs i)) + wt (rd arcs i) ii <= p (Arc.To (rd arcs i))) -> p u + sumw arcs ii c <= p v
 | [], u, v, h, _ => by cases h; simp [sumw]
 | i :: c, u, v, ⟨h0, h1, h2, h3, h4⟩, hp => by
   have a := hp i List.mem_cons_self
   have b := Path.pot (p := p) h4 (fun k hk => hp k (List.mem_cons_of_mem _ hk))
   subst h3
   simp only [sumw]
   omega
theorem Path.mem {c : List Int} : ∀ {u v : Int}, Path n arcs c u v -> ∀ i ∈ c, 0 <= i /\ i < arcs.length /\ Inn n (rd arcs i) := by
 induction c with
 | nil => intro u v _ i hi; simp at hi
 | cons j c ih =>
   intro u v ⟨h0, h1, h2, h3, h4⟩ i hi
   rcases List.mem_cons.1 hi with rfl | hi
   . exact ⟨h0, h1, h2⟩
   . exact ih h4 i hi
theorem Cyc.not_feas {c : List Int} (h : Cyc n arcs ii c) {p : Int -> Int} (hp : Feas n arcs ii p) : False := by
 obtain ⟨_, ⟨u, hu⟩, _, hs⟩ := h
 have := hu.pot (ii := ii) (p := p) (fun i hi => by obtain ⟨h0, h1, h2⟩ := hu.mem i hi; exact hp i h0 h1 h2)
 omega
end
def nx (arcs : List Arc) (b : List Int) (v : Int) : Int := (Arc.From (rd arcs (rd b v)))
def it (arcs : List Arc) (b : List Int) (v : Int) : Nat -> Int
 | 0 => v
 | k + 1 => nx arcs b (it arcs b v k)
theorem it_add (arcs : List Arc) (b : List Int) (v : Int) (i j : Nat) : it arcs b v (i + j) = it arcs b (it arcs b v i) j := by
 induction j with
 | zero => rfl
 | succ j ih => rw [<- Nat.add_assoc]; simp only [it, ih]
def Good (n : Int) (arcs : List Arc) (b : List Int) (v : Int) : Prop := 0 <= v /\ v < n /\ 0 <= rd b v /\ rd b v < arcs.length /\ Inn n (rd arcs (rd b v)) /\ (Arc.To (rd arcs (rd b v))) = v
theorem least_of (q : Nat -> Prop) [DecidablePred q] (m : Nat) : q m -> ∃ k, k <= m /\ q k /\ ∀ t, t < k -> ¬ q t := by
 induction m using Nat.strongRecOn with
 | _ m ih =>
   intro h
   by_cases hex : ∃ t, t < m /\ q t
   . obtain ⟨t, ht, hq⟩ := hex
     obtain ⟨k, h1, h2, h3⟩ := ih t ht hq
     exact ⟨k, by omega, h2, h3⟩
   . exact ⟨m, Nat.le_refl _, h, fun t ht hq => hex ⟨t, ht, hq⟩⟩
section
variable {n : Int} {arcs : List Arc} {ii : Int} {lo : Int -> Int} {s b : List Int} {T : Int -> Int} {t0 j last : Int}
theorem Inv.chain (h : Inv n arcs ii lo s b T t0 j last) (hn : 0 <= n) (hl : 0 <= last) (ht : n * arcs.length <= t0) : ∀ i : Nat, (i : Int) <= n ->
 0 <= it arcs b last i /\ it arcs b last i < n /\ n * arcs.length < T (it arcs b last i) + i * arcs.length
 | 0, _ => by
   rcases h.lst with ⟨h1, _⟩ | ⟨h1, h2, h3⟩
   . omega
   . refine ⟨h1, h2, ?_⟩
     show _ < T last + ((0 : Nat) : Int) * _
     simp; omega
 | i + 1, hi => by
   obtain ⟨h1, h2, h3⟩ := Inv.chain h hn hl ht i (by omega)
   have hle : (i : Int) * arcs.length <= n * arcs.length := Int.mul_le_mul_of_nonneg_right (by omega) (by omega)
   have hsucc : ((i + 1 : Nat) : Int) * arcs.length = i * arcs.length + arcs.length := by rw [Int.natCast_add, Int.add_mul]; simp
   rcases h.byr _ h1 h2 with ⟨_, a⟩ | ⟨a1, a2, a3, a4, a5, a6, a7, a8⟩
   . omega
   . refine ⟨a4.1, a4.2.1, ?_⟩
     show _ < T (Arc.From (rd arcs (rd b (it arcs b last i)))) + _
     omega
theorem Inv.good (h : Inv n arcs ii lo s b T t0 j last) (hn : 0 <= n) (hl : 0 <= last) (ht : n * arcs.length <= t0) (i : Nat) (hi : (i : Int) <= n) : Good n arcs b (it arcs b last i) := by
 obtain ⟨h1, h2, h3⟩ := h.chain hn hl ht i hi
 have hle : (i : Int) * arcs.length <= n * arcs.length := Int.mul_le_mul_of_nonneg_right (by omega) (by omega)
 rcases h.byr _ h1 h2 with ⟨_, a⟩ | ⟨a1, a2, a3, a4, a5, _⟩
 . omega
 . exact ⟨h1, h2, a2, a3, a4, a5⟩
theorem Inv.ring (h : Inv n arcs ii lo s b T t0 j last) (hn : 0 <= n) (hl : 0 <= last) (ht : n * arcs.length <= t0) :
 ∃ m : Nat, 0 < m /\ (m : Int) <= n /\ it arcs b (it arcs b last n.toNat) m = it arcs b last n.toNat /\ (∀ t, 0 < t -> t < m -> it arcs b (it arcs b last n.toNat) t ≠ it arcs b last n.toNat) /\
   (∀ t, Good n arcs b (it arcs b (it arcs b last n.toNat) t)) /\ ((List.range m).map (it arcs b (it arcs b last n.toNat))).Nodup := by
 have hg := h.good hn hl ht
 obtain ⟨i, k, hik, hk, he⟩ := pigeon n.toNat (it arcs b last) (fun i hi => by have := hg i (by omega); exact ⟨this.1, by have := this.2.1; omega⟩)
 have hper : ∀ t, it arcs b last (k + t) = it arcs b last (i + t) := fun t => by rw [it_add, it_add, he]
 have hall : ∀ t, Good n arcs b (it arcs b last t) := by
  intro t
  induction t using Nat.strongRecOn with
  | _ t ih =>
    by_cases htn : (t : Int) <= n
    . exact hg t htn
    . have e := hper (t - k)
      rw [show k + (t - k) = t by omega] at e
      rw [e]
      exact ih _ (by omega)
 have hret : it arcs b (it arcs b last n.toNat) (k - i) = it arcs b last n.toNat := by
  rw [<- it_add]
  have e := hper (n.toNat - i)
  rw [show k + (n.toNat - i) = n.toNat + (k - i) by omega, show i + (n.toNat - i) = n.toNat by omega] at e
  exact e
 generalize hy : it arcs b last n.toNat = y at hret
 have hall' : ∀ t, Good n arcs b (it arcs b y t) := fun t => by rw [<- hy, <- it_add]; exact hall _
 obtain ⟨m, _, ⟨hm0, hm⟩, hmin⟩ := least_of (fun t => 0 < t /\ it arcs b y t = y) (k - i) ⟨by omega, hret⟩
 have hne : ∀ t, 0 < t -> t < m -> it arcs b y t ≠ y := fun t h0 h1 h2 => hmin t h1 ⟨h0, h2⟩
 have hnd : ((List.range m).map (it arcs b y)).Nodup := by
  rw [List.Nodup, List.pairwise_map]
  refine List.Pairwise.imp_of_mem (R := fun a b => a < b) ?_ List.pairwise_lt_range
  intro a c ha hc hac he
  have hcm := List.mem_range.1 hc
  have : it arcs b y (a + (m - c)) = y := by
   rw [it_add, he, <- it_add, show c + (m - c) = m by omega, hm]
  exact hne _ (by omega) (by omega) this
 refine ⟨m, hm0, ?_, hm, hne, hall', hnd⟩
 have := nodup_le n.toNat _ hnd (fun x hx => by
  obtain ⟨t, _, rfl⟩ := List.mem_map.1 hx
  have := hall' t
  exact ⟨this.1, by have := this.2.1; omega⟩)
 rw [List.length_map, List.length_range] at this
 omega
def back (arcs : List Arc) (b : List Int) (y : Int) (m : Nat) : List Int := ((List.range m).map fun t => rd b (it arcs b y t)).reverse
theorem back_succ (y : Int) (m : Nat) : back arcs b y (m + 1) = rd b (it arcs b y m) :: back arcs b y m := by
 unfold back; rw [List.range_succ, List.map_append, List.reverse_append]; rfl
theorem back_path {y : Int} (hg : ∀ t, Good n arcs b (it arcs b y t)) : ∀ m, Path n arcs (back arcs b y m) (it arcs b y m) y
 | 0 => rfl
 | m + 1 => by
   rw [back_succ]
   obtain ⟨h0, h1, h2, h3, h4, h5⟩ := hg m
   refine ⟨h2, h3, h4, rfl, ?_⟩
   rw [h5]
   exact back_path hg m
theorem Inv.back_sum (h : Inv n arcs ii lo s b T t0 j last) {y : Int} (hg : ∀ t, Good n arcs b (it arcs b y t)) : ∀ m, rd s y - rd s (it arcs b y m) <= sumw arcs ii (back arcs b y m) /\
 (rd s y - rd s (it arcs b y m) < sumw arcs ii (back arcs b y m) \/ T (it arcs b y m) < T y \/ m = 0)
 | 0 => ⟨by simp [back, sumw, it], Or.inr (Or.inr rfl)⟩
 | m + 1 => by
   obtain ⟨h1, h2⟩ := Inv.back_sum h hg m
   rw [back_succ]
   obtain ⟨g0, g1, g2, g3, g4, g5⟩ := hg m
   rcases h.byr _ g0 g1 with ⟨a, _⟩ | ⟨a1, a2, a3, a4, a5, a6, a7, a8⟩
   . omega
   . simp only [sumw]
     have e : it arcs b y (m + 1) = (Arc.From (rd arcs (rd b (it arcs b y m)))) := rfl
     rw [<- e] at a6 a7 a8
     refine ⟨by omega, ?_⟩
     by_cases hle : T (it arcs b y m) <= T (it arcs b y (m + 1))
     . have := a7 hle
       left; omega
     . rcases h2 with h2 | h2 | h2
       . left; omega
       . right; left; omega
       . subst h2
         right; left
         have : it arcs b y 0 = y := rfl
         rw [this] at hle; omega
theorem Inv.cyc (h : Inv n arcs ii lo s b T t0 j last) {y : Int} {m : Nat} (hm0 : 0 < m) (hm : it arcs b y m = y) (hg : ∀ t, Good n arcs b (it arcs b y t)) (hd : ((List.range m).map (it arcs b y)).Nodup) : Cyc n arcs ii (back arcs b y m) := by
 have hp := back_path hg m
 have hs := h.back_sum hg m
 rw [hm] at hp hs
 refine ⟨?_, ⟨y, hp⟩, ?_, ?_⟩
 . intro e
   have := congrArg List.length e
   simp [back] at this
   omega
 . have e1 : (back arcs b y m).map (fun i => (Arc.From (rd arcs i))) = ((List.range m).map fun t => it arcs b y (t + 1)).reverse := by
    unfold back
    rw [List.map_reverse, List.map_map]
    rfl
   rw [e1]
   refine (List.reverse_perm _).nodup_iff.2 ?_
   have e2 : y :: ((List.range m).map fun t => it arcs b y (t + 1)) = (List.range m).map (it arcs b y) ++ [y] := by
    have a1 : (List.range (m + 1)).map (it arcs b y) = (List.range m).map (it arcs b y) ++ [y] := by rw [List.range_succ, List.map_append]; simp [hm]
    have a2 : (List.range (m + 1)).map (it arcs b y) = y :: ((List.range m).map fun t => it arcs b y (t + 1)) := by rw [List.range_succ_eq_map, List.map_cons, List.map_map]; rfl
    rw [<- a1, a2]
   have hperm : (y :: ((List.range m).map fun t => it arcs b y (t + 1))).Perm (y :: (List.range m).map (it arcs b y)) := by
    rw [e2]; exact List.perm_append_singleton y _
   exact ((List.perm_cons y).1 hperm).nodup_iff.2 hd
 . rcases hs.2 with h2 | h2 | h2 <;> omega
end
theorem reverse_f (xs : List Int) (hlen : xs.length <= 1000000000) : Ev (fun k => slices_Reverse_int_int.f k xs) ((), xs.reverse, ()) := by
 have hrev : ∀ t : Int, 0 <= t -> t < xs.length -> rd xs.reverse t = rd xs ((xs.length : Int) - 1 - t) := by
  intro t h0 h1
  rw [rd_eq (j := t.toNat) (by omega) (by rw [List.length_reverse]; omega), rd_eq (j := xs.length - 1 - t.toNat) (by omega) (by omega), List.getElem_reverse]
 have hend : ∀ (ys : List Int) (i j : Int), i + j = (xs.length : Int) - 1 -> j <= i -> ys.length = xs.length ->
  (∀ t : Int, 0 <= t -> t < xs.length -> rd ys t = if i <= t /\ t <= j then rd xs t else rd xs ((xs.length : Int) - 1 - t)) -> ys = xs.reverse := by
  intro ys i j hs hji hl hx
  refine rd_ext (by simp [hl]) (fun t h0 h1 => ?_)
  rw [hx t h0 (by omega), hrev t h0 (by omega)]
  split
  . congr 1; omega
  . rfl
 have loop : ∀ (d : Nat) (ys : List Int) (i j : Int), 0 <= i -> i + j = (xs.length : Int) - 1 -> j - i < 2 * d -> ys.length = xs.length ->
  (∀ t : Int, 0 <= t -> t < xs.length -> rd ys t = if i <= t /\ t <= j then rd xs t else rd xs ((xs.length : Int) - 1 - t)) -> Ev (fun k => slices_Reverse_int_int.c1 k i j ys) ((), xs.reverse, ()) := by
  intro d
  induction d with
  | zero =>
    intro ys i j h0 hs hd hl hx
    refine .succ ?_
    simp (disch := omega) only [slices_Reverse_int_int.c1, ↓cdF]
    rw [hend ys i j hs (by omega) hl hx]
    exact .ret _
  | succ d ih =>
    intro ys i j h0 hs hd hl hx
    refine .succ ?_
    by_cases hij : i < j
    . simp (disch := first | omega | (simp only [List.length_set]; omega)) only [slices_Reverse_int_int.c1, ↓cdT, ↓if_pos, w64_id]
      refine ih _ _ _ (by omega) (by omega) (by omega) (by simp [hl]) fun t ht0 ht1 => ?_
      rw [rd_set (by omega) (by rw [List.length_set]; omega) ht0, rd_set h0 (by omega) ht0]
      have e1 := hx i h0 (by omega)
      have e2 := hx j (by omega) (by omega)
      rw [if_pos (by omega)] at e1 e2
      by_cases c1 : t = j
      . rw [if_pos c1, if_neg (by omega), e1]; congr 1; omega
      . rw [if_neg c1]
        by_cases c2 : t = i
        . rw [if_pos c2, if_neg (by omega), e2]; congr 1; omega
        . rw [if_neg c2, hx t ht0 ht1]
          by_cases c3 : i <= t /\ t <= j
          . rw [if_pos c3, if_pos (by omega)]
          . rw [if_neg c3, if_neg (by omega)]
    . simp (disch := omega) only [slices_Reverse_int_int.c1, ↓cdF]
      rw [hend ys i j hs (by omega) hl hx]
      exact .ret _
 simp only [slices_Reverse_int_int.f]
 rw [w64_id (by omega) (by omega)]
 exact loop xs.length xs 0 _ (by omega) (by omega) (by omega) rfl (fun t h0 h1 => by rw [if_pos (by omega)])
section
variable {n : Int} {arcs : List Arc} {b : List Int}
theorem around_c8 {y : Int} {m : Nat} (hm : it arcs b y m = y) (hmn : m <= 8192) (hne : ∀ t, 0 < t -> t < m -> it arcs b y t ≠ y) (hg : ∀ t, Good n arcs b (it arcs b y t)) (hb : (b.length : Int) = n) :
 ∀ (d t : Nat), t + d + 1 = m -> Ev (fun k => diffcons_around.c8 k arcs b y (it arcs b y t) ((List.range t).map fun i => rd b (it arcs b y i))) (some (back arcs b y m)) := by
 intro d
 induction d with
 | zero =>
   intro t htd
   obtain ⟨g0, g1, g2, g3, g4, g5⟩ := hg t
   obtain rfl : m = t + 1 := by omega
   have hlst : ((List.range t).map fun i => rd b (it arcs b y i)) ++ [rd b (it arcs b y t)] = (List.range (t + 1)).map fun i => rd b (it arcs b y i) := by rw [List.range_succ, List.map_append]; rfl
   have hm' : (Arc.From (rd arcs (rd b (it arcs b y t)))) = y := hm
   refine .succ ?_
   simp (disch := first | omega | (simp only [List.length_map, List.length_range, List.length_singleton]; omega)) only [diffcons_around.c8, ↓if_pos, ↓bleT, ↓cdT, hlst]
   refine .bind (reverse_f _ (by simp; omega)) ?_
   exact .ret _
 | succ d ih =>
   intro t htd
   obtain ⟨g0, g1, g2, g3, g4, g5⟩ := hg t
   have hlst : ((List.range t).map fun i => rd b (it arcs b y i)) ++ [rd b (it arcs b y t)] = (List.range (t + 1)).map fun i => rd b (it arcs b y i) := by rw [List.range_succ, List.map_append]; rfl
   have hm' : ¬ (Arc.From (rd arcs (rd b (it arcs b y t)))) = y := hne (t + 1) (by omega) (by omega)
   refine .succ ?_
   simp (disch := first | omega | (simp only [List.length_map, List.length_range, List.length_singleton]; omega)) only [diffcons_around.c8, ↓if_pos, ↓bleT, ↓cdF, hlst]
   exact ih (t + 1) (by omega)
theorem around_c2 {v : Int} {N : Nat} (hN : (N : Int) = n) (hn : n <= 8192) (hb : (b.length : Int) = n) (hg : ∀ t : Nat, (t : Int) <= n -> Good n arcs b (it arcs b v t)) {Q : Option (List Int) -> Prop}
 (hk : W (fun k => diffcons_around.c8 k arcs b (it arcs b v N) (it arcs b v N) []) Q) :
 ∀ (d t : Nat), t + d = N -> W (fun k => diffcons_around.c2 k arcs b (it arcs b v t) n t) Q := by
 intro d
 induction d with
 | zero =>
   intro t ht
   obtain rfl : t = N := by omega
   refine .succ ?_
   simp (disch := omega) only [diffcons_around.c2, ↓cdF]
   refine .succ ?_
   simp only [diffcons_around.c6]
   exact hk
 | succ d ih =>
   intro t ht
   obtain ⟨g0, g1, g2, g3, g4, g5⟩ := hg t (by omega)
   refine .succ ?_
   simp (disch := omega) only [diffcons_around.c2, ↓cdT, ↓cdF, ↓if_pos, w64_id]
   exact ih (t + 1) (by omega)
end
theorem around_f {n : Int} {arcs : List Arc} {ii : Int} {lo : Int -> Int} {s b : List Int} {T : Int -> Int} {t0 j last : Int} (h : Inv n arcs ii lo s b T t0 j last) (hn : 0 <= n) (hn2 : n <= 8192) (hl : 0 <= last) (ht : n * arcs.length <= t0) :
 W (fun k => diffcons_around.f k arcs b last n) (fun c => ∃ l, c = some l /\ Cyc n arcs ii l) := by
 obtain ⟨m, hm0, hmn, hm, hne, hg, hd⟩ := h.ring hn hl ht
 simp only [diffcons_around.f]
 refine around_c2 (N := n.toNat) (by omega) hn2 h.lb (fun t htn => h.good hn hl ht t htn) ?_ n.toNat 0 (by omega)
 have := around_c8 hm (by omega) hne hg h.lb (m - 1) 0 (by omega)
 exact this.w ⟨_, rfl, h.cyc hm0 hm hg hd⟩
def Answer (n : Int) (arcs : List Arc) (ii : Int) (lo : Int -> Int) (r : List Int × Option (List Int) × Unit) : Prop :=
 (r.2.1 = none /\ (r.1.length : Int) = n /\ (∀ v, 0 <= v -> v < n -> lo v <= rd r.1 v /\ rd r.1 v <= 1073741824 + (n + 2) * arcs.length * 269484032) /\ Feas n arcs ii (rd r.1) /\ ∀ p : Int -> Int, Feas n arcs ii p -> (∀ v, 0 <= v -> v < n -> lo v <= p v) -> ∀ v, 0 <= v -> v < n -> rd r.1 v <= p v) \/
 (r.1 = [] /\ ∃ c, r.2.1 = some c /\ Cyc n arcs ii c)
section
variable {n : Int} {arcs : List Arc} {ii : Int} {lo : Int -> Int}
theorem after_c14 (hn : 0 <= n) (hn2 : n <= 8192) (hlen : (n + 2) * arcs.length <= 10000000000) {r : Int} (hr0 : 0 <= r) (hrn : r <= n)
 (hnext : r < n -> ∀ (s b : List Int) (T : Int -> Int), Inv n arcs ii lo s b T ((r + 1) * arcs.length) 0 (-1) -> W (fun k => diffcons_After.c12 k n arcs ii (r + 1) s b) (Answer n arcs ii lo))
 (hlow : ∀ v, -1073741824 <= lo v) :
 ∀ (d : Nat) (s b : List Int) (T : Int -> Int) (j last : Int), 0 <= j -> j + d = arcs.length -> Inv n arcs ii lo s b T (r * arcs.length) j last ->
   W (fun k => diffcons_After.c14 k n arcs ii r last arcs arcs.length j s b) (Answer n arcs ii lo) := by
 have hrl : 0 <= r * arcs.length := Int.mul_nonneg hr0 (by omega)
 have hrl2 : (r + 2) * arcs.length <= (n + 2) * arcs.length := Int.mul_le_mul_of_nonneg_right (by omega) (by omega)
 have e2 : (r + 2) * (arcs.length : Int) = r * arcs.length + 2 * arcs.length := Int.add_mul _ _ _
 have e1 : (r + 1) * (arcs.length : Int) = r * arcs.length + arcs.length := by rw [Int.add_mul]; omega
 intro d
 induction d with
 | zero =>
   intro s b T j last hj0 hjd h
   have hjl : j = arcs.length := by omega
   refine .succ ?_
   simp (disch := omega) only [diffcons_After.c14, ↓cdF]
   refine .dec (fun hl => .ret (Or.inl ⟨rfl, h.ls, fun v h0 h1 => ⟨h.low v h0 h1, by have := h.cap v h0 h1; show rd s v <= _; omega⟩, h.feas hjl hl, h.least⟩)) fun hl => ?_
   refine .dec (fun hrn' => ?_) fun hrn' => ?_
   . have hnr : n * arcs.length <= r * arcs.length := Int.mul_le_mul_of_nonneg_right (by omega) (by omega)
     refine W.bind (around_f h hn hn2 (by omega) hnr) fun c hc => ?_
     obtain ⟨l, rfl, hc⟩ := hc
     simp only [Option.isSome_some, cond_true, Option.getD_some]
     exact .ret (Or.inr ⟨rfl, l, rfl, hc⟩)
   . rw [w64_id (by omega) (by omega)]
     exact hnext (by omega) s b T (by rw [e1]; exact h.next hjl)
 | succ d ih =>
   intro s b T j last hj0 hjd h
   have hjl : j < arcs.length := by omega
   refine .succ ?_
   simp (disch := omega) only [diffcons_After.c14, ↓cdT, ↓if_pos, within_f, weight_f, Option.bind_some, w64_id (n := j + 1)]
   by_cases hi : Inn n (rd arcs j)
   . obtain ⟨hu0, hu1, hv0, hv1⟩ := id hi
     have hcu := h.cap _ hu0 hu1
     have hlu := h.low _ hu0 hu1
     have hlo := hlow (Arc.From (rd arcs j))
     have hw := wt_le (rd arcs j) ii
     have hls := h.ls
     have hlb := h.lb
     simp only [hi, decide_true, Bool.not_true, cond_false]
     simp (disch := omega) only [↓if_pos, w64_id]
     refine .dec (fun hv => ?_) fun hv => ?_
     . exact ih _ _ _ (j + 1) _ (by omega) (by omega) (h.put hj0 hjl hi hv)
     . exact ih _ _ _ (j + 1) last (by omega) (by omega) (h.skip hj0 (fun _ => by omega))
   . simp only [hi, decide_false, Bool.not_false, cond_true]
     exact ih _ _ _ (j + 1) last (by omega) (by omega) (h.skip hj0 (fun h' => absurd h' hi))
theorem after_c12 (hn : 0 <= n) (hn2 : n <= 8192) (hlen : (n + 2) * arcs.length <= 10000000000) (hlow : ∀ v, -1073741824 <= lo v) :
 ∀ (d : Nat) (r : Int), 0 <= r -> r + d = n -> ∀ (s b : List Int) (T : Int -> Int), Inv n arcs ii lo s b T (r * arcs.length) 0 (-1) -> W (fun k => diffcons_After.c12 k n arcs ii r s b) (Answer n arcs ii lo) := by
 intro d
 induction d with
 | zero =>
   intro r hr0 hrd s b T h
   refine .succ ?_
   simp only [diffcons_After.c12]
   exact after_c14 hn hn2 hlen hr0 (by omega) (fun hlt => by omega) hlow arcs.length s b T 0 (-1) (by omega) (by omega) h
 | succ d ih =>
   intro r hr0 hrd s b T h
   refine .succ ?_
   simp only [diffcons_After.c12]
   exact after_c14 hn hn2 hlen hr0 (by omega) (fun _ s b T h' => ih (r + 1) (by omega) (by omega) s b T h') hlow arcs.length s b T 0 (-1) (by omega) (by omega) h
theorem Inv.start {s b : List Int} (hs : (s.length : Int) = n) (hb : (b.length : Int) = n) (hsv : ∀ v, 0 <= v -> v < n -> rd s v = lo v) (hbv : ∀ v, 0 <= v -> v < n -> rd b v = -1) (hhi : ∀ v, lo v <= 1073741824) :
 Inv n arcs ii lo s b (fun _ => 0) 0 0 (-1) where
 ls := hs
 lb := hb
 low v h0 h1 := by rw [hsv v h0 h1]; omega
 cap v h0 h1 := by rw [hsv v h0 h1]; have := hhi v; omega
 least p _ hp v h0 h1 := by rw [hsv v h0 h1]; exact hp v h0 h1
 tn v h0 h1 := by simp
 byr v h0 h1 := Or.inl ⟨hbv v h0 h1, rfl⟩
 sat i h0 h1 hi := by right; rw [if_neg (by omega)]; omega
 lst := Or.inl ⟨rfl, fun v h0 h1 => by simp⟩
end
theorem after_f {n0 : Int} {arcs : List Arc} {ii : Int} {lower : List Int} (hlen : (nod n0 + 2) * arcs.length <= 10000000000) : W (fun k => diffcons_After.f k n0 arcs ii lower) (Answer (nod n0) arcs ii (bnd lower)) := by
 obtain ⟨hn, hn2⟩ := nod_le n0
 simp (disch := omega) only [diffcons_After.f, nodes_f, Option.bind_some, ↓if_pos]
 generalize nod n0 = n at *
 have loop : ∀ (d : Nat) (i : Int) (s b : List Int), 0 <= i -> i + d = n -> (s.length : Int) = n -> (b.length : Int) = n -> (∀ v, 0 <= v -> v < i -> rd s v = bnd lower v) -> (∀ v, 0 <= v -> v < i -> rd b v = -1) ->
  W (fun k => diffcons_After.c5 k n arcs ii lower n i s b) (Answer n arcs ii (bnd lower)) := by
  intro d
  induction d with
  | zero =>
    intro i s b h0 hd hs hb hsv hbv
    refine .succ ?_
    simp (disch := omega) only [diffcons_After.c5, ↓cdF]
    refine after_c12 hn hn2 hlen (fun v => (bnd_le lower v).1) n.toNat 0 (by omega) (by omega) _ _ (fun _ => 0) ?_
    rw [Int.zero_mul]
    exact Inv.start hs hb (fun v a b => hsv v a (by omega)) (fun v a b => hbv v a (by omega)) (fun v => (bnd_le lower v).2)
  | succ d ih =>
    intro i s b h0 hd hs hb hsv hbv
    refine .succ ?_
    simp (disch := omega) only [diffcons_After.c5, ↓cdT, bound_f, Option.bind_some, ↓if_pos, w64_id]
    refine ih (i + 1) (s.set i.toNat (bnd lower i)) (b.set i.toNat (-1)) (by omega) (by omega) (by simpa using hs) (by simpa using hb) ?_ ?_
    . intro v hv0 hv1
      rw [rd_set h0 (by omega) hv0]
      split
      . rename_i e; subst e; rfl
      . exact hsv v hv0 (by omega)
    . intro v hv0 hv1
      rw [rd_set h0 (by omega) hv0]
      split
      . rfl
      . exact hbv v hv0 (by omega)
 rw [show ((List.replicate n.toNat (0 : Int)).length : Int) = n by simp; omega]
 exact loop n.toNat 0 (List.replicate n.toNat 0) (List.replicate n.toNat 0) (by omega) (by omega) (by simp; omega) (by simp; omega) (fun v a b => by omega) (fun v a b => by omega)
theorem bnd_nil {v : Int} (h : 0 <= v) : bnd [] v = 0 := by simp [bnd, h]
theorem earliest_f {n0 : Int} {arcs : List Arc} {ii : Int} (hlen : (nod n0 + 2) * arcs.length <= 10000000000) : W (fun k => diffcons_Earliest.f k n0 arcs ii) (Answer (nod n0) arcs ii (fun _ => 0)) := by
 simp only [diffcons_Earliest.f]
 refine W.bind (after_f hlen) fun a ha => ?_
 rcases ha with ⟨a1, a2, a3, a4, a5⟩ | ⟨a1, c, a2, a3⟩
 . simp only [a1, Option.isSome_none, cond_false]
   refine .ret (Or.inl ⟨rfl, a2, fun v h0 h1 => ?_, a4, fun p hp hl v h0 h1 => a5 p hp (fun v h0 h1 => ?_) v h0 h1⟩)
   . have := a3 v h0 h1; rwa [bnd_nil h0] at this
   . have := hl v h0 h1; rw [bnd_nil h0]; exact this
 . simp only [a2, Option.isSome_some, cond_true, Option.getD_some]
   exact .ret (Or.inr ⟨a1, c, rfl, a3⟩)
end Go.Proofs.YtjddmekfeckphaaGreatV.Diff
