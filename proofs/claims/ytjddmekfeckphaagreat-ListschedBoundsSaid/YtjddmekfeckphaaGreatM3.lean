/- Proofs about the functions, part 4 of 4. -/
import Derived.Test.YtjddmekfeckphaaGreatM2
import Derived.Test.YtjddmekfeckphaaGreatM1
import Derived.KernelRfl
set_option linter.unusedVariables false
set_option linter.unusedSimpArgs false
namespace Go.Proofs.YtjddmekfeckphaaGreatV
open Go Go.Vm
structure EARLY (f : Flow) (E : List Int) : Prop where
 len : (E.length : Int) = Flow.N f + 2
 pos : ∀ v : Int, 0 <= v -> v < Flow.N f + 2 -> 0 <= rd E v
 arc : ∀ j : Nat, j < (Flow.Arcs f).length -> rd E (aF f j) + aL f j <= rd E (aT f j)
 least : ∀ q : Int -> Int, (∀ v : Int, 0 <= v -> v < Flow.N f + 2 -> 0 <= q v) -> (∀ j : Nat, j < (Flow.Arcs f).length -> q (aF f j) + aL f j <= q (aT f j)) -> ∀ v : Int, 0 <= v -> v < Flow.N f + 2 -> rd E v <= q v
def GOODF (f : Flow) (E : List Int) : Prop := ¬ TNG f /\ ∀ q : Nat, (q : Int) < Flow.Params f -> rd E (Flow.Insts f + q) <= 0
section
variable {f : Flow}
theorem clampI {x lo hi : Int} (h0 : lo <= x) (h1 : x <= hi) : mn (mx x lo) hi = x := by
 unfold mn mx
 repeat' split
 all_goals omega
theorem wt0 (V : VALID f) {i : Nat} (hi : i < (Flow.Arcs f).length) : Diff.wt (rd (Flow.Arcs f) (i : Int)) 0 = aL f i := by
 obtain ⟨_, _, _, _, l0, l1, d0, d1, _⟩ := V.arcs i hi
 have e1 := clampI (x := Arc.Lat (rd (Flow.Arcs f) (i : Int))) (lo := -1048576) (hi := 1048576) (by omega) (by omega)
 have e3 := clampI (x := 0) (lo := 0) (hi := 256) (by omega) (by omega)
 unfold Diff.wt
 rw [e1, e3, Int.zero_mul]
 show _ = Arc.Lat _
 omega
theorem inn0 (V : VALID f) {i : Nat} (hi : i < (Flow.Arcs f).length) : Diff.Inn (Flow.N f + 2) (rd (Flow.Arcs f) (i : Int)) := by
 obtain ⟨a, b, c, d, _⟩ := V.arcs i hi
 exact ⟨a, by omega, c, by omega⟩
theorem feas_iff (V : VALID f) {q : Int -> Int} : Diff.Feas (Flow.N f + 2) (Flow.Arcs f) 0 q ↔ ∀ j : Nat, j < (Flow.Arcs f).length -> q (aF f j) + aL f j <= q (aT f j) := by
 constructor
 . intro h j hj
   have := h (j : Int) (by omega) (by omega) (inn0 V hj)
   rwa [wt0 V hj] at this
 . intro h i i0 i1 _
   obtain ⟨j, rfl⟩ : ∃ j : Nat, i = (j : Int) := ⟨i.toNat, by omega⟩
   rw [wt0 V (by omega)]
   exact h j (by omega)
theorem early_of (V : VALID f) {a : List Int × Option (List Int) × Unit} (h : Diff.Answer (Flow.N f + 2) (Flow.Arcs f) 0 (fun _ => 0) a) (hn : a.2.1 = none) : EARLY f a.1 := by
 rcases h with ⟨_, h2, h3, h4, h5⟩ | ⟨_, c, h2, _⟩
 . exact ⟨h2, fun v v0 v1 => (h3 v v0 v1).1, (feas_iff V).1 h4, fun q q1 q2 => h5 q ((feas_iff V).2 q2) q1⟩
 . rw [hn] at h2; cases h2
theorem no_early (V : VALID f) {a : List Int × Option (List Int) × Unit} (h : Diff.Answer (Flow.N f + 2) (Flow.Arcs f) 0 (fun _ => 0) a) (hn : a.2.1 ≠ none) : ∀ E, ¬ EARLY f E := by
 intro E hE
 rcases h with ⟨h1, _⟩ | ⟨_, c, _, h3⟩
 . exact hn h1
 . exact h3.not_feas ((feas_iff V).2 hE.arc)
theorem EARLY.uniq (V : VALID f) {E E' : List Int} (h : EARLY f E) (h' : EARLY f E') : E = E' := by
 have l1 := h.len
 have l2 := h'.len
 refine list_ext_rd (by omega) fun i hi => ?_
 have := h.least (rd E') h'.pos h'.arc (i : Int) (by omega) (by omega)
 have := h'.least (rd E) h.pos h.arc (i : Int) (by omega) (by omega)
 omega
theorem EARLY.sol {E : List Int} (h : EARLY f E) : SOL f (rd E) := ⟨h.pos, h.arc⟩
theorem acyclic (V : VALID f) (hT : ¬ TNG f) {w : Nat -> Prop} (hne : ∃ i : Nat, (i : Int) < Flow.Insts f /\ w i) : ∃ i : Nat, (i : Int) < Flow.Insts f /\ w i /\ ∀ j : Nat, j < (Flow.Arcs f).length -> ∀ u : Nat, aF f j = (u : Int) -> (u : Int) < Flow.Insts f -> w u -> aT f j ≠ (i : Int) := by
 refine Classical.byContradiction fun hno => ?_
 have H : ∀ i : Nat, ∃ u : Nat, (i : Int) < Flow.Insts f -> w i -> (u : Int) < Flow.Insts f /\ w u /\ ∃ j : Nat, j < (Flow.Arcs f).length /\ aF f j = (u : Int) /\ aT f j = (i : Int) := by
  intro i
  by_cases h : (i : Int) < Flow.Insts f /\ w i
  . refine Classical.byContradiction fun hn => hno ⟨i, h.1, h.2, fun j hj u e1 e2 e3 e4 => hn ⟨u, fun _ _ => ⟨e2, e3, j, hj, e1, e4⟩⟩⟩
  . exact ⟨0, fun h1 h2 => absurd ⟨h1, h2⟩ h⟩
 obtain ⟨i0, hi0, hw0⟩ := hne
 obtain ⟨sq, hs0, hs1⟩ : ∃ sq : Nat -> Nat, sq 0 = i0 /\ ∀ k, sq (k + 1) = Classical.choose (H (sq k)) := ⟨fun k => Nat.rec i0 (fun _ x => Classical.choose (H x)) k, rfl, fun _ => rfl⟩
 have hsq : ∀ k : Nat, ((sq k : Nat) : Int) < Flow.Insts f /\ w (sq k) := by
  intro k
  induction k with
  | zero => rw [hs0]; exact ⟨hi0, hw0⟩
  | succ k ih =>
    rw [hs1]
    exact ⟨(Classical.choose_spec (H (sq k)) ih.1 ih.2).1, (Classical.choose_spec (H (sq k)) ih.1 ih.2).2.1⟩
 have harc : ∀ k, ∃ j : Nat, j < (Flow.Arcs f).length /\ aF f j = (sq (k + 1) : Int) /\ aT f j = (sq k : Int) := fun k => by
  rw [hs1]
  exact (Classical.choose_spec (H (sq k)) (hsq k).1 (hsq k).2).2.2
 have hadj : ∀ k, ADJ (GR f) (sq (k + 1)) (sq k) := fun k => (adj_GR V).2 (harc k)
 obtain ⟨a, b, hab, hbn, e⟩ := Diff.pigeon (Flow.Insts f).toNat (fun k => Int.ofNat (sq k)) fun k _ => by have := (hsq k).1; show 0 <= ((sq k : Nat) : Int) /\ ((sq k : Nat) : Int) < _; omega
 have e : sq a = sq b := by
  exact Int.ofNat.inj e
 have path : ∀ m : Nat, RT (ADJ (GR f)) (sq (a + 1 + m)) (sq (a + 1)) := by
  intro m
  induction m with
  | zero => exact .refl _
  | succ m ih => exact (RT.one (hadj (a + 1 + m))).trans ih
 have h1 := path (b - (a + 1))
 rw [show a + 1 + (b - (a + 1)) = b by omega, <- e] at h1
 obtain ⟨j, hj, f1, f2⟩ := harc a
 by_cases es : sq (a + 1) = sq a
 . exact hT (.inl ⟨j, hj, .inr ⟨by rw [f1, f2, es], by rw [f1]; exact (hsq (a + 1)).1⟩⟩)
 . exact hT (.inr ⟨sq a, sq (a + 1), (hsq a).1, es, h1, .one (hadj a)⟩)
def cpo (f : Flow) (l : List Arc) (v : Int) : Nat := l.countP fun a => decide (Arc.From a < Flow.Insts f) && decide (Arc.To a = v)
def emax (f : Flow) (v : Int) : Nat -> Int
 | 0 => 0
 | m + 1 => if ¬ aF f m < Flow.Insts f /\ aT f m = v then mx (emax f v m) (aL f m) else emax f v m
theorem emax_succ (v : Int) (m : Nat) : emax f v (m + 1) = if ¬ aF f m < Flow.Insts f /\ aT f m = v then mx (emax f v m) (aL f m) else emax f v m := rfl
theorem emax_pos (v : Int) : ∀ m, 0 <= emax f v m
 | 0 => Int.le_refl _
 | m + 1 => by
   have := emax_pos v m
   rw [emax_succ]
   split
   . exact Int.le_trans this (le_mx_l _ _)
   . exact this
theorem emax_ge {v : Int} {j : Nat} (h1 : ¬ aF f j < Flow.Insts f) (h2 : aT f j = v) : ∀ m, j < m -> aL f j <= emax f v m
 | m + 1, h => by
   rw [emax_succ]
   by_cases e : j = m
   . subst e
     rw [if_pos ⟨h1, h2⟩]
     exact le_mx_r _ _
   . have := emax_ge h1 h2 m (by omega)
     split
     . exact Int.le_trans this (le_mx_l _ _)
     . exact this
theorem emax_at (v : Int) : ∀ m, emax f v m = 0 \/ ∃ j : Nat, j < m /\ ¬ aF f j < Flow.Insts f /\ aT f j = v /\ emax f v m = aL f j
 | 0 => .inl rfl
 | m + 1 => by
   have ih : emax f v m = 0 \/ ∃ j : Nat, j < m + 1 /\ ¬ aF f j < Flow.Insts f /\ aT f j = v /\ emax f v m = aL f j := by
    rcases emax_at v m with h | ⟨j, h1, h2⟩
    . exact .inl h
    . exact .inr ⟨j, by omega, h2⟩
   rw [emax_succ]
   split
   . rename_i h
     rcases mx_eq (emax f v m) (aL f m) with e | e
     . rw [e]; exact ih
     . rw [e]; exact .inr ⟨m, by omega, h.1, h.2, rfl⟩
   . exact ih
theorem CB_init {ST : List Int} (V : VALID f) (x : Int) : ∀ m, m <= (Flow.Insts f).toNat -> CB f (List.replicate (Flow.Insts f).toNat true) ST x m = 0
 | 0, _ => rfl
 | m + 1, h => by
   show CB f _ ST x m + ite _ _ _ = 0
   rw [CB_init V x m (by omega), if_neg]
   . rfl
   . rintro ⟨h1, _⟩
     rw [rd_replicate (by omega)] at h1
     cases h1
theorem RI.init (V : VALID f) {p : Int -> Int} (hp : SOL f p) {FR : List (List Int)} (hf : FR.length = (Flow.Res f).length) (hfr : ∀ r : Nat, r < (Flow.Res f).length -> rd FR (r : Int) = List.replicate (cnt f r).toNat 0) :
 RI f p 0 (List.replicate (Flow.Insts f).toNat true) (List.replicate (Flow.Insts f).toNat 0) (List.replicate (Flow.Insts f).toNat (-1)) (tb (Flow.N f + 2).toNat fun v => (cpo f (Flow.Arcs f) (v : Int) : Int)) (tb (Flow.N f + 2).toNat fun v => emax f (v : Int) (Flow.Arcs f).length) FR := by
 have i0 := V.i0
 have p0 := V.p0
 have hN : Flow.N f = Flow.Insts f + Flow.Params f := rfl
 have hw : ∀ i : Nat, (i : Int) < Flow.Insts f -> rd (List.replicate (Flow.Insts f).toNat true) (i : Int) = true := fun i hi => rd_replicate (by omega)
 have hwI : ∀ {x : Int}, 0 <= x -> x < Flow.Insts f -> rd (List.replicate (Flow.Insts f).toNat true) x = true := fun {x} h0 h1 => by
  obtain ⟨m, rfl⟩ : ∃ m : Nat, x = (m : Int) := ⟨x.toNat, by omega⟩
  exact hw m h1
 have ea : ∀ v : Nat, (v : Int) < Flow.N f + 2 -> rd (tb (Flow.N f + 2).toNat fun v => emax f (v : Int) (Flow.Arcs f).length) (v : Int) = emax f (v : Int) (Flow.Arcs f).length := fun v hv => tb_rd (by omega)
 have no : ∀ {P : Prop} {i : Nat}, (i : Int) < Flow.Insts f -> rd (List.replicate (Flow.Insts f).toNat true) (i : Int) = false -> P := fun {P i} hi h => by rw [hw i hi] at h; cases h
 have arc0 : ∀ j : Nat, j < (Flow.Arcs f).length -> 0 <= aF f j /\ aF f j <= Flow.N f /\ 0 <= aT f j /\ aT f j <= Flow.N f + 1 /\ 0 <= aL f j /\ aL f j <= 4096 := fun j hj => by
  obtain ⟨v1, v2, v3, v4, v5, v6, _⟩ := V.arcs j hj
  exact ⟨v1, v2, v3, v4, v5, v6⟩
 refine ⟨by rw [List.length_replicate]; omega, by rw [List.length_replicate]; omega, by rw [List.length_replicate]; omega, by rw [tb_len]; omega, by rw [tb_len]; omega, hf, fun r hr => ?_, Int.le_refl _, fun v hv => ?_, fun v hv => ?_, fun j hj => ⟨fun h1 h2 => ?_, fun h1 => ?_⟩, fun i hi h => no hi h, fun j hj h1 h2 => ?_, fun i hi _ => rd_replicate (by omega), fun i hi h => no hi h, fun i k hi _ _ h => no hi h, fun r hr u hu => .inl ?_, fun v hv => ?_, fun i h => ?_, fun i hi h => no hi h⟩
 . rw [hfr r hr, List.length_replicate]
   have hc : 1 <= cnt f r := (V.res r hr).2.2.1
   omega
 . rw [tb_rd (by omega)]
   unfold cpo opc
   congr 1
   refine List.countP_congr fun a ha => ?_
   obtain ⟨j, hj, e⟩ := mem_rd ha
   subst e
   obtain ⟨a1, _⟩ := arc0 j hj
   unfold opP
   by_cases h : Arc.From (rd (Flow.Arcs f) (j : Int)) < Flow.Insts f
   . rw [hwI a1 h]; simp
   . simp [h]
 . rw [ea v hv]
   refine ⟨emax_pos _ _, ?_⟩
   rcases emax_at (f := f) (v : Int) (Flow.Arcs f).length with e | ⟨j, hj, _, _, e⟩
   . omega
   . have := (arc0 j hj).2.2.2.2.2
     omega
 . rw [hwI (arc0 j hj).1 h1] at h2; cases h2
 . obtain ⟨a1, a2, a3, a4, a5, a6⟩ := arc0 j hj
   obtain ⟨m, hm⟩ : ∃ m : Nat, aT f j = (m : Int) := ⟨(aT f j).toNat, by omega⟩
   rw [hm, ea m (by omega)]
   exact emax_ge (by omega) hm _ hj
 . rw [hwI (arc0 j hj).2.2.1 h1] at h2; cases h2
 . rw [hfr r hr]
   exact rd_replicate (by omega)
 . rw [ea v hv, CB_init V _ _ (Nat.le_refl _)]
   rcases emax_at (f := f) (v : Int) (Flow.Arcs f).length with e | ⟨j, hj, _, h2, e⟩
   . have := hp.pos (v : Int) (by omega) hv
     omega
   . have h3 := hp.arc j hj
     obtain ⟨a1, a2, _⟩ := arc0 j hj
     have := hp.pos (aF f j) a1 (by omega)
     rw [h2] at h3
     omega
 . rw [CB_init V _ _ (Nat.le_refl _)]
   have := hp.pos (i : Int) (by omega) (by have := h.1; omega)
   omega
theorem RI.done (V : VALID f) (hl : Flow.Loop f = false) {E : List Int} (hE : EARLY f E) (hg : GOODF f E) {t : Int} {WT : List Bool} {ST UN OP EA : List Int} {FR : List (List Int)} (H : RI f (rd E) t WT ST UN OP EA FR) (hall : ∀ i : Nat, (i : Int) < Flow.Insts f -> rd WT (i : Int) = false)
 (hd : mx 1 (rd EA (Flow.N f + 1)) <= 4096) : FITS f (0, mx 1 (rd EA (Flow.N f + 1)), ST, List.replicate (Flow.Params f).toNat 0, UN, ()) /\ LG f (0, mx 1 (rd EA (Flow.N f + 1)), ST, List.replicate (Flow.Params f).toNat 0, UN, ()) := by
 have i0 := V.i0
 have p0 := V.p0
 have hN : Flow.N f = Flow.Insts f + Flow.Params f := rfl
 have ls := H.ls
 have lu := H.lu
 have arc0 : ∀ j : Nat, j < (Flow.Arcs f).length -> 0 <= aF f j /\ aF f j <= Flow.N f /\ 0 <= aT f j /\ aT f j <= Flow.N f + 1 /\ 0 <= aL f j /\ aL f j <= 4096 := fun j hj => by
  obtain ⟨v1, v2, v3, v4, v5, v6, _⟩ := V.arcs j hj
  exact ⟨v1, v2, v3, v4, v5, v6⟩
 have hallI : ∀ {x : Int}, 0 <= x -> x < Flow.Insts f -> rd WT x = false := fun {x} h0 h1 => by
  obtain ⟨m, rfl⟩ : ∃ m : Nat, x = (m : Int) := ⟨x.toNat, by omega⟩
  exact hall m h1
 have hdl := le_mx_l 1 (rd EA (Flow.N f + 1))
 have hdr := le_mx_r 1 (rd EA (Flow.N f + 1))
 have hlate : ∀ i : Nat, (i : Int) < Flow.Insts f -> 0 <= rd ST (i : Int) /\ rd ST (i : Int) <= 4096 := fun i hi => by
  have h1 := H.st i hi (hall i hi)
  obtain ⟨q1, q2, _, q3⟩ := V.tail i (by omega)
  have hlen := V.len
  obtain ⟨jj, hjj⟩ : ∃ jj : Nat, Flow.N f + 1 + (i : Int) = (jj : Int) := ⟨(Flow.N f + 1 + (i : Int)).toNat, by omega⟩
  rw [hjj] at q1 q2
  have q1 : aF f jj = (i : Int) := q1
  have q2 : aT f jj = Flow.N f + 1 := q2
  have h2 := (H.eaf jj (by omega)).1 (by omega) (by rw [q1]; exact hall i hi)
  rw [q1, q2] at h2
  have := (arc0 jj (by omega)).2.2.2.2.1
  omega
 refine ⟨⟨ls, lu, by show ((List.replicate _ _).length : Int) = _; rw [List.length_replicate]; omega, ⟨Int.le_refl _, by show (0 : Int) <= 256; omega⟩, ⟨fun h => by have h : (0 : Int) < 0 := h; omega, fun h => by rw [hl] at h; cases h⟩, ⟨hdl, hd⟩, fun i hi => hlate i (by have hi : i < ST.length := hi; omega), fun i hi => ?_, fun i hi => ⟨fun h => ?_, fun h => ?_⟩⟩, ?_⟩
 . have hi : i < (List.replicate (Flow.Params f).toNat (0 : Int)).length := hi
   rw [List.length_replicate] at hi
   show 0 <= rd (List.replicate _ (0 : Int)) (i : Int) /\ _
   rw [rd_replicate hi]
   omega
 . exact H.un1 i (by have hi : i < UN.length := hi; omega) h
 . have hi' : (i : Int) < Flow.Insts f := by have hi : i < UN.length := hi; omega
   obtain ⟨h1, h2, _⟩ := H.un2 i hi' (hall i hi') h
   exact ⟨h1, h2⟩
 . have tmI : ∀ {x : Int}, x < Flow.Insts f -> tm f (0, mx 1 (rd EA (Flow.N f + 1)), ST, List.replicate (Flow.Params f).toNat 0, UN, ()) x = rd ST x := fun {x} h => by unfold tm; rw [if_pos h]
   have tmP : ∀ {x : Int}, Flow.Insts f <= x -> x <= Flow.N f -> tm f (0, mx 1 (rd EA (Flow.N f + 1)), ST, List.replicate (Flow.Params f).toNat 0, UN, ()) x = 0 := fun {x} h h' => by
    unfold tm
    rw [if_neg (by omega)]
    split
    . obtain ⟨m, hm⟩ : ∃ m : Nat, x - Flow.Insts f = (m : Int) := ⟨(x - Flow.Insts f).toNat, by omega⟩
      show rd (List.replicate _ (0 : Int)) (x - Flow.Insts f) = 0
      rw [hm]
      exact rd_replicate (by omega)
    . rw [if_pos (by omega)]
   have tmE : tm f (0, mx 1 (rd EA (Flow.N f + 1)), ST, List.replicate (Flow.Params f).toNat 0, UN, ()) (Flow.N f + 1) = mx 1 (rd EA (Flow.N f + 1)) := by
    unfold tm
    rw [if_neg (by omega), if_neg (by omega), if_neg (by omega)]
   refine ⟨fun q hq => ?_, fun j hj => ?_, fun i hi => ?_⟩
   . have hq : q < (List.replicate (Flow.Params f).toNat (0 : Int)).length := hq
     rw [List.length_replicate] at hq
     exact rd_replicate hq
   . obtain ⟨a1, a2, a3, a4, a5, a6⟩ := arc0 j hj
     have hb : ¬ BADA f j := fun h => hg.1 (.inl ⟨j, hj, h⟩)
     show aL f j <= tm f _ (aT f j) - tm f _ (aF f j)
     by_cases e1 : aF f j < Flow.Insts f
     . rw [tmI e1]
       have hw := hallI a1 e1
       have h1 := (H.eaf j hj).1 e1 hw
       by_cases e2 : aT f j < Flow.Insts f
       . rw [tmI e2]
         have := ((H.leg j hj e2 (hallI a3 e2)).1 e1).2
         omega
       . have e3 : aT f j = Flow.N f + 1 := by
          unfold BADA at hb
          omega
         rw [e3, tmE]
         rw [e3] at h1
         omega
     . rw [tmP (by omega) a2]
       have h1 := (H.eaf j hj).2 (by omega)
       by_cases e2 : aT f j < Flow.Insts f
       . rw [tmI e2]
         have := (H.leg j hj e2 (hallI a3 e2)).2 (by omega)
         omega
       . by_cases e3 : aT f j = Flow.N f + 1
         . rw [e3, tmE]
           rw [e3] at h1
           omega
         . rw [tmP (by omega) (by omega)]
           -- parameters and the source
           have h2 := hE.arc j hj
           have h3 := hE.pos (aF f j) a1 (by omega)
           have par : ∀ x : Int, Flow.Insts f <= x -> x < Flow.N f -> rd E x <= 0 := fun x x0 x1 => by
            have := hg.2 (x - Flow.Insts f).toNat (by omega)
            rwa [show Flow.Insts f + ((x - Flow.Insts f).toNat : Int) = x by omega] at this
           by_cases e4 : aT f j < Flow.N f
           . have := par _ (by omega) e4
             omega
           . have e5 : aT f j = Flow.N f := by omega
             by_cases e6 : Flow.Params f = 0
             . have e7 : aF f j = Flow.N f := by omega
               rw [e5, e7] at h2
               omega
             . have hh := V.head (Flow.Insts f).toNat (by omega)
               unfold VHead at hh
               have hlen := V.len
               have h4 := hE.arc (Flow.Insts f).toNat (by omega)
               have g1 : aF f (Flow.Insts f).toNat = Flow.N f := by show Arc.From (rd _ _) = _; rw [hh]
               have g2 : aT f (Flow.Insts f).toNat = Flow.Insts f := by
                show Arc.To (rd _ _) = _
                rw [hh, if_neg (by omega)]
                show (((Flow.Insts f).toNat : Nat) : Int) = _
                omega
               have g3 : aL f (Flow.Insts f).toNat = 0 := by show Arc.Lat (rd _ _) = _; rw [hh]
               rw [g1, g2, g3] at h4
               have := par (Flow.Insts f) (by omega) (by omega)
               rw [e5] at h2
               omega
   . rintro ⟨h0, k, hk, h1, h2, h3, h4, h5⟩
     have hn := V.needs
     have hi : i < ST.length := hi
     have h3 : rd UN (k : Int) = rd UN (i : Int) := h3
     have h4 : rd ST (k : Int) < rd ST (i : Int) + bsI f i := h4
     have h5 : rd ST (i : Int) < rd ST (k : Int) + bsI f k := h5
     rcases H.fre i k (by omega) (by omega) (Ne.symm h1) (hall i (by omega)) (hall k (by omega)) h0 h2.symm h3.symm with h | h <;> omega
end
end Go.Proofs.YtjddmekfeckphaaGreatV
namespace Go.Proofs.YtjddmekfeckphaaGreatV
open Go Go.Vm
theorem rep0 (k : Nat) (d : Int) : slices_Repeat_int_int.f (k + 12) [d] 0 = some (List.replicate 0 d) := by kernel_rfl
theorem rep1 (k : Nat) (d : Int) : slices_Repeat_int_int.f (k + 12) [d] 1 = some (List.replicate 1 d) := by kernel_rfl
theorem rep2 (k : Nat) (d : Int) : slices_Repeat_int_int.f (k + 12) [d] 2 = some (List.replicate 2 d) := by kernel_rfl
theorem rep3 (k : Nat) (d : Int) : slices_Repeat_int_int.f (k + 12) [d] 3 = some (List.replicate 3 d) := by kernel_rfl
theorem rep4 (k : Nat) (d : Int) : slices_Repeat_int_int.f (k + 12) [d] 4 = some (List.replicate 4 d) := by kernel_rfl
theorem rep5 (k : Nat) (d : Int) : slices_Repeat_int_int.f (k + 12) [d] 5 = some (List.replicate 5 d) := by kernel_rfl
theorem rep6 (k : Nat) (d : Int) : slices_Repeat_int_int.f (k + 12) [d] 6 = some (List.replicate 6 d) := by kernel_rfl
theorem rep7 (k : Nat) (d : Int) : slices_Repeat_int_int.f (k + 12) [d] 7 = some (List.replicate 7 d) := by kernel_rfl
theorem rep8 (k : Nat) (d : Int) : slices_Repeat_int_int.f (k + 12) [d] 8 = some (List.replicate 8 d) := by kernel_rfl
theorem rep9 (k : Nat) (d : Int) : slices_Repeat_int_int.f (k + 12) [d] 9 = some (List.replicate 9 d) := by kernel_rfl
theorem rep10 (k : Nat) (d : Int) : slices_Repeat_int_int.f (k + 12) [d] 10 = some (List.replicate 10 d) := by kernel_rfl
theorem rep11 (k : Nat) (d : Int) : slices_Repeat_int_int.f (k + 12) [d] 11 = some (List.replicate 11 d) := by kernel_rfl
theorem rep12 (k : Nat) (d : Int) : slices_Repeat_int_int.f (k + 12) [d] 12 = some (List.replicate 12 d) := by kernel_rfl
theorem rep13 (k : Nat) (d : Int) : slices_Repeat_int_int.f (k + 12) [d] 13 = some (List.replicate 13 d) := by kernel_rfl
theorem rep14 (k : Nat) (d : Int) : slices_Repeat_int_int.f (k + 12) [d] 14 = some (List.replicate 14 d) := by kernel_rfl
theorem repeat_k (n : Nat) (h1 : n <= 14) (k : Nat) (d : Int) : slices_Repeat_int_int.f (k + 12) [d] (n : Int) = some (List.replicate n d) := by
 have h : n = 0 \/ n = 1 \/ n = 2 \/ n = 3 \/ n = 4 \/ n = 5 \/ n = 6 \/ n = 7 \/ n = 8 \/ n = 9 \/ n = 10 \/ n = 11 \/ n = 12 \/ n = 13 \/ n = 14 := by omega
 rcases h with rfl | rfl | rfl | rfl | rfl | rfl | rfl | rfl | rfl | rfl | rfl | rfl | rfl | rfl | rfl
 . exact rep0 k d
 . exact rep1 k d
 . exact rep2 k d
 . exact rep3 k d
 . exact rep4 k d
 . exact rep5 k d
 . exact rep6 k d
 . exact rep7 k d
 . exact rep8 k d
 . exact rep9 k d
 . exact rep10 k d
 . exact rep11 k d
 . exact rep12 k d
 . exact rep13 k d
 . exact rep14 k d
theorem repeat_ev {n : Int} (h0 : 0 <= n) (h1 : n <= 14) (d : Int) : Ev (fun k => slices_Repeat_int_int.f k [d] n) (List.replicate n.toNat d) := by
 refine ⟨12, fun k hk => ?_⟩
 obtain ⟨j, rfl⟩ : ∃ j, k = j + 12 := ⟨k - 12, by omega⟩
 have := repeat_k n.toNat (by omega) j d
 rwa [Int.toNat_of_nonneg (by omega)] at this
def none32 (e : Int) : Sched × Int × Unit := ((0, 0, [], [], [], ()), e, ())
def SCHED (f : Flow) (r : Sched × Int × Unit) : Prop :=
 ((∀ E, EARLY f E -> ¬ GOODF f E) /\ r = none32 14) \/
 ∃ E, EARLY f E /\ GOODF f E /\ ((r = none32 5 /\ 4096 < mx 1 (rd E (Flow.N f + 1)) + KSUM f (Flow.Insts f).toNat) \/
   (r.2.1 = 0 /\ FITS f r.1 /\ LG f r.1 /\ Sched.Depth r.1 <= mx 1 (rd E (Flow.N f + 1)) + KSUM f (Flow.Insts f).toNat /\ ∀ i : Nat, (i : Int) < Flow.Insts f -> rd (Sched.Start r.1) (i : Int) <= rd E (i : Int) + KSUM f (Flow.Insts f).toNat))
section
variable {f : Flow}
theorem KSUM_pos : ∀ m, 0 <= KSUM f m \/ ¬ VALID f
 | 0 => .inl (Int.le_refl _)
 | m + 1 => by
   rcases KSUM_pos m with h | h
   . by_cases V : VALID f
     . left
       show 0 <= _ + ite _ _ _
       split
       . rename_i hc
         have hb : 0 <= bsI f m := by
          by_cases hm : m < (Flow.Needs f).length
          . rcases V.need m hm with ⟨_, a⟩ | ⟨_, _, a, b⟩ <;> (show 0 <= Need.Busy _) <;> omega
          . have : rd (Flow.Needs f) (m : Int) = default := by simp [rd, List.getElem?_eq_none (Nat.le_of_not_lt hm)]
            show 0 <= Need.Busy (rd (Flow.Needs f) (m : Int))
            rw [this]
            exact Int.le_refl _
         omega
       . omega
     . exact .inr V
   . exact .inr h
theorem late_ev (xs : List Int) (hl : xs.length <= 1000000) : W (fun k => slices_ContainsFunc_int_int_i1.f k xs) (fun r => r.1 = true ↔ ∃ p : Nat, p < xs.length /\ 0 < rd xs (p : Int)) := by
 simp only [slices_ContainsFunc_int_int_i1.f, slices_IndexFunc_int_int_i1.f]
 have loop : ∀ (d i : Nat), i + d = xs.length -> (∀ p : Nat, p < i -> ¬ 0 < rd xs (p : Int)) -> W (fun k => slices_IndexFunc_int_int_i1.c2 k xs (xs.length : Int) (i : Int)) (fun r => 0 <= r.1 ↔ ∃ p : Nat, p < xs.length /\ 0 < rd xs (p : Int)) := by
  intro d
  induction d with
  | zero =>
    intro i hi h
    refine .succ ?_
    simp (disch := omega) only [slices_IndexFunc_int_int_i1.c2, ↓cdF]
    refine .ret ⟨fun h => ?_, fun ⟨p, h1, h2⟩ => absurd h2 (h p (by omega))⟩
    have h' : (0 : Int) <= -1 := h
    omega
  | succ d ih =>
    intro i hi h
    refine .succ ?_
    simp (disch := omega) only [slices_IndexFunc_int_int_i1.c2, ↓cdT, ↓if_pos, listsched_Schedule_1.f, Option.bind_some, w64_id]
    refine .dec (fun e => .ret ⟨fun _ => ⟨i, by omega, e⟩, fun _ => by show (0 : Int) <= (i : Int); omega⟩) fun e => ?_
    have := ih (i + 1) (by omega) fun p hp => by
     rcases Nat.lt_or_eq_of_le (Nat.le_of_lt_succ hp) with h1 | h1
     . exact h p h1
     . rw [h1]; exact e
    simpa only [natC] using this
 refine .bind (loop xs.length 0 (by omega) fun p hp => by omega) fun r hr => .ret ?_
 rw [decide_eq_true_iff]
 exact hr
theorem sched_c27 (V : VALID f) (SF : SIZES f) (hl : Flow.Loop f = false) {E : List Int} (hE : EARLY f E) (hg : GOODF f E) {TL : List Int} {NX : List (List Arc)} (htl : (TL.length : Int) = Flow.N f + 2) (hnl : (NX.length : Int) = Flow.N f + 2) (hx : ∀ i : Nat, (i : Int) < Flow.Insts f -> rd NX (i : Int) = nxl f i) :
 W (fun k => listsched_Schedule.c26 k f 0 0 f 0 0 TL (List.replicate (Flow.Insts f).toNat 0) (List.replicate (Flow.Params f).toNat 0) (List.replicate (Flow.Insts f).toNat (-1)) (tb (Flow.N f + 2).toNat fun v => (cpo f (Flow.Arcs f) (v : Int) : Int)) (tb (Flow.N f + 2).toNat fun v => emax f (v : Int) (Flow.Arcs f).length) NX) (SCHED f) := by
 have i0 := V.i0
 have i1 := V.i1
 have p0 := V.p0
 have p1 := V.p1
 have hN : Flow.N f = Flow.Insts f + Flow.Params f := rfl
 have hr := SF.res
 refine .succ ?_
 simp only [listsched_Schedule.c26]
 have loop : ∀ (d i : Nat), i + d = (Flow.Res f).length -> W (fun k => listsched_Schedule.c27 k (Flow.Res f) ((Flow.Res f).length : Int) (i : Int) f 0 0 f 0 0 TL (List.replicate (Flow.Insts f).toNat 0) (List.replicate (Flow.Params f).toNat 0) (List.replicate (Flow.Insts f).toNat (-1)) (tb (Flow.N f + 2).toNat fun v => (cpo f (Flow.Arcs f) (v : Int) : Int)) (tb (Flow.N f + 2).toNat fun v => emax f (v : Int) (Flow.Arcs f).length) NX (tb i fun r => List.replicate (cnt f r).toNat 0)) (SCHED f) := by
  intro d
  induction d with
  | zero =>
    intro i hi
    have e : i = (Flow.Res f).length := by omega
    subst e
    refine .succ ?_
    simp (disch := omega) only [listsched_Schedule.c27, ↓cdF]
    have H0 := RI.init V hE.sol (FR := tb (Flow.Res f).length fun r => List.replicate (cnt f r).toNat 0) (tb_len _ _) fun r hr => tb_rd hr
    refine .bind (run_prog V SF hE.sol hnl hx htl H0) fun y hy => ?_
    obtain ⟨y1, _, ST, UN, OP, EA, FR, _⟩ := y
    obtain ⟨t, WT, H1, hy⟩ := hy
    have H : RI f (rd E) t WT ST UN OP EA FR := H1
    clear H1
    have hle := H.le
    simp only [dataflow_End.f, Option.bind_some]
    rw [w64_id (n := Flow.Insts f + Flow.Params f) (by omega) (by omega), w64_id (by omega) (by omega)]
    simp (disch := (show 0 <= Flow.Insts f + Flow.Params f + 1 /\ Flow.Insts f + Flow.Params f + 1 < (EA.length : Int); omega)) only [↓if_pos]
    rw [<- hN]
    have hdep := H.depth V
    rcases hy with ⟨h1, hall⟩ | ⟨h1, ht, i, hi, hw⟩
    . have h1 : y1 = true := h1
      subst h1
      simp only [Bool.not_true, cond_false]
      have hk : 0 <= KSUM f (Flow.Insts f).toNat := (KSUM_pos _).resolve_right fun h => h V
      have hle2 : mx 1 (rd EA (Flow.N f + 1)) <= mx 1 (rd E (Flow.N f + 1)) + KSUM f (Flow.Insts f).toNat := by
       rw [mx_le]
       have q1 := le_mx_l 1 (rd E (Flow.N f + 1))
       have q2 := le_mx_r 1 (rd E (Flow.N f + 1))
       omega
      refine .dec (fun h => .ret (.inr ⟨E, hE, hg, .inl ⟨rfl, ?_⟩⟩)) fun h => .ret (.inr ⟨E, hE, hg, .inr ?_⟩)
      . have h : 4096 < mx 1 (rd EA (Flow.N f + 1)) := h
        omega
      . have h : ¬ 4096 < mx 1 (rd EA (Flow.N f + 1)) := h
        obtain ⟨g1, g2⟩ := H.done V hl hE hg hall (by omega)
        refine ⟨rfl, g1, g2, hle2, fun i hi => ?_⟩
        have h3 := H.c3 i hi (hall i hi)
        have hb : ∀ i : Nat, 0 <= bsI f i \/ ¬ CONT f i := fun i => by
         by_cases h : i < (Flow.Needs f).length
         . left
           rcases V.need i h with ⟨_, a⟩ | ⟨_, _, a, b⟩ <;> (show 0 <= Need.Busy _) <;> omega
         . left
           have : rd (Flow.Needs f) (i : Int) = default := by simp [rd, List.getElem?_eq_none (Nat.le_of_not_lt h)]
           show 0 <= Need.Busy (rd (Flow.Needs f) (i : Int))
           rw [this]
           exact Int.le_refl _
        have h4 := CB_sum (f := f) (WT := WT) (ST := ST) (x := rd ST (i : Int)) hb (Flow.Insts f).toNat
        show rd ST (i : Int) <= _
        omega
    . have h1 : y1 = false := h1
      subst h1
      simp only [Bool.not_false, cond_true]
      refine .ret (.inr ⟨E, hE, hg, .inl ⟨rfl, ?_⟩⟩)
      obtain ⟨m, m1, m2, m3⟩ := acyclic V hg.1 (w := fun i => rd WT (i : Int) = true) ⟨i, hi, hw⟩
      have ho : rd OP (m : Int) = 0 := by
       rw [H.opn m (by omega)]
       by_cases hz : opc f WT m = 0
       . omega
       . obtain ⟨j, j1, j2, j3, j4⟩ := opc_one hz
         obtain ⟨u, hu⟩ : ∃ u : Nat, aF f j = (u : Int) := ⟨(aF f j).toNat, by have : 0 <= aF f j := (V.arcs j j1).1; omega⟩
         exact absurd j4 (m3 j j1 u hu (by omega) (by rw [<- hu]; exact j3))
      have hlim := H.limit V ht m1 m2 ho
      obtain ⟨q1, q2, _, q3⟩ := V.tail m (by omega)
      have hlen := V.len
      obtain ⟨jj, hjj⟩ : ∃ jj : Nat, Flow.N f + 1 + (m : Int) = (jj : Int) := ⟨(Flow.N f + 1 + (m : Int)).toNat, by omega⟩
      rw [hjj] at q1 q2 q3
      have q1 : aF f jj = (m : Int) := q1
      have q2 : aT f jj = Flow.N f + 1 := q2
      have q4 := hE.arc jj (by omega)
      rw [q1, q2] at q4
      have q5 : 1 <= aL f jj := (q3 m1).1
      have := le_mx_r 1 (rd E (Flow.N f + 1))
      omega
  | succ d ih =>
    intro i hi
    have hc := V.res i (by omega)
    have c1 : 1 <= Resource.Count (rd (Flow.Res f) (i : Int)) := hc.2.2.1
    have c2 : Resource.Count (rd (Flow.Res f) (i : Int)) <= 1024 := hc.2.2.2
    refine .succ ?_
    simp (disch := first | omega | (simp only [tb_len, List.length_singleton]; omega)) only [listsched_Schedule.c27, ↓cdT, ↓if_pos, ↓bleT, w64_id]
    have := ih (i + 1) (by omega)
    rw [<- tb_app] at this
    simpa only [natC] using this
 exact loop (Flow.Res f).length 0 (by omega)
theorem Schedule_prog (V : VALID f) (SF : SIZES f) (hi : Flow.Insts f <= 14) (hn : Flow.N f + 2 <= 1000) (hal : (Flow.Arcs f).length <= 1000) (hl : Flow.Loop f = false) : W (fun k => listsched_Schedule.f k f) (SCHED f) := by
 have i0 := V.i0
 have i1 := V.i1
 have p0 := V.p0
 have p1 := V.p1
 have hN : Flow.N f = Flow.Insts f + Flow.Params f := rfl
 have hnod : Diff.nod (Flow.N f + 2) = Flow.N f + 2 := clampI (by omega) (by omega)
 have hmul : ∀ m : Nat, m <= 1000 -> (Diff.nod (Flow.N f + 2) + 2) * (m : Int) <= 10000000000 := fun m hm => by
  rw [hnod]
  have h1 : (Flow.N f + 2 + 2) * (m : Int) <= 1002 * (m : Int) := Int.mul_le_mul_of_nonneg_right (by omega) (by omega)
  omega
 simp only [listsched_Schedule.f]
 refine .bindEv ((valid_prog SF).true V) ?_
 simp only [Bool.not_true, cond_false, hl, dataflow_Nodes.f, Option.bind_some]
 rw [w64_id (n := Flow.Insts f + Flow.Params f) (by omega) (by omega), w64_id (by omega) (by omega), <- hN]
 have he := Diff.earliest_f (n0 := Flow.N f + 2) (arcs := Flow.Arcs f) (ii := 0) (hmul _ hal)
 rw [hnod] at he
 refine .bind he fun a ha => ?_
 cases hc : a.2.1 with
 | some c =>
   simp only [Option.isSome_some, cond_true]
   exact .ret (.inl ⟨fun E hE => absurd hE (no_early V ha (by rw [hc]; simp) E), rfl⟩)
 | none =>
 simp only [Option.isSome_none, cond_false]
 have hE := early_of V ha hc
 refine W.bind (tangled_prog V SF hn (by omega)).w fun y hy => ?_
 cases y
 rotate_left
 . simp only [cond_true]
   exact .ret (.inl ⟨fun E hE' hg => hg.1 (hy.1 rfl), rfl⟩)
 simp only [cond_false]
 have hT : ¬ TNG f := fun q => by have := hy.2 q; cases this
 have hlen := hE.len
 generalize a.1 = E at hE hlen
 simp (disch := omega) only [↓if_pos]
 have hdl : (List.take ((Flow.N f).toNat - (Flow.Insts f).toNat) (List.drop (Flow.Insts f).toNat E)).length = (Flow.Params f).toNat := by rw [List.length_take, List.length_drop]; omega
 have hdr : ∀ q : Nat, (q : Int) < Flow.Params f -> rd (List.take ((Flow.N f).toNat - (Flow.Insts f).toNat) (List.drop (Flow.Insts f).toNat E)) (q : Int) = rd E (Flow.Insts f + q) := fun q hq => by
  rw [rd_eq (by omega), List.getElem_take, List.getElem_drop]
  rw [show Flow.Insts f + (q : Int) = (((Flow.Insts f).toNat + q : Nat) : Int) by omega, rd_eq (by omega)]
 refine .bind (late_ev _ (by omega)) fun z hz => ?_
 obtain ⟨z1, _⟩ := z
 cases z1
 rotate_left
 . simp only [cond_true]
   refine .ret (.inl ⟨fun E' hE' hg => ?_, rfl⟩)
   obtain ⟨q, q1, q2⟩ := hz.1 rfl
   rw [hdr q (by omega)] at q2
   rw [hE'.uniq V hE] at hg
   have := hg.2 q (by omega)
   omega
 simp only [cond_false]
 have hg : GOODF f E := ⟨hT, fun q hq => by
  have : ¬ 0 < rd E (Flow.Insts f + q) := fun h => by
   have := hz.2 ⟨q, by omega, by rw [hdr q hq]; exact h⟩
   cases this
  omega⟩
 refine .bindEv (repeat_ev i0 hi (-1)) ?_
 rw [tb_rep (n := (Flow.N f + 2).toNat) (v := ([] : List Arc))]
 have e1 : List.replicate (Flow.N f + 2).toNat (0 : Int) = tb (Flow.N f + 2).toNat fun v => (cpo f ((Flow.Arcs f).take 0) (v : Int) : Int) := by rw [tb_rep]; rfl
 have e2 : List.replicate (Flow.N f + 2).toNat (0 : Int) = tb (Flow.N f + 2).toNat fun v => emax f (v : Int) 0 := by rw [tb_rep]; rfl
 have e3 : (tb (Flow.N f + 2).toNat fun _ => ([] : List Arc)) = tb (Flow.N f + 2).toNat fun v => if (v : Int) < Flow.Insts f then ((Flow.Arcs f).take 0).filter (fun a => decide (Arc.From a = (v : Int))) else [] := tb_congr fun c hc => by simp
 have loop : ∀ (d i : Nat), i + d = (Flow.Arcs f).length -> ∀ BK : List Arc, BK.length = i ->
  W (fun k => listsched_Schedule.c14 k (Flow.N f + 2) (Flow.Arcs f) ((Flow.Arcs f).length : Int) (i : Int) f 0 0 f 0 0 (List.replicate (Flow.N f + 2).toNat 0) BK (List.replicate (Flow.Insts f).toNat 0) (List.replicate (Flow.Params f).toNat 0) (List.replicate (Flow.Insts f).toNat (-1)) (tb (Flow.N f + 2).toNat fun v => (cpo f ((Flow.Arcs f).take i) (v : Int) : Int)) (tb (Flow.N f + 2).toNat fun v => emax f (v : Int) i) (tb (Flow.N f + 2).toNat fun v => if (v : Int) < Flow.Insts f then ((Flow.Arcs f).take i).filter (fun a => decide (Arc.From a = (v : Int))) else [])) (SCHED f) := by
  intro d
  induction d with
  | zero =>
    intro i hi2 BK hBK
    have e : i = (Flow.Arcs f).length := by omega
    subst e
    refine .succ ?_
    simp (disch := omega) only [listsched_Schedule.c14, ↓cdF]
    have hb := Diff.earliest_f (n0 := Flow.N f + 2) (arcs := BK) (ii := 0) (hmul _ (by omega))
    rw [hnod] at hb
    refine .bind hb fun b hb => ?_
    have hx : ∀ i : Nat, (i : Int) < Flow.Insts f -> rd (tb (Flow.N f + 2).toNat fun v => if (v : Int) < Flow.Insts f then ((Flow.Arcs f).take (Flow.Arcs f).length).filter (fun a => decide (Arc.From a = (v : Int))) else []) (i : Int) = nxl f i := fun i hi => by
     rw [tb_rd (by omega), if_pos hi, List.take_length]
     rfl
    rw [List.take_length] at *
    have fin := fun (TL : List Int) (h : (TL.length : Int) = Flow.N f + 2) => sched_c27 V SF hl hE hg (TL := TL) (NX := tb (Flow.N f + 2).toNat fun v => if (v : Int) < Flow.Insts f then (Flow.Arcs f).filter (fun a => decide (Arc.From a = (v : Int))) else []) h (by rw [tb_len]; omega) hx
    rcases hb with ⟨h1, h2, _⟩ | ⟨_, c, h2, _⟩
    . rw [h1]
      simp only [Option.isSome_none, cond_false]
      exact fin _ h2
    . rw [h2]
      simp only [Option.isSome_some, cond_true]
      exact fin _ (by rw [List.length_replicate]; omega)
  | succ d ih =>
    intro i hi2 BK hBK
    obtain ⟨v1, v2, v3, v4, v5, v6, _⟩ := V.arcs i (by omega)
    have hts := take_snoc (l := Flow.Arcs f) (j := i) (by omega)
    have next := fun (x : Arc) => ih (i + 1) (by omega) (BK ++ [x]) (by simp [hBK])
    have hcp : ∀ v : Int, cpo f ((Flow.Arcs f).take (i + 1)) v = cpo f ((Flow.Arcs f).take i) v + if Arc.From (rd (Flow.Arcs f) (i : Int)) < Flow.Insts f /\ Arc.To (rd (Flow.Arcs f) (i : Int)) = v then 1 else 0 := fun v => by
     unfold cpo
     rw [hts, List.countP_append, List.countP_singleton]
     congr 1
     by_cases q1 : Arc.From (rd (Flow.Arcs f) (i : Int)) < Flow.Insts f <;> by_cases q2 : Arc.To (rd (Flow.Arcs f) (i : Int)) = v <;> simp [q1, q2]
    have hcl : ∀ v : Int, cpo f ((Flow.Arcs f).take i) v <= i := fun v => Nat.le_trans (List.countP_le_length ..) (by rw [List.length_take]; omega)
    have hfl : ∀ v : Nat, (((Flow.Arcs f).take i).filter (fun a => decide (Arc.From a = (v : Int)))).length <= i := fun v => Nat.le_trans (List.length_filter_le _ _) (by rw [List.length_take]; omega)
    obtain ⟨ft, hft⟩ : ∃ ft : Nat, Arc.To (rd (Flow.Arcs f) (i : Int)) = (ft : Int) := ⟨(Arc.To (rd (Flow.Arcs f) (i : Int))).toNat, by omega⟩
    obtain ⟨fr, hfr⟩ : ∃ fr : Nat, Arc.From (rd (Flow.Arcs f) (i : Int)) = (fr : Int) := ⟨(Arc.From (rd (Flow.Arcs f) (i : Int))).toNat, by omega⟩
    refine .succ ?_
    simp (disch := omega) only [listsched_Schedule.c14, ↓cdT, ↓if_pos]
    refine .dec (fun h1 => ?_) fun h1 => ?_
    . have e5 : (tb (Flow.N f + 2).toNat fun v => (cpo f ((Flow.Arcs f).take (i + 1)) (v : Int) : Int)) = (tb (Flow.N f + 2).toNat fun v => (cpo f ((Flow.Arcs f).take i) (v : Int) : Int)).set ft ((cpo f ((Flow.Arcs f).take i) (ft : Int) : Int) + 1) := by
       rw [tb_set]
       refine tb_congr fun c hc => ?_
       rw [hcp]
       by_cases e : c = ft
       . subst e; rw [if_pos rfl, if_pos ⟨h1, hft⟩]; omega
       . rw [if_neg e, if_neg (fun q => e (by omega))]; omega
      have e6 : (tb (Flow.N f + 2).toNat fun v => emax f (v : Int) (i + 1)) = tb (Flow.N f + 2).toNat fun v => emax f (v : Int) i := tb_congr fun c hc => by
       rw [emax_succ, if_neg fun q => q.1 h1]
      have e7 : (tb (Flow.N f + 2).toNat fun v => if (v : Int) < Flow.Insts f then ((Flow.Arcs f).take (i + 1)).filter (fun a => decide (Arc.From a = (v : Int))) else []) = (tb (Flow.N f + 2).toNat fun v => if (v : Int) < Flow.Insts f then ((Flow.Arcs f).take i).filter (fun a => decide (Arc.From a = (v : Int))) else []).set fr (((Flow.Arcs f).take i).filter (fun a => decide (Arc.From a = (fr : Int))) ++ [rd (Flow.Arcs f) (i : Int)]) := by
       rw [tb_set]
       refine tb_congr fun c hc => ?_
       rw [hts, List.filter_append]
       by_cases e : c = fr
       . subst e; rw [if_pos rfl, if_pos (by omega), List.filter_cons_of_pos (by rw [decide_eq_true_iff]; exact hfr)]; rfl
       . rw [if_neg e, List.filter_cons_of_neg (by rw [decide_eq_true_iff]; omega)]; simp
      have v4' : (ft : Int) <= Flow.N f + 1 := by omega
      rw [hft, hfr] at *
      simp (disch := first | omega | (rw [tb_len]; omega)) only [↓if_pos, tb_rd, Int.toNat_natCast, if_true, h1]
      simp (disch := (have := hfl fr; simp only [List.length_singleton]; omega)) only [↓bleT]
      refine .succ ?_
      have hc2 := hcl (ft : Int)
      simp (disch := first | omega | (simp only [List.length_singleton]; omega)) only [listsched_Schedule.c21, ↓bleT, w64_id (n := (i : Int) + 1), w64_id (n := (cpo f ((Flow.Arcs f).take i) (ft : Int) : Int) + 1)]
      rw [<- e5, <- e6, <- e7]
      have := next (Arc.To (rd (Flow.Arcs f) (i : Int)), Arc.From (rd (Flow.Arcs f) (i : Int)), Arc.Lat (rd (Flow.Arcs f) (i : Int)), 0, ())
      simpa only [natC] using this
    . have e5 : (tb (Flow.N f + 2).toNat fun v => (cpo f ((Flow.Arcs f).take (i + 1)) (v : Int) : Int)) = tb (Flow.N f + 2).toNat fun v => (cpo f ((Flow.Arcs f).take i) (v : Int) : Int) := tb_congr fun c hc => by
       rw [hcp, if_neg fun q => h1 q.1]; omega
      have e6 : (tb (Flow.N f + 2).toNat fun v => emax f (v : Int) (i + 1)) = (tb (Flow.N f + 2).toNat fun v => emax f (v : Int) i).set ft (mx (emax f (ft : Int) i) (Arc.Lat (rd (Flow.Arcs f) (i : Int)))) := by
       rw [tb_set]
       refine tb_congr fun c hc => ?_
       rw [emax_succ]
       by_cases e : c = ft
       . subst e; rw [if_pos rfl, if_pos ⟨h1, hft⟩]
       . rw [if_neg e, if_neg (fun q => e (by have := q.2; have h : Arc.To (rd (Flow.Arcs f) (i : Int)) = (c : Int) := this; omega))]
      have e7 : (tb (Flow.N f + 2).toNat fun v => if (v : Int) < Flow.Insts f then ((Flow.Arcs f).take (i + 1)).filter (fun a => decide (Arc.From a = (v : Int))) else []) = tb (Flow.N f + 2).toNat fun v => if (v : Int) < Flow.Insts f then ((Flow.Arcs f).take i).filter (fun a => decide (Arc.From a = (v : Int))) else [] := tb_congr fun c hc => by
       by_cases q : (c : Int) < Flow.Insts f
       . rw [if_pos q, if_pos q, hts, List.filter_append, List.filter_cons_of_neg (by rw [decide_eq_true_iff]; omega)]; simp
       . rw [if_neg q, if_neg q]
      simp only [dataflow_Source.f, Option.bind_some]
      rw [w64_id (n := Flow.Insts f + Flow.Params f) (by omega) (by omega)]
      simp (disch := omega) only [↓cdT]
      have v4' : (ft : Int) <= Flow.N f + 1 := by omega
      rw [hft] at *
      simp (disch := first | omega | (rw [tb_len]; omega)) only [↓if_pos, tb_rd, Int.toNat_natCast]
      refine .succ ?_
      simp (disch := first | omega | (simp only [List.length_singleton]; omega)) only [listsched_Schedule.c21, ↓bleT, w64_id (n := (i : Int) + 1)]
      rw [<- e6]
      conv at next => intro x; rw [e5, e7]
      have := next (Arc.To (rd (Flow.Arcs f) (i : Int)), Arc.From (rd (Flow.Arcs f) (i : Int)), Arc.Lat (rd (Flow.Arcs f) (i : Int)), 0, ())
      simpa only [natC] using this
 have := loop (Flow.Arcs f).length 0 (by omega) [] rfl
 rw [<- e1, <- e2, <- e3] at this
 exact this
end
end Go.Proofs.YtjddmekfeckphaaGreatV
namespace Go.Proofs.YtjddmekfeckphaaGreatV
open Go Go.Vm
section
variable {f : Flow} {s : Sched}
end
end Go.Proofs.YtjddmekfeckphaaGreatV
namespace Go.Proofs.YtjddmekfeckphaaGreatV
open Go Go.Vm
section
variable {f : Flow}
theorem rend_eq (V : VALID f) : jacquardref28_End.f f = some (Flow.N f + 1) := by
 have i0 := V.i0; have i1 := V.i1; have p0 := V.p0; have p1 := V.p1
 have hN : Flow.N f = Flow.Insts f + Flow.Params f := rfl
 simp only [jacquardref28_End.f]
 rw [w64_id (n := Flow.Insts f + Flow.Params f) (by omega) (by omega), w64_id (by omega) (by omega)]
theorem rsource_eq (V : VALID f) : jacquardref28_Source.f f = some (Flow.N f) := by
 have i0 := V.i0; have i1 := V.i1; have p0 := V.p0; have p1 := V.p1
 have hN : Flow.N f = Flow.Insts f + Flow.Params f := rfl
 simp only [jacquardref28_Source.f]
 rw [w64_id (n := Flow.Insts f + Flow.Params f) (by omega) (by omega)]
theorem walk_of (V : VALID f) {m : Int -> Int -> Int} (hF : Diff.FW (Flow.N f + 2) (Flow.Arcs f) 0 (Flow.N f + 2) 288230376151711744 m) {p : Int -> Int} (hp : Diff.Feas (Flow.N f + 2) (Flow.Arcs f) 0 p) {a b : Nat} (ha : (a : Int) < Flow.N f + 2) (hb : (b : Int) < Flow.N f + 2) (h : m a b > -1152921504606846976) : RT (ADJ (GR f)) a b := by
 refine Classical.byContradiction fun hno => ?_
 have hp' := (feas_iff V).1 hp
 have dec : ∀ v : Int, Decidable (∃ u : Nat, (u : Int) = v /\ RT (ADJ (GR f)) a u) := fun v => Classical.propDecidable _
 have hs := hF.snd (fun v => p v + if ∃ u : Nat, (u : Int) = v /\ RT (ADJ (GR f)) a u then 1152921504606846976 + (p b - p a) + (if p b - p a < 0 then -(2 * (p b - p a)) else 0) else 0) ?_ a b (by omega) ha (by omega) hb h
 . have n1 : ¬ ∃ u : Nat, (u : Int) = (b : Int) /\ RT (ADJ (GR f)) a u := fun ⟨u, e, q⟩ => hno (by rwa [show u = b by omega] at q)
   have n2 : ∃ u : Nat, (u : Int) = (a : Int) /\ RT (ADJ (GR f)) a u := ⟨a, rfl, .refl _⟩
   simp only [if_neg n1, if_pos n2] at hs
   split at hs <;> omega
 . refine (feas_iff V).2 fun j hj => ?_
   obtain ⟨v1, v2, v3, v4, _⟩ := V.arcs j hj
   have v1 : 0 <= aF f j := v1
   have v3 : 0 <= aT f j := v3
   have := hp' j hj
   by_cases c1 : ∃ u : Nat, (u : Int) = aF f j /\ RT (ADJ (GR f)) a u
   . have c2 : ∃ u : Nat, (u : Int) = aT f j /\ RT (ADJ (GR f)) a u := by
      obtain ⟨u, e, q⟩ := c1
      refine ⟨(aT f j).toNat, by omega, q.trans (.one ((adj_GR V).2 ⟨j, hj, by omega, by omega⟩))⟩
     simp only [if_pos c1, if_pos c2]
     omega
   . simp only [if_neg c1]
     split
     . split <;> omega
     . omega
theorem of_walk (V : VALID f) {m : Int -> Int -> Int} (hF : Diff.FW (Flow.N f + 2) (Flow.Arcs f) 0 (Flow.N f + 2) 288230376151711744 m) {a b : Nat} (ha : (a : Int) < Flow.N f + 2) (h : RT (ADJ (GR f)) a b) : m a b > -1152921504606846976 /\ (b : Int) < Flow.N f + 2 := by
 have one : ∀ {a b : Nat}, ADJ (GR f) a b -> m a b > -1152921504606846976 /\ (b : Int) < Flow.N f + 2 := fun {a b} h => by
  obtain ⟨j, hj, e1, e2⟩ := (adj_GR V).1 h
  have h1 := hF.ar (j : Int) (by omega) (by omega) (inn0 V hj)
  rw [wt0 V hj] at h1
  obtain ⟨_, _, _, v4, v5, _⟩ := V.arcs j hj
  have v4 : aT f j <= Flow.N f + 1 := v4
  have v5 : 0 <= aL f j := v5
  have h1 : aL f j <= m (aF f j) (aT f j) := h1
  rw [e1, e2] at h1
  omega
 rcases h with rfl | h
 . have := hF.dg a (by omega) ha
   exact ⟨by omega, ha⟩
 . induction h with
   | one h => exact one h
   | step h1 h2 ih =>
     rename_i a x b
     have o := one h1
     have i := ih o.2
     have hc := hF.cl a b x (by omega) ha (by omega) i.2 (by omega) (by omega) o.1 i.1
     have b1 := hF.bd a x (by omega) ha (by omega) o.2
     have b2 := hF.bd x b (by omega) o.2 (by omega) i.2
     exact ⟨by omega, i.2⟩
def KNOT (f : Flow) (m : Int -> Int -> Int) (j : Nat) : Prop := (aF f j < Flow.Insts f \/ aT f j < Flow.Insts f) /\ m (aT f j) (aF f j) > -1152921504606846976
theorem knot_tng (V : VALID f) {m : Int -> Int -> Int} (hF : Diff.FW (Flow.N f + 2) (Flow.Arcs f) 0 (Flow.N f + 2) 288230376151711744 m) {p : Int -> Int} (hp : Diff.Feas (Flow.N f + 2) (Flow.Arcs f) 0 p) {j : Nat} (hj : j < (Flow.Arcs f).length) (h : KNOT f m j) : TNG f := by
 obtain ⟨v1, v2, v3, v4, _⟩ := V.arcs j hj
 have v1 : 0 <= aF f j := v1
 have v3 : 0 <= aT f j := v3
 have v2 : aF f j <= Flow.N f := v2
 have v4 : aT f j <= Flow.N f + 1 := v4
 obtain ⟨a, ha⟩ : ∃ a : Nat, aF f j = (a : Int) := ⟨(aF f j).toNat, by omega⟩
 obtain ⟨b, hb⟩ : ∃ b : Nat, aT f j = (b : Int) := ⟨(aT f j).toNat, by omega⟩
 obtain ⟨h1, h2⟩ := h
 rw [ha, hb] at h2
 have w := walk_of V hF hp (a := b) (b := a) (by omega) (by omega) h2
 have w2 : RT (ADJ (GR f)) a b := .one ((adj_GR V).2 ⟨j, hj, ha, hb⟩)
 by_cases e : a = b
 . exact .inl ⟨j, hj, .inr ⟨by rw [ha, hb, e], by rw [ha, hb] at h1; omega⟩⟩
 . rcases h1 with h1 | h1
   . exact .inr ⟨a, b, by omega, fun q => e q.symm, w2, w⟩
   . exact .inr ⟨b, a, by omega, e, w, w2⟩
theorem tng_knot (V : VALID f) {m : Int -> Int -> Int} (hF : Diff.FW (Flow.N f + 2) (Flow.Arcs f) 0 (Flow.N f + 2) 288230376151711744 m) (h : TNG f) (h0 : ∀ j : Nat, j < (Flow.Arcs f).length -> ¬ (aF f j < Flow.Insts f /\ Flow.Insts f <= aT f j /\ aT f j <= Flow.N f)) : ∃ j : Nat, j < (Flow.Arcs f).length /\ KNOT f m j := by
 have hp0 := V.p0
 have hN : Flow.N f = Flow.Insts f + Flow.Params f := rfl
 rcases h with ⟨j, hj, h | ⟨h, h2⟩⟩ | ⟨i, u, hi, hne, h1, h2⟩
 . exact absurd h (h0 j hj)
 . refine ⟨j, hj, .inl h2, ?_⟩
   rw [<- h]
   have := hF.dg (aF f j) (V.arcs j hj).1 (by omega)
   omega
 . rcases h1 with e | h1
   . exact absurd e.symm hne
   . cases h1 with
     | one h1 =>
       obtain ⟨j, hj, e1, e2⟩ := (adj_GR V).1 h1
       obtain ⟨_, _, _, v4, _⟩ := V.arcs j hj
       have v4 : aT f j <= Flow.N f + 1 := v4
       refine ⟨j, hj, .inl (by omega), ?_⟩
       rw [e1, e2]
       exact (of_walk V hF (by omega) h2).1
     | step h1 h3 =>
       rename_i b
       obtain ⟨j, hj, e1, e2⟩ := (adj_GR V).1 h1
       obtain ⟨_, _, _, v4, _⟩ := V.arcs j hj
       have v4 : aT f j <= Flow.N f + 1 := v4
       refine ⟨j, hj, .inl (by omega), ?_⟩
       rw [e1, e2]
       exact (of_walk V hF (by omega) (RT.trans (.inr h3) h2)).1
theorem bnd_nil (v : Int) (h : 0 <= v) : Diff.bnd [] v = 0 := by
 unfold Diff.bnd
 rw [if_pos (by simpa using h)]
theorem early_ofR (V : VALID f) (hn : 0 <= Flow.N f) {a : List Int × Bool × Unit} (h : Diff.AnswerR (Flow.N f + 2) (Flow.Arcs f) 0 (Diff.bnd []) a) : (a.2.1 = true /\ EARLY f a.1 /\ mx 1 (rd a.1 (Flow.N f + 1)) <= 600000000000000000) \/ (a.2.1 = false /\ ∀ E, ¬ EARLY f E) := by
 rcases h with ⟨h1, h2, h3, h4, h5⟩ | ⟨h1, _, h3⟩
 . refine .inl ⟨h1, ⟨h2, fun v v0 v1 => ?_, (feas_iff V).1 h4, fun q q1 q2 => h5 q ((feas_iff V).2 q2) fun v v0 v1 => ?_⟩, by rw [mx_le]; have := (h3 (Flow.N f + 1) (by omega) (by omega)).2; omega⟩
   . have := (h3 v v0 v1).1
     rwa [bnd_nil v v0] at this
   . rw [bnd_nil v v0]; exact q1 v v0 v1
 . exact .inr ⟨h1, fun E hE => h3 _ ((feas_iff V).2 hE.arc)⟩
def REARLY (f : Flow) (r : List Int × Bool × Unit) : Prop := (r.2.1 = true /\ EARLY f r.1 /\ GOODF f r.1 /\ mx 1 (rd r.1 (Flow.N f + 1)) <= 600000000000000000) \/ (r.2.1 = false /\ ∀ E, EARLY f E -> ¬ GOODF f E)
theorem settled_ref (V : VALID f) (hn : Flow.N f + 2 <= 22) (hal : (Flow.Arcs f).length <= 1000000) (h0 : ∀ j : Nat, j < (Flow.Arcs f).length -> ¬ (aF f j < Flow.Insts f /\ Flow.Insts f <= aT f j /\ aT f j <= Flow.N f)) :
 W (fun k => jacquardref32_Settled.f k f (Flow.Arcs f)) (fun r => (r.2.1 = true /\ EARLY f r.1 /\ ¬ TNG f /\ mx 1 (rd r.1 (Flow.N f + 1)) <= 600000000000000000) \/ (r.2.1 = false /\ ∀ E, EARLY f E -> TNG f)) := by
 have i0 := V.i0; have i1 := V.i1; have p0 := V.p0; have p1 := V.p1
 have hN : Flow.N f = Flow.Insts f + Flow.Params f := rfl
 have hnod : Diff.nod (Flow.N f + 2) = Flow.N f + 2 := clampI (by omega) (by omega)
 simp only [jacquardref32_Settled.f, rend_eq V, Option.bind_some]
 rw [w64_id (n := Flow.N f + 1 + 1) (by omega) (by omega), show Flow.N f + 1 + 1 = Flow.N f + 2 by omega]
 have hw := Diff.walks_f (n0 := Flow.N f + 2) (arcs := Flow.Arcs f) (ii := 0) (by rw [hnod]; omega) hal
 rw [hnod] at hw
 refine hw.bind fun y hy => ?_
 rcases hy with ⟨h1, ⟨hS1, hS2⟩, hF⟩ | ⟨h1, _, h2⟩
 rotate_left
 . simp only [h1, Bool.not_false, cond_true]
   exact .ret (.inr ⟨rfl, fun E hE => absurd ((feas_iff V).2 hE.arc) (h2 _)⟩)
 simp only [h1, Bool.not_true, cond_false]
 have loop : ∀ (d i : Nat), i + d = (Flow.Arcs f).length -> (∀ j : Nat, j < i -> ¬ KNOT f (Diff.At y.1) j) -> W (fun k => jacquardref32_Settled.c6 k (Flow.Arcs f) (Flow.N f + 2) ((Flow.Arcs f).length : Int) (i : Int) f y.1) (fun r => (r.2.1 = true /\ EARLY f r.1 /\ ¬ TNG f /\ mx 1 (rd r.1 (Flow.N f + 1)) <= 600000000000000000) \/ (r.2.1 = false /\ ∀ E, EARLY f E -> TNG f)) := by
  intro d
  induction d with
  | zero =>
    intro i hi hno
    refine .succ ?_
    simp (disch := omega) only [jacquardref32_Settled.c6, ↓cdF]
    have ha := Diff.after_ref_f (n0 := Flow.N f + 2) (arcs := Flow.Arcs f) (ii := 0) (lower := []) (by rw [hnod]; omega) hal
    rw [hnod] at ha
    refine ha.bind fun a ha => .ret ?_
    rcases early_ofR V (by omega) ha with ⟨e1, e2, e3⟩ | ⟨e1, e2⟩
    . refine .inl ⟨e1, e2, fun hT => ?_, e3⟩
      obtain ⟨j, hj, hk⟩ := tng_knot V hF hT h0
      exact hno j (by omega) hk
    . exact .inr ⟨e1, fun E hE => absurd hE (e2 E)⟩
  | succ d ih =>
    intro i hi hno
    obtain ⟨v1, v2, v3, v4, _⟩ := V.arcs i (by omega)
    have hrow := hS2 (Arc.To (rd (Flow.Arcs f) (i : Int))) v3 (by omega)
    have go : ¬ KNOT f (Diff.At y.1) i -> W (fun k => jacquardref32_Settled.c6 k (Flow.Arcs f) (Flow.N f + 2) ((Flow.Arcs f).length : Int) ((i : Int) + 1) f y.1) (fun r => (r.2.1 = true /\ EARLY f r.1 /\ ¬ TNG f /\ mx 1 (rd r.1 (Flow.N f + 1)) <= 600000000000000000) \/ (r.2.1 = false /\ ∀ E, EARLY f E -> TNG f)) := fun hk => by
     have := ih (i + 1) (by omega) fun j hj => by
      rcases Nat.lt_or_eq_of_le (Nat.le_of_lt_succ hj) with h | h
      . exact hno j h
      . rw [h]; exact hk
     simpa only [natC] using this
    have bad : KNOT f (Diff.At y.1) i -> W (fun _ => some (([] : List Int), false, ())) (fun r => (r.2.1 = true /\ EARLY f r.1 /\ ¬ TNG f /\ mx 1 (rd r.1 (Flow.N f + 1)) <= 600000000000000000) \/ (r.2.1 = false /\ ∀ E, EARLY f E -> TNG f)) := fun hk => .ret (.inr ⟨rfl, fun E hE => knot_tng V hF ((feas_iff V).2 hE.arc) (by omega) hk⟩)
    refine .succ ?_
    simp (disch := omega) only [jacquardref32_Settled.c6, ↓cdT, ↓if_pos, w64_id (n := (i : Int) + 1)]
    refine .dec (fun q => .dec (fun q2 => bad ⟨.inl q, q2⟩) fun q2 => go fun hk => q2 hk.2) fun q => ?_
    exact .dec (fun q1 => .dec (fun q2 => bad ⟨.inr q1, q2⟩) fun q2 => go fun hk => q2 hk.2) fun q1 => go fun hk => hk.1.elim q q1
 exact loop (Flow.Arcs f).length 0 (by omega) fun j hj => by omega
theorem earliest_ref (V : VALID f) (hn : Flow.N f + 2 <= 22) (hal : (Flow.Arcs f).length <= 1000000) : W (fun k => jacquardref32_Earliest.f k f) (REARLY f) := by
 have i0 := V.i0; have i1 := V.i1; have p0 := V.p0; have p1 := V.p1
 have hN : Flow.N f = Flow.Insts f + Flow.Params f := rfl
 simp only [jacquardref32_Earliest.f]
 have loop : ∀ (d i : Nat), i + d = (Flow.Arcs f).length -> (∀ j : Nat, j < i -> ¬ (aF f j < Flow.Insts f /\ Flow.Insts f <= aT f j /\ aT f j <= Flow.N f)) -> W (fun k => jacquardref32_Earliest.c2 k ((Flow.Arcs f).length : Int) (i : Int) f) (REARLY f) := by
  intro d
  induction d with
  | zero =>
    intro i hi hno
    refine .succ ?_
    simp (disch := omega) only [jacquardref32_Earliest.c2, ↓cdF]
    refine (settled_ref V hn hal fun j hj => hno j (by omega)).bind fun a ha => ?_
    rcases ha with ⟨h1, hE, hT, hu⟩ | ⟨h1, h2⟩
    rotate_left
    . simp only [h1, Bool.not_false, cond_true]
      exact .ret (.inr ⟨rfl, fun E hE hg => hg.1 (h2 E hE)⟩)
    simp only [h1, Bool.not_true, cond_false]
    have hlen := hE.len
    generalize a.1 = E at hE hlen hu
    have loop2 : ∀ (d i : Nat), (i : Int) + d = Flow.Params f -> (∀ q : Nat, q < i -> rd E (Flow.Insts f + q) <= 0) -> W (fun k => jacquardref32_Earliest.c12 k (Flow.Params f) (i : Int) f E) (REARLY f) := by
     intro d
     induction d with
     | zero =>
       intro i hi hq
       refine .succ ?_
       simp (disch := omega) only [jacquardref32_Earliest.c12, ↓cdF]
       exact .ret (.inl ⟨rfl, hE, ⟨hT, fun q hq2 => hq q (by omega)⟩, hu⟩)
     | succ d ih =>
       intro i hi hq
       refine .succ ?_
       simp (disch := omega) only [jacquardref32_Earliest.c12, ↓cdT, ↓if_pos, w64_id]
       refine .dec (fun q => .ret (.inr ⟨rfl, fun E' hE' hg => ?_⟩)) fun q => ?_
       . rw [hE'.uniq V hE] at hg
         have := hg.2 i (by omega)
         omega
       . have := ih (i + 1) (by omega) fun j hj => by
          rcases Nat.lt_or_eq_of_le (Nat.le_of_lt_succ hj) with h | h
          . exact hq j h
          . rw [h]; omega
         simpa only [natC] using this
    exact loop2 (Flow.Params f).toNat 0 (by omega) fun q hq => by omega
  | succ d ih =>
    intro i hi hno
    have go : ¬ (aF f i < Flow.Insts f /\ Flow.Insts f <= aT f i /\ aT f i <= Flow.N f) -> W (fun k => jacquardref32_Earliest.c2 k ((Flow.Arcs f).length : Int) ((i : Int) + 1) f) (REARLY f) := fun hk => by
     have := ih (i + 1) (by omega) fun j hj => by
      rcases Nat.lt_or_eq_of_le (Nat.le_of_lt_succ hj) with h | h
      . exact hno j h
      . rw [h]; exact hk
     simpa only [natC] using this
    refine .succ ?_
    simp (disch := omega) only [jacquardref32_Earliest.c2, ↓cdT, ↓if_pos, w64_id (n := (i : Int) + 1), rsource_eq V, Option.bind_some]
    refine .dec (fun q1 => .dec (fun q2 => .dec (fun q3 => ?_) fun q3 => go fun h => q3 h.2.2) fun q2 => go fun h => q2 h.2.1) fun q1 => go fun h => q1 h.1
    exact .ret (.inr ⟨rfl, fun E hE hg => hg.1 (.inl ⟨i, by omega, .inl ⟨q1, q2, q3⟩⟩)⟩)
 exact loop (Flow.Arcs f).length 0 (by omega) fun j hj => by omega
end
end Go.Proofs.YtjddmekfeckphaaGreatV
namespace Go.Proofs.YtjddmekfeckphaaGreatV
open Go Go.Vm
section
variable {f : Flow}
def SB (f : Flow) (l : List Int) : Int := (l.map fun x => Need.Busy (rd (Flow.Needs f) x)).sum
theorem SB_app (l : List Int) (x : Int) : SB f (l ++ [x]) = SB f l + Need.Busy (rd (Flow.Needs f) x) := by
 unfold SB
 rw [List.map_append, List.sum_append]
 simp
theorem SB_KSUM : ∀ m, SB f (CONTS f m) = KSUM f m
 | 0 => rfl
 | m + 1 => by
   have := SB_KSUM m
   unfold CONTS at *
   rw [pick_succ]
   show _ = KSUM f m + ite _ _ _
   by_cases h : CONT f m
   . rw [if_pos (by exact decide_eq_true h), if_pos h, SB_app, this]
   . rw [if_neg (by rw [decide_eq_true_iff]; exact h), if_neg h, this, Int.add_zero]
theorem conts_mem {m : Nat} {x : Int} (h : x ∈ CONTS f m) : 0 <= x /\ x < m := by
 unfold CONTS pick at h
 simp only [List.mem_map, List.mem_filter, List.mem_range] at h
 obtain ⟨j, ⟨h1, _⟩, rfl⟩ := h
 omega
theorem SB_b (V : VALID f) {l : List Int} (hl : ∀ x, x ∈ l -> 0 <= x /\ x < ((Flow.Needs f).length : Int)) : 0 <= SB f l /\ SB f l <= 256 * l.length := by
 induction l with
 | nil => exact ⟨Int.le_refl _, Int.le_refl _⟩
 | cons x l ih =>
   have h := ih fun y hy => hl y (List.mem_cons_of_mem _ hy)
   have hx := hl x (List.mem_cons_self ..)
   obtain ⟨i, rfl⟩ : ∃ i : Nat, x = (i : Int) := ⟨x.toNat, by omega⟩
   have hb : 0 <= Need.Busy (rd (Flow.Needs f) (i : Int)) /\ Need.Busy (rd (Flow.Needs f) (i : Int)) <= 256 := by rcases V.need i (by omega) with ⟨_, h⟩ | ⟨_, _, h1, h2⟩ <;> omega
   have e : SB f ((i : Int) :: l) = Need.Busy (rd (Flow.Needs f) (i : Int)) + SB f l := rfl
   rw [e, List.length_cons]
   omega
theorem most_ref (V : VALID f) {E : List Int} (hlen : (E.length : Int) = Flow.N f + 2) (hu : mx 1 (rd E (Flow.N f + 1)) <= 600000000000000000) : Ev (fun k => jacquardref32_Most.f k f E) (mx 1 (rd E (Flow.N f + 1)) + KSUM f (Flow.Insts f).toNat) := by
 have i0 := V.i0; have i1 := V.i1; have p0 := V.p0
 have hN : Flow.N f = Flow.Insts f + Flow.Params f := rfl
 have hn := V.needs
 simp only [jacquardref32_Most.f, rend_eq V, Option.bind_some]
 simp (disch := omega) only [↓if_pos]
 refine .bind (contested_ref V (by omega)) ?_
 rw [show (Flow.Insts f).toNat = (Flow.Needs f).length by omega, <- SB_KSUM]
 have hm : ∀ x, x ∈ CONTS f (Flow.Needs f).length -> 0 <= x /\ x < ((Flow.Needs f).length : Int) := fun x hx => conts_mem hx
 have hcl : (CONTS f (Flow.Needs f).length).length <= (Flow.Needs f).length := pick_len _ _ _
 have h1 := le_mx_l 1 (rd E (Flow.N f + 1))
 generalize CONTS f (Flow.Needs f).length = L at hm hcl
 generalize mx 1 (rd E (Flow.N f + 1)) = z at hu h1
 have key : Ev (fun k => jacquardref32_Most.c4 k (z + SB f (L.take 0)) (L.length : Int) ((0 : Nat) : Int) f L) (z + SB f L) := by
  refine Ev.up (c := fun k i => jacquardref32_Most.c4 k (z + SB f (L.take i)) (L.length : Int) (i : Int) f L) (n := L.length) ?_ (fun i hi ih => ?_) 0 (Nat.zero_le _)
  . refine .succ ?_
    simp (disch := omega) only [jacquardref32_Most.c4, ↓cdF, List.take_length]
    exact .ret _
  . have hx := hm _ (rd_mem (xs := L) (i := (i : Int)) (by omega) (by omega))
    obtain ⟨j, hj⟩ : ∃ j : Nat, rd L (i : Int) = (j : Int) := ⟨(rd L (i : Int)).toNat, by omega⟩
    have hb : 0 <= Need.Busy (rd (Flow.Needs f) (j : Int)) /\ Need.Busy (rd (Flow.Needs f) (j : Int)) <= 256 := by rcases V.need j (by omega) with ⟨_, h⟩ | ⟨_, _, h1, h2⟩ <;> omega
    have hsb := SB_b V (l := L.take i) fun x hx => hm x (List.mem_of_mem_take hx)
    have htl : (L.take i).length <= L.length := by rw [List.length_take]; omega
    rw [take_snoc hi, SB_app] at ih
    simp only [natC] at ih
    rw [hj] at ih
    refine .succ ?_
    simp (disch := omega) only [jacquardref32_Most.c4, ↓cdT, ↓if_pos, hj, w64_id]
    rwa [<- Int.add_assoc] at ih
 rw [List.take_zero, show SB f [] = 0 from rfl, Int.add_zero] at key
 exact key
end
end Go.Proofs.YtjddmekfeckphaaGreatV
namespace Go.Proofs.YtjddmekfeckphaaGreatV
open Go Go.Vm
section
variable {f : Flow} {s : Sched}
theorem tm_sol (V : VALID f) (F : FITS f s) (L : LG f s) {E : List Int} (hE : EARLY f E) {v : Int} (h0 : 0 <= v) (h1 : v < Flow.N f + 2) : rd E v <= tm f s v :=
 hE.least (tm f s) (fun v v0 _ => (tm_bound F V v0).1) (fun j hj => by
  have : aL f j <= tm f s (aT f j) - tm f s (aF f j) := L.arcs j hj
  omega) v h0 h1
theorem tm_end (V : VALID f) : tm f s (Flow.N f + 1) = Sched.Depth s := by
 have := V.i0; have := V.p0
 have hN : Flow.N f = Flow.Insts f + Flow.Params f := rfl
 unfold tm
 rw [if_neg (by omega), if_neg (by omega), if_neg (by omega)]
theorem plain_ev (SF : SIZES f) : EvP (fun k => jacquardlaw32_plain.f k f) (VALID f /\ Flow.Loop f = false) := by
 simp only [jacquardlaw32_plain.f]
 refine EvP.test (valid_ref SF) (fun V => ?_) fun V => ?_
 . simp only [cond_true]
   cases hl : Flow.Loop f
   . exact .tt ⟨V, rfl⟩
   . exact .ff fun q => by cases q.2
 . simp only [cond_false]
   exact .ff fun q => V q.1
end
end Go.Proofs.YtjddmekfeckphaaGreatV
namespace Go.Proofs.YtjddmekfeckphaaGreatV
open Go Go.Vm Diff
def sumN (l : List Need) (r : Int) : Nat -> Int
 | 0 => 0
 | m + 1 => if Need.Res (rd l (m : Int)) = r then sumN l r m + Need.Busy (rd l (m : Int)) else sumN l r m
def maxN (l : List Need) (r : Int) : Nat -> Int
 | 0 => 0
 | m + 1 => if Need.Res (rd l (m : Int)) = r then mx (maxN l r m) (Need.Busy (rd l (m : Int))) else maxN l r m
theorem sumN_succ (l : List Need) (r : Int) (m : Nat) : sumN l r (m + 1) = if Need.Res (rd l (m : Int)) = r then sumN l r m + Need.Busy (rd l (m : Int)) else sumN l r m := rfl
theorem maxN_succ (l : List Need) (r : Int) (m : Nat) : maxN l r (m + 1) = if Need.Res (rd l (m : Int)) = r then mx (maxN l r m) (Need.Busy (rd l (m : Int))) else maxN l r m := rfl
def SUM (f : Flow) (r : Int) : Int := sumN (Flow.Needs f) r (Flow.Needs f).length
def MAX (f : Flow) (r : Int) : Int := maxN (Flow.Needs f) r (Flow.Needs f).length
section
variable {f : Flow}
theorem need_b (V : VALID f) {i : Nat} (hi : i < (Flow.Needs f).length) : 0 <= Need.Busy (rd (Flow.Needs f) (i : Int)) /\ Need.Busy (rd (Flow.Needs f) (i : Int)) <= 256 := by
 rcases V.need i hi with ⟨_, h⟩ | ⟨_, _, h1, h2⟩ <;> omega
theorem sumN_b (V : VALID f) (r : Int) : ∀ m : Nat, m <= (Flow.Needs f).length -> 0 <= sumN (Flow.Needs f) r m /\ sumN (Flow.Needs f) r m <= 256 * m
 | 0, _ => by simp [sumN]
 | m + 1, h => by
   have := sumN_b V r m (by omega)
   have := need_b V (i := m) (by omega)
   unfold sumN; split <;> omega
def USE (f : Flow) (r : List Int × List Int × Unit) : Prop := r.1.length = (Flow.Res f).length /\ r.2.1.length = (Flow.Res f).length /\ ∀ q : Nat, q < (Flow.Res f).length -> rd r.1 (q : Int) = SUM f q /\ rd r.2.1 (q : Int) = MAX f q
theorem usage_ev (V : VALID f) (hr : (Flow.Res f).length <= 1000000) : W (fun k => bounds_usage.f k f) (USE f) := by
 have hn := V.needs
 have hi1 := V.i1
 simp (disch := omega) only [bounds_usage.f, ↓if_pos]
 have loop : ∀ (d i : Nat) (s l : List Int), i + d = (Flow.Needs f).length -> s.length = (Flow.Res f).length -> l.length = (Flow.Res f).length -> (∀ q : Nat, q < (Flow.Res f).length -> rd s (q : Int) = sumN (Flow.Needs f) q i /\ rd l (q : Int) = maxN (Flow.Needs f) q i) ->
  W (fun k => bounds_usage.c3 k (Flow.Needs f) ((Flow.Needs f).length : Int) (i : Int) s l) (USE f) := by
  intro d
  induction d with
  | zero =>
    intro i s l hi hs hl hx
    have e : i = (Flow.Needs f).length := by omega
    subst e
    refine .succ ?_
    simp (disch := omega) only [bounds_usage.c3, ↓cdF]
    exact .ret ⟨hs, hl, hx⟩
  | succ d ih =>
    intro i s l hi hs hl hx
    refine .succ ?_
    simp (disch := omega) only [bounds_usage.c3, ↓cdT, ↓if_pos, w64_id (n := (i : Int) + 1)]
    have hv := V.need i (by omega)
    have hb := need_b V (i := i) (by omega)
    refine .dec (fun h => ?_) fun h => ?_
    . have hv' : 0 <= Need.Res (rd (Flow.Needs f) (i : Int)) /\ Need.Res (rd (Flow.Needs f) (i : Int)) < ((Flow.Res f).length : Int) := by
       rcases hv with ⟨q, _⟩ | ⟨q1, q2, _⟩
       . omega
       . exact ⟨q1, q2⟩
      obtain ⟨q, hq⟩ : ∃ q : Nat, Need.Res (rd (Flow.Needs f) (i : Int)) = (q : Int) := ⟨(Need.Res (rd (Flow.Needs f) (i : Int))).toNat, by omega⟩
      rw [hq] at hv'
      have hxq := hx q (by omega)
      have sb := sumN_b V q i (by omega)
      simp (disch := omega) only [hq, ↓if_pos, Int.toNat_natCast]
      rw [hxq.1, hxq.2, w64_id (by omega) (by omega)]
      refine ih (i + 1) _ _ (by omega) (by simpa using hs) (by simpa using hl) fun p hp => ?_
      rw [Go.Vm.rd_set (by omega), Go.Vm.rd_set (by omega)]
      rw [sumN_succ, maxN_succ, hq]
      by_cases e : q = p
      . subst e
        rw [if_pos rfl, if_pos rfl, if_pos rfl, if_pos rfl]
        exact ⟨rfl, rfl⟩
      . have e' : ¬ (q : Int) = (p : Int) := by omega
        rw [if_neg e, if_neg e, if_neg e', if_neg e']
        exact hx p hp
    . refine ih (i + 1) s l (by omega) hs hl fun p hp => ?_
      rw [sumN_succ, maxN_succ]
      have e' : ¬ Need.Res (rd (Flow.Needs f) (i : Int)) = (p : Int) := by omega
      rw [if_neg e', if_neg e']
      exact hx p hp
 rw [Int.toNat_natCast]
 exact loop (Flow.Needs f).length 0 _ _ (by omega) (by simp) (by simp) fun q hq => ⟨Go.Vm.rd_replicate hq, Go.Vm.rd_replicate hq⟩
def shr (f : Flow) (r : Nat) : Int := w64 (Int.tdiv (w64 ((w64 (SUM f r + Resource.Count (rd (Flow.Res f) (r : Int)))) - 1)) (Resource.Count (rd (Flow.Res f) (r : Int))))
def dep (f : Flow) (x : Int) : Nat -> Int
 | 0 => x
 | i + 1 => mx (dep f x i) (shr f i)
end
section
variable {f : Flow} {s : Sched}
theorem tm_last (V : VALID f) : tm f s (Flow.N f + 1) = Sched.Depth s := by
 have := V.i0; have := V.p0
 have hN : Flow.N f = Flow.Insts f + Flow.Params f := rfl
 unfold tm
 rw [if_neg (by omega), if_neg (by omega), if_neg (by omega)]
theorem tail_le (V : VALID f) (hl : ∀ i, i < (Flow.Arcs f).length -> 0 <= slk f s i) {v : Nat} (hv : (v : Int) < Flow.N f) : 0 <= Arc.Lat (rd (Flow.Arcs f) (Flow.N f + 1 + v)) /\ tm f s (v : Int) + Arc.Lat (rd (Flow.Arcs f) (Flow.N f + 1 + v)) <= Sched.Depth s := by
 obtain ⟨t1, t2, t3, t4⟩ := V.tail v (by omega)
 have hlen := V.len
 have hN0 : 0 <= Flow.N f := by have := V.i0; have := V.p0; unfold Flow.N; omega
 obtain ⟨j, hj⟩ : ∃ j : Nat, Flow.N f + 1 + v = (j : Int) := ⟨(Flow.N f + 1 + v).toNat, by omega⟩
 rw [hj] at t1 t2 t3 ⊢
 have h1 := V.arcs j (by omega)
 have h2 := hl j (by omega)
 unfold slk at h2
 rw [t1, t2, t3, tm_last V] at h2
 obtain ⟨_, _, _, _, l0, _⟩ := h1
 exact ⟨l0, by omega⟩
def sumC (g : Nat -> Nat) : Nat -> Nat
 | 0 => 0
 | m + 1 => sumC g m + g m
theorem sumC_le {g : Nat -> Nat} {K : Nat} : ∀ m, (∀ c, c < m -> g c <= K) -> sumC g m <= m * K
 | 0, _ => by simp [sumC]
 | m + 1, h => by
   have := sumC_le m (fun c hc => h c (by omega))
   have := h m (by omega)
   unfold sumC
   rw [Nat.add_mul]; omega
theorem sumC_add (g h : Nat -> Nat) : ∀ m, sumC (fun c => g c + h c) m = sumC g m + sumC h m
 | 0 => rfl
 | m + 1 => by unfold sumC; rw [sumC_add g h m]; omega
theorem sumC_one {x : Nat} (p : Nat -> Prop) [DecidablePred p] (hp : ∀ c, p c ↔ c = x) : ∀ m, sumC (fun c => if p c then 1 else 0) m = if x < m then 1 else 0
 | 0 => rfl
 | m + 1 => by
   unfold sumC
   rw [sumC_one p hp m]
   by_cases e : m = x
   . rw [if_pos ((hp m).2 e), if_neg (by omega), if_pos (by omega)]
   . rw [if_neg (fun q => e ((hp m).1 q))]
     by_cases e2 : x < m
     . rw [if_pos e2, if_pos (by omega)]
     . rw [if_neg e2, if_neg (by omega)]
theorem cyc_in (V : VALID f) (F : FITS f s) (hl : ∀ i, i < (Flow.Arcs f).length -> 0 <= slk f s i) {i b : Nat} (hi : (i : Int) < Flow.Insts f) (hb : b < busyN f i) : 0 <= cyc f s i b /\ cyc f s i b < cycs f s := by
 have hnb := need_b V (i := i) (by have := V.needs; omega)
 have hbn : (busyN f i : Int) = Need.Busy (rd (Flow.Needs f) (i : Int)) := by unfold busyN; omega
 obtain ⟨c1, c2, _⟩ := cyc_bound F V hi (show b <= 256 by omega)
 refine ⟨c1, ?_⟩
 cases hloop : Flow.Loop f with
 | true => exact c2 hloop
 | false =>
   have hp0 := V.p0
   have hN : Flow.N f = Flow.Insts f + Flow.Params f := rfl
   have ht := (V.tail i (by omega)).2.2.2 hi
   have hle := (tail_le V hl (v := i) (by omega)).2
   have htm : tm f s (i : Int) = rd (Sched.Start s) (i : Int) := by unfold tm; rw [if_pos hi]
   rw [htm] at hle
   unfold cyc cycs
   rw [hloop]
   simp only [Bool.false_eq_true, if_false]
   omega
open Classical in
theorem part_sum (V : VALID f) (F : FITS f s) (hl : ∀ i, i < (Flow.Arcs f).length -> 0 <= slk f s i) {r i : Nat} (hi : (i : Int) < Flow.Insts f) (hr : Need.Res (rd (Flow.Needs f) (i : Int)) = r) : ∀ b, b <= busyN f i -> sumC (fun c => part f s r c i b) (cycs f s).toNat = b
 | 0, _ => by
   have : ∀ m, sumC (fun c => part f s r c i 0) m = 0 := by
    intro m
    induction m with
    | zero => rfl
    | succ m ih => unfold sumC; rw [ih]; rfl
   exact this _
 | b + 1, hb => by
   have ih := part_sum V F hl hi hr b (by omega)
   obtain ⟨c1, c2⟩ := cyc_in V F hl hi (show b < busyN f i by omega)
   have e : (fun c => part f s r c i (b + 1)) = fun c => part f s r c i b + if hit f s r c i b then 1 else 0 := rfl
   rw [e, sumC_add, ih, sumC_one (x := (cyc f s i b).toNat) (fun c => hit f s r c i b) (fun c => by unfold hit; rw [hr]; exact ⟨fun q => by have := q.2; omega, fun q => ⟨rfl, by omega⟩⟩), if_pos (by omega)]
theorem tot_sum (V : VALID f) (F : FITS f s) (hl : ∀ i, i < (Flow.Arcs f).length -> 0 <= slk f s i) (r : Nat) : ∀ m : Nat, m <= (Flow.Needs f).length -> sumN (Flow.Needs f) r m <= (sumC (fun c => tot f s r c m) (cycs f s).toNat : Nat)
 | 0, _ => by simp [sumN]
 | m + 1, hm => by
   have ih := tot_sum V F hl r m (by omega)
   have hn := V.needs
   have hnb := need_b V (i := m) (by omega)
   have e : (fun c => tot f s r c (m + 1)) = fun c => tot f s r c m + part f s r c m (busyN f m) := rfl
   rw [e, sumC_add, sumN_succ]
   by_cases h : Need.Res (rd (Flow.Needs f) (m : Int)) = (r : Int)
   . rw [if_pos h, part_sum V F hl (by omega) h _ (Nat.le_refl _)]
     unfold busyN; omega
   . rw [if_neg h]; omega
theorem sum_le (V : VALID f) (F : FITS f s) (L : LEGAL f s) {r : Nat} (hr : r < (Flow.Res f).length) : SUM f r <= cycs f s * Resource.Count (rd (Flow.Res f) (r : Int)) := by
 have h1 := tot_sum V F L.late r (Flow.Needs f).length (Nat.le_refl _)
 have hc := (V.res r hr).2.2
 have h2 := sumC_le (g := fun c => tot f s r c (Flow.Needs f).length) (K := (Resource.Count (rd (Flow.Res f) (r : Int))).toNat) (cycs f s).toNat (fun c _ => by
  have := enough V F L.clash hr c
  omega)
 have h3 := (cycs_pos F).1
 have e : (((cycs f s).toNat * (Resource.Count (rd (Flow.Res f) (r : Int))).toNat : Nat) : Int) = cycs f s * Resource.Count (rd (Flow.Res f) (r : Int)) := by
  rw [Int.natCast_mul, Int.toNat_of_nonneg (by omega), Int.toNat_of_nonneg (by omega)]
 unfold SUM
 omega
theorem share_le {S C D : Int} (s0 : 0 <= S) (s1 : S <= 1000000) (c0 : 1 <= C) (c1 : C <= 1024) (h : S <= D * C) : w64 (Int.tdiv (w64 ((w64 (S + C)) - 1)) C) <= D := by
 rw [w64_id (n := S + C) (by omega) (by omega), w64_id (n := S + C - 1) (by omega) (by omega), Int.tdiv_eq_ediv_of_nonneg (by omega)]
 have h1 : (S + C - 1) / C < D + 1 := Int.ediv_lt_of_lt_mul (by omega) (by rw [Int.add_mul]; omega)
 have h2 : 0 <= (S + C - 1) / C := Int.ediv_nonneg (by omega) (by omega)
 have h3 : (S + C - 1) / C <= S + C - 1 := Int.ediv_le_self _ (by omega)
 rw [w64_id (by omega) (by omega)]
 omega
theorem shr_le (V : VALID f) (h : (Flow.Needs f).length <= 20) (F : FITS f s) (L : LEGAL f s) {r : Nat} (hr : r < (Flow.Res f).length) : shr f r <= cycs f s := by
 have hc := (V.res r hr).2.2
 have hs := sumN_b V (r : Int) (Flow.Needs f).length (Nat.le_refl _)
 exact share_le hs.1 (by show sumN _ _ _ <= _; omega) hc.1 hc.2 (sum_le V F L hr)
theorem dep_le {x D : Int} (hx : x <= D) (h : ∀ r : Nat, r < (Flow.Res f).length -> shr f r <= D) : ∀ i : Nat, i <= (Flow.Res f).length -> dep f x i <= D
 | 0, _ => hx
 | i + 1, hi => by
   unfold dep
   rw [mx_le]
   exact ⟨dep_le hx h i (by omega), h i (by omega)⟩
end
end Go.Proofs.YtjddmekfeckphaaGreatV
namespace Go.Proofs.YtjddmekfeckphaaGreatV
open Go Go.Vm
section
variable {f : Flow} {s : Sched}
theorem depth_prog32 (V : VALID f) (SF : SIZES f) (hn : Flow.N f + 2 <= 1000) (hal : (Flow.Arcs f).length <= 1000) (hres : (Flow.Res f).length <= 1000) (hl : Flow.Loop f = false) {E : List Int} (hE : EARLY f E) : W (fun k => bounds_Depth.f k f) (fun r => r.1 = dep f (mx 1 (rd E (Flow.N f + 1))) (Flow.Res f).length /\ r.2.1 = 0) := by
 have i0 := V.i0
 have p0 := V.p0
 have i1 := V.i1
 have p1 := V.p1
 have hr := SF.res
 have hN : Flow.N f = Flow.Insts f + Flow.Params f := rfl
 have hnod : Diff.nod (Flow.N f + 2) = Flow.N f + 2 := clampI (by omega) (by omega)
 simp only [bounds_Depth.f]
 refine W.bindEv ((valid_prog SF).true V) ?_
 simp only [Bool.not_true, cond_false, hl, dataflow_Nodes.f, Option.bind_some]
 rw [w64_id (n := Flow.Insts f + Flow.Params f) (by omega) (by omega), w64_id (by omega) (by omega), <- hN]
 have he := Diff.earliest_f (n0 := Flow.N f + 2) (arcs := Flow.Arcs f) (ii := 0) (by
  rw [hnod]
  have h1 : (Flow.N f + 2 + 2) * ((Flow.Arcs f).length : Int) <= 1002 * ((Flow.Arcs f).length : Int) := Int.mul_le_mul_of_nonneg_right (by omega) (by omega)
  omega)
 rw [hnod] at he
 refine W.bind he fun a ha => ?_
 cases hc : a.2.1 with
 | some c => exact absurd hE (no_early V ha (by rw [hc]; simp) E)
 | none =>
   have hE2 := early_of V ha hc
   have e := hE2.uniq V hE
   have hlen := hE2.len
   simp only [Option.isSome_none, cond_false, dataflow_End.f, Option.bind_some]
   rw [w64_id (n := Flow.Insts f + Flow.Params f) (by omega) (by omega), w64_id (by omega) (by omega), <- hN]
   simp (disch := omega) only [↓if_pos]
   rw [e]
   refine W.bind (usage_ev V (by omega)) fun u hu => ?_
   refine Ev.w (y := (dep f (mx 1 (rd E (Flow.N f + 1))) (Flow.Res f).length, 0, ())) ?_ ⟨rfl, rfl⟩
   refine Ev.up (c := fun k i => bounds_Depth.c11 k (dep f (mx 1 (rd E (Flow.N f + 1))) i) (Flow.Res f) ((Flow.Res f).length : Int) (i : Int) u.1) (n := (Flow.Res f).length) ?_ ?_ 0 (Nat.zero_le _)
   . refine .succ ?_
     simp (disch := omega) only [bounds_Depth.c11, ↓cdF]
     exact .ret _
   . intro i hi hnext
     obtain ⟨u1, u2, u3⟩ := hu
     have hv := (V.res i hi).2.2
     refine .succ ?_
     simp (disch := omega) only [bounds_Depth.c11, ↓cdT, ↓if_pos, bounds_share.f, Option.bind_some, w64_id (n := (i : Int) + 1), (u3 i hi).1]
     exact hnext
theorem PureListschedBounds (f : Flow) (g0 : Ty.good Flow.T f) : ∃ k, jacquardlaw32_ListschedBounds.f k f = some true := by
 refine Ev.ex (f := fun k => jacquardlaw32_ListschedBounds.f k f) ?_
 simp only [jacquardlaw32_ListschedBounds.f]
 have hend : Ev (fun k => (jacquardlaw32_awake.f k).bind fun y17 => some y17) true := Ev.bind awake_ev (.ret true)
 refine .bind awake_ev ?_
 simp only [Bool.not_true, cond_false]
 obtain ⟨_, _, _, ⟨ga, _⟩, _, ⟨gn, _⟩, _⟩ := g0
 refine .test (few_ev ga gn) (fun h => ?_) fun _ => hend
 simp only [Bool.not_true, cond_false]
 have SF := sizes_of h
 refine .test (plain_ev SF) (fun hp => ?_) fun _ => hend
 simp only [Bool.not_true, cond_false]
 obtain ⟨V, hl⟩ := hp
 have i0 := V.i0
 have i1 := V.i1
 have p0 := V.p0
 have hin := h.1.insts
 have hip := h.1.params
 have hal := h.1.arcs
 have hN : Flow.N f = Flow.Insts f + Flow.Params f := rfl
 obtain ⟨r, hr, hh⟩ := Schedule_prog V SF hin (by omega) (by omega) hl
 refine .bind hr ?_
 rcases hh with ⟨_, e⟩ | ⟨E, hE, hg, ⟨e, _⟩ | ⟨h0, F, L, hd, _⟩⟩
 . subst e
   exact .ret true
 . subst e
   exact .ret true
 simp only [h0, decide_true, Bool.not_true, cond_false]
 obtain ⟨y, hy, he⟩ := earliest_ref V (by omega) (by omega)
 refine .bind hy ?_
 rcases he with ⟨h1, hE', hg', hu⟩ | ⟨h1, h2⟩
 rotate_left
 . exact absurd hg (h2 _ hE)
 have e := hE.uniq V hE'
 subst e
 obtain ⟨b, hb, hb1, hb2⟩ := depth_prog32 V SF (by omega) (by omega) (by have := h.1.res; omega) hl hE
 refine .bind hb ?_
 simp only [h1, cond_true]
 have hd0 := F.depth
 have hd2 := tm_sol V F L hE (v := Flow.N f + 1) (by omega) (by omega)
 rw [tm_end V] at hd2
 have hcy : cycs f r.1 = Sched.Depth r.1 := by
  unfold cycs
  rw [hl]
  rfl
 have hle : b.1 <= Sched.Depth r.1 := by
  rw [hb1]
  refine dep_le (by rw [mx_le]; omega) (fun q hq => ?_) _ (Nat.le_refl _)
  rw [<- hcy]
  exact shr_le V h.2 F ((LG_iff V F hl).2 L) hq
 simp only [↓cdT hb2, ↓cdT hle]
 refine .bind (most_ref V hE.len hu) ?_
 rw [decide_eq_true hd]
 exact .ret true
end
end Go.Proofs.YtjddmekfeckphaaGreatV
