/- Proofs about the functions, part 2 of 4. -/
import Derived.Test.YtjddmekfeckphaaGreatM0
import Derived.Test.YtjddmekfeckphaaGreatF
set_option linter.unusedVariables false
set_option linter.unusedSimpArgs false
namespace Go.Proofs.YtjddmekfeckphaaGreatV
open Go Go.Vm
theorem FINI.len {g : Graph} {F : List Int} (h : FINI g F) : F.length = gN g := by
 have h1 := (pigeon (gN g) F h.nd fun x hx => by
  obtain ⟨v, rfl, hv⟩ := h.mem x hx
  omega).1
 have h2 := pigeon2 (gN g) F h.nd h.all
 omega
noncomputable def ARR (g : Graph) (F : List Int) (j r : Nat) (l : List Int) (v : Nat) : Int := if (v : Int) ∈ l then (r : Int) else NUM g F (j + 1) v
noncomputable def ARS (g : Graph) (F : List Int) (j r : Nat) (l : List Int) (y : Int) (p : Nat) (v : Nat) : Int := if (v : Int) ∈ l.take p then y else ARR g F j r l v
theorem round_prog (g : Graph) (hn : gN g <= 1000) {F : List Int} (hF : FINI g F) {j r : Nat} (hj : j < F.length) (hr : rd F (j : Int) = (r : Int)) (i : Int) :
 Ev (fun k => graph_Components.b.f k i (r : Int) (r : Int) (NEXT (TURN g)) (tb (gN g) (NUM g F (j + 1)))) (NEXT (TURN g), (), tb (gN g) (NUM g F j), ()) := by
 have hrn : r < gN g := by
  obtain ⟨v, e, hv⟩ := hF.mem _ (hr ▸ rd_mem (xs := F) (i := (j : Int)) (by omega) (by omega))
  omega
 have hT := TURN_gN g
 simp (disch := first | omega | (rw [tb_len]; omega)) only [graph_Components.b.f, ↓if_pos, tb_rd hrn]
 refine .dec (fun h0 => ?_) fun h0 => ?_
 . -- it has a number
   have hp := NUM_iff.1 h0
   refine (Ev.ret _).congr fun k => ?_
   congr 3
   refine Prod.ext (tb_congr fun v hv => ?_) rfl
   by_cases e : PAST g F (j + 1) v
   . rw [NUM_pos e, NUM_pos ((PAST_at hj hr v).2 (.inr e))]
   . rw [NUM_neg e, NUM_neg fun h => e (((PAST_at hj hr v).1 h).elim (fun h => PAST_same h hp) id)]
 . have hp : ¬ PAST g F (j + 1) r := fun h => h0 (NUM_iff.2 h)
   simp only [Int.toNat_natCast, tb_set]
   refine W.ev ?_
   -- the search
   have last : ∀ l : List Int, CLU g F j r l -> CSH g F j l l.length ->
    W (fun k => graph_Components.b.c15 k (r : Int) (l.length : Int) (NEXT (TURN g)) (tb (gN g) (ARR g F j r l)) l) (fun z => z = (NEXT (TURN g), (), tb (gN g) (NUM g F j), ())) := by
    intro l hc hs
    have hlen := hc.len
    have hpos : 0 < l.length := List.length_pos_of_mem hc.st
    have hend := hc.end hF hs hj hr hp
    refine .succ ?_
    simp (disch := omega) only [graph_Components.b.c15, ↓cdF]
    refine .bind (min_ev l hpos (by omega)) fun y ⟨hy1, p0, hp0, hy2⟩ => ?_
    have hy : y = (cmp g r : Int) := by
     obtain ⟨w, hw, hwn, _, _⟩ := hc.mem (rd l (p0 : Int)) (rd_mem (by omega) (by omega))
     have hws : Same g w r := (hend w).1 (hw ▸ rd_mem (by omega) (by omega))
     rw [hy2, hw]
     congr 1
     refine (cmp_is hws.symm fun u hu => ?_).symm
     obtain ⟨q, hq, e⟩ := mem_rd ((hend u).2 hu.symm)
     have := hy1 q hq
     omega
    have loop : ∀ (d p : Nat), p + d = l.length -> W (fun k => graph_Components.b.c26 k y (l.length : Int) (p : Int) (NEXT (TURN g)) (tb (gN g) (ARS g F j r l y p)) l) (fun z => z = (NEXT (TURN g), (), tb (gN g) (NUM g F j), ())) := by
     intro d
     induction d with
     | zero =>
       intro p hpd
       refine .succ ?_
       simp (disch := omega) only [graph_Components.b.c26, ↓cdF]
       refine .ret ?_
       refine Prod.ext rfl (Prod.ext rfl (Prod.ext (tb_congr fun v hv => ?_) rfl))
       unfold ARS ARR
       rw [List.take_of_length_le (by omega)]
       by_cases e : (v : Int) ∈ l
       . have hs2 := (hend v).1 e
         rw [if_pos e, NUM_pos ((PAST_at hj hr v).2 (.inl hs2)), hy, cmp_eq hs2]
       . rw [if_neg e, if_neg e]
         have hns : ¬ Same g v r := fun h => e ((hend v).2 h)
         by_cases e2 : PAST g F (j + 1) v
         . rw [NUM_pos e2, NUM_pos ((PAST_at hj hr v).2 (.inr e2))]
         . rw [NUM_neg e2, NUM_neg fun h => e2 (((PAST_at hj hr v).1 h).resolve_left hns)]
     | succ d ih =>
       intro p hpd
       have hpl : p < l.length := by omega
       obtain ⟨w, hw, hwn, _, _⟩ := hc.mem (rd l (p : Int)) (rd_mem (by omega) (by omega))
       refine .succ ?_
       simp (disch := first | omega | (rw [tb_len]; omega)) only [graph_Components.b.c26, ↓cdT, ↓if_pos, hw, Int.toNat_natCast, tb_set, w64_id]
       have e0 : (tb (gN g) fun u => if u = w then y else ARS g F j r l y p u) = tb (gN g) (ARS g F j r l y (p + 1)) := tb_congr fun u hu => by
        unfold ARS
        have hm := take_mem_succ hpl (u : Int)
        rw [hw] at hm
        by_cases e : u = w
        . subst e
          rw [if_pos rfl, if_pos (hm.2 (.inr rfl))]
        . rw [if_neg e]
          have : ((u : Int) ∈ l.take (p + 1)) ↔ (u : Int) ∈ l.take p := ⟨fun h => (hm.1 h).resolve_right (by omega), fun h => hm.2 (.inl h)⟩
          simp only [this]
       rw [e0]
       exact ih (p + 1) (by omega)
    have := loop l.length 0 (by omega)
    have e0 : tb (gN g) (ARS g F j r l y 0) = tb (gN g) (ARR g F j r l) := tb_congr fun u hu => by unfold ARS; simp
    rw [e0] at this
    exact this
   have main : ∀ (d i : Nat), gN g = i + d -> ∀ l : List Int, CLU g F j r l -> CSH g F j l i -> i <= l.length ->
    W (fun k => graph_Components.b.c15 k (r : Int) (i : Int) (NEXT (TURN g)) (tb (gN g) (ARR g F j r l)) l) (fun z => z = (NEXT (TURN g), (), tb (gN g) (NUM g F j), ())) := by
    intro d
    induction d with
    | zero =>
      intro i hi l hc hs hil
      have := hc.len
      obtain rfl : i = l.length := by omega
      exact last l hc hs
    | succ d ih =>
      intro i hi l hc hs hil
      by_cases hend : i = l.length
      . subst hend; exact last l hc hs
      . have hlen := hc.len
        have hil' : i < l.length := by omega
        obtain ⟨v, hv, hvn, _, _⟩ := hc.mem _ (rd_mem (xs := l) (i := (i : Int)) (by omega) (by omega))
        have hvT : v < gN (TURN g) := by omega
        have hsl := succs_len (TURN g) v
        refine .succ ?_
        simp (disch := first | omega | (rw [NEXT_len]; omega)) only [graph_Components.b.c15, ↓cdT, ↓if_pos, hv, NEXT_rd hvT]
        have loop : ∀ (e p : Nat), p + e = (succs (TURN g) v).length -> ∀ l2 : List Int, CLU g F j r l2 -> CSH g F j l2 i -> i < l2.length -> rd l2 (i : Int) = (v : Int) -> (∀ w : Nat, (w : Int) ∈ (succs (TURN g) v).take p -> (w : Int) ∈ l2 \/ PAST g F (j + 1) w) ->
         W (fun k => graph_Components.b.c18 k (r : Int) (i : Int) (succs (TURN g) v) ((succs (TURN g) v).length : Int) (p : Int) (NEXT (TURN g)) (tb (gN g) (ARR g F j r l2)) l2) (fun z => z = (NEXT (TURN g), (), tb (gN g) (NUM g F j), ())) := by
         intro e
         induction e with
         | zero =>
           intro p hp2 l2 hb2 hs2 hi2 hv2 ht
           refine .succ ?_
           simp (disch := omega) only [graph_Components.b.c18, ↓cdF, w64_id]
           refine ih (i + 1) (by omega) l2 hb2 (fun q hq hql v' w' e' ha' => ?_) (by omega)
           by_cases e2 : q = i
           . subst e2
             rw [hv2] at e'
             rw [<- show v = v' by omega] at ha'
             rw [List.take_of_length_le (by omega)] at ht
             exact ht w' (mem_succs.2 ⟨w', rfl, by rw [TURN_adj]; exact ha'⟩)
           . exact hs2 q (by omega) hql v' w' e' ha'
         | succ e ihe =>
           intro p hp2 l2 hb2 hs2 hi2 hv2 ht
           have hpl : p < (succs (TURN g) v).length := by omega
           obtain ⟨w, hw, haw⟩ : ∃ w : Nat, rd (succs (TURN g) v) (p : Int) = (w : Int) /\ adj (TURN g) v w = true := mem_succs.1 (rd_mem (by omega) (by omega))
           rw [TURN_adj] at haw
           have hwn := adj_l haw
           have hlen2 := hb2.len
           have htk : ∀ x, x ∈ (succs (TURN g) v).take (p + 1) ↔ x ∈ (succs (TURN g) v).take p \/ (w : Int) = x := fun x => by rw [take_mem_succ hpl, hw]
           refine .succ ?_
           simp (disch := first | omega | (rw [tb_len]; omega)) only [graph_Components.b.c18, ↓cdT, ↓if_pos, hw, tb_rd hwn, Int.toNat_natCast, tb_set, w64_id]
           have go : ∀ l3 : List Int, CLU g F j r l3 -> CSH g F j l3 i -> i < l3.length -> rd l3 (i : Int) = (v : Int) -> (∀ x, x ∈ l2 -> x ∈ l3) -> ((w : Int) ∈ l3 \/ PAST g F (j + 1) w) -> W (fun k => graph_Components.b.c18 k (r : Int) (i : Int) (succs (TURN g) v) ((succs (TURN g) v).length : Int) ((p : Int) + 1) (NEXT (TURN g)) (tb (gN g) (ARR g F j r l3)) l3) (fun z => z = (NEXT (TURN g), (), tb (gN g) (NUM g F j), ())) := by
            intro l3 h1 h2 h3 h4 h5 h6
            have := ihe (p + 1) (by omega) l3 h1 h2 h3 h4 fun x hx => by
             rcases (htk _).1 hx with hx | hx
             . exact (ht x hx).imp_left (h5 _)
             . rw [<- show w = x by omega]; exact h6
            simpa only [natC] using this
           refine .dec (fun h4 => ?_) fun h4 => ?_
           . have hnl : (w : Int) ∉ l2 := fun h => by
              unfold ARR at h4
              rw [if_pos h] at h4; omega
             have hnp : ¬ PAST g F (j + 1) w := fun h => by
              unfold ARR at h4
              rw [if_neg hnl, NUM_pos h] at h4; omega
             simp (disch := first | omega | (simp only [List.length_cons, List.length_nil]; omega)) only [↓bleT]
             have e0 : (tb (gN g) fun u => if u = w then (r : Int) else ARR g F j r l2 u) = tb (gN g) (ARR g F j r (l2 ++ [(w : Int)])) := tb_congr fun u hu => by
              unfold ARR
              simp only [List.mem_append, List.mem_singleton]
              by_cases e : u = w
              . subst e; simp
              . have : (u : Int) ≠ (w : Int) := by omega
                simp only [if_neg e, this, or_false]
             rw [e0]
             have hvm : (v : Int) ∈ l2 := hv2 ▸ rd_mem (by omega) (by omega)
             refine go _ (hb2.app hvm haw hnp hnl) (fun q hq hql v' w' e' ha' => ?_) (by simp; omega) (by rw [rd_app_l hi2]; exact hv2) (fun x hx => List.mem_append_left _ hx) (.inl (by simp))
             rw [rd_app_l (by omega)] at e'
             exact (hs2 q hq (by omega) v' w' e' ha').imp_left (List.mem_append_left _)
           . refine go l2 hb2 hs2 hi2 hv2 (fun _ h => h) ?_
             by_cases e : (w : Int) ∈ l2
             . exact .inl e
             . unfold ARR at h4
               rw [if_neg e] at h4
               exact .inr (NUM_iff.1 (by omega))
        exact loop (succs (TURN g) v).length 0 (by omega) l hc hs hil' hv fun w hw => by simp at hw
   have := main (gN g) 0 (by omega) [(r : Int)] ⟨by simp, fun x hx => ⟨r, by simpa using hx, hrn, hp, .refl _⟩, by simp⟩ (fun q hq => absurd hq (Nat.not_lt_zero _)) (by simp)
   have e0 : (tb (gN g) fun u => if u = r then (r : Int) else NUM g F (j + 1) u) = tb (gN g) (ARR g F j r [(r : Int)]) := tb_congr fun u hu => by
    unfold ARR
    simp only [List.mem_singleton]
    by_cases e : u = r
    . subst e; simp
    . have : (u : Int) ≠ (r : Int) := by omega
      simp only [if_neg e, if_neg this]
   rw [e0]
   exact this
end Go.Proofs.YtjddmekfeckphaaGreatV
namespace Go.Proofs.YtjddmekfeckphaaGreatV
open Go Go.Vm
theorem rounds_prog (g : Graph) (hn : gN g <= 1000) {F : List Int} (hF : FINI g F) : ∀ m : Nat, m <= F.length ->
 Ev (fun k => Vm.rst (graph_Components.rf k) F m (NEXT (TURN g), (), tb (gN g) (fun _ => (-1 : Int)), ())) (NEXT (TURN g), (), tb (gN g) (NUM g F (F.length - m)), ())
 | 0, _ => by
   refine (Ev.ret _).congr fun k => ?_
   show some _ = some _
   congr 3
   refine Prod.ext (tb_congr fun v hv => ?_) rfl
   exact (NUM_neg (fun ⟨i, b, h1, h2, _⟩ => by omega)).symm
 | m + 1, hm => by
   have ih := rounds_prog g hn hF m (by omega)
   show Ev (fun k => (Vm.rst (graph_Components.rf k) F m (NEXT (TURN g), (), tb (gN g) (fun _ => (-1 : Int)), ())).bind fun d => graph_Components.rf k d ((F.length - 1 - m : Nat) : Int) (F.getD (F.length - 1 - m) 0)) _
   refine Ev.bind ih ?_
   obtain ⟨j, hj⟩ : ∃ j : Nat, F.length - 1 - m = j := ⟨_, rfl⟩
   have hjl : j < F.length := by omega
   obtain ⟨r, hr, hrn⟩ := hF.mem _ (rd_mem (xs := F) (i := (j : Int)) (by omega) (by omega))
   have e1 : F.getD j 0 = (r : Int) := by
    rw [<- hr, rd_eq hjl]
    simp [hjl]
   rw [hj, e1, show F.length - m = j + 1 by omega, show F.length - (m + 1) = j by omega]
   exact round_prog g hn hF hjl hr _
theorem Components_prog (g : Graph) (hn : gN g <= 1000) (hl : g.2.1.length <= 1000000) : Ev (fun k => graph_Components.f k g) (COMPS g) := by
 refine W.ev ?_
 simp only [graph_Components.f]
 refine .bindEv (Next_prog g hl) (.bind (finished_prog g hn) fun F hF => .bindEv (Turn_prog g hn hl) ?_)
 have hT := TURN_gN g
 have hLT : (TURN g).2.1.length <= 1000000 := by
  have := LINKS_len g
  have h2 : gN g * gN g <= 1000 * 1000 := Nat.mul_le_mul hn hn
  show (LINKS g).length <= 1000000
  omega
 refine .bindEv (Next_prog (TURN g) hLT) ?_
 have hFl := hF.len
 simp (disch := omega) only [↓if_pos, List.length_replicate, Int.toNat_natCast]
 have e0 : List.replicate F.length (0 : Int) = tb (gN g) fun v => if v < 0 then (-1 : Int) else 0 := by rw [hFl, tb_rep]; exact tb_congr fun c hc => by simp
 rw [e0]
 have loop : ∀ (d i : Nat), i + d = gN g -> W (fun k => graph_Components.c5 k (F.length : Int) (i : Int) F (NEXT (TURN g)) (tb (gN g) fun v => if v < i then (-1 : Int) else 0)) (fun z => z = COMPS g) := by
  intro d
  induction d with
  | zero =>
    intro i hi
    refine .succ ?_
    simp (disch := omega) only [graph_Components.c5, ↓cdF]
    have e1 : (tb (gN g) fun v => if v < i then (-1 : Int) else 0) = tb (gN g) fun _ => (-1 : Int) := tb_congr fun c hc => by rw [if_pos (by omega)]
    rw [e1]
    simp only [graph_Components.c9]
    have hb : Nat.ble F.length 1073741824 = true := by simp; omega
    rw [hb]
    simp only [cond_true]
    refine .bindEv (rounds_prog g hn hF F.length (Nat.le_refl _)) ?_
    refine .ret ?_
    refine tb_congr fun v hv => ?_
    obtain ⟨i, hi, e⟩ := mem_rd (hF.all v hv)
    exact NUM_pos ⟨i, v, by omega, hi, e, .refl _⟩
  | succ d ih =>
    intro i hi
    refine .succ ?_
    simp (disch := first | omega | (rw [tb_len]; omega)) only [graph_Components.c5, ↓cdT, ↓if_pos, Int.toNat_natCast, tb_set, w64_id]
    have e1 : (tb (gN g) fun d => if d = i then (-1 : Int) else if d < i then (-1 : Int) else 0) = tb (gN g) fun v => if v < i + 1 then (-1 : Int) else 0 := tb_congr fun c hc => by
     by_cases e : c = i
     . subst e; rw [if_pos rfl, if_pos (by omega)]
     . rw [if_neg e]
       by_cases e2 : c < i
       . rw [if_pos e2, if_pos (by omega)]
       . rw [if_neg e2, if_neg (by omega)]
    rw [e1]
    have := ih (i + 1) (by omega)
    simpa only [natC] using this
 exact loop (gN g) 0 (by omega)
end Go.Proofs.YtjddmekfeckphaaGreatV
namespace Go.Proofs.YtjddmekfeckphaaGreatV
open Go Go.Vm
abbrev Flow.N (f : Flow) : Int := Flow.Insts f + Flow.Params f
def VArc (f : Flow) (a : Arc) : Prop := 0 <= Arc.From a /\ Arc.From a <= Flow.N f /\ 0 <= Arc.To a /\ Arc.To a <= Flow.N f + 1 /\ 0 <= Arc.Lat a /\ Arc.Lat a <= 4096 /\ 0 <= Arc.Dist a /\ Arc.Dist a <= 256 /\ (Flow.Loop f = false -> Arc.Dist a = 0)
def VHead (f : Flow) (v : Nat) : Prop := rd (Flow.Arcs f) (v : Int) = (Flow.N f, if (v : Int) = Flow.N f then Flow.N f + 1 else (v : Int), 0, 0, ())
def VRes (r : Resource) : Prop := 1 <= Resource.Kind r /\ Resource.Kind r <= 4 /\ 1 <= Resource.Count r /\ Resource.Count r <= 1024
def VTail (f : Flow) (v : Nat) : Prop := Arc.From (rd (Flow.Arcs f) (Flow.N f + 1 + v)) = v /\ Arc.To (rd (Flow.Arcs f) (Flow.N f + 1 + v)) = Flow.N f + 1 /\ Arc.Dist (rd (Flow.Arcs f) (Flow.N f + 1 + v)) = 0 /\
 ((v : Int) < Flow.Insts f -> 1 <= Arc.Lat (rd (Flow.Arcs f) (Flow.N f + 1 + v)) /\ Need.Busy (rd (Flow.Needs f) (v : Int)) <= Arc.Lat (rd (Flow.Arcs f) (Flow.N f + 1 + v)))
def VNeed (f : Flow) (x : Need) : Prop := (Need.Res x = -1 /\ Need.Busy x = 0) \/ (0 <= Need.Res x /\ Need.Res x < ((Flow.Res f).length : Int) /\ 1 <= Need.Busy x /\ Need.Busy x <= 256)
structure VALID (f : Flow) : Prop where
 i0 : 0 <= Flow.Insts f
 i1 : Flow.Insts f <= 4096
 p0 : 0 <= Flow.Params f
 p1 : Flow.Params f <= 4094
 needs : ((Flow.Needs f).length : Int) = Flow.Insts f
 arcs : ∀ i, i < (Flow.Arcs f).length -> VArc f (rd (Flow.Arcs f) (i : Int))
 len : 2 * Flow.N f + 1 <= ((Flow.Arcs f).length : Int)
 head : ∀ v : Nat, v < (Flow.N f).toNat + 1 -> VHead f v
 res : ∀ i, i < (Flow.Res f).length -> VRes (rd (Flow.Res f) (i : Int))
 tail : ∀ v : Nat, v < (Flow.N f).toNat -> VTail f v
 need : ∀ i, i < (Flow.Needs f).length -> VNeed f (rd (Flow.Needs f) (i : Int))
theorem eqArc {a b : Arc} : eqB Arc.T a b = true ↔ a = b := by
 obtain ⟨a1, a2, a3, a4, _⟩ := a
 obtain ⟨b1, b2, b3, b4, _⟩ := b
 simp [eqB]
structure SIZES (f : Flow) : Prop where
 arcs : (Flow.Arcs f).length <= 1000000000
 res : (Flow.Res f).length <= 1000000000
 needs : (Flow.Needs f).length <= 1000000000
section
variable {f : Flow}
theorem framed14 (S : SIZES f) {Q : Prop} (i0 : 0 <= Flow.Insts f) (i1 : Flow.Insts f <= 4096) (p0 : 0 <= Flow.Params f) (p1 : Flow.Params f <= 4094) (hl : 2 * Flow.N f + 1 <= ((Flow.Arcs f).length : Int)) (hnd : ((Flow.Needs f).length : Int) = Flow.Insts f)
 (hQ : Q ↔ ∀ v : Nat, v < (Flow.N f).toNat -> VTail f v) : EvP (fun k => dataflow_framed.c14 k (Flow.N f) (Flow.N f) 0 f) Q := by
 have hNe : Flow.N f = Flow.Insts f + Flow.Params f := rfl
 have hN : ((Flow.N f).toNat : Int) = Flow.N f := by omega
 have hs := S.arcs
 refine EvP.all' 1 (c := fun k i => dataflow_framed.c14 k (Flow.N f) (Flow.N f) (i : Int) f) (n := (Flow.N f).toNat) (P := VTail f) (fun q => hQ.1 q) (fun i hi k => ?_) (fun h => ?_)
 . have h1 : (i : Int) < Flow.N f := by omega
   simp only [dataflow_framed.c14, dataflow_End.f, Option.bind_some, natC]
   simp (disch := omega) only [w64_id]
   rw [decide_eq_true h1, if_pos (by omega)]
   unfold VTail
   simp only [cond_true, lt_mx]
   clear hQ
   generalize rd (Flow.Arcs f) (Flow.N f + 1 + (i : Int)) = a
   generalize dataflow_framed.c14 k _ _ _ _ = r
   have hb : ((i : Int) < Flow.Insts f) -> (0 <= (i : Int) /\ (i : Int) < ((Flow.Needs f).length : Int)) := fun h => by omega
   generalize rd (Flow.Needs f) (i : Int) = z at *
   obtain ⟨a1, a2, a3, a4, _⟩ := a
   obtain ⟨z1, z2, _⟩ := z
   unfold Flow.N
   generalize ((Flow.Needs f).length : Int) = L at *
   clear h1 hi hs hN hNe hnd hl p1 p0 i1 i0 S
   generalize Flow.Insts f = I at *
   generalize Flow.Params f = p at *
   grind (splits := 40)
 . refine EvP.step (.tt (hQ.2 h)) fun k => ?_
   simp only [dataflow_framed.c14]
   rw [hN]
   simp
theorem framed5 (S : SIZES f) {Q : Prop} (i0 : 0 <= Flow.Insts f) (i1 : Flow.Insts f <= 4096) (p0 : 0 <= Flow.Params f) (p1 : Flow.Params f <= 4094) (hl : 2 * Flow.N f + 1 <= ((Flow.Arcs f).length : Int)) (hnd : ((Flow.Needs f).length : Int) = Flow.Insts f)
 (hQ : Q ↔ (∀ v : Nat, v < (Flow.N f).toNat + 1 -> VHead f v) /\ ∀ v : Nat, v < (Flow.N f).toNat -> VTail f v) : EvP (fun k => dataflow_framed.c5 k (Flow.N f) (Flow.N f + 1) 0 f) Q := by
 have hNe : Flow.N f = Flow.Insts f + Flow.Params f := rfl
 have hN : ((Flow.N f).toNat : Int) = Flow.N f := by omega
 have hs := S.arcs
 refine EvP.all' 2 (c := fun k i => dataflow_framed.c5 k (Flow.N f) (Flow.N f + 1) (i : Int) f) (n := (Flow.N f).toNat + 1) (P := VHead f) (fun q => (hQ.1 q).1) (fun i hi k => ?_) (fun h => ?_)
 . have h1 : (i : Int) < Flow.N f + 1 := by omega
   show _ /\ dataflow_framed.c5 (k + 1 + 1) _ _ _ _ = _ \/ _ /\ dataflow_framed.c5 (k + 1 + 1) _ _ _ _ = _
   simp only [dataflow_framed.c5, dataflow_framed.c10, dataflow_End.f, Option.bind_some, natC]
   simp (disch := omega) only [w64_id]
   have hb : 0 <= (i : Int) /\ (i : Int) < ((Flow.Arcs f).length : Int) := by omega
   rw [decide_eq_true h1]
   simp only [if_pos hb, cond_true]
   unfold VHead
   by_cases he : (i : Int) = Flow.N f
   . rw [decide_eq_true he, if_pos he]
     simp only [cond_true]
     by_cases hq : rd (Flow.Arcs f) (i : Int) = (Flow.N f, Flow.N f + 1, 0, 0, ())
     . exact .inl ⟨hq, by rw [eqArc.2 hq]; rfl⟩
     . exact .inr ⟨hq, by rw [Bool.eq_false_iff.2 (fun e => hq (eqArc.1 e))]; rfl⟩
   . rw [decide_eq_false he, if_neg he]
     simp only [cond_false]
     by_cases hq : rd (Flow.Arcs f) (i : Int) = (Flow.N f, (i : Int), 0, 0, ())
     . exact .inl ⟨hq, by rw [eqArc.2 hq]; rfl⟩
     . exact .inr ⟨hq, by rw [Bool.eq_false_iff.2 (fun e => hq (eqArc.1 e))]; rfl⟩
 . refine EvP.step (framed14 S i0 i1 p0 p1 hl hnd (Q := Q) (hQ.trans ⟨fun q => q.2, fun q => ⟨h, q⟩⟩)) fun k => ?_
   simp only [dataflow_framed.c5]
   rw [decide_eq_false (by omega)]
   rfl
theorem framed_ev (S : SIZES f) (i0 : 0 <= Flow.Insts f) (i1 : Flow.Insts f <= 4096) (p0 : 0 <= Flow.Params f) (p1 : Flow.Params f <= 4094) (hnd : ((Flow.Needs f).length : Int) = Flow.Insts f) :
 EvP (fun k => dataflow_framed.f k f) (2 * Flow.N f + 1 <= ((Flow.Arcs f).length : Int) /\ (∀ v : Nat, v < (Flow.N f).toNat + 1 -> VHead f v) /\ ∀ v : Nat, v < (Flow.N f).toNat -> VTail f v) := by
 have hNe : Flow.N f = Flow.Insts f + Flow.Params f := rfl
 have hs := S.arcs
 simp only [dataflow_framed.f, dataflow_Source.f, Option.bind_some]
 simp (disch := omega) only [w64_id]
 refine .cond (fun h => .ff fun q => ?_) (fun h => ?_)
 . have := of_decide_eq_true h
   omega
 . have h := of_decide_eq_false h
   exact framed5 S i0 i1 p0 p1 (by omega) hnd ⟨fun q => q.2, fun q => ⟨by omega, q⟩⟩
theorem valid19 (S : SIZES f) {Q : Prop} (i0 : 0 <= Flow.Insts f) (i1 : Flow.Insts f <= 4096) (p0 : 0 <= Flow.Params f) (p1 : Flow.Params f <= 4094) (hnd : ((Flow.Needs f).length : Int) = Flow.Insts f)
 (hQ : Q ↔ (∀ i, i < (Flow.Needs f).length -> VNeed f (rd (Flow.Needs f) (i : Int))) /\ 2 * Flow.N f + 1 <= ((Flow.Arcs f).length : Int) /\ (∀ v : Nat, v < (Flow.N f).toNat + 1 -> VHead f v) /\ ∀ v : Nat, v < (Flow.N f).toNat -> VTail f v) :
 EvP (fun k => dataflow_Valid.c19 k (Flow.Needs f) ((Flow.Needs f).length : Int) 0 f) Q := by
 have hs := S.needs
 have hs2 := S.res
 refine EvP.all' 1 (c := fun k i => dataflow_Valid.c19 k (Flow.Needs f) ((Flow.Needs f).length : Int) (i : Int) f) (n := (Flow.Needs f).length) (P := fun i => VNeed f (rd (Flow.Needs f) (i : Int))) (fun q => (hQ.1 q).1) (fun i hi k => ?_) (fun h => ?_)
 . have h1 : (i : Int) < ((Flow.Needs f).length : Int) := by omega
   simp only [dataflow_Valid.c19, dataflow_between.f, natC]
   simp (disch := omega) only [w64_id]
   rw [decide_eq_true h1, if_pos (by omega)]
   unfold VNeed
   generalize rd (Flow.Needs f) (i : Int) = a
   simp only [cond_true]
   grind
 . refine EvP.step (g := fun k => (dataflow_framed.f k f).bind fun y => some y) (.iff (.test (framed_ev S i0 i1 p0 p1 hnd) (fun h2 => .tt h2) (fun h2 => .ff h2)) ?_) fun k => ?_
   . rw [hQ]; exact ⟨fun q => ⟨h, q⟩, fun q => q.2⟩
   . simp only [dataflow_Valid.c19]
     rw [decide_eq_false (by omega)]
     rfl
theorem valid13 (S : SIZES f) {Q : Prop} (i0 : 0 <= Flow.Insts f) (i1 : Flow.Insts f <= 4096) (p0 : 0 <= Flow.Params f) (p1 : Flow.Params f <= 4094) (hnd : ((Flow.Needs f).length : Int) = Flow.Insts f)
 (hQ : Q ↔ (∀ i, i < (Flow.Res f).length -> VRes (rd (Flow.Res f) (i : Int))) /\ (∀ i, i < (Flow.Needs f).length -> VNeed f (rd (Flow.Needs f) (i : Int))) /\ 2 * Flow.N f + 1 <= ((Flow.Arcs f).length : Int) /\ (∀ v : Nat, v < (Flow.N f).toNat + 1 -> VHead f v) /\ ∀ v : Nat, v < (Flow.N f).toNat -> VTail f v) :
 EvP (fun k => dataflow_Valid.c13 k (Flow.Res f) ((Flow.Res f).length : Int) 0 f) Q := by
 have hs := S.res
 refine EvP.all' 1 (c := fun k i => dataflow_Valid.c13 k (Flow.Res f) ((Flow.Res f).length : Int) (i : Int) f) (n := (Flow.Res f).length) (P := fun i => VRes (rd (Flow.Res f) (i : Int))) (fun q => (hQ.1 q).1) (fun i hi k => ?_) (fun h => ?_)
 . have h1 : (i : Int) < ((Flow.Res f).length : Int) := by omega
   simp only [dataflow_Valid.c13, dataflow_between.f, natC]
   simp (disch := omega) only [w64_id]
   rw [decide_eq_true h1, if_pos (by omega)]
   unfold VRes
   generalize rd (Flow.Res f) (i : Int) = a
   simp only [cond_true]
   generalize dataflow_Valid.c13 k _ _ _ _ = r
   obtain ⟨a1, a2, a3, a4, _⟩ := a
   clear hQ h1 hi hs hnd p1 p0 i1 i0 S
   grind (splits := 40)
 . refine EvP.step (valid19 S i0 i1 p0 p1 hnd (Q := Q) (hQ.trans ⟨fun q => q.2, fun q => ⟨h, q⟩⟩)) fun k => ?_
   simp only [dataflow_Valid.c13]
   rw [decide_eq_false (by omega)]
   rfl
theorem valid7 (S : SIZES f) {Q : Prop} (i0 : 0 <= Flow.Insts f) (i1 : Flow.Insts f <= 4096) (p0 : 0 <= Flow.Params f) (p1 : Flow.Params f <= 4094) (hnd : ((Flow.Needs f).length : Int) = Flow.Insts f) {x : Int} (hx : x = bif Flow.Loop f then 256 else 0)
 (hQ : Q ↔ (∀ i, i < (Flow.Arcs f).length -> VArc f (rd (Flow.Arcs f) (i : Int))) /\ (∀ i, i < (Flow.Res f).length -> VRes (rd (Flow.Res f) (i : Int))) /\ (∀ i, i < (Flow.Needs f).length -> VNeed f (rd (Flow.Needs f) (i : Int))) /\ 2 * Flow.N f + 1 <= ((Flow.Arcs f).length : Int) /\ (∀ v : Nat, v < (Flow.N f).toNat + 1 -> VHead f v) /\ ∀ v : Nat, v < (Flow.N f).toNat -> VTail f v) :
 EvP (fun k => dataflow_Valid.c7 k x (Flow.Arcs f) ((Flow.Arcs f).length : Int) 0 f) Q := by
 have hs := S.arcs
 refine EvP.all' 1 (c := fun k i => dataflow_Valid.c7 k x (Flow.Arcs f) ((Flow.Arcs f).length : Int) (i : Int) f) (n := (Flow.Arcs f).length) (P := fun i => VArc f (rd (Flow.Arcs f) (i : Int))) (fun q => (hQ.1 q).1) (fun i hi k => ?_) (fun h => ?_)
 . have h1 : (i : Int) < ((Flow.Arcs f).length : Int) := by omega
   simp only [dataflow_Valid.c7, dataflow_between.f, dataflow_Source.f, dataflow_End.f, Option.bind_some, natC]
   simp (disch := omega) only [w64_id]
   rw [decide_eq_true h1, if_pos (by omega)]
   unfold VArc Flow.N
   generalize rd (Flow.Arcs f) (i : Int) = a
   generalize Flow.Loop f = lo at hx ⊢
   simp only [cond_true]
   generalize dataflow_Valid.c7 k _ _ _ _ _ = r
   obtain ⟨a1, a2, a3, a4, _⟩ := a
   generalize Flow.Insts f + Flow.Params f = N at *
   clear hQ h1 hi hs hnd p1 p0 i1 i0 S
   cases lo <;> simp only [cond_true, cond_false] at hx <;> subst hx <;> grind (splits := 40)
 . refine EvP.step (valid13 S i0 i1 p0 p1 hnd (Q := Q) (hQ.trans ⟨fun q => q.2, fun q => ⟨h, q⟩⟩)) fun k => ?_
   simp only [dataflow_Valid.c7]
   rw [decide_eq_false (by omega)]
   rfl
theorem valid_prog (S : SIZES f) : EvP (fun k => dataflow_Valid.f k f) (VALID f) := by
 simp only [dataflow_Valid.f, dataflow_between.f]
 by_cases h1 : 0 <= Flow.Insts f /\ Flow.Insts f <= 4096
 . by_cases h2 : 0 <= Flow.Params f /\ Flow.Params f <= 4094
   . by_cases h3 : ((Flow.Needs f).length : Int) = Flow.Insts f
     . have go : ∀ x, x = (bif Flow.Loop f then 256 else 0) -> EvP (fun k => dataflow_Valid.c6 k x f) (VALID f) := fun x hx => by
        refine EvP.step (valid7 S h1.1 h1.2 h2.1 h2.2 h3 hx (Q := VALID f) ⟨fun v => ⟨v.arcs, v.res, v.need, v.len, v.head, v.tail⟩, fun ⟨a1, a2, a3, a4, a5, a6⟩ => ⟨h1.1, h1.2, h2.1, h2.2, h3, a1, a4, a5, a2, a6, a3⟩⟩) fun k => ?_
        simp only [dataflow_Valid.c6]
       simp only [decide_eq_true h1.1, decide_eq_true h1.2, decide_eq_true h2.1, decide_eq_true h2.2, decide_eq_true h3, cond_true, cond_false, Option.bind_some, Bool.not_true]
       cases hl : Flow.Loop f
       . exact go 0 (by rw [hl]; rfl)
       . exact go 256 (by rw [hl]; rfl)
     . refine EvP.congr (.ff (fun v => h3 v.needs)) fun k => ?_
       simp [h1, h2, h3]
   . refine EvP.congr (.ff (fun v => h2 ⟨v.p0, v.p1⟩)) fun k => ?_
     grind
 . refine EvP.congr (.ff (fun v => h1 ⟨v.i0, v.i1⟩)) fun k => ?_
   grind
end
end Go.Proofs.YtjddmekfeckphaaGreatV
namespace Go.Proofs.YtjddmekfeckphaaGreatV
open Go Go.Vm
section
variable {f : Flow}
theorem rvalid36 (S : SIZES f) {Q : Prop} (hQ : Q ↔ (∀ i, i < (Flow.Needs f).length -> VNeed f (rd (Flow.Needs f) (i : Int)))) : EvP (fun k => jacquardref28_Valid.c36 k ((Flow.Needs f).length : Int) 0 f) Q := by
 have hs := S.needs
 have hs2 := S.res
 refine EvP.all' 1 (c := fun k i => jacquardref28_Valid.c36 k ((Flow.Needs f).length : Int) (i : Int) f) (n := (Flow.Needs f).length) (P := fun i => VNeed f (rd (Flow.Needs f) (i : Int))) (fun q => hQ.1 q) (fun i hi k => ?_) (fun h => ?_)
 . have h1 : (i : Int) < ((Flow.Needs f).length : Int) := by omega
   simp only [jacquardref28_Valid.c36, natC]
   simp (disch := omega) only [w64_id]
   rw [decide_eq_true h1, if_pos (by omega)]
   unfold VNeed
   generalize rd (Flow.Needs f) (i : Int) = a
   simp only [cond_true]
   generalize jacquardref28_Valid.c36 k _ _ _ = r
   obtain ⟨a1, a2, _⟩ := a
   have hL : 0 <= ((Flow.Res f).length : Int) := by omega
   clear hs2
   generalize ((Flow.Res f).length : Int) = L at *
   clear hQ h1 hi hs S
   grind (splits := 40)
 . refine EvP.step (.tt (hQ.2 h)) fun k => ?_
   simp only [jacquardref28_Valid.c36]
   rw [decide_eq_false (by omega)]
   rfl
theorem rvalid29 (S : SIZES f) {Q : Prop} (i0 : 0 <= Flow.Insts f) (i1 : Flow.Insts f <= 4096) (p0 : 0 <= Flow.Params f) (p1 : Flow.Params f <= 4094) (hl : 2 * Flow.N f + 1 <= ((Flow.Arcs f).length : Int)) (hnd : ((Flow.Needs f).length : Int) = Flow.Insts f)
 (hQ : Q ↔ (∀ v : Nat, v < (Flow.N f).toNat -> VTail f v) /\ ∀ i, i < (Flow.Needs f).length -> VNeed f (rd (Flow.Needs f) (i : Int))) : EvP (fun k => jacquardref28_Valid.c29 k (Flow.N f + 2) (Flow.N f) 0 f) Q := by
 have hNe : Flow.N f = Flow.Insts f + Flow.Params f := rfl
 have hN : ((Flow.N f).toNat : Int) = Flow.N f := by omega
 have hs := S.arcs
 refine EvP.all' 1 (c := fun k i => jacquardref28_Valid.c29 k (Flow.N f + 2) (Flow.N f) (i : Int) f) (n := (Flow.N f).toNat) (P := VTail f) (fun q => (hQ.1 q).1) (fun i hi k => ?_) (fun h => ?_)
 . have h1 : (i : Int) < Flow.N f := by omega
   have e1 : Flow.N f + 2 - 1 = Flow.N f + 1 := by omega
   simp only [jacquardref28_Valid.c29, jacquardref28_End.f, Option.bind_some, natC]
   simp (disch := omega) only [w64_id]
   rw [decide_eq_true h1, e1, if_pos (by omega)]
   unfold VTail
   simp only [cond_true, lt_mx]
   clear hQ
   generalize rd (Flow.Arcs f) (Flow.N f + 1 + (i : Int)) = a
   generalize jacquardref28_Valid.c29 k _ _ _ _ = r
   have hb : ((i : Int) < Flow.Insts f) -> (0 <= (i : Int) /\ (i : Int) < ((Flow.Needs f).length : Int)) := fun h => by omega
   generalize rd (Flow.Needs f) (i : Int) = z at *
   obtain ⟨a1, a2, a3, a4, _⟩ := a
   obtain ⟨z1, z2, _⟩ := z
   unfold Flow.N
   generalize ((Flow.Needs f).length : Int) = L at *
   clear h1 hi hs hN hNe hnd hl p1 p0 i1 i0 S e1
   generalize Flow.Insts f = I at *
   generalize Flow.Params f = p at *
   grind (splits := 40)
 . refine EvP.step (rvalid36 S (Q := Q) (hQ.trans ⟨fun q => q.2, fun q => ⟨h, q⟩⟩)) fun k => ?_
   simp only [jacquardref28_Valid.c29]
   rw [hN, decide_eq_false (by omega)]
   rfl
theorem rvalid23 (S : SIZES f) {Q : Prop} (i0 : 0 <= Flow.Insts f) (i1 : Flow.Insts f <= 4096) (p0 : 0 <= Flow.Params f) (p1 : Flow.Params f <= 4094) (hl : 2 * Flow.N f + 1 <= ((Flow.Arcs f).length : Int)) (hnd : ((Flow.Needs f).length : Int) = Flow.Insts f)
 (hQ : Q ↔ (∀ i, i < (Flow.Res f).length -> VRes (rd (Flow.Res f) (i : Int))) /\ (∀ v : Nat, v < (Flow.N f).toNat -> VTail f v) /\ ∀ i, i < (Flow.Needs f).length -> VNeed f (rd (Flow.Needs f) (i : Int))) :
 EvP (fun k => jacquardref28_Valid.c23 k (Flow.N f + 2) ((Flow.Res f).length : Int) 0 f) Q := by
 have hs := S.res
 have hNe : Flow.N f = Flow.Insts f + Flow.Params f := rfl
 refine EvP.all' 1 (c := fun k i => jacquardref28_Valid.c23 k (Flow.N f + 2) ((Flow.Res f).length : Int) (i : Int) f) (n := (Flow.Res f).length) (P := fun i => VRes (rd (Flow.Res f) (i : Int))) (fun q => (hQ.1 q).1) (fun i hi k => ?_) (fun h => ?_)
 . have h1 : (i : Int) < ((Flow.Res f).length : Int) := by omega
   have h2 : 0 <= (i : Int) /\ (i : Int) < ((Flow.Res f).length : Int) := by omega
   simp only [jacquardref28_Valid.c23, natC]
   simp (disch := omega) only [w64_id]
   rw [decide_eq_true h1]
   simp only [if_pos h2]
   unfold VRes
   generalize rd (Flow.Res f) (i : Int) = a
   simp only [cond_true]
   generalize jacquardref28_Valid.c23 k _ _ _ _ = r
   obtain ⟨a1, a2, a3, a4, _⟩ := a
   clear hQ h1 h2 hi hs hnd p1 p0 i1 i0 S
   grind (splits := 40)
 . refine EvP.step (rvalid29 S i0 i1 p0 p1 hl hnd (Q := Q) (hQ.trans ⟨fun q => q.2, fun q => ⟨h, q⟩⟩)) fun k => ?_
   simp only [jacquardref28_Valid.c23]
   simp (disch := omega) only [w64_id]
   rw [decide_eq_false (show ¬ ((Flow.Res f).length : Int) < ((Flow.Res f).length : Int) by omega), show Flow.N f + 2 - 2 = Flow.N f by omega]
   rfl
theorem rvalid14 (S : SIZES f) {Q : Prop} (i0 : 0 <= Flow.Insts f) (i1 : Flow.Insts f <= 4096) (p0 : 0 <= Flow.Params f) (p1 : Flow.Params f <= 4094) (hl : 2 * Flow.N f + 1 <= ((Flow.Arcs f).length : Int)) (hnd : ((Flow.Needs f).length : Int) = Flow.Insts f)
 (hQ : Q ↔ (∀ v : Nat, v < (Flow.N f).toNat + 1 -> VHead f v) /\ (∀ i, i < (Flow.Res f).length -> VRes (rd (Flow.Res f) (i : Int))) /\ (∀ v : Nat, v < (Flow.N f).toNat -> VTail f v) /\ ∀ i, i < (Flow.Needs f).length -> VNeed f (rd (Flow.Needs f) (i : Int))) :
 EvP (fun k => jacquardref28_Valid.c14 k (Flow.N f + 2) (Flow.N f + 1) 0 f) Q := by
 have hNe : Flow.N f = Flow.Insts f + Flow.Params f := rfl
 have hN : ((Flow.N f).toNat : Int) = Flow.N f := by omega
 have hs := S.arcs
 refine EvP.all' 2 (c := fun k i => jacquardref28_Valid.c14 k (Flow.N f + 2) (Flow.N f + 1) (i : Int) f) (n := (Flow.N f).toNat + 1) (P := VHead f) (fun q => (hQ.1 q).1) (fun i hi k => ?_) (fun h => ?_)
 . have h1 : (i : Int) < Flow.N f + 1 := by omega
   show _ /\ jacquardref28_Valid.c14 (k + 1 + 1) _ _ _ _ = _ \/ _ /\ jacquardref28_Valid.c14 (k + 1 + 1) _ _ _ _ = _
   simp only [jacquardref28_Valid.c14, jacquardref28_Valid.c19, jacquardref28_Source.f, Option.bind_some, natC]
   simp (disch := omega) only [w64_id]
   have hb : 0 <= (i : Int) /\ (i : Int) < ((Flow.Arcs f).length : Int) := by omega
   rw [decide_eq_true h1]
   simp only [if_pos hb, cond_true]
   unfold VHead
   by_cases he : (i : Int) = Flow.N f
   . rw [decide_eq_true (show Flow.Insts f + Flow.Params f <= (i : Int) by omega), if_pos he]
     simp only [cond_true]
     by_cases hq : rd (Flow.Arcs f) (i : Int) = (Flow.N f, Flow.N f + 1, 0, 0, ())
     . exact .inl ⟨hq, by rw [eqArc.2 (by rw [hq, he])]; rfl⟩
     . exact .inr ⟨hq, by rw [Bool.eq_false_iff.2 (fun e => hq ((eqArc.1 e).trans (by rw [<- hNe, he])))]; rfl⟩
   . rw [decide_eq_false (show ¬ Flow.Insts f + Flow.Params f <= (i : Int) by omega), if_neg he]
     simp only [cond_false]
     by_cases hq : rd (Flow.Arcs f) (i : Int) = (Flow.N f, (i : Int), 0, 0, ())
     . exact .inl ⟨hq, by rw [eqArc.2 hq]; rfl⟩
     . exact .inr ⟨hq, by rw [Bool.eq_false_iff.2 (fun e => hq (eqArc.1 e))]; rfl⟩
 . refine EvP.step (rvalid23 S i0 i1 p0 p1 hl hnd (Q := Q) (hQ.trans ⟨fun q => q.2, fun q => ⟨h, q⟩⟩)) fun k => ?_
   simp only [jacquardref28_Valid.c14]
   rw [decide_eq_false (by omega)]
   rfl
theorem rvalid5 (S : SIZES f) {Q : Prop} (i0 : 0 <= Flow.Insts f) (i1 : Flow.Insts f <= 4096) (p0 : 0 <= Flow.Params f) (p1 : Flow.Params f <= 4094) (hnd : ((Flow.Needs f).length : Int) = Flow.Insts f)
 (hQ : Q ↔ (∀ i, i < (Flow.Arcs f).length -> VArc f (rd (Flow.Arcs f) (i : Int))) /\ 2 * Flow.N f + 1 <= ((Flow.Arcs f).length : Int) /\ (∀ v : Nat, v < (Flow.N f).toNat + 1 -> VHead f v) /\ (∀ i, i < (Flow.Res f).length -> VRes (rd (Flow.Res f) (i : Int))) /\ (∀ v : Nat, v < (Flow.N f).toNat -> VTail f v) /\ ∀ i, i < (Flow.Needs f).length -> VNeed f (rd (Flow.Needs f) (i : Int))) :
 EvP (fun k => jacquardref28_Valid.c5 k (Flow.N f + 2) ((Flow.Arcs f).length : Int) 0 f) Q := by
 have hs := S.arcs
 have hNe : Flow.N f = Flow.Insts f + Flow.Params f := rfl
 refine EvP.all' 1 (c := fun k i => jacquardref28_Valid.c5 k (Flow.N f + 2) ((Flow.Arcs f).length : Int) (i : Int) f) (n := (Flow.Arcs f).length) (P := fun i => VArc f (rd (Flow.Arcs f) (i : Int))) (fun q => (hQ.1 q).1) (fun i hi k => ?_) (fun h => ?_)
 . have h1 : (i : Int) < ((Flow.Arcs f).length : Int) := by omega
   simp only [jacquardref28_Valid.c5, natC]
   simp (disch := omega) only [w64_id]
   rw [decide_eq_true h1, if_pos (by omega)]
   unfold VArc Flow.N
   generalize rd (Flow.Arcs f) (i : Int) = a
   generalize Flow.Loop f = lo
   simp only [cond_true]
   generalize jacquardref28_Valid.c5 k _ _ _ _ = r
   obtain ⟨a1, a2, a3, a4, _⟩ := a
   generalize Flow.Insts f + Flow.Params f = N at *
   clear hQ h1 hi hs hnd p1 p0 i1 i0 S hNe
   cases lo <;> grind (splits := 40)
 . have hcond : ∀ k, jacquardref28_Valid.c5 (k + 1) (Flow.N f + 2) ((Flow.Arcs f).length : Int) ((Flow.Arcs f).length : Int) f = bif decide (((Flow.Arcs f).length : Int) < 2 * Flow.N f + 1) then some false else jacquardref28_Valid.c14 k (Flow.N f + 2) (Flow.N f + 1) 0 f := fun k => by
    simp only [jacquardref28_Valid.c5]
    simp (disch := omega) only [w64_id]
    rw [decide_eq_false (show ¬ ((Flow.Arcs f).length : Int) < ((Flow.Arcs f).length : Int) by omega), show 2 * (Flow.N f + 2) - 3 = 2 * Flow.N f + 1 by omega, show Flow.N f + 2 - 1 = Flow.N f + 1 by omega]
    rfl
   refine EvP.step (.cond (fun hlt => .ff fun q => ?_) (fun hlt => ?_)) hcond
   . have := of_decide_eq_true hlt
     have := (hQ.1 q).2.1
     omega
   . have hlt := of_decide_eq_false hlt
     exact rvalid14 S i0 i1 p0 p1 (by omega) hnd (hQ.trans ⟨fun q => q.2.2, fun q => ⟨h, by omega, q⟩⟩)
theorem valid_ref (S : SIZES f) : EvP (fun k => jacquardref28_Valid.f k f) (VALID f) := by
 simp only [jacquardref28_Valid.f]
 refine .cond (fun h => .ff fun v => ?_) fun h1 => .cond (fun h => .ff fun v => ?_) fun h2 => .cond (fun h => .ff fun v => ?_) fun h3 => .cond (fun h => .ff fun v => ?_) fun h4 => .cond (fun h => .ff fun v => ?_) fun h5 => ?_
 . have := of_decide_eq_true h; have := v.i0; omega
 . have := of_decide_eq_true h; have := v.i1; omega
 . have := of_decide_eq_true h; have := v.p0; omega
 . have := of_decide_eq_true h; have := v.p1; omega
 . have := v.needs; simp [this] at h
 . have h1 := of_decide_eq_false h1
   have h2 := of_decide_eq_false h2
   have h3 := of_decide_eq_false h3
   have h4 := of_decide_eq_false h4
   have h5 : ((Flow.Needs f).length : Int) = Flow.Insts f := by simpa using h5
   simp (disch := omega) only [w64_id]
   exact rvalid5 S (by omega) (by omega) (by omega) (by omega) h5 (Q := VALID f) ⟨fun v => ⟨v.arcs, v.len, v.head, v.res, v.tail, v.need⟩, fun ⟨a1, a2, a3, a4, a5, a6⟩ => ⟨by omega, by omega, by omega, by omega, h5, a1, a2, a3, a4, a5, a6⟩⟩
structure FITS (f : Flow) (s : Sched) : Prop where
 start : ((Sched.Start s).length : Int) = Flow.Insts f
 unit : ((Sched.Unit s).length : Int) = Flow.Insts f
 params : ((Sched.Params s).length : Int) = Flow.Params f
 ii : 0 <= Sched.II s /\ Sched.II s <= 256
 loop : 0 < Sched.II s ↔ Flow.Loop f = true
 depth : 1 <= Sched.Depth s /\ Sched.Depth s <= 4096
 starts : ∀ i, i < (Sched.Start s).length -> 0 <= rd (Sched.Start s) (i : Int) /\ rd (Sched.Start s) (i : Int) <= 4096
 parms : ∀ i, i < (Sched.Params s).length -> 0 <= rd (Sched.Params s) (i : Int) /\ rd (Sched.Params s) (i : Int) <= 4096
 units : ∀ i, i < (Sched.Unit s).length -> (Need.Res (rd (Flow.Needs f) (i : Int)) < 0 -> rd (Sched.Unit s) (i : Int) = -1) /\
  (0 <= Need.Res (rd (Flow.Needs f) (i : Int)) -> 0 <= rd (Sched.Unit s) (i : Int) /\ rd (Sched.Unit s) (i : Int) < Resource.Count (rd (Flow.Res f) (Need.Res (rd (Flow.Needs f) (i : Int)))))
variable {s : Sched}
end
end Go.Proofs.YtjddmekfeckphaaGreatV
namespace Go.Proofs.YtjddmekfeckphaaGreatV
open Go Go.Vm
structure SMALL (f : Flow) (n m : Int) : Prop where
 insts : Flow.Insts f <= n
 params : Flow.Params f <= m
 arcs : (Flow.Arcs f).length <= 90
 res : (Flow.Res f).length <= 6
 arc : ∀ i, i < (Flow.Arcs f).length -> Arc.Lat (rd (Flow.Arcs f) (i : Int)) <= 60 /\ Arc.Dist (rd (Flow.Arcs f) (i : Int)) <= 20
 busy : ∀ i, i < (Flow.Needs f).length -> Need.Busy (rd (Flow.Needs f) (i : Int)) <= 20
section
variable {f : Flow}
theorem small_ref (n m : Int) (ha : (Flow.Arcs f).length <= 140737488351232) (hn : (Flow.Needs f).length <= 140737488351232) : EvP (fun k => jacquardref28_Small.f k f n m) (SMALL f n m) := by
 simp only [jacquardref28_Small.f]
 refine EvP.all' 1 (c := fun k i => jacquardref28_Small.c2 k n m ((Flow.Arcs f).length : Int) (i : Int) f) (n := (Flow.Arcs f).length) (P := fun i => Arc.Lat (rd (Flow.Arcs f) (i : Int)) <= 60 /\ Arc.Dist (rd (Flow.Arcs f) (i : Int)) <= 20) (fun q => q.arc) (fun i hi k => ?_) (fun h1 => ?_)
 . have b1 : 0 <= (i : Int) /\ (i : Int) < ((Flow.Arcs f).length : Int) := by omega
   simp only [jacquardref28_Small.c2, natC]
   rw [decide_eq_true b1.2, w64_id (by omega) (by omega)]
   simp only [if_pos b1, cond_true]
   generalize jacquardref28_Small.c2 k _ _ _ _ _ = r
   generalize rd (Flow.Arcs f) (i : Int) = a
   obtain ⟨a1, a2, a3, a4, _⟩ := a
   clear b1 hi ha hn
   grind
 . refine EvP.step (g := fun k => jacquardref28_Small.c8 k n m ((Flow.Needs f).length : Int) 0 f) ?_ fun k => ?_
   . refine EvP.all' 1 (c := fun k i => jacquardref28_Small.c8 k n m ((Flow.Needs f).length : Int) (i : Int) f) (n := (Flow.Needs f).length) (P := fun i => Need.Busy (rd (Flow.Needs f) (i : Int)) <= 20) (fun q => q.busy) (fun i hi k => ?_) (fun h2 => ?_)
     . have b1 : 0 <= (i : Int) /\ (i : Int) < ((Flow.Needs f).length : Int) := by omega
       simp only [jacquardref28_Small.c8, natC]
       rw [decide_eq_true b1.2, w64_id (by omega) (by omega)]
       simp only [if_pos b1, cond_true]
       generalize jacquardref28_Small.c8 k _ _ _ _ _ = r
       generalize rd (Flow.Needs f) (i : Int) = a
       obtain ⟨a1, a2, _⟩ := a
       clear b1 hi ha hn h1
       grind
     . refine EvP.step (g := fun _ => bif decide (Flow.Insts f <= n) then bif decide (Flow.Params f <= m) then bif decide (((Flow.Arcs f).length : Int) <= 90) then some (decide (((Flow.Res f).length : Int) <= 6)) else some false else some false else some false) ?_ fun k => ?_
       . refine .cond (fun q1 => .cond (fun q2 => .cond (fun q3 => .dec ?_) fun q3 => .ff fun v => ?_) fun q2 => .ff fun v => ?_) fun q1 => .ff fun v => ?_
         . have q1 := of_decide_eq_true q1
           have q2 := of_decide_eq_true q2
           have q3 := of_decide_eq_true q3
           exact ⟨fun q => ⟨q1, q2, by omega, by omega, h1, h2⟩, fun q => by have := q.res; omega⟩
         . have := v.arcs; have := of_decide_eq_false q3; omega
         . have := v.params; have := of_decide_eq_false q2; omega
         . have := v.insts; have := of_decide_eq_false q1; omega
       . simp only [jacquardref28_Small.c8]
         rw [decide_eq_false (by omega)]
         rfl
   . simp only [jacquardref28_Small.c2]
     rw [decide_eq_false (by omega)]
     rfl
end
end Go.Proofs.YtjddmekfeckphaaGreatV
namespace Go.Proofs.YtjddmekfeckphaaGreatV.Diff
open Go Go.Vm
theorem wrap_id {n : Int} (h0 : -9223372036854775808 <= n) (h1 : n <= 9223372036854775807) : w64 n = n := w64_id h0 (by omega)
theorem rd_eq {α : Type} [Inhabited α] {xs : List α} {i : Int} {j : Nat} (h : i = j) (hl : j < xs.length) : rd xs i = xs[j] := by
 subst h; exact Go.Vm.rd_eq hl
theorem rd_set {α : Type} [Inhabited α] {xs : List α} {i j : Int} {v : α} (hi : 0 <= i) (hil : i < xs.length) (hj : 0 <= j) : rd (xs.set i.toNat v) j = if j = i then v else rd xs j := by
 obtain ⟨a, rfl⟩ : ∃ a : Nat, i = (a : Int) := ⟨i.toNat, by omega⟩
 obtain ⟨b, rfl⟩ : ∃ b : Nat, j = (b : Int) := ⟨j.toNat, by omega⟩
 rw [Int.toNat_natCast, Go.Vm.rd_set (by omega)]
 by_cases h : a = b
 . subst h; rw [if_pos rfl, if_pos rfl]
 . rw [if_neg h, if_neg (by omega)]
theorem rd_replicate {α : Type} [Inhabited α] {n : Nat} {v : α} {i : Int} (h0 : 0 <= i) (h1 : i < n) : rd (List.replicate n v) i = v := by
 obtain ⟨a, rfl⟩ : ∃ a : Nat, i = (a : Int) := ⟨i.toNat, by omega⟩
 exact Go.Vm.rd_replicate (by omega)
theorem rd_append_left {α : Type} [Inhabited α] {xs ys : List α} {i : Int} (h1 : i.toNat < xs.length) : rd (xs ++ ys) i = rd xs i := by
 unfold rd; simp only [List.getD, List.getElem?_append_left h1]
theorem rd_append_right {α : Type} [Inhabited α] {xs : List α} {v : α} {i : Int} (h : i = xs.length) : rd (xs ++ [v]) i = v := by
 subst h; exact rd_app_at
theorem rd_ext {α : Type} [Inhabited α] {xs ys : List α} (hl : xs.length = ys.length) (h : ∀ i : Int, 0 <= i -> i < xs.length -> rd xs i = rd ys i) : xs = ys :=
 list_ext_rd hl fun i hi => h i (by omega) (by omega)
theorem W.step {α : Type} {g f : Nat -> Option α} {Q : α -> Prop} (h : ∀ k, g (k + 1) = f k) (e : W f Q) : W g Q := by
 obtain ⟨r, he, hq⟩ := e
 exact ⟨r, he.step h, hq⟩
theorem W.congr {α : Type} {g f : Nat -> Option α} {Q : α -> Prop} (h : ∀ k, g k = f k) (e : W f Q) : W g Q := by
 obtain ⟨r, he, hq⟩ := e
 exact ⟨r, he.congr h, hq⟩
theorem nodup_le : ∀ (n : Nat) (l : List Int), l.Nodup -> (∀ x ∈ l, 0 <= x /\ x < n) -> l.length <= n
 | 0, l, _, h => by
   cases l with
   | nil => simp
   | cons a r => have := h a List.mem_cons_self; omega
 | n + 1, l, hd, h => by
   have h1 := nodup_le n (l.erase (n : Int)) (hd.erase _) (fun x hx => by
    have hm := List.mem_of_mem_erase hx
    have hne : x ≠ n := fun e => by subst e; exact (List.Nodup.not_mem_erase hd) hx
    have := h x hm
    omega)
   have h2 : l.length <= (l.erase (n : Int)).length + 1 := by
    rw [List.length_erase]; split <;> omega
   omega
theorem pigeon (n : Nat) (f : Nat -> Int) (h : ∀ i, i <= n -> 0 <= f i /\ f i < n) : ∃ i j, i < j /\ j <= n /\ f i = f j := by
 apply Classical.byContradiction
 intro hc
 have hd : ((List.range (n + 1)).map f).Nodup := by
  rw [List.Nodup, List.pairwise_map]
  refine List.Pairwise.imp_of_mem (R := fun a b => a < b) ?_ List.pairwise_lt_range
  intro a b ha hb hab he
  exact hc ⟨a, b, hab, by have := List.mem_range.1 hb; omega, he⟩
 have := nodup_le n _ hd (fun x hx => by
  obtain ⟨i, hi, rfl⟩ := List.mem_map.1 hx
  exact h i (by have := List.mem_range.1 hi; omega))
 simp at this
 omega
def wt (a : Arc) (ii : Int) : Int := mn (mx (Arc.Lat a) (-1048576)) 1048576 - mn (mx ii 0) 256 * mn (mx (Arc.Dist a) (-1048576)) 1048576
theorem prod_le {x y : Int} (h0 : 0 <= x) (h1 : x <= 256) (h2 : -1048576 <= y) (h3 : y <= 1048576) : -268435456 <= x * y /\ x * y <= 268435456 := by
 constructor
 . have := Int.mul_le_mul_of_nonneg_left h2 h0
   omega
 . have := Int.mul_le_mul_of_nonneg_left h3 h0
   omega
theorem clamp_le (x lo hi : Int) (h : lo <= hi) : lo <= mn (mx x lo) hi /\ mn (mx x lo) hi <= hi := by unfold mn mx; omega
theorem wt_le (a : Arc) (ii : Int) : -269484032 <= wt a ii /\ wt a ii <= 269484032 := by
 have h1 := clamp_le (Arc.Lat a) (-1048576) 1048576 (by omega)
 have h2 := clamp_le (Arc.Dist a) (-1048576) 1048576 (by omega)
 have h3 := clamp_le ii 0 256 (by omega)
 have h4 := prod_le h3.1 h3.2 h2.1 h2.2
 unfold wt
 omega
theorem weight_f (a : Arc) (ii : Int) : diffcons_Weight.f a ii = some (wt a ii) := by
 have h1 := clamp_le (Arc.Lat a) (-1048576) 1048576 (by omega)
 have h2 := clamp_le (Arc.Dist a) (-1048576) 1048576 (by omega)
 have h3 := clamp_le ii 0 256 (by omega)
 have h4 := prod_le h3.1 h3.2 h2.1 h2.2
 unfold diffcons_Weight.f diffcons_limit.f
 simp only [Option.bind_some]
 rw [wrap_id (n := mn (mx ii 0) 256 * mn (mx (Arc.Dist a) (-1048576)) 1048576) (by omega) (by omega), wrap_id (by omega) (by omega)]
 rfl
def Inn (n : Int) (a : Arc) : Prop := 0 <= (Arc.From a) /\ (Arc.From a) < n /\ 0 <= (Arc.To a) /\ (Arc.To a) < n
instance (n : Int) (a : Arc) : Decidable (Inn n a) := by unfold Inn; infer_instance
theorem within_f (n : Int) (a : Arc) : diffcons_within.f a n = some (decide (Inn n a)) := by
 unfold diffcons_within.f
 by_cases h0 : 0 <= (Arc.From a) <;> by_cases h1 : (Arc.From a) < n <;> by_cases h2 : 0 <= (Arc.To a) <;> by_cases h3 : (Arc.To a) < n <;> simp [Inn, h0, h1, h2, h3]
def bnd (l : List Int) (v : Int) : Int := if v >= (l.length : Int) then 0 else mn (mx (rd l v) (-1073741824)) 1073741824
theorem bnd_le (l : List Int) (v : Int) : -1073741824 <= bnd l v /\ bnd l v <= 1073741824 := by
 unfold bnd
 split
 . omega
 . exact clamp_le _ _ _ (by omega)
theorem bound_f {l : List Int} {v : Int} (h : 0 <= v) : diffcons_bound.f l v = some (bnd l v) := by
 unfold diffcons_bound.f bnd diffcons_limit.f
 by_cases h1 : (l.length : Int) <= v
 . simp (disch := omega) only [↓cdT, if_pos]
 . simp (disch := omega) only [↓cdF, if_pos, if_neg, Option.bind_some]
def nod (n : Int) : Int := mn (mx n 0) 8192
theorem nodes_f (n : Int) : diffcons_nodes.f n = some (nod n) := by
 unfold diffcons_nodes.f diffcons_limit.f nod; rfl
theorem nod_le (n : Int) : 0 <= nod n /\ nod n <= 8192 := clamp_le _ _ _ (by omega)
def Feas (n : Int) (arcs : List Arc) (ii : Int) (p : Int -> Int) : Prop := ∀ i : Int, 0 <= i -> i < arcs.length -> Inn n (rd arcs i) -> p (Arc.From (rd arcs i)) + wt (rd arcs i) ii <= p (Arc.To (rd arcs i))
structure Inv (n : Int) (arcs : List Arc) (ii : Int) (lo : Int -> Int) (s b : List Int) (T : Int -> Int) (t0 j last : Int) : Prop where
 ls : (s.length : Int) = n
 lb : (b.length : Int) = n
 low : ∀ v, 0 <= v -> v < n -> lo v <= rd s v
 cap : ∀ v, 0 <= v -> v < n -> rd s v <= 1073741824 + (t0 + j) * 269484032
 least : ∀ p : Int -> Int, Feas n arcs ii p -> (∀ v, 0 <= v -> v < n -> lo v <= p v) -> ∀ v, 0 <= v -> v < n -> rd s v <= p v
 tn : ∀ v, 0 <= v -> v < n -> 0 <= T v /\ T v <= t0 + j
 byr : ∀ v, 0 <= v -> v < n -> (rd b v = -1 /\ T v = 0) \/ (0 < T v /\ 0 <= rd b v /\ rd b v < arcs.length /\ Inn n (rd arcs (rd b v)) /\ (Arc.To (rd arcs (rd b v))) = v /\
  rd s v <= rd s (Arc.From (rd arcs (rd b v))) + wt (rd arcs (rd b v)) ii /\ (T v <= T (Arc.From (rd arcs (rd b v))) -> rd s v < rd s (Arc.From (rd arcs (rd b v))) + wt (rd arcs (rd b v)) ii) /\ T v <= T (Arc.From (rd arcs (rd b v))) + arcs.length)
 sat : ∀ i : Int, 0 <= i -> i < arcs.length -> Inn n (rd arcs i) -> rd s (Arc.From (rd arcs i)) + wt (rd arcs i) ii <= rd s (Arc.To (rd arcs i)) \/ (if i < j then t0 + i else t0 - arcs.length + i) < T (Arc.From (rd arcs i))
 lst : (last = -1 /\ ∀ v, 0 <= v -> v < n -> T v <= t0) \/ (0 <= last /\ last < n /\ t0 < T last)
section
variable {n : Int} {arcs : List Arc} {ii : Int} {lo : Int -> Int} {s b : List Int} {T : Int -> Int} {t0 j last : Int}
theorem Inv.skip (h : Inv n arcs ii lo s b T t0 j last) (hj : 0 <= j) (hs : Inn n (rd arcs j) -> rd s (Arc.From (rd arcs j)) + wt (rd arcs j) ii <= rd s (Arc.To (rd arcs j))) : Inv n arcs ii lo s b T t0 (j + 1) last where
 ls := h.ls
 lb := h.lb
 low := h.low
 cap v h0 h1 := by have := h.cap v h0 h1; omega
 least := h.least
 tn v h0 h1 := by have := h.tn v h0 h1; omega
 byr := h.byr
 sat i h0 h1 hi := by
  by_cases e : i = j
  . subst e; exact Or.inl (hs hi)
  . rcases h.sat i h0 h1 hi with h2 | h2
    . exact Or.inl h2
    . right
      by_cases hlt : i < j
      . rw [if_pos (by omega)]; rw [if_pos hlt] at h2; exact h2
      . rw [if_neg (by omega)]; rw [if_neg hlt] at h2; exact h2
 lst := h.lst
theorem Inv.put (h : Inv n arcs ii lo s b T t0 j last) (hj : 0 <= j) (hjl : j < arcs.length) (hi : Inn n (rd arcs j)) (hv : rd s (Arc.To (rd arcs j)) < rd s (Arc.From (rd arcs j)) + wt (rd arcs j) ii) :
 Inv n arcs ii lo (s.set (Arc.To (rd arcs j)).toNat (rd s (Arc.From (rd arcs j)) + wt (rd arcs j) ii)) (b.set (Arc.To (rd arcs j)).toNat j) (fun x => if x = (Arc.To (rd arcs j)) then t0 + j + 1 else T x) t0 (j + 1) (Arc.To (rd arcs j)) := by
 have hA := h.sat j hj hjl hi
 rw [if_neg (by omega)] at hA
 have hT : t0 - arcs.length + j < T (Arc.From (rd arcs j)) := by
  rcases hA with hA | hA
  . omega
  . exact hA
 clear hA
 obtain ⟨hu0, hu1, hv0, hv1⟩ := id hi
 have hls := h.ls
 have hlb := h.lb
 have hw := wt_le (rd arcs j) ii
 have hself : (Arc.From (rd arcs j)) = (Arc.To (rd arcs j)) -> 0 < wt (rd arcs j) ii := fun e => by rw [e] at hv; omega
 generalize hS : rd s (Arc.From (rd arcs j)) + wt (rd arcs j) ii = S at hv
 have rs : ∀ x, 0 <= x -> rd (s.set (Arc.To (rd arcs j)).toNat S) x = if x = (Arc.To (rd arcs j)) then S else rd s x := fun x hx => rd_set hv0 (by omega) hx
 have rb : ∀ x, 0 <= x -> rd (b.set (Arc.To (rd arcs j)).toNat j) x = if x = (Arc.To (rd arcs j)) then j else rd b x := fun x hx => rd_set hv0 (by omega) hx
 have tu := h.tn _ hu0 hu1
 have tv := h.tn _ hv0 hv1
 refine ⟨by simpa using hls, by simpa using hlb, ?_, ?_, ?_, ?_, ?_, ?_, Or.inr ⟨hv0, hv1, by rw [if_pos rfl]; omega⟩⟩
 . intro v h0 h1
   rw [rs v h0]
   have := h.low v h0 h1
   split
   . rename_i e; subst e; omega
   . exact this
 . intro v h0 h1
   rw [rs v h0]
   have := h.cap v h0 h1
   have := h.cap _ hu0 hu1
   split <;> omega
 . intro p hp hlo v h0 h1
   rw [rs v h0]
   have h2 := h.least p hp hlo
   split
   . rename_i e
     have := hp j hj hjl hi
     have := h2 _ hu0 hu1
     subst e; omega
   . exact h2 v h0 h1
 . intro v h0 h1
   have := h.tn v h0 h1
   try dsimp only
   split <;> omega
 . intro v h0 h1
   rw [rb v h0]
   by_cases e : v = (Arc.To (rd arcs j))
   . right
     rw [if_pos e]
     try dsimp only
     rw [if_pos e, rs v h0, if_pos e, rs _ hu0]
     refine ⟨by omega, hj, hjl, hi, e.symm, ?_, ?_, ?_⟩
     . split
       . rename_i e2; have := hself e2; omega
       . omega
     . intro hle
       split
       . rename_i e2; have := hself e2; omega
       . rename_i e2; rw [if_neg e2] at hle; omega
     . split <;> omega
   . rw [if_neg e]
     rcases h.byr v h0 h1 with ⟨a1, a2⟩ | ⟨a1, a2, a3, a4, a5, a6, a7, a8⟩
     . left
       exact ⟨a1, by rw [if_neg e]; exact a2⟩
     . right
       try dsimp only
       rw [if_neg e, rs v h0, if_neg e, rs _ a4.1]
       refine ⟨a1, a2, a3, a4, a5, ?_, ?_, ?_⟩
       . split
         . rename_i e2; rw [e2] at a6; omega
         . exact a6
       . intro hle
         split
         . rename_i e2; rw [e2] at a6; omega
         . rename_i e2; rw [if_neg e2] at hle; exact a7 hle
       . split
         . rename_i e2; rw [e2] at a8; omega
         . exact a8
 . intro i h0 h1 hin
   obtain ⟨hiu0, hiu1, hiv0, hiv1⟩ := id hin
   rw [rs _ hiu0, rs _ hiv0]
   try dsimp only
   have tiu := h.tn _ hiu0 hiu1
   by_cases e : (Arc.From (rd arcs i)) = (Arc.To (rd arcs j))
   . right
     rw [if_pos e]
     split <;> omega
   . rw [if_neg e, if_neg e]
     by_cases ij : i = j
     . subst ij
       left
       rw [if_pos rfl]; omega
     . rcases h.sat i h0 h1 hin with h2 | h2
       . left
         split
         . rename_i e2; rw [e2] at h2; omega
         . exact h2
       . right
         by_cases hlt : i < j
         . rw [if_pos (by omega)]; rw [if_pos hlt] at h2; exact h2
         . rw [if_neg (by omega)]; rw [if_neg hlt] at h2; exact h2
theorem Inv.next (h : Inv n arcs ii lo s b T t0 j last) (hj : j = arcs.length) : Inv n arcs ii lo s b T (t0 + arcs.length) 0 (-1) where
 ls := h.ls
 lb := h.lb
 low := h.low
 cap v h0 h1 := by have := h.cap v h0 h1; omega
 least := h.least
 tn v h0 h1 := by have := h.tn v h0 h1; omega
 byr := h.byr
 sat i h0 h1 hi := by
  rcases h.sat i h0 h1 hi with h2 | h2
  . exact Or.inl h2
  . right
    rw [if_neg (by omega)]; rw [if_pos (by omega)] at h2; omega
 lst := Or.inl ⟨rfl, fun v h0 h1 => by have := h.tn v h0 h1; omega⟩
theorem Inv.feas (h : Inv n arcs ii lo s b T t0 j last) (hj : j = arcs.length) (hl : last < 0) : Feas n arcs ii (rd s) := by
 intro i h0 h1 hi
 rcases h.sat i h0 h1 hi with h2 | h2
 . exact h2
 . exfalso
   rw [if_pos (by omega)] at h2
   rcases h.lst with ⟨_, h3⟩ | ⟨h3, _⟩
   . have := h3 _ hi.1 hi.2.1
     omega
   . omega
end
def Path (n : Int) (arcs : List Arc) : List Int -> Int -> Int -> Prop
 | [], u, v => u = v
 | i :: c, u, v => 0 <= i /\ i < arcs.length /\ Inn n (rd arcs i) /\ (Arc.From (rd arcs i)) = u /\ Path n arcs c (Arc.To (rd arcs i)) v
def sumw (arcs : List Arc) (ii : Int) : List Int -> Int
 | [] => 0
 | i :: c => wt (rd arcs i) ii + sumw arcs ii c
def Cyc (n : Int) (arcs : List Arc) (ii : Int) (c : List Int) : Prop := c ≠ [] /\ (∃ u, Path n arcs c u u) /\ (c.map fun i => (Arc.From (rd arcs i))).Nodup /\ 0 < sumw arcs ii c
section
variable {n : Int} {arcs : List Arc} {ii : Int}
theorem Path.pot {p : Int -> Int} : ∀ {c : List Int} {u v : Int}, Path n arcs c u v -> (∀ i ∈ c, p (Arc.From (rd arcs i)) + wt (rd arcs i) ii <= p (Arc.To (rd arcs i))) -> p u + sumw arcs ii c <= p v
 | [], u, v, h, _ => by cases h; simp [sumw]
 | i :: c, u, v, ⟨h0, h1, h2, h3, h4⟩, hp => by
   have a := hp i List.mem_cons_self
   have b := Path.pot (p := p) h4 (fun k hk => hp k (List.mem_cons_of_mem _ hk))
   subst h3
   simp only [sumw]
   omega
theorem Path.mem {c : List Int} : ∀ {u v : Int}, Path n arcs c u v -> ∀ i ∈ c, 0 <= i /\ i < arcs.length /\ Inn n (rd arcs i) := by
 induction c with
 | nil => intro u v _ i hi; simp at hi
 | cons j c ih =>
   intro u v ⟨h0, h1, h2, h3, h4⟩ i hi
   rcases List.mem_cons.1 hi with rfl | hi
   . exact ⟨h0, h1, h2⟩
   . exact ih h4 i hi
theorem Cyc.not_feas {c : List Int} (h : Cyc n arcs ii c) {p : Int -> Int} (hp : Feas n arcs ii p) : False := by
 obtain ⟨_, ⟨u, hu⟩, _, hs⟩ := h
 have := hu.pot (ii := ii) (p := p) (fun i hi => by obtain ⟨h0, h1, h2⟩ := hu.mem i hi; exact hp i h0 h1 h2)
 omega
end
def nx (arcs : List Arc) (b : List Int) (v : Int) : Int := (Arc.From (rd arcs (rd b v)))
def it (arcs : List Arc) (b : List Int) (v : Int) : Nat -> Int
 | 0 => v
 | k + 1 => nx arcs b (it arcs b v k)
theorem it_add (arcs : List Arc) (b : List Int) (v : Int) (i j : Nat) : it arcs b v (i + j) = it arcs b (it arcs b v i) j := by
 induction j with
 | zero => rfl
 | succ j ih => rw [<- Nat.add_assoc]; simp only [it, ih]
def Good (n : Int) (arcs : List Arc) (b : List Int) (v : Int) : Prop := 0 <= v /\ v < n /\ 0 <= rd b v /\ rd b v < arcs.length /\ Inn n (rd arcs (rd b v)) /\ (Arc.To (rd arcs (rd b v))) = v
theorem least_of (q : Nat -> Prop) [DecidablePred q] (m : Nat) : q m -> ∃ k, k <= m /\ q k /\ ∀ t, t < k -> ¬ q t := by
 induction m using Nat.strongRecOn with
 | _ m ih =>
   intro h
   by_cases hex : ∃ t, t < m /\ q t
   . obtain ⟨t, ht, hq⟩ := hex
     obtain ⟨k, h1, h2, h3⟩ := ih t ht hq
     exact ⟨k, by omega, h2, h3⟩
   . exact ⟨m, Nat.le_refl _, h, fun t ht hq => hex ⟨t, ht, hq⟩⟩
section
variable {n : Int} {arcs : List Arc} {ii : Int} {lo : Int -> Int} {s b : List Int} {T : Int -> Int} {t0 j last : Int}
theorem Inv.chain (h : Inv n arcs ii lo s b T t0 j last) (hn : 0 <= n) (hl : 0 <= last) (ht : n * arcs.length <= t0) : ∀ i : Nat, (i : Int) <= n ->
 0 <= it arcs b last i /\ it arcs b last i < n /\ n * arcs.length < T (it arcs b last i) + i * arcs.length
 | 0, _ => by
   rcases h.lst with ⟨h1, _⟩ | ⟨h1, h2, h3⟩
   . omega
   . refine ⟨h1, h2, ?_⟩
     show _ < T last + ((0 : Nat) : Int) * _
     simp; omega
 | i + 1, hi => by
   obtain ⟨h1, h2, h3⟩ := Inv.chain h hn hl ht i (by omega)
   have hle : (i : Int) * arcs.length <= n * arcs.length := Int.mul_le_mul_of_nonneg_right (by omega) (by omega)
   have hsucc : ((i + 1 : Nat) : Int) * arcs.length = i * arcs.length + arcs.length := by rw [Int.natCast_add, Int.add_mul]; simp
   rcases h.byr _ h1 h2 with ⟨_, a⟩ | ⟨a1, a2, a3, a4, a5, a6, a7, a8⟩
   . omega
   . refine ⟨a4.1, a4.2.1, ?_⟩
     show _ < T (Arc.From (rd arcs (rd b (it arcs b last i)))) + _
     omega
theorem Inv.good (h : Inv n arcs ii lo s b T t0 j last) (hn : 0 <= n) (hl : 0 <= last) (ht : n * arcs.length <= t0) (i : Nat) (hi : (i : Int) <= n) : Good n arcs b (it arcs b last i) := by
 obtain ⟨h1, h2, h3⟩ := h.chain hn hl ht i hi
 have hle : (i : Int) * arcs.length <= n * arcs.length := Int.mul_le_mul_of_nonneg_right (by omega) (by omega)
 rcases h.byr _ h1 h2 with ⟨_, a⟩ | ⟨a1, a2, a3, a4, a5, _⟩
 . omega
 . exact ⟨h1, h2, a2, a3, a4, a5⟩
theorem Inv.ring (h : Inv n arcs ii lo s b T t0 j last) (hn : 0 <= n) (hl : 0 <= last) (ht : n * arcs.length <= t0) :
 ∃ m : Nat, 0 < m /\ (m : Int) <= n /\ it arcs b (it arcs b last n.toNat) m = it arcs b last n.toNat /\ (∀ t, 0 < t -> t < m -> it arcs b (it arcs b last n.toNat) t ≠ it arcs b last n.toNat) /\
   (∀ t, Good n arcs b (it arcs b (it arcs b last n.toNat) t)) /\ ((List.range m).map (it arcs b (it arcs b last n.toNat))).Nodup := by
 have hg := h.good hn hl ht
 obtain ⟨i, k, hik, hk, he⟩ := pigeon n.toNat (it arcs b last) (fun i hi => by have := hg i (by omega); exact ⟨this.1, by have := this.2.1; omega⟩)
 have hper : ∀ t, it arcs b last (k + t) = it arcs b last (i + t) := fun t => by rw [it_add, it_add, he]
 have hall : ∀ t, Good n arcs b (it arcs b last t) := by
  intro t
  induction t using Nat.strongRecOn with
  | _ t ih =>
    by_cases htn : (t : Int) <= n
    . exact hg t htn
    . have e := hper (t - k)
      rw [show k + (t - k) = t by omega] at e
      rw [e]
      exact ih _ (by omega)
 have hret : it arcs b (it arcs b last n.toNat) (k - i) = it arcs b last n.toNat := by
  rw [<- it_add]
  have e := hper (n.toNat - i)
  rw [show k + (n.toNat - i) = n.toNat + (k - i) by omega, show i + (n.toNat - i) = n.toNat by omega] at e
  exact e
 generalize hy : it arcs b last n.toNat = y at hret
 have hall' : ∀ t, Good n arcs b (it arcs b y t) := fun t => by rw [<- hy, <- it_add]; exact hall _
 obtain ⟨m, _, ⟨hm0, hm⟩, hmin⟩ := least_of (fun t => 0 < t /\ it arcs b y t = y) (k - i) ⟨by omega, hret⟩
 have hne : ∀ t, 0 < t -> t < m -> it arcs b y t ≠ y := fun t h0 h1 h2 => hmin t h1 ⟨h0, h2⟩
 have hnd : ((List.range m).map (it arcs b y)).Nodup := by
  rw [List.Nodup, List.pairwise_map]
  refine List.Pairwise.imp_of_mem (R := fun a b => a < b) ?_ List.pairwise_lt_range
  intro a c ha hc hac he
  have hcm := List.mem_range.1 hc
  have : it arcs b y (a + (m - c)) = y := by
   rw [it_add, he, <- it_add, show c + (m - c) = m by omega, hm]
  exact hne _ (by omega) (by omega) this
 refine ⟨m, hm0, ?_, hm, hne, hall', hnd⟩
 have := nodup_le n.toNat _ hnd (fun x hx => by
  obtain ⟨t, _, rfl⟩ := List.mem_map.1 hx
  have := hall' t
  exact ⟨this.1, by have := this.2.1; omega⟩)
 rw [List.length_map, List.length_range] at this
 omega
def back (arcs : List Arc) (b : List Int) (y : Int) (m : Nat) : List Int := ((List.range m).map fun t => rd b (it arcs b y t)).reverse
theorem back_succ (y : Int) (m : Nat) : back arcs b y (m + 1) = rd b (it arcs b y m) :: back arcs b y m := by
 unfold back; rw [List.range_succ, List.map_append, List.reverse_append]; rfl
theorem back_path {y : Int} (hg : ∀ t, Good n arcs b (it arcs b y t)) : ∀ m, Path n arcs (back arcs b y m) (it arcs b y m) y
 | 0 => rfl
 | m + 1 => by
   rw [back_succ]
   obtain ⟨h0, h1, h2, h3, h4, h5⟩ := hg m
   refine ⟨h2, h3, h4, rfl, ?_⟩
   rw [h5]
   exact back_path hg m
theorem Inv.back_sum (h : Inv n arcs ii lo s b T t0 j last) {y : Int} (hg : ∀ t, Good n arcs b (it arcs b y t)) : ∀ m, rd s y - rd s (it arcs b y m) <= sumw arcs ii (back arcs b y m) /\
 (rd s y - rd s (it arcs b y m) < sumw arcs ii (back arcs b y m) \/ T (it arcs b y m) < T y \/ m = 0)
 | 0 => ⟨by simp [back, sumw, it], Or.inr (Or.inr rfl)⟩
 | m + 1 => by
   obtain ⟨h1, h2⟩ := Inv.back_sum h hg m
   rw [back_succ]
   obtain ⟨g0, g1, g2, g3, g4, g5⟩ := hg m
   rcases h.byr _ g0 g1 with ⟨a, _⟩ | ⟨a1, a2, a3, a4, a5, a6, a7, a8⟩
   . omega
   . simp only [sumw]
     have e : it arcs b y (m + 1) = (Arc.From (rd arcs (rd b (it arcs b y m)))) := rfl
     rw [<- e] at a6 a7 a8
     refine ⟨by omega, ?_⟩
     by_cases hle : T (it arcs b y m) <= T (it arcs b y (m + 1))
     . have := a7 hle
       left; omega
     . rcases h2 with h2 | h2 | h2
       . left; omega
       . right; left; omega
       . subst h2
         right; left
         have : it arcs b y 0 = y := rfl
         rw [this] at hle; omega
theorem Inv.cyc (h : Inv n arcs ii lo s b T t0 j last) {y : Int} {m : Nat} (hm0 : 0 < m) (hm : it arcs b y m = y) (hg : ∀ t, Good n arcs b (it arcs b y t)) (hd : ((List.range m).map (it arcs b y)).Nodup) : Cyc n arcs ii (back arcs b y m) := by
 have hp := back_path hg m
 have hs := h.back_sum hg m
 rw [hm] at hp hs
 refine ⟨?_, ⟨y, hp⟩, ?_, ?_⟩
 . intro e
   have := congrArg List.length e
   simp [back] at this
   omega
 . have e1 : (back arcs b y m).map (fun i => (Arc.From (rd arcs i))) = ((List.range m).map fun t => it arcs b y (t + 1)).reverse := by
    unfold back
    rw [List.map_reverse, List.map_map]
    rfl
   rw [e1]
   refine (List.reverse_perm _).nodup_iff.2 ?_
   have e2 : y :: ((List.range m).map fun t => it arcs b y (t + 1)) = (List.range m).map (it arcs b y) ++ [y] := by
    have a1 : (List.range (m + 1)).map (it arcs b y) = (List.range m).map (it arcs b y) ++ [y] := by rw [List.range_succ, List.map_append]; simp [hm]
    have a2 : (List.range (m + 1)).map (it arcs b y) = y :: ((List.range m).map fun t => it arcs b y (t + 1)) := by rw [List.range_succ_eq_map, List.map_cons, List.map_map]; rfl
    rw [<- a1, a2]
   have hperm : (y :: ((List.range m).map fun t => it arcs b y (t + 1))).Perm (y :: (List.range m).map (it arcs b y)) := by
    rw [e2]; exact List.perm_append_singleton y _
   exact ((List.perm_cons y).1 hperm).nodup_iff.2 hd
 . rcases hs.2 with h2 | h2 | h2 <;> omega
end
theorem reverse_f (xs : List Int) (hlen : xs.length <= 1000000000) : Ev (fun k => slices_Reverse_int_int.f k xs) ((), xs.reverse, ()) := by
 have hrev : ∀ t : Int, 0 <= t -> t < xs.length -> rd xs.reverse t = rd xs ((xs.length : Int) - 1 - t) := by
  intro t h0 h1
  rw [rd_eq (j := t.toNat) (by omega) (by rw [List.length_reverse]; omega), rd_eq (j := xs.length - 1 - t.toNat) (by omega) (by omega), List.getElem_reverse]
 have hend : ∀ (ys : List Int) (i j : Int), i + j = (xs.length : Int) - 1 -> j <= i -> ys.length = xs.length ->
  (∀ t : Int, 0 <= t -> t < xs.length -> rd ys t = if i <= t /\ t <= j then rd xs t else rd xs ((xs.length : Int) - 1 - t)) -> ys = xs.reverse := by
  intro ys i j hs hji hl hx
  refine rd_ext (by simp [hl]) (fun t h0 h1 => ?_)
  rw [hx t h0 (by omega), hrev t h0 (by omega)]
  split
  . congr 1; omega
  . rfl
 have loop : ∀ (d : Nat) (ys : List Int) (i j : Int), 0 <= i -> i + j = (xs.length : Int) - 1 -> j - i < 2 * d -> ys.length = xs.length ->
  (∀ t : Int, 0 <= t -> t < xs.length -> rd ys t = if i <= t /\ t <= j then rd xs t else rd xs ((xs.length : Int) - 1 - t)) -> Ev (fun k => slices_Reverse_int_int.c1 k i j ys) ((), xs.reverse, ()) := by
  intro d
  induction d with
  | zero =>
    intro ys i j h0 hs hd hl hx
    refine .succ ?_
    simp (disch := omega) only [slices_Reverse_int_int.c1, ↓cdF]
    rw [hend ys i j hs (by omega) hl hx]
    exact .ret _
  | succ d ih =>
    intro ys i j h0 hs hd hl hx
    refine .succ ?_
    by_cases hij : i < j
    . simp (disch := first | omega | (simp only [List.length_set]; omega)) only [slices_Reverse_int_int.c1, ↓cdT, ↓if_pos, w64_id]
      refine ih _ _ _ (by omega) (by omega) (by omega) (by simp [hl]) fun t ht0 ht1 => ?_
      rw [rd_set (by omega) (by rw [List.length_set]; omega) ht0, rd_set h0 (by omega) ht0]
      have e1 := hx i h0 (by omega)
      have e2 := hx j (by omega) (by omega)
      rw [if_pos (by omega)] at e1 e2
      by_cases c1 : t = j
      . rw [if_pos c1, if_neg (by omega), e1]; congr 1; omega
      . rw [if_neg c1]
        by_cases c2 : t = i
        . rw [if_pos c2, if_neg (by omega), e2]; congr 1; omega
        . rw [if_neg c2, hx t ht0 ht1]
          by_cases c3 : i <= t /\ t <= j
          . rw [if_pos c3, if_pos (by omega)]
          . rw [if_neg c3, if_neg (by omega)]
    . simp (disch := omega) only [slices_Reverse_int_int.c1, ↓cdF]
      rw [hend ys i j hs (by omega) hl hx]
      exact .ret _
 simp only [slices_Reverse_int_int.f]
 rw [w64_id (by omega) (by omega)]
 exact loop xs.length xs 0 _ (by omega) (by omega) (by omega) rfl (fun t h0 h1 => by rw [if_pos (by omega)])
section
variable {n : Int} {arcs : List Arc} {b : List Int}
theorem around_c8 {y : Int} {m : Nat} (hm : it arcs b y m = y) (hmn : m <= 8192) (hne : ∀ t, 0 < t -> t < m -> it arcs b y t ≠ y) (hg : ∀ t, Good n arcs b (it arcs b y t)) (hb : (b.length : Int) = n) :
 ∀ (d t : Nat), t + d + 1 = m -> Ev (fun k => diffcons_around.c8 k arcs b y (it arcs b y t) ((List.range t).map fun i => rd b (it arcs b y i))) (some (back arcs b y m)) := by
 intro d
 induction d with
 | zero =>
   intro t htd
   obtain ⟨g0, g1, g2, g3, g4, g5⟩ := hg t
   obtain rfl : m = t + 1 := by omega
   have hlst : ((List.range t).map fun i => rd b (it arcs b y i)) ++ [rd b (it arcs b y t)] = (List.range (t + 1)).map fun i => rd b (it arcs b y i) := by rw [List.range_succ, List.map_append]; rfl
   have hm' : (Arc.From (rd arcs (rd b (it arcs b y t)))) = y := hm
   refine .succ ?_
   simp (disch := first | omega | (simp only [List.length_map, List.length_range, List.length_singleton]; omega)) only [diffcons_around.c8, ↓if_pos, ↓bleT, ↓cdT, hlst]
   refine .bind (reverse_f _ (by simp; omega)) ?_
   exact .ret _
 | succ d ih =>
   intro t htd
   obtain ⟨g0, g1, g2, g3, g4, g5⟩ := hg t
   have hlst : ((List.range t).map fun i => rd b (it arcs b y i)) ++ [rd b (it arcs b y t)] = (List.range (t + 1)).map fun i => rd b (it arcs b y i) := by rw [List.range_succ, List.map_append]; rfl
   have hm' : ¬ (Arc.From (rd arcs (rd b (it arcs b y t)))) = y := hne (t + 1) (by omega) (by omega)
   refine .succ ?_
   simp (disch := first | omega | (simp only [List.length_map, List.length_range, List.length_singleton]; omega)) only [diffcons_around.c8, ↓if_pos, ↓bleT, ↓cdF, hlst]
   exact ih (t + 1) (by omega)
theorem around_c2 {v : Int} {N : Nat} (hN : (N : Int) = n) (hn : n <= 8192) (hb : (b.length : Int) = n) (hg : ∀ t : Nat, (t : Int) <= n -> Good n arcs b (it arcs b v t)) {Q : Option (List Int) -> Prop}
 (hk : W (fun k => diffcons_around.c8 k arcs b (it arcs b v N) (it arcs b v N) []) Q) :
 ∀ (d t : Nat), t + d = N -> W (fun k => diffcons_around.c2 k arcs b (it arcs b v t) n t) Q := by
 intro d
 induction d with
 | zero =>
   intro t ht
   obtain rfl : t = N := by omega
   refine .succ ?_
   simp (disch := omega) only [diffcons_around.c2, ↓cdF]
   refine .succ ?_
   simp only [diffcons_around.c6]
   exact hk
 | succ d ih =>
   intro t ht
   obtain ⟨g0, g1, g2, g3, g4, g5⟩ := hg t (by omega)
   refine .succ ?_
   simp (disch := omega) only [diffcons_around.c2, ↓cdT, ↓cdF, ↓if_pos, w64_id]
   exact ih (t + 1) (by omega)
end
theorem around_f {n : Int} {arcs : List Arc} {ii : Int} {lo : Int -> Int} {s b : List Int} {T : Int -> Int} {t0 j last : Int} (h : Inv n arcs ii lo s b T t0 j last) (hn : 0 <= n) (hn2 : n <= 8192) (hl : 0 <= last) (ht : n * arcs.length <= t0) :
 W (fun k => diffcons_around.f k arcs b last n) (fun c => ∃ l, c = some l /\ Cyc n arcs ii l) := by
 obtain ⟨m, hm0, hmn, hm, hne, hg, hd⟩ := h.ring hn hl ht
 simp only [diffcons_around.f]
 refine around_c2 (N := n.toNat) (by omega) hn2 h.lb (fun t htn => h.good hn hl ht t htn) ?_ n.toNat 0 (by omega)
 have := around_c8 hm (by omega) hne hg h.lb (m - 1) 0 (by omega)
 exact this.w ⟨_, rfl, h.cyc hm0 hm hg hd⟩
def Answer (n : Int) (arcs : List Arc) (ii : Int) (lo : Int -> Int) (r : List Int × Option (List Int) × Unit) : Prop :=
 (r.2.1 = none /\ (r.1.length : Int) = n /\ (∀ v, 0 <= v -> v < n -> lo v <= rd r.1 v /\ rd r.1 v <= 1073741824 + (n + 2) * arcs.length * 269484032) /\ Feas n arcs ii (rd r.1) /\ ∀ p : Int -> Int, Feas n arcs ii p -> (∀ v, 0 <= v -> v < n -> lo v <= p v) -> ∀ v, 0 <= v -> v < n -> rd r.1 v <= p v) \/
 (r.1 = [] /\ ∃ c, r.2.1 = some c /\ Cyc n arcs ii c)
section
variable {n : Int} {arcs : List Arc} {ii : Int} {lo : Int -> Int}
theorem after_c14 (hn : 0 <= n) (hn2 : n <= 8192) (hlen : (n + 2) * arcs.length <= 10000000000) {r : Int} (hr0 : 0 <= r) (hrn : r <= n)
 (hnext : r < n -> ∀ (s b : List Int) (T : Int -> Int), Inv n arcs ii lo s b T ((r + 1) * arcs.length) 0 (-1) -> W (fun k => diffcons_After.c12 k n arcs ii (r + 1) s b) (Answer n arcs ii lo))
 (hlow : ∀ v, -1073741824 <= lo v) :
 ∀ (d : Nat) (s b : List Int) (T : Int -> Int) (j last : Int), 0 <= j -> j + d = arcs.length -> Inv n arcs ii lo s b T (r * arcs.length) j last ->
   W (fun k => diffcons_After.c14 k n arcs ii r last arcs arcs.length j s b) (Answer n arcs ii lo) := by
 have hrl : 0 <= r * arcs.length := Int.mul_nonneg hr0 (by omega)
 have hrl2 : (r + 2) * arcs.length <= (n + 2) * arcs.length := Int.mul_le_mul_of_nonneg_right (by omega) (by omega)
 have e2 : (r + 2) * (arcs.length : Int) = r * arcs.length + 2 * arcs.length := Int.add_mul _ _ _
 have e1 : (r + 1) * (arcs.length : Int) = r * arcs.length + arcs.length := by rw [Int.add_mul]; omega
 intro d
 induction d with
 | zero =>
   intro s b T j last hj0 hjd h
   have hjl : j = arcs.length := by omega
   refine .succ ?_
   simp (disch := omega) only [diffcons_After.c14, ↓cdF]
   refine .dec (fun hl => .ret (Or.inl ⟨rfl, h.ls, fun v h0 h1 => ⟨h.low v h0 h1, by have := h.cap v h0 h1; show rd s v <= _; omega⟩, h.feas hjl hl, h.least⟩)) fun hl => ?_
   refine .dec (fun hrn' => ?_) fun hrn' => ?_
   . have hnr : n * arcs.length <= r * arcs.length := Int.mul_le_mul_of_nonneg_right (by omega) (by omega)
     refine W.bind (around_f h hn hn2 (by omega) hnr) fun c hc => ?_
     obtain ⟨l, rfl, hc⟩ := hc
     simp only [Option.isSome_some, cond_true, Option.getD_some]
     exact .ret (Or.inr ⟨rfl, l, rfl, hc⟩)
   . rw [w64_id (by omega) (by omega)]
     exact hnext (by omega) s b T (by rw [e1]; exact h.next hjl)
 | succ d ih =>
   intro s b T j last hj0 hjd h
   have hjl : j < arcs.length := by omega
   refine .succ ?_
   simp (disch := omega) only [diffcons_After.c14, ↓cdT, ↓if_pos, within_f, weight_f, Option.bind_some, w64_id (n := j + 1)]
   by_cases hi : Inn n (rd arcs j)
   . obtain ⟨hu0, hu1, hv0, hv1⟩ := id hi
     have hcu := h.cap _ hu0 hu1
     have hlu := h.low _ hu0 hu1
     have hlo := hlow (Arc.From (rd arcs j))
     have hw := wt_le (rd arcs j) ii
     have hls := h.ls
     have hlb := h.lb
     simp only [hi, decide_true, Bool.not_true, cond_false]
     simp (disch := omega) only [↓if_pos, w64_id]
     refine .dec (fun hv => ?_) fun hv => ?_
     . exact ih _ _ _ (j + 1) _ (by omega) (by omega) (h.put hj0 hjl hi hv)
     . exact ih _ _ _ (j + 1) last (by omega) (by omega) (h.skip hj0 (fun _ => by omega))
   . simp only [hi, decide_false, Bool.not_false, cond_true]
     exact ih _ _ _ (j + 1) last (by omega) (by omega) (h.skip hj0 (fun h' => absurd h' hi))
theorem after_c12 (hn : 0 <= n) (hn2 : n <= 8192) (hlen : (n + 2) * arcs.length <= 10000000000) (hlow : ∀ v, -1073741824 <= lo v) :
 ∀ (d : Nat) (r : Int), 0 <= r -> r + d = n -> ∀ (s b : List Int) (T : Int -> Int), Inv n arcs ii lo s b T (r * arcs.length) 0 (-1) -> W (fun k => diffcons_After.c12 k n arcs ii r s b) (Answer n arcs ii lo) := by
 intro d
 induction d with
 | zero =>
   intro r hr0 hrd s b T h
   refine .succ ?_
   simp only [diffcons_After.c12]
   exact after_c14 hn hn2 hlen hr0 (by omega) (fun hlt => by omega) hlow arcs.length s b T 0 (-1) (by omega) (by omega) h
 | succ d ih =>
   intro r hr0 hrd s b T h
   refine .succ ?_
   simp only [diffcons_After.c12]
   exact after_c14 hn hn2 hlen hr0 (by omega) (fun _ s b T h' => ih (r + 1) (by omega) (by omega) s b T h') hlow arcs.length s b T 0 (-1) (by omega) (by omega) h
theorem Inv.start {s b : List Int} (hs : (s.length : Int) = n) (hb : (b.length : Int) = n) (hsv : ∀ v, 0 <= v -> v < n -> rd s v = lo v) (hbv : ∀ v, 0 <= v -> v < n -> rd b v = -1) (hhi : ∀ v, lo v <= 1073741824) :
 Inv n arcs ii lo s b (fun _ => 0) 0 0 (-1) where
 ls := hs
 lb := hb
 low v h0 h1 := by rw [hsv v h0 h1]; omega
 cap v h0 h1 := by rw [hsv v h0 h1]; have := hhi v; omega
 least p _ hp v h0 h1 := by rw [hsv v h0 h1]; exact hp v h0 h1
 tn v h0 h1 := by simp
 byr v h0 h1 := Or.inl ⟨hbv v h0 h1, rfl⟩
 sat i h0 h1 hi := by right; rw [if_neg (by omega)]; omega
 lst := Or.inl ⟨rfl, fun v h0 h1 => by simp⟩
end
theorem after_f {n0 : Int} {arcs : List Arc} {ii : Int} {lower : List Int} (hlen : (nod n0 + 2) * arcs.length <= 10000000000) : W (fun k => diffcons_After.f k n0 arcs ii lower) (Answer (nod n0) arcs ii (bnd lower)) := by
 obtain ⟨hn, hn2⟩ := nod_le n0
 simp (disch := omega) only [diffcons_After.f, nodes_f, Option.bind_some, ↓if_pos]
 generalize nod n0 = n at *
 have loop : ∀ (d : Nat) (i : Int) (s b : List Int), 0 <= i -> i + d = n -> (s.length : Int) = n -> (b.length : Int) = n -> (∀ v, 0 <= v -> v < i -> rd s v = bnd lower v) -> (∀ v, 0 <= v -> v < i -> rd b v = -1) ->
  W (fun k => diffcons_After.c5 k n arcs ii lower n i s b) (Answer n arcs ii (bnd lower)) := by
  intro d
  induction d with
  | zero =>
    intro i s b h0 hd hs hb hsv hbv
    refine .succ ?_
    simp (disch := omega) only [diffcons_After.c5, ↓cdF]
    refine after_c12 hn hn2 hlen (fun v => (bnd_le lower v).1) n.toNat 0 (by omega) (by omega) _ _ (fun _ => 0) ?_
    rw [Int.zero_mul]
    exact Inv.start hs hb (fun v a b => hsv v a (by omega)) (fun v a b => hbv v a (by omega)) (fun v => (bnd_le lower v).2)
  | succ d ih =>
    intro i s b h0 hd hs hb hsv hbv
    refine .succ ?_
    simp (disch := omega) only [diffcons_After.c5, ↓cdT, bound_f, Option.bind_some, ↓if_pos, w64_id]
    refine ih (i + 1) (s.set i.toNat (bnd lower i)) (b.set i.toNat (-1)) (by omega) (by omega) (by simpa using hs) (by simpa using hb) ?_ ?_
    . intro v hv0 hv1
      rw [rd_set h0 (by omega) hv0]
      split
      . rename_i e; subst e; rfl
      . exact hsv v hv0 (by omega)
    . intro v hv0 hv1
      rw [rd_set h0 (by omega) hv0]
      split
      . rfl
      . exact hbv v hv0 (by omega)
 rw [show ((List.replicate n.toNat (0 : Int)).length : Int) = n by simp; omega]
 exact loop n.toNat 0 (List.replicate n.toNat 0) (List.replicate n.toNat 0) (by omega) (by omega) (by simp; omega) (by simp; omega) (fun v a b => by omega) (fun v a b => by omega)
theorem bnd_nil {v : Int} (h : 0 <= v) : bnd [] v = 0 := by simp [bnd, h]
theorem earliest_f {n0 : Int} {arcs : List Arc} {ii : Int} (hlen : (nod n0 + 2) * arcs.length <= 10000000000) : W (fun k => diffcons_Earliest.f k n0 arcs ii) (Answer (nod n0) arcs ii (fun _ => 0)) := by
 simp only [diffcons_Earliest.f]
 refine W.bind (after_f hlen) fun a ha => ?_
 rcases ha with ⟨a1, a2, a3, a4, a5⟩ | ⟨a1, c, a2, a3⟩
 . simp only [a1, Option.isSome_none, cond_false]
   refine .ret (Or.inl ⟨rfl, a2, fun v h0 h1 => ?_, a4, fun p hp hl v h0 h1 => a5 p hp (fun v h0 h1 => ?_) v h0 h1⟩)
   . have := a3 v h0 h1; rwa [bnd_nil h0] at this
   . have := hl v h0 h1; rw [bnd_nil h0]; exact this
 . simp only [a2, Option.isSome_some, cond_true, Option.getD_some]
   exact .ret (Or.inr ⟨a1, c, rfl, a3⟩)
end Go.Proofs.YtjddmekfeckphaaGreatV.Diff
namespace Go.Proofs.YtjddmekfeckphaaGreatV.Diff
open Go Go.Vm
theorem nodes_ref (n : Int) : jacquardref30_Nodes.f n = some (nod n) := rfl
theorem weight_ref (a : Arc) (ii : Int) : jacquardref30_Weight.f a ii = some (wt a ii) := by
 have h1 := clamp_le (Arc.Lat a) (-1048576) 1048576 (by omega)
 have h2 := clamp_le (Arc.Dist a) (-1048576) 1048576 (by omega)
 have h3 := clamp_le ii 0 256 (by omega)
 have h4 := prod_le h3.1 h3.2 h2.1 h2.2
 unfold jacquardref30_Weight.f
 rw [show w64 (0 - 1048576) = -1048576 by rw [wrap_id (by omega) (by omega)]; omega]
 rw [wrap_id (n := mn (mx ii 0) 256 * mn (mx (Arc.Dist a) (-1048576)) 1048576) (by omega) (by omega), wrap_id (by omega) (by omega)]
 rfl
theorem counts_ref (n : Int) (a : Arc) : jacquardref30_Counts.f n a = some (decide (Inn (nod n) a)) := by
 unfold jacquardref30_Counts.f
 rw [nodes_ref]
 by_cases h0 : 0 <= (Arc.From a) <;> by_cases h1 : (Arc.From a) < nod n <;> by_cases h2 : 0 <= (Arc.To a) <;> by_cases h3 : (Arc.To a) < nod n <;> simp [Inn, h0, h1, h2, h3]
theorem bound_ref {l : List Int} {v : Int} (h : 0 <= v) : jacquardref30_Bound.f l v = some (bnd l v) := by
 unfold jacquardref30_Bound.f bnd
 by_cases h1 : (l.length : Int) <= v
 . simp (disch := omega) only [↓cdT, if_pos]
 . simp (disch := omega) only [↓cdF, if_pos, if_neg]
def At (d : List (List Int)) (a b : Int) : Int := rd (rd d a) b
def Sq (n : Int) (d : List (List Int)) : Prop := (d.length : Int) = n /\ ∀ a : Int, 0 <= a -> a < n -> ((rd d a).length : Int) = n
theorem rdL_set {d : List (List Int)} {a a' : Int} {v : List Int} (h0 : 0 <= a) (h1 : a < d.length) (h2 : 0 <= a') : rd (d.set a.toNat v) a' = if a' = a then v else rd d a' := rd_set h0 h1 h2
theorem at_put {n : Int} {d : List (List Int)} (hs : Sq n d) {a b v : Int} (ha0 : 0 <= a) (ha1 : a < n) (hb0 : 0 <= b) (hb1 : b < n) :
 Sq n (d.set a.toNat ((rd d a).set b.toNat v)) /\ ∀ a' b', 0 <= a' -> 0 <= b' -> At (d.set a.toNat ((rd d a).set b.toNat v)) a' b' = if a' = a /\ b' = b then v else At d a' b' := by
 obtain ⟨hl, hr⟩ := hs
 have hra := hr a ha0 ha1
 refine ⟨⟨by simpa using hl, fun a' h0 h1 => ?_⟩, fun a' b' h0 h1 => ?_⟩
 . rw [rdL_set ha0 (by omega) h0]
   split
   . simpa using hra
   . exact hr a' h0 h1
 . unfold At
   rw [rdL_set ha0 (by omega) h0]
   by_cases e : a' = a
   . subst e
     rw [if_pos rfl, rd_set hb0 (by omega) h1]
     by_cases e2 : b' = b
     . rw [if_pos e2, if_pos ⟨rfl, e2⟩]
     . rw [if_neg e2, if_neg (fun h => e2 h.2)]
   . rw [if_neg e, if_neg (fun h => e h.1)]
def upd (m : Int -> Int -> Int) (k a b : Int) : Int := if m a k > -1152921504606846976 then (if m k b > -1152921504606846976 then mx (m a b) (m a k + m k b) else m a b) else m a b
structure FW (n : Int) (arcs : List Arc) (ii : Int) (k B : Int) (m : Int -> Int -> Int) : Prop where
 snd : ∀ p : Int -> Int, Feas n arcs ii p -> ∀ a b, 0 <= a -> a < n -> 0 <= b -> b < n -> m a b > -1152921504606846976 -> m a b <= p b - p a
 bd : ∀ a b, 0 <= a -> a < n -> 0 <= b -> b < n -> m a b = -1152921504606846976 \/ (-B <= m a b /\ m a b <= B)
 dg : ∀ a, 0 <= a -> a < n -> 0 <= m a a
 cl : ∀ a b c, 0 <= a -> a < n -> 0 <= b -> b < n -> 0 <= c -> c < k -> m a c > -1152921504606846976 -> m c b > -1152921504606846976 -> m a c + m c b <= m a b
 ar : ∀ i : Int, 0 <= i -> i < arcs.length -> Inn n (rd arcs i) -> wt (rd arcs i) ii <= m (Arc.From (rd arcs i)) (Arc.To (rd arcs i))
section
variable {n : Int} {arcs : List Arc} {ii k B : Int} {m : Int -> Int -> Int}
theorem upd_row (h0 : m k k = 0) (b : Int) : upd m k k b = m k b := by
 unfold upd
 rw [h0]
 rw [if_pos (by omega)]
 split
 . unfold mx; omega
 . rfl
theorem upd_col (h0 : m k k = 0) (a : Int) : upd m k a k = m a k := by
 unfold upd
 split
 . rw [h0, if_pos (by omega)]; unfold mx; omega
 . rfl
theorem upd_ge (a b : Int) : m a b <= upd m k a b := by
 unfold upd
 split
 . split
   . unfold mx; omega
   . omega
 . omega
theorem FW.step (h : FW n arcs ii k B m) (hk0 : 0 <= k) (hk1 : k < n) (h0 : m k k = 0) (hB0 : 0 <= B) (hB : B <= 288230376151711744) : FW n arcs ii (k + 1) (2 * B) (upd m k) where
 snd p hp a b a0 a1 b0 b1 hgt := by
  unfold upd at hgt ⊢
  split
  . rename_i c1
    rw [if_pos c1] at hgt
    split
    . rename_i c2
      have e1 := h.snd p hp a k a0 a1 hk0 hk1 c1
      have e2 := h.snd p hp k b hk0 hk1 b0 b1 c2
      unfold mx
      split
      . omega
      . rename_i c3
        by_cases c4 : m a b > -1152921504606846976
        . exact h.snd p hp a b a0 a1 b0 b1 c4
        . have f1 := h.bd a k a0 a1 hk0 hk1
          have f2 := h.bd k b hk0 hk1 b0 b1
          omega
    . rename_i c2
      rw [if_neg c2] at hgt
      exact h.snd p hp a b a0 a1 b0 b1 hgt
  . rename_i c1
    rw [if_neg c1] at hgt
    exact h.snd p hp a b a0 a1 b0 b1 hgt
 bd a b a0 a1 b0 b1 := by
  have f0 := h.bd a b a0 a1 b0 b1
  have f1 := h.bd a k a0 a1 hk0 hk1
  have f2 := h.bd k b hk0 hk1 b0 b1
  unfold upd
  split
  . split
    . unfold mx
      split <;> omega
    . omega
  . omega
 dg a a0 a1 := Int.le_trans (h.dg a a0 a1) (upd_ge a a)
 ar i i0 i1 hi := Int.le_trans (h.ar i i0 i1 hi) (upd_ge _ _)
 cl a b c a0 a1 b0 b1 c0 c1 h1 h2 := by
  by_cases ck : c = k
  . subst ck
    rw [upd_row h0, upd_col h0] at *
    have : upd m c a b = mx (m a b) (m a c + m c b) := by unfold upd; rw [if_pos h1, if_pos h2]
    rw [this]
    unfold mx; split <;> omega
  . have c1' : c < k := by omega
    have cn : c < n := by omega
    have e0 := h.cl a b c a0 a1 b0 b1 c0 c1'
    have e1 := h.cl a k c a0 a1 hk0 hk1 c0 c1'
    have e2 := h.cl k b c hk0 hk1 b0 b1 c0 c1'
    have e3 := h.cl k k c hk0 hk1 hk0 hk1 c0 c1'
    have g1 := h.bd a c a0 a1 c0 cn
    have g2 := h.bd c b c0 cn b0 b1
    have g3 := h.bd a k a0 a1 hk0 hk1
    have g4 := h.bd k b hk0 hk1 b0 b1
    have g5 := h.bd k c hk0 hk1 c0 cn
    have g6 := h.bd c k c0 cn hk0 hk1
    rw [h0] at e3
    unfold upd at h1 h2 ⊢
    unfold mx at h1 h2 ⊢
    by_cases q1 : m a k > -1152921504606846976 <;> by_cases q2 : m k b > -1152921504606846976 <;> by_cases q3 : m k c > -1152921504606846976 <;> by_cases q4 : m c k > -1152921504606846976 <;>
     simp only [q1, q2, q3, q4, if_true, if_false] at h1 h2 ⊢ <;> omega
end
theorem pow_le {k : Nat} (h : k <= 22) : (269484032 : Int) * 2 ^ k <= 288230376151711744 := by
 have h1 : (2 : Nat) ^ k <= 2 ^ 22 := Nat.pow_le_pow_right (by omega) h
 have h2 : (2 : Nat) ^ k <= 4194304 := Nat.le_trans h1 (by decide)
 have h3 : ((2 ^ k : Nat) : Int) <= 4194304 := by omega
 rw [Int.natCast_pow] at h3
 have h4 : (2 : Int) ^ k <= 4194304 := h3
 omega
theorem pow_pos' (k : Nat) : (0 : Int) <= 269484032 * 2 ^ k := by
 have : (0 : Int) < 2 ^ k := Int.pow_pos (by omega)
 omega
theorem pow_succ' (k : Nat) : (269484032 : Int) * 2 ^ (k + 1) = 2 * (269484032 * 2 ^ k) := by
 rw [Int.pow_succ]; omega
def Paths (n : Int) (arcs : List Arc) (ii : Int) (r : List (List Int) × Bool × Unit) : Prop :=
 (r.2.1 = true /\ Sq n r.1 /\ FW n arcs ii n 288230376151711744 (At r.1)) \/ (r.2.1 = false /\ r.1 = [] /\ ∀ p, ¬ Feas n arcs ii p)
section
variable {n : Int} {arcs : List Arc} {ii : Int}
theorem FW.loop_no {k B : Int} {m : Int -> Int -> Int} (h : FW n arcs ii k B m) {a : Int} (h0 : 0 <= a) (h1 : a < n) (hp : m a a > 0) : ∀ p, ¬ Feas n arcs ii p := fun p hf => by
 have := h.snd p hf a a h0 h1 h0 h1 (by omega)
 omega
theorem FW.congr {k B : Int} {m m' : Int -> Int -> Int} (h : FW n arcs ii k B m) (e : ∀ a b, 0 <= a -> a < n -> 0 <= b -> b < n -> m' a b = m a b) (hk : k <= n) : FW n arcs ii k B m' where
 snd p hp a b a0 a1 b0 b1 hgt := by rw [e a b a0 a1 b0 b1] at *; exact h.snd p hp a b a0 a1 b0 b1 hgt
 bd a b a0 a1 b0 b1 := by rw [e a b a0 a1 b0 b1]; exact h.bd a b a0 a1 b0 b1
 dg a a0 a1 := by rw [e a a a0 a1 a0 a1]; exact h.dg a a0 a1
 cl a b c a0 a1 b0 b1 c0 c1 h1 h2 := by rw [e a c a0 a1 c0 (by omega)] at *; rw [e c b c0 (by omega) b0 b1] at *; rw [e a b a0 a1 b0 b1]; exact h.cl a b c a0 a1 b0 b1 c0 c1 h1 h2
 ar i i0 i1 hi := by rw [e _ _ hi.1 hi.2.1 hi.2.2.1 hi.2.2.2]; exact h.ar i i0 i1 hi
theorem FW.wide {k B B' : Int} {m : Int -> Int -> Int} (h : FW n arcs ii k B m) (hB : B <= B') : FW n arcs ii k B' m where
 snd := h.snd
 bd a b a0 a1 b0 b1 := by rcases h.bd a b a0 a1 b0 b1 with e | e <;> omega
 dg := h.dg
 cl := h.cl
 ar := h.ar
def Mid (n : Int) (m : Int -> Int -> Int) (k a b : Int) (d : List (List Int)) : Prop := Sq n d /\ ∀ a' b', 0 <= a' -> a' < n -> 0 <= b' -> b' < n -> At d a' b' = if a' < a \/ (a' = a /\ b' < b) then upd m k a' b' else m a' b'
theorem Mid.col {m : Int -> Int -> Int} {k a b : Int} {d : List (List Int)} (h : Mid n m k a b d) (h0 : m k k = 0) (hk0 : 0 <= k) (hk1 : k < n) (a' : Int) (a0 : 0 <= a') (a1 : a' < n) : At d a' k = m a' k := by
 rw [h.2 a' k a0 a1 hk0 hk1]
 split
 . exact upd_col h0 a'
 . rfl
theorem Mid.row {m : Int -> Int -> Int} {k a b : Int} {d : List (List Int)} (h : Mid n m k a b d) (h0 : m k k = 0) (hk0 : 0 <= k) (hk1 : k < n) (b' : Int) (b0 : 0 <= b') (b1 : b' < n) : At d k b' = m k b' := by
 rw [h.2 k b' hk0 hk1 b0 b1]
 split
 . exact upd_row h0 b'
 . rfl
theorem walks_c30 (hn0 : 0 <= n) (hn : n <= 22) {m : Int -> Int -> Int} {k B : Int} (hF : FW n arcs ii k B m) (hB : B <= 288230376151711744) (hk0 : 0 <= k) (hk1 : k < n) (h0 : m k k = 0) {a : Int} (a0 : 0 <= a) (a1 : a < n) {Q : List (List Int) × Bool × Unit -> Prop}
 (hk : ∀ d, Mid n m k (a + 1) 0 d -> W (fun q => jacquardref30_Walks.c27 q n k n k n (a + 1) d) Q) :
 ∀ (c : Nat) (b : Int) (d : List (List Int)), 0 <= b -> b + c = n -> Mid n m k a b d -> W (fun q => jacquardref30_Walks.c30 q n k a n k n a n b d) Q := by
 intro c
 induction c with
 | zero =>
   intro b d b0 hbc hM
   refine .succ ?_
   simp (disch := omega) only [jacquardref30_Walks.c30, ↓cdF, w64_id]
   refine hk d ⟨hM.1, fun a' b' p0 p1 q0 q1 => ?_⟩
   rw [hM.2 a' b' p0 p1 q0 q1]
   by_cases e : a' < a \/ a' = a /\ b' < b
   . rw [if_pos e, if_pos (by omega)]
   . rw [if_neg e, if_neg (by omega)]
 | succ c ih =>
   intro b d b0 hbc hM
   have hS := hM.1
   have hla := hS.2 a a0 a1
   have hlk := hS.2 k hk0 hk1
   have hld := hS.1
   have hb1 : b < n := by omega
   have hca := hM.col h0 hk0 hk1 a a0 a1
   have hrb := hM.row h0 hk0 hk1 b b0 hb1
   have hab : At d a b = m a b := by rw [hM.2 a b a0 a1 b0 hb1, if_neg (by omega)]
   have g1 := hF.bd a k a0 a1 hk0 hk1
   have g2 := hF.bd k b hk0 hk1 b0 hb1
   unfold At at hca hrb hab
   have hsame : upd m k a b = m a b -> Mid n m k a (b + 1) d := fun hu => ⟨hS, fun a' b' p0 p1 q0 q1 => by
    rw [hM.2 a' b' p0 p1 q0 q1]
    by_cases e : a' = a /\ b' = b
    . rw [e.1, e.2, if_neg (by omega), if_pos (by omega), hu]
    . by_cases e2 : a' < a \/ a' = a /\ b' < b
      . rw [if_pos e2, if_pos (by omega)]
      . rw [if_neg e2, if_neg (by omega)]⟩
   refine .succ ?_
   simp (disch := omega) only [jacquardref30_Walks.c30, ↓cdT, ↓if_pos, hca, hrb, hab, w64_id (n := b + 1)]
   refine .dec (fun c1 => ?_) fun c1 => ?_
   . refine .dec (fun c2 => ?_) fun c2 => ?_
     . have hput := at_put hS (v := mx (m a b) (m a k + m k b)) a0 a1 b0 hb1
       rw [w64_id (n := m a k + m k b) (by omega) (by omega)]
       refine ih (b + 1) (d.set a.toNat ((rd d a).set b.toNat (mx (m a b) (m a k + m k b)))) (by omega) (by omega) ⟨hput.1, fun a' b' p0 p1 q0 q1 => ?_⟩
       rw [hput.2 a' b' p0 q0]
       by_cases e : a' = a /\ b' = b
       . rw [if_pos e, if_pos (by omega), e.1, e.2]; unfold upd; rw [if_pos c1, if_pos c2]
       . rw [if_neg e, hM.2 a' b' p0 p1 q0 q1]
         by_cases e2 : a' < a \/ a' = a /\ b' < b
         . rw [if_pos e2, if_pos (by omega)]
         . rw [if_neg e2, if_neg (by omega)]
     . exact ih (b + 1) d (by omega) (by omega) (hsame (by unfold upd; rw [if_pos c1, if_neg c2]))
   . exact ih (b + 1) d (by omega) (by omega) (hsame (by unfold upd; rw [if_neg c1]))
theorem walks_c27 (hn0 : 0 <= n) (hn : n <= 22) {m : Int -> Int -> Int} {k B : Int} (hF : FW n arcs ii k B m) (hB : B <= 288230376151711744) (hk0 : 0 <= k) (hk1 : k < n) (h0 : m k k = 0) {Q : List (List Int) × Bool × Unit -> Prop}
 (hk : ∀ d, Sq n d -> (∀ a b, 0 <= a -> a < n -> 0 <= b -> b < n -> At d a b = upd m k a b) -> W (fun q => jacquardref30_Walks.c37 q n n k n 0 d) Q) :
 ∀ (c : Nat) (a : Int) (d : List (List Int)), 0 <= a -> a + c = n -> Mid n m k a 0 d -> W (fun q => jacquardref30_Walks.c27 q n k n k n a d) Q := by
 intro c
 induction c with
 | zero =>
   intro a d a0 hac hM
   refine .succ ?_
   simp (disch := omega) only [jacquardref30_Walks.c27, ↓cdF]
   refine hk d hM.1 (fun a' b' p0 p1 q0 q1 => ?_)
   rw [hM.2 a' b' p0 p1 q0 q1, if_pos (by omega)]
 | succ c ih =>
   intro a d a0 hac hM
   refine .succ ?_
   simp (disch := omega) only [jacquardref30_Walks.c27, ↓cdT]
   exact walks_c30 hn0 hn hF hB hk0 hk1 h0 a0 (by omega) (fun d' hM' => ih (a + 1) d' (by omega) (by omega) hM') n.toNat 0 d (by omega) (by omega) hM
theorem walks_c37 (hn0 : 0 <= n) (hn : n <= 22) {d : List (List Int)} (hS : Sq n d) {k B : Int} (hF : FW n arcs ii (k + 1) B (At d)) (hk0 : 0 <= k) (hk1 : k < n)
 (hk : (∀ a, 0 <= a -> a < n -> At d a a <= 0) -> W (fun q => jacquardref30_Walks.c22 q n n (k + 1) d) (Paths n arcs ii)) :
 ∀ (c : Nat) (a : Int), 0 <= a -> a + c = n -> (∀ a', 0 <= a' -> a' < a -> At d a' a' <= 0) -> W (fun q => jacquardref30_Walks.c37 q n n k n a d) (Paths n arcs ii) := by
 intro c
 induction c with
 | zero =>
   intro a a0 hac hx
   refine .succ ?_
   simp (disch := omega) only [jacquardref30_Walks.c37, ↓cdF, w64_id]
   exact hk (fun a' h1 h2 => hx a' h1 (by omega))
 | succ c ih =>
   intro a a0 hac hx
   have hla := hS.2 a a0 (by omega)
   have hld := hS.1
   refine .succ ?_
   simp (disch := omega) only [jacquardref30_Walks.c37, ↓cdT, ↓if_pos, w64_id]
   refine .dec (fun hp => .ret (Or.inr ⟨rfl, rfl, hF.loop_no a0 (by omega) hp⟩)) fun hp => ?_
   exact ih (a + 1) (by omega) (by omega) (fun a' h1 h2 => by
    by_cases e : a' = a
    . subst e; unfold At; omega
    . exact hx a' h1 (by omega))
theorem walks_c22 (hn0 : 0 <= n) (hn : n <= 22) : ∀ (c : Nat) (k : Nat) (d : List (List Int)), (k : Int) + c = n -> Sq n d -> FW n arcs ii k (269484032 * 2 ^ k) (At d) -> W (fun q => jacquardref30_Walks.c22 q n n k d) (Paths n arcs ii) := by
 intro c
 induction c with
 | zero =>
   intro k d hkc hS hF
   refine .succ ?_
   simp (disch := omega) only [jacquardref30_Walks.c22, ↓cdF]
   refine .ret (Or.inl ⟨rfl, hS, ?_⟩)
   have hkn : (k : Int) = n := by omega
   rw [hkn] at hF
   exact hF.wide (pow_le (by omega))
 | succ c ih =>
   intro k d hkc hS hF
   have hlk := hS.2 k (by omega) (by omega)
   have hld := hS.1
   refine .succ ?_
   simp (disch := omega) only [jacquardref30_Walks.c22, ↓cdT, ↓if_pos]
   refine .dec (fun hp => .ret (Or.inr ⟨rfl, rfl, hF.loop_no (a := (k : Int)) (by omega) (by omega) hp⟩)) fun hp => ?_
   have h0 : At d k k = 0 := by have := hF.dg k (by omega) (by omega); unfold At at *; omega
   have hstep := hF.step (by omega) (by omega) h0 (pow_pos' k) (pow_le (by omega))
   refine walks_c27 hn0 hn hF (pow_le (by omega)) (by omega) (by omega) h0 (fun d' hS' hU => ?_) n.toNat 0 d (by omega) (by omega) ⟨hS, fun a' b' p0 p1 q0 q1 => by rw [if_neg (by omega)]⟩
   have hF' : FW n arcs ii (k + 1) (2 * (269484032 * 2 ^ k)) (At d') := hstep.congr hU (by omega)
   refine walks_c37 hn0 hn hS' hF' (by omega) (by omega) (fun _ => ?_) n.toNat 0 (by omega) (by omega) (fun a' h1 h2 => by omega)
   rw [<- pow_succ'] at hF'
   exact ih (k + 1) d' (by omega) hS' hF'
structure Begin (n : Int) (arcs : List Arc) (ii i : Int) (m : Int -> Int -> Int) : Prop where
 snd : ∀ p : Int -> Int, Feas n arcs ii p -> ∀ a b, 0 <= a -> a < n -> 0 <= b -> b < n -> m a b > -1152921504606846976 -> m a b <= p b - p a
 bd : ∀ a b, 0 <= a -> a < n -> 0 <= b -> b < n -> m a b = -1152921504606846976 \/ (-269484032 <= m a b /\ m a b <= 269484032)
 dg : ∀ a, 0 <= a -> a < n -> 0 <= m a a
 ar : ∀ j : Int, 0 <= j -> j < i -> Inn n (rd arcs j) -> wt (rd arcs j) ii <= m (Arc.From (rd arcs j)) (Arc.To (rd arcs j))
theorem walks_c16 {n0 : Int} (hn : n = nod n0) (hn20 : n <= 22) (hlen : arcs.length <= 1000000) : ∀ (c : Nat) (i : Int) (d : List (List Int)), 0 <= i -> i + c = arcs.length -> Sq n d -> Begin n arcs ii i (At d) -> W (fun q => jacquardref30_Walks.c16 q n arcs ii arcs.length i d) (Paths n arcs ii) := by
 have hn0 : 0 <= n := by have := nod_le n0; omega
 have hnn : nod n = n := by rw [hn]; unfold nod mn mx; repeat' split
                            all_goals omega
 intro c
 induction c with
 | zero =>
   intro i d i0 hic hS hB
   refine .succ ?_
   simp (disch := omega) only [jacquardref30_Walks.c16, ↓cdF]
   exact walks_c22 hn0 hn20 n.toNat 0 d (by omega) hS ⟨hB.snd, hB.bd, hB.dg, fun a b c _ _ _ _ h1 h2 => by simp at h2; omega, fun j h1 h2 h3 => hB.ar j h1 (by omega) h3⟩
 | succ c ih =>
   intro i d i0 hic hS hB
   refine .succ ?_
   simp (disch := omega) only [jacquardref30_Walks.c16, ↓cdT, ↓if_pos, counts_ref, hnn, Option.bind_some, weight_ref, w64_id (n := i + 1)]
   refine .dec (fun hi => ?_) fun hi => ?_
   . obtain ⟨u0, u1, v0, v1⟩ := id hi
     have hput := at_put hS (v := mx (At d (Arc.From (rd arcs i)) (Arc.To (rd arcs i))) (wt (rd arcs i) ii)) u0 u1 v0 v1
     have hw := wt_le (rd arcs i) ii
     have hru := hS.2 _ u0 u1
     have hld := hS.1
     simp (disch := omega) only [↓if_pos]
     refine ih (i + 1) (d.set (Arc.From (rd arcs i)).toNat ((rd d (Arc.From (rd arcs i))).set (Arc.To (rd arcs i)).toNat (mx (At d (Arc.From (rd arcs i)) (Arc.To (rd arcs i))) (wt (rd arcs i) ii)))) (by omega) (by omega) hput.1 ⟨?_, ?_, ?_, ?_⟩
     . intro p hp a b a0 a1 b0 b1 hgt
       rw [hput.2 a b a0 b0] at hgt ⊢
       split
       . rename_i e
         rw [if_pos e] at hgt
         rw [e.1, e.2]
         have f1 := hp i i0 (by omega) hi
         have f2 := hB.snd p hp _ _ u0 u1 v0 v1
         have f3 := hB.bd _ _ u0 u1 v0 v1
         unfold mx
         split
         . omega
         . by_cases c4 : At d (Arc.From (rd arcs i)) (Arc.To (rd arcs i)) > -1152921504606846976
           . exact f2 c4
           . omega
       . rename_i e
         rw [if_neg e] at hgt
         exact hB.snd p hp a b a0 a1 b0 b1 hgt
     . intro a b a0 a1 b0 b1
       rw [hput.2 a b a0 b0]
       split
       . have f3 := hB.bd _ _ u0 u1 v0 v1
         unfold mx
         split <;> omega
       . exact hB.bd a b a0 a1 b0 b1
     . intro a a0 a1
       rw [hput.2 a a a0 a0]
       split
       . rename_i e
         have f := hB.dg a a0 a1
         rw [e.1] at f
         have e3 : (Arc.From (rd arcs i)) = (Arc.To (rd arcs i)) := by omega
         rw [<- e3]
         unfold mx; split <;> omega
       . exact hB.dg a a0 a1
     . intro j j0 j1 hj
       rw [hput.2 _ _ hj.1 hj.2.2.1]
       by_cases e : j = i
       . subst e
         rw [if_pos ⟨rfl, rfl⟩]
         unfold mx; split <;> omega
       . have f := hB.ar j j0 (by omega) hj
         split
         . rename_i e2
           rw [e2.1, e2.2] at f
           unfold mx; split <;> omega
         . exact f
   . refine ih (i + 1) d (by omega) (by omega) hS ⟨hB.snd, hB.bd, hB.dg, fun j j0 j1 hj => ?_⟩
     by_cases e : j = i
     . subst e; exact absurd hj hi
     . exact hB.ar j j0 (by omega) hj
def Rows0 (n : Int) (a : Int) (d : List (List Int)) : Prop := (d.length : Int) = a /\ ∀ i : Int, 0 <= i -> i < a -> ((rd d i).length : Int) = n /\ ∀ j, 0 <= j -> j < n -> rd (rd d i) j = if j = i then 0 else -1152921504606846976
theorem rdL_append {d : List (List Int)} {v : List Int} {i : Int} (h0 : 0 <= i) (h2 : i <= d.length) : rd (d ++ [v]) i = if i < d.length then rd d i else v := by
 by_cases h1 : i < d.length
 . rw [if_pos h1]; exact rd_append_left (by omega)
 . rw [if_neg h1]; exact rd_append_right (by omega)
theorem walks_c8 (hn0 : 0 <= n) (hn : n <= 22) {a : Int} (a0 : 0 <= a) (a1 : a < n) {d : List (List Int)} (hd : Rows0 n a d) {Q : List (List Int) × Bool × Unit -> Prop}
 (hk : ∀ d', Rows0 n (a + 1) d' -> W (fun q => jacquardref30_Walks.c4 q n arcs ii n (a + 1) d') Q) :
 ∀ (c : Nat) (b : Int) (l : List Int), 0 <= b -> b + c = n -> (l.length : Int) = n -> (∀ j, 0 <= j -> j < b -> rd l j = -1152921504606846976) -> W (fun q => jacquardref30_Walks.c8 q n arcs ii a n a n b d l) Q := by
 have hdl := hd.1
 intro c
 induction c with
 | zero =>
   intro b l b0 hbc hl hx
   refine .succ ?_
   simp (disch := first | omega | (simp only [List.length_singleton]; omega)) only [jacquardref30_Walks.c8, ↓cdF, ↓if_pos, ↓bleT, w64_id]
   refine hk (d ++ [l.set a.toNat 0]) ⟨by simp; omega, fun i i0 i1 => ?_⟩
   rw [rdL_append i0 (by omega)]
   by_cases e : i < d.length
   . rw [if_pos e]; exact hd.2 i i0 (by omega)
   . rw [if_neg e]
     refine ⟨by simpa using hl, fun j j0 j1 => ?_⟩
     rw [rd_set a0 (by omega) j0, show i = a by omega]
     split
     . rfl
     . exact hx j j0 (by omega)
 | succ c ih =>
   intro b l b0 hbc hl hx
   refine .succ ?_
   simp (disch := omega) only [jacquardref30_Walks.c8, ↓cdT, ↓if_pos, w64_id]
   refine ih (b + 1) (l.set b.toNat (-1152921504606846976)) (by omega) (by omega) (by simpa using hl) (fun j j0 j1 => ?_)
   rw [rd_set b0 (by omega) j0]
   split
   . rfl
   . exact hx j j0 (by omega)
theorem walks_c4 {n0 : Int} (hnd : n = nod n0) (hn : n <= 22) (hlen : arcs.length <= 1000000) : ∀ (c : Nat) (a : Int) (d : List (List Int)), 0 <= a -> a + c = n -> Rows0 n a d -> W (fun q => jacquardref30_Walks.c4 q n arcs ii n a d) (Paths n arcs ii) := by
 have hn0 : 0 <= n := by have := nod_le n0; omega
 intro c
 induction c with
 | zero =>
   intro a d a0 hac hR
   have ea : a = n := by omega
   subst ea
   refine .succ ?_
   simp (disch := omega) only [jacquardref30_Walks.c4, ↓cdF]
   refine walks_c16 hnd hn hlen arcs.length 0 d (by omega) (by omega) ⟨hR.1, fun i h1 h2 => (hR.2 i h1 h2).1⟩ ⟨?_, ?_, ?_, fun j h1 h2 => by omega⟩
   . intro p hp x y x0 x1 y0 y1 hgt
     unfold At at hgt ⊢
     rw [(hR.2 x x0 x1).2 y y0 y1] at hgt ⊢
     split
     . rename_i e; subst e; omega
     . rename_i e; rw [if_neg e] at hgt; omega
   . intro x y x0 x1 y0 y1
     unfold At
     rw [(hR.2 x x0 x1).2 y y0 y1]
     split <;> omega
   . intro x x0 x1
     unfold At
     rw [(hR.2 x x0 x1).2 x x0 x1, if_pos rfl]; omega
 | succ c ih =>
   intro a d a0 hac hR
   refine .succ ?_
   simp (disch := omega) only [jacquardref30_Walks.c4, ↓cdT, ↓if_pos]
   exact walks_c8 hn0 hn a0 (by omega) hR (fun d' hR' => ih (a + 1) d' (by omega) (by omega) hR') n.toNat 0 (List.replicate n.toNat 0) (by omega) (by omega) (by simp; omega) (fun j h1 h2 => by omega)
end
theorem walks_f {n0 : Int} {arcs : List Arc} {ii : Int} (hn : nod n0 <= 22) (hlen : arcs.length <= 1000000) : W (fun q => jacquardref30_Walks.f q n0 arcs ii) (Paths (nod n0) arcs ii) := by
 have h0 := nod_le n0
 simp only [jacquardref30_Walks.f, nodes_ref, Option.bind_some]
 exact walks_c4 rfl hn hlen (nod n0).toNat 0 [] (by omega) (by omega) ⟨rfl, fun i h1 h2 => by omega⟩
end Go.Proofs.YtjddmekfeckphaaGreatV.Diff
namespace Go.Proofs.YtjddmekfeckphaaGreatV.Diff
open Go Go.Vm
def Best (n : Int) (lo : Int -> Int) (m : Int -> Int -> Int) (b c v : Int) : Prop :=
 lo b <= v /\ v <= 600000000000000000 /\ (∀ a, 0 <= a -> a < c -> m a b > -1152921504606846976 -> lo a + m a b <= v) /\ ∀ x, lo b <= x -> (∀ a, 0 <= a -> a < c -> m a b > -1152921504606846976 -> lo a + m a b <= x) -> v <= x
def AnswerR (n : Int) (arcs : List Arc) (ii : Int) (lo : Int -> Int) (r : List Int × Bool × Unit) : Prop :=
 (r.2.1 = true /\ (r.1.length : Int) = n /\ (∀ v, 0 <= v -> v < n -> lo v <= rd r.1 v /\ rd r.1 v <= 600000000000000000) /\ Feas n arcs ii (rd r.1) /\ ∀ p : Int -> Int, Feas n arcs ii p -> (∀ v, 0 <= v -> v < n -> lo v <= p v) -> ∀ v, 0 <= v -> v < n -> rd r.1 v <= p v) \/
 (r.2.1 = false /\ r.1 = [] /\ ∀ p, ¬ Feas n arcs ii p)
section
variable {n : Int} {arcs : List Arc} {ii : Int}
theorem best_feas {lo : Int -> Int} {m : Int -> Int -> Int} (hF : FW n arcs ii n 288230376151711744 m) {out : Int -> Int} (hb : ∀ b, 0 <= b -> b < n -> Best n lo m b n (out b)) :
 Feas n arcs ii out /\ ∀ p : Int -> Int, Feas n arcs ii p -> (∀ v, 0 <= v -> v < n -> lo v <= p v) -> ∀ v, 0 <= v -> v < n -> out v <= p v := by
 constructor
 . intro i i0 i1 hi
   obtain ⟨u0, u1, v0, v1⟩ := id hi
   have hw := wt_le (rd arcs i) ii
   have ha := hF.ar i i0 i1 hi
   have bu := hb _ u0 u1
   have bv := hb _ v0 v1
   have := bu.2.2.2 (out (Arc.To (rd arcs i)) - wt (rd arcs i) ii) (by have := bv.2.2.1 _ u0 u1 (by omega); omega) (fun a a0 a1 hgt => by
    have e1 := hF.cl a _ _ a0 a1 v0 v1 u0 u1 hgt (by omega)
    have g1 := hF.bd a _ a0 a1 u0 u1
    have e2 := bv.2.2.1 a a0 a1 (by omega)
    omega)
   omega
 . intro p hp hl v v0 v1
   refine (hb v v0 v1).2.2.2 (p v) (hl v v0 v1) (fun a a0 a1 hgt => ?_)
   have := hF.snd p hp a v a0 a1 v0 v1 hgt
   have := hl a a0 a1
   omega
theorem after_ref_c10 (hn0 : 0 <= n) (hn : n <= 8192) {lower : List Int} {d : List (List Int)} (hS : Sq n d) (hF : FW n arcs ii n 288230376151711744 (At d)) {b : Int} (b0 : 0 <= b) (b1 : b < n) {out : List Int} (hout : out.length <= 8192) {Q : List Int × Bool × Unit -> Prop}
 (hk : ∀ v, Best n (bnd lower) (At d) b n v -> W (fun q => jacquardref30_After.c6 q lower n (b + 1) d (out ++ [v])) Q) :
 ∀ (c : Nat) (a v : Int), 0 <= a -> a + c = n -> Best n (bnd lower) (At d) b a v -> W (fun q => jacquardref30_After.c10 q lower b v n b n a d out) Q := by
 intro c
 induction c with
 | zero =>
   intro a v a0 hac hB
   obtain rfl : a = n := by omega
   refine .succ ?_
   simp (disch := first | omega | (simp only [List.length_singleton]; omega)) only [jacquardref30_After.c10, ↓cdF, ↓bleT, w64_id]
   exact hk v hB
 | succ c ih =>
   intro a v a0 hac hB
   have hla := hS.2 a a0 (by omega)
   have hld := hS.1
   have g := hF.bd a b a0 (by omega) b0 b1
   have hbl := bnd_le lower a
   refine .succ ?_
   simp (disch := omega) only [jacquardref30_After.c10, ↓cdT, ↓if_pos, bound_ref, Option.bind_some, w64_id (n := a + 1)]
   refine .dec (fun c1 => ?_) fun c1 => ?_
   . change At d a b > -1152921504606846976 at c1
     have hB1 := hB.1
     have hB2 := hB.2.1
     have e0 : w64 (bnd lower a + rd (rd d a) b) = bnd lower a + At d a b := by unfold At at *; exact w64_id (by omega) (by omega)
     rw [e0]
     refine ih (a + 1) (mx v (bnd lower a + At d a b)) (by omega) (by omega) ⟨?_, ?_, ?_, ?_⟩
     . unfold mx; split <;> omega
     . unfold mx; split <;> omega
     . intro a' h0 h1 hgt
       by_cases e : a' = a
       . subst e; unfold mx; split <;> omega
       . have := hB.2.2.1 a' h0 (by omega) hgt
         unfold mx; split <;> omega
     . intro x hx hall
       have e1 := hB.2.2.2 x hx (fun a' h0 h1 hgt => hall a' h0 (by omega) hgt)
       have e2 := hall a a0 (by omega) c1
       unfold mx; split <;> omega
   . refine ih (a + 1) v (by omega) (by omega) ⟨hB.1, hB.2.1, fun a' h0 h1 hgt => ?_, fun x hx hall => hB.2.2.2 x hx (fun a' h0 h1 hgt => hall a' h0 (by omega) hgt)⟩
     by_cases e : a' = a
     . subst e; exact absurd hgt c1
     . exact hB.2.2.1 a' h0 (by omega) hgt
theorem after_ref_c6 (hn0 : 0 <= n) (hn : n <= 8192) {lower : List Int} {d : List (List Int)} (hS : Sq n d) (hF : FW n arcs ii n 288230376151711744 (At d)) :
 ∀ (c : Nat) (b : Int) (out : List Int), 0 <= b -> b + c = n -> (out.length : Int) = b -> (∀ v, 0 <= v -> v < b -> Best n (bnd lower) (At d) v n (rd out v)) -> W (fun q => jacquardref30_After.c6 q lower n b d out) (AnswerR n arcs ii (bnd lower)) := by
 intro c
 induction c with
 | zero =>
   intro b out b0 hbc hl hx
   obtain rfl : b = n := by omega
   have hf := best_feas (out := rd out) hF hx
   refine .succ ?_
   simp (disch := omega) only [jacquardref30_After.c6, ↓cdF]
   exact .ret (Or.inl ⟨rfl, hl, fun v v0 v1 => ⟨(hx v v0 v1).1, (hx v v0 v1).2.1⟩, hf.1, hf.2⟩)
 | succ c ih =>
   intro b out b0 hbc hl hx
   have hbl := bnd_le lower b
   refine .succ ?_
   simp (disch := omega) only [jacquardref30_After.c6, ↓cdT, bound_ref, Option.bind_some]
   rw [hS.1]
   refine after_ref_c10 hn0 hn (lower := lower) hS hF b0 (by omega) (out := out) (by omega) (fun v hv => ih (b + 1) (out ++ [v]) (by omega) (by omega) (by simp; omega) (fun w w0 w1 => ?_)) n.toNat 0 (bnd lower b) (by omega) (by omega) ⟨by omega, by omega, fun a h0 h1 => by omega, fun x hx _ => hx⟩
   by_cases e : w = b
   . rw [rd_append_right (by omega), e]; exact hv
   . rw [rd_append_left (by omega)]; exact hx w w0 (by omega)
end
theorem after_ref_f {n0 : Int} {arcs : List Arc} {ii : Int} {lower : List Int} (hn : nod n0 <= 22) (hlen : arcs.length <= 1000000) : W (fun q => jacquardref30_After.f q n0 arcs ii lower) (AnswerR (nod n0) arcs ii (bnd lower)) := by
 have h0 := nod_le n0
 simp only [jacquardref30_After.f]
 refine W.bind (walks_f hn hlen) (fun r hr => ?_)
 rcases hr with ⟨h1, h2, h3⟩ | ⟨h1, h2, h3⟩
 . simp only [h1, Bool.not_true, cond_false]
   rw [h2.1]
   exact after_ref_c6 h0.1 h0.2 h2 h3 (nod n0).toNat 0 [] (by omega) (by omega) rfl (fun v a b => by omega)
 . simp only [h1, Bool.not_false, cond_true]
   exact .ret (Or.inr ⟨rfl, rfl, h3⟩)
section
variable {n : Int} {arcs : List Arc} {ii : Int}
end
end Go.Proofs.YtjddmekfeckphaaGreatV.Diff
namespace Go.Proofs.YtjddmekfeckphaaGreatV
open Go Go.Vm
section
variable {f : Flow} {s : Sched}
def tm (f : Flow) (s : Sched) (v : Int) : Int := if v < Flow.Insts f then rd (Sched.Start s) v else if v < Flow.N f then rd (Sched.Params s) (v - Flow.Insts f) else if v = Flow.N f then 0 else Sched.Depth s
theorem tm_bound (F : FITS f s) (V : VALID f) {v : Int} (h0 : 0 <= v) : 0 <= tm f s v /\ tm f s v <= 4096 := by
 unfold tm
 have h1 := F.start
 have h2 := F.params
 have h3 := F.depth
 have hN : Flow.N f = Flow.Insts f + Flow.Params f := rfl
 have hi := V.i0
 split
 . have := F.starts v.toNat (by omega)
   rw [show ((v.toNat : Nat) : Int) = v by omega] at this
   exact this
 . split
   . have := F.parms (v - Flow.Insts f).toNat (by omega)
     rw [show (((v - Flow.Insts f).toNat : Nat) : Int) = v - Flow.Insts f by omega] at this
     exact this
   . split <;> omega
def slk (f : Flow) (s : Sched) (i : Nat) : Int := tm f s (Arc.To (rd (Flow.Arcs f) (i : Int))) - tm f s (Arc.From (rd (Flow.Arcs f) (i : Int))) - (Arc.Lat (rd (Flow.Arcs f) (i : Int)) - Sched.II s * Arc.Dist (rd (Flow.Arcs f) (i : Int)))
end
end Go.Proofs.YtjddmekfeckphaaGreatV
namespace Go.Proofs.YtjddmekfeckphaaGreatV
open Go Go.Vm
theorem circle {n a b x y : Int} (hn : 0 < n) (hx : 0 < x) (hy : 0 < y) : (∃ c, 0 <= c /\ c < n /\ (c - a) % n < x /\ (c - b) % n < y) ↔ ((b - a) % n < x \/ (a - b) % n < y) := by
 constructor
 . rintro ⟨c, _, _, h1, h2⟩
   have e1 := Int.emod_add_mul_ediv (c - a) n
   have e2 := Int.emod_add_mul_ediv (c - b) n
   have p1 := Int.emod_nonneg (c - a) (by omega : n ≠ 0)
   have p2 := Int.emod_nonneg (c - b) (by omega : n ≠ 0)
   have l1 := Int.emod_lt_of_pos (c - a) hn
   have l2 := Int.emod_lt_of_pos (c - b) hn
   generalize (c - a) % n = u at *
   generalize (c - b) % n = v at *
   generalize (c - a) / n = q1 at *
   generalize (c - b) / n = q2 at *
   rcases Int.le_total v u with h | h
   . left
     have : b - a = (u - v) + n * (q1 - q2) := by rw [Int.mul_sub]; omega
     rw [this, Int.add_mul_emod_self_left, Int.emod_eq_of_lt (by omega) (by omega)]
     omega
   . right
     have : a - b = (v - u) + n * (q2 - q1) := by rw [Int.mul_sub]; omega
     rw [this, Int.add_mul_emod_self_left, Int.emod_eq_of_lt (by omega) (by omega)]
     omega
 . rintro (h | h)
   . refine ⟨b % n, Int.emod_nonneg _ (by omega), Int.emod_lt_of_pos _ hn, ?_, ?_⟩
     . rw [Int.emod_sub_emod]; exact h
     . rw [Int.emod_sub_emod, Int.sub_self, Int.zero_emod]; exact hy
   . refine ⟨a % n, Int.emod_nonneg _ (by omega), Int.emod_lt_of_pos _ hn, ?_, ?_⟩
     . rw [Int.emod_sub_emod, Int.sub_self, Int.zero_emod]; exact hx
     . rw [Int.emod_sub_emod]; exact h
section
variable {f : Flow} {s : Sched}
def CL (f : Flow) (s : Sched) (i k : Nat) : Prop :=
 0 <= Need.Res (rd (Flow.Needs f) (i : Int)) /\ Need.Res (rd (Flow.Needs f) (i : Int)) = Need.Res (rd (Flow.Needs f) (k : Int)) /\ rd (Sched.Unit s) (i : Int) = rd (Sched.Unit s) (k : Int) /\
 0 < Need.Busy (rd (Flow.Needs f) (i : Int)) /\ 0 < Need.Busy (rd (Flow.Needs f) (k : Int)) /\
 (Sched.II s = 0 -> rd (Sched.Start s) (k : Int) - rd (Sched.Start s) (i : Int) < Need.Busy (rd (Flow.Needs f) (i : Int)) /\ rd (Sched.Start s) (i : Int) - rd (Sched.Start s) (k : Int) < Need.Busy (rd (Flow.Needs f) (k : Int))) /\
 (0 < Sched.II s -> (rd (Sched.Start s) (k : Int) - rd (Sched.Start s) (i : Int)) % Sched.II s < Need.Busy (rd (Flow.Needs f) (i : Int)) \/ (rd (Sched.Start s) (i : Int) - rd (Sched.Start s) (k : Int)) % Sched.II s < Need.Busy (rd (Flow.Needs f) (k : Int)))
def SELF (f : Flow) (s : Sched) (i : Nat) : Prop := 0 < Sched.II s /\ 0 <= Need.Res (rd (Flow.Needs f) (i : Int)) /\ Sched.II s < Need.Busy (rd (Flow.Needs f) (i : Int))
end
end Go.Proofs.YtjddmekfeckphaaGreatV
namespace Go.Proofs.YtjddmekfeckphaaGreatV
open Go Go.Vm
open Classical
section
variable {f : Flow} {s : Sched}
noncomputable def row (f : Flow) (s : Sched) (i : Nat) : List Arr2_3 := (if SELF f s i then [((i : Int), (i : Int), ())] else []) ++ pick (fun m => decide (CL f s i (i + 1 + m))) (fun m => ((i : Int), ((i + 1 + m : Nat) : Int), ())) ((Flow.Insts f).toNat - 1 - i)
noncomputable def clList (f : Flow) (s : Sched) : List Arr2_3 := (List.range (Flow.Insts f).toNat).flatMap (row f s)
structure LEGAL (f : Flow) (s : Sched) : Prop where
 depth : Sched.II s <= Sched.Depth s
 late : ∀ i, i < (Flow.Arcs f).length -> 0 <= slk f s i
 clash : clList f s = []
 params : Flow.Loop f = false -> ∀ p, p < (Sched.Params s).length -> rd (Sched.Params s) (p : Int) = 0
end
end Go.Proofs.YtjddmekfeckphaaGreatV
