/- Proofs about the functions, part 2 of 4. -/
import Derived.Test.YtjddmekfeckphaaM0
import Derived.Test.YtjddmekfeckphaaF
import Derived.KernelRfl
set_option linter.unusedVariables false
set_option linter.unusedSimpArgs false
namespace Go.Proofs.YtjddmekfeckphaaV
open Go Go.Vm
theorem FINI.len {g : Graph} {F : List Int} (h : FINI g F) : F.length = gN g := by
 have h1 := (pigeon (gN g) F h.nd fun x hx => by
  obtain ⟨v, rfl, hv⟩ := h.mem x hx
  omega).1
 have h2 := pigeon2 (gN g) F h.nd h.all
 omega
noncomputable def ARR (g : Graph) (F : List Int) (j r : Nat) (l : List Int) (v : Nat) : Int := if (v : Int) ∈ l then (r : Int) else NUM g F (j + 1) v
noncomputable def ARS (g : Graph) (F : List Int) (j r : Nat) (l : List Int) (y : Int) (p : Nat) (v : Nat) : Int := if (v : Int) ∈ l.take p then y else ARR g F j r l v
theorem round_prog (g : Graph) (hn : gN g <= 1000) {F : List Int} (hF : FINI g F) {j r : Nat} (hj : j < F.length) (hr : rd F (j : Int) = (r : Int)) (i : Int) :
 Ev (fun k => graph_Components.b.f k i (r : Int) (r : Int) (NEXT (TURN g)) (tb (gN g) (NUM g F (j + 1)))) (NEXT (TURN g), (), tb (gN g) (NUM g F j), ()) := by
 have hrn : r < gN g := by
  obtain ⟨v, e, hv⟩ := hF.mem _ (hr ▸ rd_mem (xs := F) (i := (j : Int)) (by omega) (by omega))
  omega
 have hT := TURN_gN g
 simp (disch := first | omega | (rw [tb_len]; omega)) only [graph_Components.b.f, ↓if_pos, tb_rd hrn]
 refine .dec (fun h0 => ?_) fun h0 => ?_
 . -- it has a number
   have hp := NUM_iff.1 h0
   refine (Ev.ret _).congr fun k => ?_
   congr 3
   refine Prod.ext (tb_congr fun v hv => ?_) rfl
   by_cases e : PAST g F (j + 1) v
   . rw [NUM_pos e, NUM_pos ((PAST_at hj hr v).2 (.inr e))]
   . rw [NUM_neg e, NUM_neg fun h => e (((PAST_at hj hr v).1 h).elim (fun h => PAST_same h hp) id)]
 . have hp : ¬ PAST g F (j + 1) r := fun h => h0 (NUM_iff.2 h)
   simp only [Int.toNat_natCast, tb_set]
   refine W.ev ?_
   -- the search
   have last : ∀ l : List Int, CLU g F j r l -> CSH g F j l l.length ->
    W (fun k => graph_Components.b.c15 k (r : Int) (l.length : Int) (NEXT (TURN g)) (tb (gN g) (ARR g F j r l)) l) (fun z => z = (NEXT (TURN g), (), tb (gN g) (NUM g F j), ())) := by
    intro l hc hs
    have hlen := hc.len
    have hpos : 0 < l.length := List.length_pos_of_mem hc.st
    have hend := hc.end hF hs hj hr hp
    refine .succ ?_
    simp (disch := omega) only [graph_Components.b.c15, ↓cdF]
    refine .bind (min_ev l hpos (by omega)) fun y ⟨hy1, p0, hp0, hy2⟩ => ?_
    have hy : y = (cmp g r : Int) := by
     obtain ⟨w, hw, hwn, _, _⟩ := hc.mem (rd l (p0 : Int)) (rd_mem (by omega) (by omega))
     have hws : Same g w r := (hend w).1 (hw ▸ rd_mem (by omega) (by omega))
     rw [hy2, hw]
     congr 1
     refine (cmp_is hws.symm fun u hu => ?_).symm
     obtain ⟨q, hq, e⟩ := mem_rd ((hend u).2 hu.symm)
     have := hy1 q hq
     omega
    have loop : ∀ (d p : Nat), p + d = l.length -> W (fun k => graph_Components.b.c26 k y (l.length : Int) (p : Int) (NEXT (TURN g)) (tb (gN g) (ARS g F j r l y p)) l) (fun z => z = (NEXT (TURN g), (), tb (gN g) (NUM g F j), ())) := by
     intro d
     induction d with
     | zero =>
       intro p hpd
       refine .succ ?_
       simp (disch := omega) only [graph_Components.b.c26, ↓cdF]
       refine .ret ?_
       refine Prod.ext rfl (Prod.ext rfl (Prod.ext (tb_congr fun v hv => ?_) rfl))
       unfold ARS ARR
       rw [List.take_of_length_le (by omega)]
       by_cases e : (v : Int) ∈ l
       . have hs2 := (hend v).1 e
         rw [if_pos e, NUM_pos ((PAST_at hj hr v).2 (.inl hs2)), hy, cmp_eq hs2]
       . rw [if_neg e, if_neg e]
         have hns : ¬ Same g v r := fun h => e ((hend v).2 h)
         by_cases e2 : PAST g F (j + 1) v
         . rw [NUM_pos e2, NUM_pos ((PAST_at hj hr v).2 (.inr e2))]
         . rw [NUM_neg e2, NUM_neg fun h => e2 (((PAST_at hj hr v).1 h).resolve_left hns)]
     | succ d ih =>
       intro p hpd
       have hpl : p < l.length := by omega
       obtain ⟨w, hw, hwn, _, _⟩ := hc.mem (rd l (p : Int)) (rd_mem (by omega) (by omega))
       refine .succ ?_
       simp (disch := first | omega | (rw [tb_len]; omega)) only [graph_Components.b.c26, ↓cdT, ↓if_pos, hw, Int.toNat_natCast, tb_set, w64_id]
       have e0 : (tb (gN g) fun u => if u = w then y else ARS g F j r l y p u) = tb (gN g) (ARS g F j r l y (p + 1)) := tb_congr fun u hu => by
        unfold ARS
        have hm := take_mem_succ hpl (u : Int)
        rw [hw] at hm
        by_cases e : u = w
        . subst e
          rw [if_pos rfl, if_pos (hm.2 (.inr rfl))]
        . rw [if_neg e]
          have : ((u : Int) ∈ l.take (p + 1)) ↔ (u : Int) ∈ l.take p := ⟨fun h => (hm.1 h).resolve_right (by omega), fun h => hm.2 (.inl h)⟩
          simp only [this]
       rw [e0]
       exact ih (p + 1) (by omega)
    have := loop l.length 0 (by omega)
    have e0 : tb (gN g) (ARS g F j r l y 0) = tb (gN g) (ARR g F j r l) := tb_congr fun u hu => by unfold ARS; simp
    rw [e0] at this
    exact this
   have main : ∀ (d i : Nat), gN g = i + d -> ∀ l : List Int, CLU g F j r l -> CSH g F j l i -> i <= l.length ->
    W (fun k => graph_Components.b.c15 k (r : Int) (i : Int) (NEXT (TURN g)) (tb (gN g) (ARR g F j r l)) l) (fun z => z = (NEXT (TURN g), (), tb (gN g) (NUM g F j), ())) := by
    intro d
    induction d with
    | zero =>
      intro i hi l hc hs hil
      have := hc.len
      obtain rfl : i = l.length := by omega
      exact last l hc hs
    | succ d ih =>
      intro i hi l hc hs hil
      by_cases hend : i = l.length
      . subst hend; exact last l hc hs
      . have hlen := hc.len
        have hil' : i < l.length := by omega
        obtain ⟨v, hv, hvn, _, _⟩ := hc.mem _ (rd_mem (xs := l) (i := (i : Int)) (by omega) (by omega))
        have hvT : v < gN (TURN g) := by omega
        have hsl := succs_len (TURN g) v
        refine .succ ?_
        simp (disch := first | omega | (rw [NEXT_len]; omega)) only [graph_Components.b.c15, ↓cdT, ↓if_pos, hv, NEXT_rd hvT]
        have loop : ∀ (e p : Nat), p + e = (succs (TURN g) v).length -> ∀ l2 : List Int, CLU g F j r l2 -> CSH g F j l2 i -> i < l2.length -> rd l2 (i : Int) = (v : Int) -> (∀ w : Nat, (w : Int) ∈ (succs (TURN g) v).take p -> (w : Int) ∈ l2 \/ PAST g F (j + 1) w) ->
         W (fun k => graph_Components.b.c18 k (r : Int) (i : Int) (succs (TURN g) v) ((succs (TURN g) v).length : Int) (p : Int) (NEXT (TURN g)) (tb (gN g) (ARR g F j r l2)) l2) (fun z => z = (NEXT (TURN g), (), tb (gN g) (NUM g F j), ())) := by
         intro e
         induction e with
         | zero =>
           intro p hp2 l2 hb2 hs2 hi2 hv2 ht
           refine .succ ?_
           simp (disch := omega) only [graph_Components.b.c18, ↓cdF, w64_id]
           refine ih (i + 1) (by omega) l2 hb2 (fun q hq hql v' w' e' ha' => ?_) (by omega)
           by_cases e2 : q = i
           . subst e2
             rw [hv2] at e'
             rw [<- show v = v' by omega] at ha'
             rw [List.take_of_length_le (by omega)] at ht
             exact ht w' (mem_succs.2 ⟨w', rfl, by rw [TURN_adj]; exact ha'⟩)
           . exact hs2 q (by omega) hql v' w' e' ha'
         | succ e ihe =>
           intro p hp2 l2 hb2 hs2 hi2 hv2 ht
           have hpl : p < (succs (TURN g) v).length := by omega
           obtain ⟨w, hw, haw⟩ : ∃ w : Nat, rd (succs (TURN g) v) (p : Int) = (w : Int) /\ adj (TURN g) v w = true := mem_succs.1 (rd_mem (by omega) (by omega))
           rw [TURN_adj] at haw
           have hwn := adj_l haw
           have hlen2 := hb2.len
           have htk : ∀ x, x ∈ (succs (TURN g) v).take (p + 1) ↔ x ∈ (succs (TURN g) v).take p \/ (w : Int) = x := fun x => by rw [take_mem_succ hpl, hw]
           refine .succ ?_
           simp (disch := first | omega | (rw [tb_len]; omega)) only [graph_Components.b.c18, ↓cdT, ↓if_pos, hw, tb_rd hwn, Int.toNat_natCast, tb_set, w64_id]
           have go : ∀ l3 : List Int, CLU g F j r l3 -> CSH g F j l3 i -> i < l3.length -> rd l3 (i : Int) = (v : Int) -> (∀ x, x ∈ l2 -> x ∈ l3) -> ((w : Int) ∈ l3 \/ PAST g F (j + 1) w) -> W (fun k => graph_Components.b.c18 k (r : Int) (i : Int) (succs (TURN g) v) ((succs (TURN g) v).length : Int) ((p : Int) + 1) (NEXT (TURN g)) (tb (gN g) (ARR g F j r l3)) l3) (fun z => z = (NEXT (TURN g), (), tb (gN g) (NUM g F j), ())) := by
            intro l3 h1 h2 h3 h4 h5 h6
            have := ihe (p + 1) (by omega) l3 h1 h2 h3 h4 fun x hx => by
             rcases (htk _).1 hx with hx | hx
             . exact (ht x hx).imp_left (h5 _)
             . rw [<- show w = x by omega]; exact h6
            simpa only [natC] using this
           refine .dec (fun h4 => ?_) fun h4 => ?_
           . have hnl : (w : Int) ∉ l2 := fun h => by
              unfold ARR at h4
              rw [if_pos h] at h4; omega
             have hnp : ¬ PAST g F (j + 1) w := fun h => by
              unfold ARR at h4
              rw [if_neg hnl, NUM_pos h] at h4; omega
             simp (disch := first | omega | (simp only [List.length_cons, List.length_nil]; omega)) only [↓bleT]
             have e0 : (tb (gN g) fun u => if u = w then (r : Int) else ARR g F j r l2 u) = tb (gN g) (ARR g F j r (l2 ++ [(w : Int)])) := tb_congr fun u hu => by
              unfold ARR
              simp only [List.mem_append, List.mem_singleton]
              by_cases e : u = w
              . subst e; simp
              . have : (u : Int) ≠ (w : Int) := by omega
                simp only [if_neg e, this, or_false]
             rw [e0]
             have hvm : (v : Int) ∈ l2 := hv2 ▸ rd_mem (by omega) (by omega)
             refine go _ (hb2.app hvm haw hnp hnl) (fun q hq hql v' w' e' ha' => ?_) (by simp; omega) (by rw [rd_app_l hi2]; exact hv2) (fun x hx => List.mem_append_left _ hx) (.inl (by simp))
             rw [rd_app_l (by omega)] at e'
             exact (hs2 q hq (by omega) v' w' e' ha').imp_left (List.mem_append_left _)
           . refine go l2 hb2 hs2 hi2 hv2 (fun _ h => h) ?_
             by_cases e : (w : Int) ∈ l2
             . exact .inl e
             . unfold ARR at h4
               rw [if_neg e] at h4
               exact .inr (NUM_iff.1 (by omega))
        exact loop (succs (TURN g) v).length 0 (by omega) l hc hs hil' hv fun w hw => by simp at hw
   have := main (gN g) 0 (by omega) [(r : Int)] ⟨by simp, fun x hx => ⟨r, by simpa using hx, hrn, hp, .refl _⟩, by simp⟩ (fun q hq => absurd hq (Nat.not_lt_zero _)) (by simp)
   have e0 : (tb (gN g) fun u => if u = r then (r : Int) else NUM g F (j + 1) u) = tb (gN g) (ARR g F j r [(r : Int)]) := tb_congr fun u hu => by
    unfold ARR
    simp only [List.mem_singleton]
    by_cases e : u = r
    . subst e; simp
    . have : (u : Int) ≠ (r : Int) := by omega
      simp only [if_neg e, if_neg this]
   rw [e0]
   exact this
end Go.Proofs.YtjddmekfeckphaaV
namespace Go.Proofs.YtjddmekfeckphaaV
open Go Go.Vm
theorem rounds_prog (g : Graph) (hn : gN g <= 1000) {F : List Int} (hF : FINI g F) : ∀ m : Nat, m <= F.length ->
 Ev (fun k => Vm.rst (graph_Components.rf k) F m (NEXT (TURN g), (), tb (gN g) (fun _ => (-1 : Int)), ())) (NEXT (TURN g), (), tb (gN g) (NUM g F (F.length - m)), ())
 | 0, _ => by
   refine (Ev.ret _).congr fun k => ?_
   show some _ = some _
   congr 3
   refine Prod.ext (tb_congr fun v hv => ?_) rfl
   exact (NUM_neg (fun ⟨i, b, h1, h2, _⟩ => by omega)).symm
 | m + 1, hm => by
   have ih := rounds_prog g hn hF m (by omega)
   show Ev (fun k => (Vm.rst (graph_Components.rf k) F m (NEXT (TURN g), (), tb (gN g) (fun _ => (-1 : Int)), ())).bind fun d => graph_Components.rf k d ((F.length - 1 - m : Nat) : Int) (F.getD (F.length - 1 - m) 0)) _
   refine Ev.bind ih ?_
   obtain ⟨j, hj⟩ : ∃ j : Nat, F.length - 1 - m = j := ⟨_, rfl⟩
   have hjl : j < F.length := by omega
   obtain ⟨r, hr, hrn⟩ := hF.mem _ (rd_mem (xs := F) (i := (j : Int)) (by omega) (by omega))
   have e1 : F.getD j 0 = (r : Int) := by
    rw [<- hr, rd_eq hjl]
    simp [hjl]
   rw [hj, e1, show F.length - m = j + 1 by omega, show F.length - (m + 1) = j by omega]
   exact round_prog g hn hF hjl hr _
theorem Components_prog (g : Graph) (hn : gN g <= 1000) (hl : g.2.1.length <= 1000000) : Ev (fun k => graph_Components.f k g) (COMPS g) := by
 refine W.ev ?_
 simp only [graph_Components.f]
 refine .bindEv (Next_prog g hl) (.bind (finished_prog g hn) fun F hF => .bindEv (Turn_prog g hn hl) ?_)
 have hT := TURN_gN g
 have hLT : (TURN g).2.1.length <= 1000000 := by
  have := LINKS_len g
  have h2 : gN g * gN g <= 1000 * 1000 := Nat.mul_le_mul hn hn
  show (LINKS g).length <= 1000000
  omega
 refine .bindEv (Next_prog (TURN g) hLT) ?_
 have hFl := hF.len
 simp (disch := omega) only [↓if_pos, List.length_replicate, Int.toNat_natCast]
 have e0 : List.replicate F.length (0 : Int) = tb (gN g) fun v => if v < 0 then (-1 : Int) else 0 := by rw [hFl, tb_rep]; exact tb_congr fun c hc => by simp
 rw [e0]
 have loop : ∀ (d i : Nat), i + d = gN g -> W (fun k => graph_Components.c5 k (F.length : Int) (i : Int) F (NEXT (TURN g)) (tb (gN g) fun v => if v < i then (-1 : Int) else 0)) (fun z => z = COMPS g) := by
  intro d
  induction d with
  | zero =>
    intro i hi
    refine .succ ?_
    simp (disch := omega) only [graph_Components.c5, ↓cdF]
    have e1 : (tb (gN g) fun v => if v < i then (-1 : Int) else 0) = tb (gN g) fun _ => (-1 : Int) := tb_congr fun c hc => by rw [if_pos (by omega)]
    rw [e1]
    simp only [graph_Components.c9]
    have hb : Nat.ble F.length 1073741824 = true := by simp; omega
    rw [hb]
    simp only [cond_true]
    refine .bindEv (rounds_prog g hn hF F.length (Nat.le_refl _)) ?_
    refine .ret ?_
    refine tb_congr fun v hv => ?_
    obtain ⟨i, hi, e⟩ := mem_rd (hF.all v hv)
    exact NUM_pos ⟨i, v, by omega, hi, e, .refl _⟩
  | succ d ih =>
    intro i hi
    refine .succ ?_
    simp (disch := first | omega | (rw [tb_len]; omega)) only [graph_Components.c5, ↓cdT, ↓if_pos, Int.toNat_natCast, tb_set, w64_id]
    have e1 : (tb (gN g) fun d => if d = i then (-1 : Int) else if d < i then (-1 : Int) else 0) = tb (gN g) fun v => if v < i + 1 then (-1 : Int) else 0 := tb_congr fun c hc => by
     by_cases e : c = i
     . subst e; rw [if_pos rfl, if_pos (by omega)]
     . rw [if_neg e]
       by_cases e2 : c < i
       . rw [if_pos e2, if_pos (by omega)]
       . rw [if_neg e2, if_neg (by omega)]
    rw [e1]
    have := ih (i + 1) (by omega)
    simpa only [natC] using this
 exact loop (gN g) 0 (by omega)
end Go.Proofs.YtjddmekfeckphaaV
namespace Go.Proofs.YtjddmekfeckphaaV
open Go Go.Vm
abbrev Flow.N (f : Flow) : Int := Flow.Insts f + Flow.Params f
def VArc (f : Flow) (a : Arc) : Prop := 0 <= Arc.From a /\ Arc.From a <= Flow.N f /\ 0 <= Arc.To a /\ Arc.To a <= Flow.N f + 1 /\ 0 <= Arc.Lat a /\ Arc.Lat a <= 4096 /\ 0 <= Arc.Dist a /\ Arc.Dist a <= 256 /\ (Flow.Loop f = false -> Arc.Dist a = 0)
def VHead (f : Flow) (v : Nat) : Prop := rd (Flow.Arcs f) (v : Int) = (Flow.N f, if (v : Int) = Flow.N f then Flow.N f + 1 else (v : Int), 0, 0, ())
def VRes (r : Resource) : Prop := 1 <= Resource.Kind r /\ Resource.Kind r <= 4 /\ 1 <= Resource.Count r /\ Resource.Count r <= 1024
def VTail (f : Flow) (v : Nat) : Prop := Arc.From (rd (Flow.Arcs f) (Flow.N f + 1 + v)) = v /\ Arc.To (rd (Flow.Arcs f) (Flow.N f + 1 + v)) = Flow.N f + 1 /\ Arc.Dist (rd (Flow.Arcs f) (Flow.N f + 1 + v)) = 0 /\
 ((v : Int) < Flow.Insts f -> 1 <= Arc.Lat (rd (Flow.Arcs f) (Flow.N f + 1 + v)) /\ Need.Busy (rd (Flow.Needs f) (v : Int)) <= Arc.Lat (rd (Flow.Arcs f) (Flow.N f + 1 + v)))
def VNeed (f : Flow) (x : Need) : Prop := (Need.Res x = -1 /\ Need.Busy x = 0) \/ (0 <= Need.Res x /\ Need.Res x < ((Flow.Res f).length : Int) /\ 1 <= Need.Busy x /\ Need.Busy x <= 256)
structure VALID (f : Flow) : Prop where
 i0 : 0 <= Flow.Insts f
 i1 : Flow.Insts f <= 4096
 p0 : 0 <= Flow.Params f
 p1 : Flow.Params f <= 4094
 needs : ((Flow.Needs f).length : Int) = Flow.Insts f
 arcs : ∀ i, i < (Flow.Arcs f).length -> VArc f (rd (Flow.Arcs f) (i : Int))
 len : 2 * Flow.N f + 1 <= ((Flow.Arcs f).length : Int)
 head : ∀ v : Nat, v < (Flow.N f).toNat + 1 -> VHead f v
 res : ∀ i, i < (Flow.Res f).length -> VRes (rd (Flow.Res f) (i : Int))
 tail : ∀ v : Nat, v < (Flow.N f).toNat -> VTail f v
 need : ∀ i, i < (Flow.Needs f).length -> VNeed f (rd (Flow.Needs f) (i : Int))
theorem eqArc {a b : Arc} : eqB Arc.T a b = true ↔ a = b := by
 obtain ⟨a1, a2, a3, a4, _⟩ := a
 obtain ⟨b1, b2, b3, b4, _⟩ := b
 simp [eqB]
structure SIZES (f : Flow) : Prop where
 arcs : (Flow.Arcs f).length <= 1000000000
 res : (Flow.Res f).length <= 1000000000
 needs : (Flow.Needs f).length <= 1000000000
section
variable {f : Flow}
theorem framed14 (S : SIZES f) {Q : Prop} (i0 : 0 <= Flow.Insts f) (i1 : Flow.Insts f <= 4096) (p0 : 0 <= Flow.Params f) (p1 : Flow.Params f <= 4094) (hl : 2 * Flow.N f + 1 <= ((Flow.Arcs f).length : Int)) (hnd : ((Flow.Needs f).length : Int) = Flow.Insts f)
 (hQ : Q ↔ ∀ v : Nat, v < (Flow.N f).toNat -> VTail f v) : EvP (fun k => dataflow_framed.c14 k (Flow.N f) (Flow.N f) 0 f) Q := by
 have hNe : Flow.N f = Flow.Insts f + Flow.Params f := rfl
 have hN : ((Flow.N f).toNat : Int) = Flow.N f := by omega
 have hs := S.arcs
 refine EvP.all' 1 (c := fun k i => dataflow_framed.c14 k (Flow.N f) (Flow.N f) (i : Int) f) (n := (Flow.N f).toNat) (P := VTail f) (fun q => hQ.1 q) (fun i hi k => ?_) (fun h => ?_)
 . have h1 : (i : Int) < Flow.N f := by omega
   simp only [dataflow_framed.c14, dataflow_End.f, Option.bind_some, natC]
   simp (disch := omega) only [w64_id]
   rw [decide_eq_true h1, if_pos (by omega)]
   unfold VTail
   simp only [cond_true, lt_mx]
   clear hQ
   generalize rd (Flow.Arcs f) (Flow.N f + 1 + (i : Int)) = a
   generalize dataflow_framed.c14 k _ _ _ _ = r
   have hb : ((i : Int) < Flow.Insts f) -> (0 <= (i : Int) /\ (i : Int) < ((Flow.Needs f).length : Int)) := fun h => by omega
   generalize rd (Flow.Needs f) (i : Int) = z at *
   obtain ⟨a1, a2, a3, a4, _⟩ := a
   obtain ⟨z1, z2, _⟩ := z
   unfold Flow.N
   generalize ((Flow.Needs f).length : Int) = L at *
   clear h1 hi hs hN hNe hnd hl p1 p0 i1 i0 S
   generalize Flow.Insts f = I at *
   generalize Flow.Params f = p at *
   grind (splits := 40)
 . refine EvP.step (.tt (hQ.2 h)) fun k => ?_
   simp only [dataflow_framed.c14]
   rw [hN]
   simp
theorem framed5 (S : SIZES f) {Q : Prop} (i0 : 0 <= Flow.Insts f) (i1 : Flow.Insts f <= 4096) (p0 : 0 <= Flow.Params f) (p1 : Flow.Params f <= 4094) (hl : 2 * Flow.N f + 1 <= ((Flow.Arcs f).length : Int)) (hnd : ((Flow.Needs f).length : Int) = Flow.Insts f)
 (hQ : Q ↔ (∀ v : Nat, v < (Flow.N f).toNat + 1 -> VHead f v) /\ ∀ v : Nat, v < (Flow.N f).toNat -> VTail f v) : EvP (fun k => dataflow_framed.c5 k (Flow.N f) (Flow.N f + 1) 0 f) Q := by
 have hNe : Flow.N f = Flow.Insts f + Flow.Params f := rfl
 have hN : ((Flow.N f).toNat : Int) = Flow.N f := by omega
 have hs := S.arcs
 refine EvP.all' 2 (c := fun k i => dataflow_framed.c5 k (Flow.N f) (Flow.N f + 1) (i : Int) f) (n := (Flow.N f).toNat + 1) (P := VHead f) (fun q => (hQ.1 q).1) (fun i hi k => ?_) (fun h => ?_)
 . have h1 : (i : Int) < Flow.N f + 1 := by omega
   show _ /\ dataflow_framed.c5 (k + 1 + 1) _ _ _ _ = _ \/ _ /\ dataflow_framed.c5 (k + 1 + 1) _ _ _ _ = _
   simp only [dataflow_framed.c5, dataflow_framed.c10, dataflow_End.f, Option.bind_some, natC]
   simp (disch := omega) only [w64_id]
   have hb : 0 <= (i : Int) /\ (i : Int) < ((Flow.Arcs f).length : Int) := by omega
   rw [decide_eq_true h1]
   simp only [if_pos hb, cond_true]
   unfold VHead
   by_cases he : (i : Int) = Flow.N f
   . rw [decide_eq_true he, if_pos he]
     simp only [cond_true]
     by_cases hq : rd (Flow.Arcs f) (i : Int) = (Flow.N f, Flow.N f + 1, 0, 0, ())
     . exact .inl ⟨hq, by rw [eqArc.2 hq]; rfl⟩
     . exact .inr ⟨hq, by rw [Bool.eq_false_iff.2 (fun e => hq (eqArc.1 e))]; rfl⟩
   . rw [decide_eq_false he, if_neg he]
     simp only [cond_false]
     by_cases hq : rd (Flow.Arcs f) (i : Int) = (Flow.N f, (i : Int), 0, 0, ())
     . exact .inl ⟨hq, by rw [eqArc.2 hq]; rfl⟩
     . exact .inr ⟨hq, by rw [Bool.eq_false_iff.2 (fun e => hq (eqArc.1 e))]; rfl⟩
 . refine EvP.step (framed14 S i0 i1 p0 p1 hl hnd (Q := Q) (hQ.trans ⟨fun q => q.2, fun q => ⟨h, q⟩⟩)) fun k => ?_
   simp only [dataflow_framed.c5]
   rw [decide_eq_false (by omega)]
   rfl
theorem framed_ev (S : SIZES f) (i0 : 0 <= Flow.Insts f) (i1 : Flow.Insts f <= 4096) (p0 : 0 <= Flow.Params f) (p1 : Flow.Params f <= 4094) (hnd : ((Flow.Needs f).length : Int) = Flow.Insts f) :
 EvP (fun k => dataflow_framed.f k f) (2 * Flow.N f + 1 <= ((Flow.Arcs f).length : Int) /\ (∀ v : Nat, v < (Flow.N f).toNat + 1 -> VHead f v) /\ ∀ v : Nat, v < (Flow.N f).toNat -> VTail f v) := by
 have hNe : Flow.N f = Flow.Insts f + Flow.Params f := rfl
 have hs := S.arcs
 simp only [dataflow_framed.f, dataflow_Source.f, Option.bind_some]
 simp (disch := omega) only [w64_id]
 refine .cond (fun h => .ff fun q => ?_) (fun h => ?_)
 . have := of_decide_eq_true h
   omega
 . have h := of_decide_eq_false h
   exact framed5 S i0 i1 p0 p1 (by omega) hnd ⟨fun q => q.2, fun q => ⟨by omega, q⟩⟩
theorem valid19 (S : SIZES f) {Q : Prop} (i0 : 0 <= Flow.Insts f) (i1 : Flow.Insts f <= 4096) (p0 : 0 <= Flow.Params f) (p1 : Flow.Params f <= 4094) (hnd : ((Flow.Needs f).length : Int) = Flow.Insts f)
 (hQ : Q ↔ (∀ i, i < (Flow.Needs f).length -> VNeed f (rd (Flow.Needs f) (i : Int))) /\ 2 * Flow.N f + 1 <= ((Flow.Arcs f).length : Int) /\ (∀ v : Nat, v < (Flow.N f).toNat + 1 -> VHead f v) /\ ∀ v : Nat, v < (Flow.N f).toNat -> VTail f v) :
 EvP (fun k => dataflow_Valid.c19 k (Flow.Needs f) ((Flow.Needs f).length : Int) 0 f) Q := by
 have hs := S.needs
 have hs2 := S.res
 refine EvP.all' 1 (c := fun k i => dataflow_Valid.c19 k (Flow.Needs f) ((Flow.Needs f).length : Int) (i : Int) f) (n := (Flow.Needs f).length) (P := fun i => VNeed f (rd (Flow.Needs f) (i : Int))) (fun q => (hQ.1 q).1) (fun i hi k => ?_) (fun h => ?_)
 . have h1 : (i : Int) < ((Flow.Needs f).length : Int) := by omega
   simp only [dataflow_Valid.c19, dataflow_between.f, natC]
   simp (disch := omega) only [w64_id]
   rw [decide_eq_true h1, if_pos (by omega)]
   unfold VNeed
   generalize rd (Flow.Needs f) (i : Int) = a
   simp only [cond_true]
   grind
 . refine EvP.step (g := fun k => (dataflow_framed.f k f).bind fun y => some y) (.iff (.test (framed_ev S i0 i1 p0 p1 hnd) (fun h2 => .tt h2) (fun h2 => .ff h2)) ?_) fun k => ?_
   . rw [hQ]; exact ⟨fun q => ⟨h, q⟩, fun q => q.2⟩
   . simp only [dataflow_Valid.c19]
     rw [decide_eq_false (by omega)]
     rfl
theorem valid13 (S : SIZES f) {Q : Prop} (i0 : 0 <= Flow.Insts f) (i1 : Flow.Insts f <= 4096) (p0 : 0 <= Flow.Params f) (p1 : Flow.Params f <= 4094) (hnd : ((Flow.Needs f).length : Int) = Flow.Insts f)
 (hQ : Q ↔ (∀ i, i < (Flow.Res f).length -> VRes (rd (Flow.Res f) (i : Int))) /\ (∀ i, i < (Flow.Needs f).length -> VNeed f (rd (Flow.Needs f) (i : Int))) /\ 2 * Flow.N f + 1 <= ((Flow.Arcs f).length : Int) /\ (∀ v : Nat, v < (Flow.N f).toNat + 1 -> VHead f v) /\ ∀ v : Nat, v < (Flow.N f).toNat -> VTail f v) :
 EvP (fun k => dataflow_Valid.c13 k (Flow.Res f) ((Flow.Res f).length : Int) 0 f) Q := by
 have hs := S.res
 refine EvP.all' 1 (c := fun k i => dataflow_Valid.c13 k (Flow.Res f) ((Flow.Res f).length : Int) (i : Int) f) (n := (Flow.Res f).length) (P := fun i => VRes (rd (Flow.Res f) (i : Int))) (fun q => (hQ.1 q).1) (fun i hi k => ?_) (fun h => ?_)
 . have h1 : (i : Int) < ((Flow.Res f).length : Int) := by omega
   simp only [dataflow_Valid.c13, dataflow_between.f, natC]
   simp (disch := omega) only [w64_id]
   rw [decide_eq_true h1, if_pos (by omega)]
   unfold VRes
   generalize rd (Flow.Res f) (i : Int) = a
   simp only [cond_true]
   generalize dataflow_Valid.c13 k _ _ _ _ = r
   obtain ⟨a1, a2, a3, a4, _⟩ := a
   clear hQ h1 hi hs hnd p1 p0 i1 i0 S
   grind (splits := 40)
 . refine EvP.step (valid19 S i0 i1 p0 p1 hnd (Q := Q) (hQ.trans ⟨fun q => q.2, fun q => ⟨h, q⟩⟩)) fun k => ?_
   simp only [dataflow_Valid.c13]
   rw [decide_eq_false (by omega)]
   rfl
theorem valid7 (S : SIZES f) {Q : Prop} (i0 : 0 <= Flow.Insts f) (i1 : Flow.Insts f <= 4096) (p0 : 0 <= Flow.Params f) (p1 : Flow.Params f <= 4094) (hnd : ((Flow.Needs f).length : Int) = Flow.Insts f) {x : Int} (hx : x = bif Flow.Loop f then 256 else 0)
 (hQ : Q ↔ (∀ i, i < (Flow.Arcs f).length -> VArc f (rd (Flow.Arcs f) (i : Int))) /\ (∀ i, i < (Flow.Res f).length -> VRes (rd (Flow.Res f) (i : Int))) /\ (∀ i, i < (Flow.Needs f).length -> VNeed f (rd (Flow.Needs f) (i : Int))) /\ 2 * Flow.N f + 1 <= ((Flow.Arcs f).length : Int) /\ (∀ v : Nat, v < (Flow.N f).toNat + 1 -> VHead f v) /\ ∀ v : Nat, v < (Flow.N f).toNat -> VTail f v) :
 EvP (fun k => dataflow_Valid.c7 k x (Flow.Arcs f) ((Flow.Arcs f).length : Int) 0 f) Q := by
 have hs := S.arcs
 refine EvP.all' 1 (c := fun k i => dataflow_Valid.c7 k x (Flow.Arcs f) ((Flow.Arcs f).length : Int) (i : Int) f) (n := (Flow.Arcs f).length) (P := fun i => VArc f (rd (Flow.Arcs f) (i : Int))) (fun q => (hQ.1 q).1) (fun i hi k => ?_) (fun h => ?_)
 . have h1 : (i : Int) < ((Flow.Arcs f).length : Int) := by omega
   simp only [dataflow_Valid.c7, dataflow_between.f, dataflow_Source.f, dataflow_End.f, Option.bind_some, natC]
   simp (disch := omega) only [w64_id]
   rw [decide_eq_true h1, if_pos (by omega)]
   unfold VArc Flow.N
   generalize rd (Flow.Arcs f) (i : Int) = a
   generalize Flow.Loop f = lo at hx ⊢
   simp only [cond_true]
   generalize dataflow_Valid.c7 k _ _ _ _ _ = r
   obtain ⟨a1, a2, a3, a4, _⟩ := a
   generalize Flow.Insts f + Flow.Params f = N at *
   clear hQ h1 hi hs hnd p1 p0 i1 i0 S
   cases lo <;> simp only [cond_true, cond_false] at hx <;> subst hx <;> grind (splits := 40)
 . refine EvP.step (valid13 S i0 i1 p0 p1 hnd (Q := Q) (hQ.trans ⟨fun q => q.2, fun q => ⟨h, q⟩⟩)) fun k => ?_
   simp only [dataflow_Valid.c7]
   rw [decide_eq_false (by omega)]
   rfl
theorem valid_prog (S : SIZES f) : EvP (fun k => dataflow_Valid.f k f) (VALID f) := by
 simp only [dataflow_Valid.f, dataflow_between.f]
 by_cases h1 : 0 <= Flow.Insts f /\ Flow.Insts f <= 4096
 . by_cases h2 : 0 <= Flow.Params f /\ Flow.Params f <= 4094
   . by_cases h3 : ((Flow.Needs f).length : Int) = Flow.Insts f
     . have go : ∀ x, x = (bif Flow.Loop f then 256 else 0) -> EvP (fun k => dataflow_Valid.c6 k x f) (VALID f) := fun x hx => by
        refine EvP.step (valid7 S h1.1 h1.2 h2.1 h2.2 h3 hx (Q := VALID f) ⟨fun v => ⟨v.arcs, v.res, v.need, v.len, v.head, v.tail⟩, fun ⟨a1, a2, a3, a4, a5, a6⟩ => ⟨h1.1, h1.2, h2.1, h2.2, h3, a1, a4, a5, a2, a6, a3⟩⟩) fun k => ?_
        simp only [dataflow_Valid.c6]
       simp only [decide_eq_true h1.1, decide_eq_true h1.2, decide_eq_true h2.1, decide_eq_true h2.2, decide_eq_true h3, cond_true, cond_false, Option.bind_some, Bool.not_true]
       cases hl : Flow.Loop f
       . exact go 0 (by rw [hl]; rfl)
       . exact go 256 (by rw [hl]; rfl)
     . refine EvP.congr (.ff (fun v => h3 v.needs)) fun k => ?_
       simp [h1, h2, h3]
   . refine EvP.congr (.ff (fun v => h2 ⟨v.p0, v.p1⟩)) fun k => ?_
     grind
 . refine EvP.congr (.ff (fun v => h1 ⟨v.i0, v.i1⟩)) fun k => ?_
   grind
end
end Go.Proofs.YtjddmekfeckphaaV
namespace Go.Proofs.YtjddmekfeckphaaV
open Go Go.Vm
section
variable {f : Flow}
structure FITS (f : Flow) (s : Sched) : Prop where
 start : ((Sched.Start s).length : Int) = Flow.Insts f
 unit : ((Sched.Unit s).length : Int) = Flow.Insts f
 params : ((Sched.Params s).length : Int) = Flow.Params f
 ii : 0 <= Sched.II s /\ Sched.II s <= 256
 loop : 0 < Sched.II s ↔ Flow.Loop f = true
 depth : 1 <= Sched.Depth s /\ Sched.Depth s <= 4096
 starts : ∀ i, i < (Sched.Start s).length -> 0 <= rd (Sched.Start s) (i : Int) /\ rd (Sched.Start s) (i : Int) <= 4096
 parms : ∀ i, i < (Sched.Params s).length -> 0 <= rd (Sched.Params s) (i : Int) /\ rd (Sched.Params s) (i : Int) <= 4096
 units : ∀ i, i < (Sched.Unit s).length -> (Need.Res (rd (Flow.Needs f) (i : Int)) < 0 -> rd (Sched.Unit s) (i : Int) = -1) /\
  (0 <= Need.Res (rd (Flow.Needs f) (i : Int)) -> 0 <= rd (Sched.Unit s) (i : Int) /\ rd (Sched.Unit s) (i : Int) < Resource.Count (rd (Flow.Res f) (Need.Res (rd (Flow.Needs f) (i : Int)))))
structure SSIZES (s : Sched) : Prop where
 start : (Sched.Start s).length <= 1000000000
 unit : (Sched.Unit s).length <= 1000000000
 params : (Sched.Params s).length <= 1000000000
variable {s : Sched}
end
end Go.Proofs.YtjddmekfeckphaaV
namespace Go.Proofs.YtjddmekfeckphaaV
open Go Go.Vm
section
variable {f : Flow}
end
end Go.Proofs.YtjddmekfeckphaaV
namespace Go.Proofs.YtjddmekfeckphaaV.Diff
open Go Go.Vm
theorem wrap_id {n : Int} (h0 : -9223372036854775808 <= n) (h1 : n <= 9223372036854775807) : w64 n = n := w64_id h0 (by omega)
theorem rd_eq {α : Type} [Inhabited α] {xs : List α} {i : Int} {j : Nat} (h : i = j) (hl : j < xs.length) : rd xs i = xs[j] := by
 subst h; exact Go.Vm.rd_eq hl
theorem rd_set {α : Type} [Inhabited α] {xs : List α} {i j : Int} {v : α} (hi : 0 <= i) (hil : i < xs.length) (hj : 0 <= j) : rd (xs.set i.toNat v) j = if j = i then v else rd xs j := by
 obtain ⟨a, rfl⟩ : ∃ a : Nat, i = (a : Int) := ⟨i.toNat, by omega⟩
 obtain ⟨b, rfl⟩ : ∃ b : Nat, j = (b : Int) := ⟨j.toNat, by omega⟩
 rw [Int.toNat_natCast, Go.Vm.rd_set (by omega)]
 by_cases h : a = b
 . subst h; rw [if_pos rfl, if_pos rfl]
 . rw [if_neg h, if_neg (by omega)]
theorem rd_replicate {α : Type} [Inhabited α] {n : Nat} {v : α} {i : Int} (h0 : 0 <= i) (h1 : i < n) : rd (List.replicate n v) i = v := by
 obtain ⟨a, rfl⟩ : ∃ a : Nat, i = (a : Int) := ⟨i.toNat, by omega⟩
 exact Go.Vm.rd_replicate (by omega)
theorem rd_ext {α : Type} [Inhabited α] {xs ys : List α} (hl : xs.length = ys.length) (h : ∀ i : Int, 0 <= i -> i < xs.length -> rd xs i = rd ys i) : xs = ys :=
 list_ext_rd hl fun i hi => h i (by omega) (by omega)
theorem W.step {α : Type} {g f : Nat -> Option α} {Q : α -> Prop} (h : ∀ k, g (k + 1) = f k) (e : W f Q) : W g Q := by
 obtain ⟨r, he, hq⟩ := e
 exact ⟨r, he.step h, hq⟩
theorem W.congr {α : Type} {g f : Nat -> Option α} {Q : α -> Prop} (h : ∀ k, g k = f k) (e : W f Q) : W g Q := by
 obtain ⟨r, he, hq⟩ := e
 exact ⟨r, he.congr h, hq⟩
theorem nodup_le : ∀ (n : Nat) (l : List Int), l.Nodup -> (∀ x ∈ l, 0 <= x /\ x < n) -> l.length <= n
 | 0, l, _, h => by
   cases l with
   | nil => simp
   | cons a r => have := h a List.mem_cons_self; omega
 | n + 1, l, hd, h => by
   have h1 := nodup_le n (l.erase (n : Int)) (hd.erase _) (fun x hx => by
    have hm := List.mem_of_mem_erase hx
    have hne : x ≠ n := fun e => by subst e; exact (List.Nodup.not_mem_erase hd) hx
    have := h x hm
    omega)
   have h2 : l.length <= (l.erase (n : Int)).length + 1 := by
    rw [List.length_erase]; split <;> omega
   omega
theorem pigeon (n : Nat) (f : Nat -> Int) (h : ∀ i, i <= n -> 0 <= f i /\ f i < n) : ∃ i j, i < j /\ j <= n /\ f i = f j := by
 apply Classical.byContradiction
 intro hc
 have hd : ((List.range (n + 1)).map f).Nodup := by
  rw [List.Nodup, List.pairwise_map]
  refine List.Pairwise.imp_of_mem (R := fun a b => a < b) ?_ List.pairwise_lt_range
  intro a b ha hb hab he
  exact hc ⟨a, b, hab, by have := List.mem_range.1 hb; omega, he⟩
 have := nodup_le n _ hd (fun x hx => by
  obtain ⟨i, hi, rfl⟩ := List.mem_map.1 hx
  exact h i (by have := List.mem_range.1 hi; omega))
 simp at this
 omega
def wt (a : Arc) (ii : Int) : Int := mn (mx (Arc.Lat a) (-1048576)) 1048576 - mn (mx ii 0) 256 * mn (mx (Arc.Dist a) (-1048576)) 1048576
theorem prod_le {x y : Int} (h0 : 0 <= x) (h1 : x <= 256) (h2 : -1048576 <= y) (h3 : y <= 1048576) : -268435456 <= x * y /\ x * y <= 268435456 := by
 constructor
 . have := Int.mul_le_mul_of_nonneg_left h2 h0
   omega
 . have := Int.mul_le_mul_of_nonneg_left h3 h0
   omega
theorem clamp_le (x lo hi : Int) (h : lo <= hi) : lo <= mn (mx x lo) hi /\ mn (mx x lo) hi <= hi := by unfold mn mx; omega
theorem wt_le (a : Arc) (ii : Int) : -269484032 <= wt a ii /\ wt a ii <= 269484032 := by
 have h1 := clamp_le (Arc.Lat a) (-1048576) 1048576 (by omega)
 have h2 := clamp_le (Arc.Dist a) (-1048576) 1048576 (by omega)
 have h3 := clamp_le ii 0 256 (by omega)
 have h4 := prod_le h3.1 h3.2 h2.1 h2.2
 unfold wt
 omega
theorem weight_f (a : Arc) (ii : Int) : diffcons_Weight.f a ii = some (wt a ii) := by
 have h1 := clamp_le (Arc.Lat a) (-1048576) 1048576 (by omega)
 have h2 := clamp_le (Arc.Dist a) (-1048576) 1048576 (by omega)
 have h3 := clamp_le ii 0 256 (by omega)
 have h4 := prod_le h3.1 h3.2 h2.1 h2.2
 unfold diffcons_Weight.f diffcons_limit.f
 simp only [Option.bind_some]
 rw [wrap_id (n := mn (mx ii 0) 256 * mn (mx (Arc.Dist a) (-1048576)) 1048576) (by omega) (by omega), wrap_id (by omega) (by omega)]
 rfl
def Inn (n : Int) (a : Arc) : Prop := 0 <= (Arc.From a) /\ (Arc.From a) < n /\ 0 <= (Arc.To a) /\ (Arc.To a) < n
instance (n : Int) (a : Arc) : Decidable (Inn n a) := by unfold Inn; infer_instance
theorem within_f (n : Int) (a : Arc) : diffcons_within.f a n = some (decide (Inn n a)) := by
 unfold diffcons_within.f
 by_cases h0 : 0 <= (Arc.From a) <;> by_cases h1 : (Arc.From a) < n <;> by_cases h2 : 0 <= (Arc.To a) <;> by_cases h3 : (Arc.To a) < n <;> simp [Inn, h0, h1, h2, h3]
def bnd (l : List Int) (v : Int) : Int := if v >= (l.length : Int) then 0 else mn (mx (rd l v) (-1073741824)) 1073741824
theorem bnd_le (l : List Int) (v : Int) : -1073741824 <= bnd l v /\ bnd l v <= 1073741824 := by
 unfold bnd
 split
 . omega
 . exact clamp_le _ _ _ (by omega)
theorem bound_f {l : List Int} {v : Int} (h : 0 <= v) : diffcons_bound.f l v = some (bnd l v) := by
 unfold diffcons_bound.f bnd diffcons_limit.f
 by_cases h1 : (l.length : Int) <= v
 . simp (disch := omega) only [↓cdT, if_pos]
 . simp (disch := omega) only [↓cdF, if_pos, if_neg, Option.bind_some]
def nod (n : Int) : Int := mn (mx n 0) 8192
theorem nodes_f (n : Int) : diffcons_nodes.f n = some (nod n) := by
 unfold diffcons_nodes.f diffcons_limit.f nod; rfl
theorem nod_le (n : Int) : 0 <= nod n /\ nod n <= 8192 := clamp_le _ _ _ (by omega)
def Feas (n : Int) (arcs : List Arc) (ii : Int) (p : Int -> Int) : Prop := ∀ i : Int, 0 <= i -> i < arcs.length -> Inn n (rd arcs i) -> p (Arc.From (rd arcs i)) + wt (rd arcs i) ii <= p (Arc.To (rd arcs i))
structure Inv (n : Int) (arcs : List Arc) (ii : Int) (lo : Int -> Int) (s b : List Int) (T : Int -> Int) (t0 j last : Int) : Prop where
 ls : (s.length : Int) = n
 lb : (b.length : Int) = n
 low : ∀ v, 0 <= v -> v < n -> lo v <= rd s v
 cap : ∀ v, 0 <= v -> v < n -> rd s v <= 1073741824 + (t0 + j) * 269484032
 least : ∀ p : Int -> Int, Feas n arcs ii p -> (∀ v, 0 <= v -> v < n -> lo v <= p v) -> ∀ v, 0 <= v -> v < n -> rd s v <= p v
 tn : ∀ v, 0 <= v -> v < n -> 0 <= T v /\ T v <= t0 + j
 byr : ∀ v, 0 <= v -> v < n -> (rd b v = -1 /\ T v = 0) \/ (0 < T v /\ 0 <= rd b v /\ rd b v < arcs.length /\ Inn n (rd arcs (rd b v)) /\ (Arc.To (rd arcs (rd b v))) = v /\
  rd s v <= rd s (Arc.From (rd arcs (rd b v))) + wt (rd arcs (rd b v)) ii /\ (T v <= T (Arc.From (rd arcs (rd b v))) -> rd s v < rd s (Arc.From (rd arcs (rd b v))) + wt (rd arcs (rd b v)) ii) /\ T v <= T (Arc.From (rd arcs (rd b v))) + arcs.length)
 sat : ∀ i : Int, 0 <= i -> i < arcs.length -> Inn n (rd arcs i) -> rd s (Arc.From (rd arcs i)) + wt (rd arcs i) ii <= rd s (Arc.To (rd arcs i)) \/ (if i < j then t0 + i else t0 - arcs.length + i) < T (Arc.From (rd arcs i))
 lst : (last = -1 /\ ∀ v, 0 <= v -> v < n -> T v <= t0) \/ (0 <= last /\ last < n /\ t0 < T last)
section
variable {n : Int} {arcs : List Arc} {ii : Int} {lo : Int -> Int} {s b : List Int} {T : Int -> Int} {t0 j last : Int}
theorem Inv.skip (h : Inv n arcs ii lo s b T t0 j last) (hj : 0 <= j) (hs : Inn n (rd arcs j) -> rd s (Arc.From (rd arcs j)) + wt (rd arcs j) ii <= rd s (Arc.To (rd arcs j))) : Inv n arcs ii lo s b T t0 (j + 1) last where
 ls := h.ls
 lb := h.lb
 low := h.low
 cap v h0 h1 := by have := h.cap v h0 h1; omega
 least := h.least
 tn v h0 h1 := by have := h.tn v h0 h1; omega
 byr := h.byr
 sat i h0 h1 hi := by
  by_cases e : i = j
  . subst e; exact Or.inl (hs hi)
  . rcases h.sat i h0 h1 hi with h2 | h2
    . exact Or.inl h2
    . right
      by_cases hlt : i < j
      . rw [if_pos (by omega)]; rw [if_pos hlt] at h2; exact h2
      . rw [if_neg (by omega)]; rw [if_neg hlt] at h2; exact h2
 lst := h.lst
theorem Inv.put (h : Inv n arcs ii lo s b T t0 j last) (hj : 0 <= j) (hjl : j < arcs.length) (hi : Inn n (rd arcs j)) (hv : rd s (Arc.To (rd arcs j)) < rd s (Arc.From (rd arcs j)) + wt (rd arcs j) ii) :
 Inv n arcs ii lo (s.set (Arc.To (rd arcs j)).toNat (rd s (Arc.From (rd arcs j)) + wt (rd arcs j) ii)) (b.set (Arc.To (rd arcs j)).toNat j) (fun x => if x = (Arc.To (rd arcs j)) then t0 + j + 1 else T x) t0 (j + 1) (Arc.To (rd arcs j)) := by
 have hA := h.sat j hj hjl hi
 rw [if_neg (by omega)] at hA
 have hT : t0 - arcs.length + j < T (Arc.From (rd arcs j)) := by
  rcases hA with hA | hA
  . omega
  . exact hA
 clear hA
 obtain ⟨hu0, hu1, hv0, hv1⟩ := id hi
 have hls := h.ls
 have hlb := h.lb
 have hw := wt_le (rd arcs j) ii
 have hself : (Arc.From (rd arcs j)) = (Arc.To (rd arcs j)) -> 0 < wt (rd arcs j) ii := fun e => by rw [e] at hv; omega
 generalize hS : rd s (Arc.From (rd arcs j)) + wt (rd arcs j) ii = S at hv
 have rs : ∀ x, 0 <= x -> rd (s.set (Arc.To (rd arcs j)).toNat S) x = if x = (Arc.To (rd arcs j)) then S else rd s x := fun x hx => rd_set hv0 (by omega) hx
 have rb : ∀ x, 0 <= x -> rd (b.set (Arc.To (rd arcs j)).toNat j) x = if x = (Arc.To (rd arcs j)) then j else rd b x := fun x hx => rd_set hv0 (by omega) hx
 have tu := h.tn _ hu0 hu1
 have tv := h.tn _ hv0 hv1
 refine ⟨by simpa using hls, by simpa using hlb, ?_, ?_, ?_, ?_, ?_, ?_, Or.inr ⟨hv0, hv1, by rw [if_pos rfl]; omega⟩⟩
 . intro v h0 h1
   rw [rs v h0]
   have := h.low v h0 h1
   split
   . rename_i e; subst e; omega
   . exact this
 . intro v h0 h1
   rw [rs v h0]
   have := h.cap v h0 h1
   have := h.cap _ hu0 hu1
   split <;> omega
 . intro p hp hlo v h0 h1
   rw [rs v h0]
   have h2 := h.least p hp hlo
   split
   . rename_i e
     have := hp j hj hjl hi
     have := h2 _ hu0 hu1
     subst e; omega
   . exact h2 v h0 h1
 . intro v h0 h1
   have := h.tn v h0 h1
   try dsimp only
   split <;> omega
 . intro v h0 h1
   rw [rb v h0]
   by_cases e : v = (Arc.To (rd arcs j))
   . right
     rw [if_pos e]
     try dsimp only
     rw [if_pos e, rs v h0, if_pos e, rs _ hu0]
     refine ⟨by omega, hj, hjl, hi, e.symm, ?_, ?_, ?_⟩
     . split
       . rename_i e2; have := hself e2; omega
       . omega
     . intro hle
       split
       . rename_i e2; have := hself e2; omega
       . rename_i e2; rw [if_neg e2] at hle; omega
     . split <;> omega
   . rw [if_neg e]
     rcases h.byr v h0 h1 with ⟨a1, a2⟩ | ⟨a1, a2, a3, a4, a5, a6, a7, a8⟩
     . left
       exact ⟨a1, by rw [if_neg e]; exact a2⟩
     . right
       try dsimp only
       rw [if_neg e, rs v h0, if_neg e, rs _ a4.1]
       refine ⟨a1, a2, a3, a4, a5, ?_, ?_, ?_⟩
       . split
         . rename_i e2; rw [e2] at a6; omega
         . exact a6
       . intro hle
         split
         . rename_i e2; rw [e2] at a6; omega
         . rename_i e2; rw [if_neg e2] at hle; exact a7 hle
       . split
         . rename_i e2; rw [e2] at a8; omega
         . exact a8
 . intro i h0 h1 hin
   obtain ⟨hiu0, hiu1, hiv0, hiv1⟩ := id hin
   rw [rs _ hiu0, rs _ hiv0]
   try dsimp only
   have tiu := h.tn _ hiu0 hiu1
   by_cases e : (Arc.From (rd arcs i)) = (Arc.To (rd arcs j))
   . right
     rw [if_pos e]
     split <;> omega
   . rw [if_neg e, if_neg e]
     by_cases ij : i = j
     . subst ij
       left
       rw [if_pos rfl]; omega
     . rcases h.sat i h0 h1 hin with h2 | h2
       . left
         split
         . rename_i e2; rw [e2] at h2; omega
         . exact h2
       . right
         by_cases hlt : i < j
         . rw [if_pos (by omega)]; rw [if_pos hlt] at h2; exact h2
         . rw [if_neg (by omega)]; rw [if_neg hlt] at h2; exact h2
theorem Inv.next (h : Inv n arcs ii lo s b T t0 j last) (hj : j = arcs.length) : Inv n arcs ii lo s b T (t0 + arcs.length) 0 (-1) where
 ls := h.ls
 lb := h.lb
 low := h.low
 cap v h0 h1 := by have := h.cap v h0 h1; omega
 least := h.least
 tn v h0 h1 := by have := h.tn v h0 h1; omega
 byr := h.byr
 sat i h0 h1 hi := by
  rcases h.sat i h0 h1 hi with h2 | h2
  . exact Or.inl h2
  . right
    rw [if_neg (by omega)]; rw [if_pos (by omega)] at h2; omega
 lst := Or.inl ⟨rfl, fun v h0 h1 => by have := h.tn v h0 h1; omega⟩
theorem Inv.feas (h : Inv n arcs ii lo s b T t0 j last) (hj : j = arcs.length) (hl : last < 0) : Feas n arcs ii (rd s) := by
 intro i h0 h1 hi
 rcases h.sat i h0 h1 hi with h2 | h2
 . exact h2
 . exfalso
   rw [if_pos (by omega)] at h2
   rcases h.lst with ⟨_, h3⟩ | ⟨h3, _⟩
   . have := h3 _ hi.1 hi.2.1
     omega
   . omega
end
def Path (n : Int) (arcs : List Arc) : List Int -> Int -> Int -> Prop
 | [], u, v => u = v
 | i :: c, u, v => 0 <= i /\ i < arcs.length /\ Inn n (rd arcs i) /\ (Arc.From (rd arcs i)) = u /\ Path n arcs c (Arc.To (rd arcs i)) v
def sumw (arcs : List Arc) (ii : Int) : List Int -> Int
 | [] => 0
 | i :: c => wt (rd arcs i) ii + sumw arcs ii c
def Cyc (n : Int) (arcs : List Arc) (ii : Int) (c : List Int) : Prop := c ≠ [] /\ (∃ u, Path n arcs c u u) /\ (c.map fun i => (Arc.From (rd arcs i))).Nodup /\ 0 < sumw arcs ii c
section
variable {n : Int} {arcs : List Arc} {ii : Int}
theorem Path.pot {p : Int -> Int} : ∀ {c : List Int} {u v : Int}, Path n arcs c u v -> (∀ i ∈ c, p (Arc.From (rd arcs i)) + wt (rd arcs i) ii <= p (Arc.To (rd arcs i))) -> p u + sumw arcs ii c <= p v
 | [], u, v, h, _ => by cases h; simp [sumw]
 | i :: c, u, v, ⟨h0, h1, h2, h3, h4⟩, hp => by
   have a := hp i List.mem_cons_self
   have b := Path.pot (p := p) h4 (fun k hk => hp k (List.mem_cons_of_mem _ hk))
   subst h3
   simp only [sumw]
   omega
theorem Path.mem {c : List Int} : ∀ {u v : Int}, Path n arcs c u v -> ∀ i ∈ c, 0 <= i /\ i < arcs.length /\ Inn n (rd arcs i) := by
 induction c with
 | nil => intro u v _ i hi; simp at hi
 | cons j c ih =>
   intro u v ⟨h0, h1, h2, h3, h4⟩ i hi
   rcases List.mem_cons.1 hi with rfl | hi
   . exact ⟨h0, h1, h2⟩
   . exact ih h4 i hi
theorem Cyc.not_feas {c : List Int} (h : Cyc n arcs ii c) {p : Int -> Int} (hp : Feas n arcs ii p) : False := by
 obtain ⟨_, ⟨u, hu⟩, _, hs⟩ := h
 have := hu.pot (ii := ii) (p := p) (fun i hi => by obtain ⟨h0, h1, h2⟩ := hu.mem i hi; exact hp i h0 h1 h2)
 omega
end
def nx (arcs : List Arc) (b : List Int) (v : Int) : Int := (Arc.From (rd arcs (rd b v)))
def it (arcs : List Arc) (b : List Int) (v : Int) : Nat -> Int
 | 0 => v
 | k + 1 => nx arcs b (it arcs b v k)
theorem it_add (arcs : List Arc) (b : List Int) (v : Int) (i j : Nat) : it arcs b v (i + j) = it arcs b (it arcs b v i) j := by
 induction j with
 | zero => rfl
 | succ j ih => rw [<- Nat.add_assoc]; simp only [it, ih]
def Good (n : Int) (arcs : List Arc) (b : List Int) (v : Int) : Prop := 0 <= v /\ v < n /\ 0 <= rd b v /\ rd b v < arcs.length /\ Inn n (rd arcs (rd b v)) /\ (Arc.To (rd arcs (rd b v))) = v
theorem least_of (q : Nat -> Prop) [DecidablePred q] (m : Nat) : q m -> ∃ k, k <= m /\ q k /\ ∀ t, t < k -> ¬ q t := by
 induction m using Nat.strongRecOn with
 | _ m ih =>
   intro h
   by_cases hex : ∃ t, t < m /\ q t
   . obtain ⟨t, ht, hq⟩ := hex
     obtain ⟨k, h1, h2, h3⟩ := ih t ht hq
     exact ⟨k, by omega, h2, h3⟩
   . exact ⟨m, Nat.le_refl _, h, fun t ht hq => hex ⟨t, ht, hq⟩⟩
section
variable {n : Int} {arcs : List Arc} {ii : Int} {lo : Int -> Int} {s b : List Int} {T : Int -> Int} {t0 j last : Int}
theorem Inv.chain (h : Inv n arcs ii lo s b T t0 j last) (hn : 0 <= n) (hl : 0 <= last) (ht : n * arcs.length <= t0) : ∀ i : Nat, (i : Int) <= n ->
 0 <= it arcs b last i /\ it arcs b last i < n /\ n * arcs.length < T (it arcs b last i) + i * arcs.length
 | 0, _ => by
   rcases h.lst with ⟨h1, _⟩ | ⟨h1, h2, h3⟩
   . omega
   . refine ⟨h1, h2, ?_⟩
     show _ < T last + ((0 : Nat) : Int) * _
     simp; omega
 | i + 1, hi => by
   obtain ⟨h1, h2, h3⟩ := Inv.chain h hn hl ht i (by omega)
   have hle : (i : Int) * arcs.length <= n * arcs.length := Int.mul_le_mul_of_nonneg_right (by omega) (by omega)
   have hsucc : ((i + 1 : Nat) : Int) * arcs.length = i * arcs.length + arcs.length := by rw [Int.natCast_add, Int.add_mul]; simp
   rcases h.byr _ h1 h2 with ⟨_, a⟩ | ⟨a1, a2, a3, a4, a5, a6, a7, a8⟩
   . omega
   . refine ⟨a4.1, a4.2.1, ?_⟩
     show _ < T (Arc.From (rd arcs (rd b (it arcs b last i)))) + _
     omega
theorem Inv.good (h : Inv n arcs ii lo s b T t0 j last) (hn : 0 <= n) (hl : 0 <= last) (ht : n * arcs.length <= t0) (i : Nat) (hi : (i : Int) <= n) : Good n arcs b (it arcs b last i) := by
 obtain ⟨h1, h2, h3⟩ := h.chain hn hl ht i hi
 have hle : (i : Int) * arcs.length <= n * arcs.length := Int.mul_le_mul_of_nonneg_right (by omega) (by omega)
 rcases h.byr _ h1 h2 with ⟨_, a⟩ | ⟨a1, a2, a3, a4, a5, _⟩
 . omega
 . exact ⟨h1, h2, a2, a3, a4, a5⟩
theorem Inv.ring (h : Inv n arcs ii lo s b T t0 j last) (hn : 0 <= n) (hl : 0 <= last) (ht : n * arcs.length <= t0) :
 ∃ m : Nat, 0 < m /\ (m : Int) <= n /\ it arcs b (it arcs b last n.toNat) m = it arcs b last n.toNat /\ (∀ t, 0 < t -> t < m -> it arcs b (it arcs b last n.toNat) t ≠ it arcs b last n.toNat) /\
   (∀ t, Good n arcs b (it arcs b (it arcs b last n.toNat) t)) /\ ((List.range m).map (it arcs b (it arcs b last n.toNat))).Nodup := by
 have hg := h.good hn hl ht
 obtain ⟨i, k, hik, hk, he⟩ := pigeon n.toNat (it arcs b last) (fun i hi => by have := hg i (by omega); exact ⟨this.1, by have := this.2.1; omega⟩)
 have hper : ∀ t, it arcs b last (k + t) = it arcs b last (i + t) := fun t => by rw [it_add, it_add, he]
 have hall : ∀ t, Good n arcs b (it arcs b last t) := by
  intro t
  induction t using Nat.strongRecOn with
  | _ t ih =>
    by_cases htn : (t : Int) <= n
    . exact hg t htn
    . have e := hper (t - k)
      rw [show k + (t - k) = t by omega] at e
      rw [e]
      exact ih _ (by omega)
 have hret : it arcs b (it arcs b last n.toNat) (k - i) = it arcs b last n.toNat := by
  rw [<- it_add]
  have e := hper (n.toNat - i)
  rw [show k + (n.toNat - i) = n.toNat + (k - i) by omega, show i + (n.toNat - i) = n.toNat by omega] at e
  exact e
 generalize hy : it arcs b last n.toNat = y at hret
 have hall' : ∀ t, Good n arcs b (it arcs b y t) := fun t => by rw [<- hy, <- it_add]; exact hall _
 obtain ⟨m, _, ⟨hm0, hm⟩, hmin⟩ := least_of (fun t => 0 < t /\ it arcs b y t = y) (k - i) ⟨by omega, hret⟩
 have hne : ∀ t, 0 < t -> t < m -> it arcs b y t ≠ y := fun t h0 h1 h2 => hmin t h1 ⟨h0, h2⟩
 have hnd : ((List.range m).map (it arcs b y)).Nodup := by
  rw [List.Nodup, List.pairwise_map]
  refine List.Pairwise.imp_of_mem (R := fun a b => a < b) ?_ List.pairwise_lt_range
  intro a c ha hc hac he
  have hcm := List.mem_range.1 hc
  have : it arcs b y (a + (m - c)) = y := by
   rw [it_add, he, <- it_add, show c + (m - c) = m by omega, hm]
  exact hne _ (by omega) (by omega) this
 refine ⟨m, hm0, ?_, hm, hne, hall', hnd⟩
 have := nodup_le n.toNat _ hnd (fun x hx => by
  obtain ⟨t, _, rfl⟩ := List.mem_map.1 hx
  have := hall' t
  exact ⟨this.1, by have := this.2.1; omega⟩)
 rw [List.length_map, List.length_range] at this
 omega
def back (arcs : List Arc) (b : List Int) (y : Int) (m : Nat) : List Int := ((List.range m).map fun t => rd b (it arcs b y t)).reverse
theorem back_succ (y : Int) (m : Nat) : back arcs b y (m + 1) = rd b (it arcs b y m) :: back arcs b y m := by
 unfold back; rw [List.range_succ, List.map_append, List.reverse_append]; rfl
theorem back_path {y : Int} (hg : ∀ t, Good n arcs b (it arcs b y t)) : ∀ m, Path n arcs (back arcs b y m) (it arcs b y m) y
 | 0 => rfl
 | m + 1 => by
   rw [back_succ]
   obtain ⟨h0, h1, h2, h3, h4, h5⟩ := hg m
   refine ⟨h2, h3, h4, rfl, ?_⟩
   rw [h5]
   exact back_path hg m
theorem Inv.back_sum (h : Inv n arcs ii lo s b T t0 j last) {y : Int} (hg : ∀ t, Good n arcs b (it arcs b y t)) : ∀ m, rd s y - rd s (it arcs b y m) <= sumw arcs ii (back arcs b y m) /\
 (rd s y - rd s (it arcs b y m) < sumw arcs ii (back arcs b y m) \/ T (it arcs b y m) < T y \/ m = 0)
 | 0 => ⟨by simp [back, sumw, it], Or.inr (Or.inr rfl)⟩
 | m + 1 => by
   obtain ⟨h1, h2⟩ := Inv.back_sum h hg m
   rw [back_succ]
   obtain ⟨g0, g1, g2, g3, g4, g5⟩ := hg m
   rcases h.byr _ g0 g1 with ⟨a, _⟩ | ⟨a1, a2, a3, a4, a5, a6, a7, a8⟩
   . omega
   . simp only [sumw]
     have e : it arcs b y (m + 1) = (Arc.From (rd arcs (rd b (it arcs b y m)))) := rfl
     rw [<- e] at a6 a7 a8
     refine ⟨by omega, ?_⟩
     by_cases hle : T (it arcs b y m) <= T (it arcs b y (m + 1))
     . have := a7 hle
       left; omega
     . rcases h2 with h2 | h2 | h2
       . left; omega
       . right; left; omega
       . subst h2
         right; left
         have : it arcs b y 0 = y := rfl
         rw [this] at hle; omega
theorem Inv.cyc (h : Inv n arcs ii lo s b T t0 j last) {y : Int} {m : Nat} (hm0 : 0 < m) (hm : it arcs b y m = y) (hg : ∀ t, Good n arcs b (it arcs b y t)) (hd : ((List.range m).map (it arcs b y)).Nodup) : Cyc n arcs ii (back arcs b y m) := by
 have hp := back_path hg m
 have hs := h.back_sum hg m
 rw [hm] at hp hs
 refine ⟨?_, ⟨y, hp⟩, ?_, ?_⟩
 . intro e
   have := congrArg List.length e
   simp [back] at this
   omega
 . have e1 : (back arcs b y m).map (fun i => (Arc.From (rd arcs i))) = ((List.range m).map fun t => it arcs b y (t + 1)).reverse := by
    unfold back
    rw [List.map_reverse, List.map_map]
    rfl
   rw [e1]
   refine (List.reverse_perm _).nodup_iff.2 ?_
   have e2 : y :: ((List.range m).map fun t => it arcs b y (t + 1)) = (List.range m).map (it arcs b y) ++ [y] := by
    have a1 : (List.range (m + 1)).map (it arcs b y) = (List.range m).map (it arcs b y) ++ [y] := by rw [List.range_succ, List.map_append]; simp [hm]
    have a2 : (List.range (m + 1)).map (it arcs b y) = y :: ((List.range m).map fun t => it arcs b y (t + 1)) := by rw [List.range_succ_eq_map, List.map_cons, List.map_map]; rfl
    rw [<- a1, a2]
   have hperm : (y :: ((List.range m).map fun t => it arcs b y (t + 1))).Perm (y :: (List.range m).map (it arcs b y)) := by
    rw [e2]; exact List.perm_append_singleton y _
   exact ((List.perm_cons y).1 hperm).nodup_iff.2 hd
 . rcases hs.2 with h2 | h2 | h2 <;> omega
end
theorem reverse_f (xs : List Int) (hlen : xs.length <= 1000000000) : Ev (fun k => slices_Reverse_int_int.f k xs) ((), xs.reverse, ()) := by
 have hrev : ∀ t : Int, 0 <= t -> t < xs.length -> rd xs.reverse t = rd xs ((xs.length : Int) - 1 - t) := by
  intro t h0 h1
  rw [rd_eq (j := t.toNat) (by omega) (by rw [List.length_reverse]; omega), rd_eq (j := xs.length - 1 - t.toNat) (by omega) (by omega), List.getElem_reverse]
 have hend : ∀ (ys : List Int) (i j : Int), i + j = (xs.length : Int) - 1 -> j <= i -> ys.length = xs.length ->
  (∀ t : Int, 0 <= t -> t < xs.length -> rd ys t = if i <= t /\ t <= j then rd xs t else rd xs ((xs.length : Int) - 1 - t)) -> ys = xs.reverse := by
  intro ys i j hs hji hl hx
  refine rd_ext (by simp [hl]) (fun t h0 h1 => ?_)
  rw [hx t h0 (by omega), hrev t h0 (by omega)]
  split
  . congr 1; omega
  . rfl
 have loop : ∀ (d : Nat) (ys : List Int) (i j : Int), 0 <= i -> i + j = (xs.length : Int) - 1 -> j - i < 2 * d -> ys.length = xs.length ->
  (∀ t : Int, 0 <= t -> t < xs.length -> rd ys t = if i <= t /\ t <= j then rd xs t else rd xs ((xs.length : Int) - 1 - t)) -> Ev (fun k => slices_Reverse_int_int.c1 k i j ys) ((), xs.reverse, ()) := by
  intro d
  induction d with
  | zero =>
    intro ys i j h0 hs hd hl hx
    refine .succ ?_
    simp (disch := omega) only [slices_Reverse_int_int.c1, ↓cdF]
    rw [hend ys i j hs (by omega) hl hx]
    exact .ret _
  | succ d ih =>
    intro ys i j h0 hs hd hl hx
    refine .succ ?_
    by_cases hij : i < j
    . simp (disch := first | omega | (simp only [List.length_set]; omega)) only [slices_Reverse_int_int.c1, ↓cdT, ↓if_pos, w64_id]
      refine ih _ _ _ (by omega) (by omega) (by omega) (by simp [hl]) fun t ht0 ht1 => ?_
      rw [rd_set (by omega) (by rw [List.length_set]; omega) ht0, rd_set h0 (by omega) ht0]
      have e1 := hx i h0 (by omega)
      have e2 := hx j (by omega) (by omega)
      rw [if_pos (by omega)] at e1 e2
      by_cases c1 : t = j
      . rw [if_pos c1, if_neg (by omega), e1]; congr 1; omega
      . rw [if_neg c1]
        by_cases c2 : t = i
        . rw [if_pos c2, if_neg (by omega), e2]; congr 1; omega
        . rw [if_neg c2, hx t ht0 ht1]
          by_cases c3 : i <= t /\ t <= j
          . rw [if_pos c3, if_pos (by omega)]
          . rw [if_neg c3, if_neg (by omega)]
    . simp (disch := omega) only [slices_Reverse_int_int.c1, ↓cdF]
      rw [hend ys i j hs (by omega) hl hx]
      exact .ret _
 simp only [slices_Reverse_int_int.f]
 rw [w64_id (by omega) (by omega)]
 exact loop xs.length xs 0 _ (by omega) (by omega) (by omega) rfl (fun t h0 h1 => by rw [if_pos (by omega)])
section
variable {n : Int} {arcs : List Arc} {b : List Int}
theorem around_c8 {y : Int} {m : Nat} (hm : it arcs b y m = y) (hmn : m <= 8192) (hne : ∀ t, 0 < t -> t < m -> it arcs b y t ≠ y) (hg : ∀ t, Good n arcs b (it arcs b y t)) (hb : (b.length : Int) = n) :
 ∀ (d t : Nat), t + d + 1 = m -> Ev (fun k => diffcons_around.c8 k arcs b y (it arcs b y t) ((List.range t).map fun i => rd b (it arcs b y i))) (some (back arcs b y m)) := by
 intro d
 induction d with
 | zero =>
   intro t htd
   obtain ⟨g0, g1, g2, g3, g4, g5⟩ := hg t
   obtain rfl : m = t + 1 := by omega
   have hlst : ((List.range t).map fun i => rd b (it arcs b y i)) ++ [rd b (it arcs b y t)] = (List.range (t + 1)).map fun i => rd b (it arcs b y i) := by rw [List.range_succ, List.map_append]; rfl
   have hm' : (Arc.From (rd arcs (rd b (it arcs b y t)))) = y := hm
   refine .succ ?_
   simp (disch := first | omega | (simp only [List.length_map, List.length_range, List.length_singleton]; omega)) only [diffcons_around.c8, ↓if_pos, ↓bleT, ↓cdT, hlst]
   refine .bind (reverse_f _ (by simp; omega)) ?_
   exact .ret _
 | succ d ih =>
   intro t htd
   obtain ⟨g0, g1, g2, g3, g4, g5⟩ := hg t
   have hlst : ((List.range t).map fun i => rd b (it arcs b y i)) ++ [rd b (it arcs b y t)] = (List.range (t + 1)).map fun i => rd b (it arcs b y i) := by rw [List.range_succ, List.map_append]; rfl
   have hm' : ¬ (Arc.From (rd arcs (rd b (it arcs b y t)))) = y := hne (t + 1) (by omega) (by omega)
   refine .succ ?_
   simp (disch := first | omega | (simp only [List.length_map, List.length_range, List.length_singleton]; omega)) only [diffcons_around.c8, ↓if_pos, ↓bleT, ↓cdF, hlst]
   exact ih (t + 1) (by omega)
theorem around_c2 {v : Int} {N : Nat} (hN : (N : Int) = n) (hn : n <= 8192) (hb : (b.length : Int) = n) (hg : ∀ t : Nat, (t : Int) <= n -> Good n arcs b (it arcs b v t)) {Q : Option (List Int) -> Prop}
 (hk : W (fun k => diffcons_around.c8 k arcs b (it arcs b v N) (it arcs b v N) []) Q) :
 ∀ (d t : Nat), t + d = N -> W (fun k => diffcons_around.c2 k arcs b (it arcs b v t) n t) Q := by
 intro d
 induction d with
 | zero =>
   intro t ht
   obtain rfl : t = N := by omega
   refine .succ ?_
   simp (disch := omega) only [diffcons_around.c2, ↓cdF]
   refine .succ ?_
   simp only [diffcons_around.c6]
   exact hk
 | succ d ih =>
   intro t ht
   obtain ⟨g0, g1, g2, g3, g4, g5⟩ := hg t (by omega)
   refine .succ ?_
   simp (disch := omega) only [diffcons_around.c2, ↓cdT, ↓cdF, ↓if_pos, w64_id]
   exact ih (t + 1) (by omega)
end
theorem around_f {n : Int} {arcs : List Arc} {ii : Int} {lo : Int -> Int} {s b : List Int} {T : Int -> Int} {t0 j last : Int} (h : Inv n arcs ii lo s b T t0 j last) (hn : 0 <= n) (hn2 : n <= 8192) (hl : 0 <= last) (ht : n * arcs.length <= t0) :
 W (fun k => diffcons_around.f k arcs b last n) (fun c => ∃ l, c = some l /\ Cyc n arcs ii l) := by
 obtain ⟨m, hm0, hmn, hm, hne, hg, hd⟩ := h.ring hn hl ht
 simp only [diffcons_around.f]
 refine around_c2 (N := n.toNat) (by omega) hn2 h.lb (fun t htn => h.good hn hl ht t htn) ?_ n.toNat 0 (by omega)
 have := around_c8 hm (by omega) hne hg h.lb (m - 1) 0 (by omega)
 exact this.w ⟨_, rfl, h.cyc hm0 hm hg hd⟩
def Answer (n : Int) (arcs : List Arc) (ii : Int) (lo : Int -> Int) (r : List Int × Option (List Int) × Unit) : Prop :=
 (r.2.1 = none /\ (r.1.length : Int) = n /\ (∀ v, 0 <= v -> v < n -> lo v <= rd r.1 v /\ rd r.1 v <= 1073741824 + (n + 2) * arcs.length * 269484032) /\ Feas n arcs ii (rd r.1) /\ ∀ p : Int -> Int, Feas n arcs ii p -> (∀ v, 0 <= v -> v < n -> lo v <= p v) -> ∀ v, 0 <= v -> v < n -> rd r.1 v <= p v) \/
 (r.1 = [] /\ ∃ c, r.2.1 = some c /\ Cyc n arcs ii c)
section
variable {n : Int} {arcs : List Arc} {ii : Int} {lo : Int -> Int}
theorem after_c14 (hn : 0 <= n) (hn2 : n <= 8192) (hlen : (n + 2) * arcs.length <= 10000000000) {r : Int} (hr0 : 0 <= r) (hrn : r <= n)
 (hnext : r < n -> ∀ (s b : List Int) (T : Int -> Int), Inv n arcs ii lo s b T ((r + 1) * arcs.length) 0 (-1) -> W (fun k => diffcons_After.c12 k n arcs ii (r + 1) s b) (Answer n arcs ii lo))
 (hlow : ∀ v, -1073741824 <= lo v) :
 ∀ (d : Nat) (s b : List Int) (T : Int -> Int) (j last : Int), 0 <= j -> j + d = arcs.length -> Inv n arcs ii lo s b T (r * arcs.length) j last ->
   W (fun k => diffcons_After.c14 k n arcs ii r last arcs arcs.length j s b) (Answer n arcs ii lo) := by
 have hrl : 0 <= r * arcs.length := Int.mul_nonneg hr0 (by omega)
 have hrl2 : (r + 2) * arcs.length <= (n + 2) * arcs.length := Int.mul_le_mul_of_nonneg_right (by omega) (by omega)
 have e2 : (r + 2) * (arcs.length : Int) = r * arcs.length + 2 * arcs.length := Int.add_mul _ _ _
 have e1 : (r + 1) * (arcs.length : Int) = r * arcs.length + arcs.length := by rw [Int.add_mul]; omega
 intro d
 induction d with
 | zero =>
   intro s b T j last hj0 hjd h
   have hjl : j = arcs.length := by omega
   refine .succ ?_
   simp (disch := omega) only [diffcons_After.c14, ↓cdF]
   refine .dec (fun hl => .ret (Or.inl ⟨rfl, h.ls, fun v h0 h1 => ⟨h.low v h0 h1, by have := h.cap v h0 h1; show rd s v <= _; omega⟩, h.feas hjl hl, h.least⟩)) fun hl => ?_
   refine .dec (fun hrn' => ?_) fun hrn' => ?_
   . have hnr : n * arcs.length <= r * arcs.length := Int.mul_le_mul_of_nonneg_right (by omega) (by omega)
     refine W.bind (around_f h hn hn2 (by omega) hnr) fun c hc => ?_
     obtain ⟨l, rfl, hc⟩ := hc
     simp only [Option.isSome_some, cond_true, Option.getD_some]
     exact .ret (Or.inr ⟨rfl, l, rfl, hc⟩)
   . rw [w64_id (by omega) (by omega)]
     exact hnext (by omega) s b T (by rw [e1]; exact h.next hjl)
 | succ d ih =>
   intro s b T j last hj0 hjd h
   have hjl : j < arcs.length := by omega
   refine .succ ?_
   simp (disch := omega) only [diffcons_After.c14, ↓cdT, ↓if_pos, within_f, weight_f, Option.bind_some, w64_id (n := j + 1)]
   by_cases hi : Inn n (rd arcs j)
   . obtain ⟨hu0, hu1, hv0, hv1⟩ := id hi
     have hcu := h.cap _ hu0 hu1
     have hlu := h.low _ hu0 hu1
     have hlo := hlow (Arc.From (rd arcs j))
     have hw := wt_le (rd arcs j) ii
     have hls := h.ls
     have hlb := h.lb
     simp only [hi, decide_true, Bool.not_true, cond_false]
     simp (disch := omega) only [↓if_pos, w64_id]
     refine .dec (fun hv => ?_) fun hv => ?_
     . exact ih _ _ _ (j + 1) _ (by omega) (by omega) (h.put hj0 hjl hi hv)
     . exact ih _ _ _ (j + 1) last (by omega) (by omega) (h.skip hj0 (fun _ => by omega))
   . simp only [hi, decide_false, Bool.not_false, cond_true]
     exact ih _ _ _ (j + 1) last (by omega) (by omega) (h.skip hj0 (fun h' => absurd h' hi))
theorem after_c12 (hn : 0 <= n) (hn2 : n <= 8192) (hlen : (n + 2) * arcs.length <= 10000000000) (hlow : ∀ v, -1073741824 <= lo v) :
 ∀ (d : Nat) (r : Int), 0 <= r -> r + d = n -> ∀ (s b : List Int) (T : Int -> Int), Inv n arcs ii lo s b T (r * arcs.length) 0 (-1) -> W (fun k => diffcons_After.c12 k n arcs ii r s b) (Answer n arcs ii lo) := by
 intro d
 induction d with
 | zero =>
   intro r hr0 hrd s b T h
   refine .succ ?_
   simp only [diffcons_After.c12]
   exact after_c14 hn hn2 hlen hr0 (by omega) (fun hlt => by omega) hlow arcs.length s b T 0 (-1) (by omega) (by omega) h
 | succ d ih =>
   intro r hr0 hrd s b T h
   refine .succ ?_
   simp only [diffcons_After.c12]
   exact after_c14 hn hn2 hlen hr0 (by omega) (fun _ s b T h' => ih (r + 1) (by omega) (by omega) s b T h') hlow arcs.length s b T 0 (-1) (by omega) (by omega) h
theorem Inv.start {s b : List Int} (hs : (s.length : Int) = n) (hb : (b.length : Int) = n) (hsv : ∀ v, 0 <= v -> v < n -> rd s v = lo v) (hbv : ∀ v, 0 <= v -> v < n -> rd b v = -1) (hhi : ∀ v, lo v <= 1073741824) :
 Inv n arcs ii lo s b (fun _ => 0) 0 0 (-1) where
 ls := hs
 lb := hb
 low v h0 h1 := by rw [hsv v h0 h1]; omega
 cap v h0 h1 := by rw [hsv v h0 h1]; have := hhi v; omega
 least p _ hp v h0 h1 := by rw [hsv v h0 h1]; exact hp v h0 h1
 tn v h0 h1 := by simp
 byr v h0 h1 := Or.inl ⟨hbv v h0 h1, rfl⟩
 sat i h0 h1 hi := by right; rw [if_neg (by omega)]; omega
 lst := Or.inl ⟨rfl, fun v h0 h1 => by simp⟩
end
theorem after_f {n0 : Int} {arcs : List Arc} {ii : Int} {lower : List Int} (hlen : (nod n0 + 2) * arcs.length <= 10000000000) : W (fun k => diffcons_After.f k n0 arcs ii lower) (Answer (nod n0) arcs ii (bnd lower)) := by
 obtain ⟨hn, hn2⟩ := nod_le n0
 simp (disch := omega) only [diffcons_After.f, nodes_f, Option.bind_some, ↓if_pos]
 generalize nod n0 = n at *
 have loop : ∀ (d : Nat) (i : Int) (s b : List Int), 0 <= i -> i + d = n -> (s.length : Int) = n -> (b.length : Int) = n -> (∀ v, 0 <= v -> v < i -> rd s v = bnd lower v) -> (∀ v, 0 <= v -> v < i -> rd b v = -1) ->
  W (fun k => diffcons_After.c5 k n arcs ii lower n i s b) (Answer n arcs ii (bnd lower)) := by
  intro d
  induction d with
  | zero =>
    intro i s b h0 hd hs hb hsv hbv
    refine .succ ?_
    simp (disch := omega) only [diffcons_After.c5, ↓cdF]
    refine after_c12 hn hn2 hlen (fun v => (bnd_le lower v).1) n.toNat 0 (by omega) (by omega) _ _ (fun _ => 0) ?_
    rw [Int.zero_mul]
    exact Inv.start hs hb (fun v a b => hsv v a (by omega)) (fun v a b => hbv v a (by omega)) (fun v => (bnd_le lower v).2)
  | succ d ih =>
    intro i s b h0 hd hs hb hsv hbv
    refine .succ ?_
    simp (disch := omega) only [diffcons_After.c5, ↓cdT, bound_f, Option.bind_some, ↓if_pos, w64_id]
    refine ih (i + 1) (s.set i.toNat (bnd lower i)) (b.set i.toNat (-1)) (by omega) (by omega) (by simpa using hs) (by simpa using hb) ?_ ?_
    . intro v hv0 hv1
      rw [rd_set h0 (by omega) hv0]
      split
      . rename_i e; subst e; rfl
      . exact hsv v hv0 (by omega)
    . intro v hv0 hv1
      rw [rd_set h0 (by omega) hv0]
      split
      . rfl
      . exact hbv v hv0 (by omega)
 rw [show ((List.replicate n.toNat (0 : Int)).length : Int) = n by simp; omega]
 exact loop n.toNat 0 (List.replicate n.toNat 0) (List.replicate n.toNat 0) (by omega) (by omega) (by simp; omega) (by simp; omega) (fun v a b => by omega) (fun v a b => by omega)
theorem bnd_nil {v : Int} (h : 0 <= v) : bnd [] v = 0 := by simp [bnd, h]
theorem earliest_f {n0 : Int} {arcs : List Arc} {ii : Int} (hlen : (nod n0 + 2) * arcs.length <= 10000000000) : W (fun k => diffcons_Earliest.f k n0 arcs ii) (Answer (nod n0) arcs ii (fun _ => 0)) := by
 simp only [diffcons_Earliest.f]
 refine W.bind (after_f hlen) fun a ha => ?_
 rcases ha with ⟨a1, a2, a3, a4, a5⟩ | ⟨a1, c, a2, a3⟩
 . simp only [a1, Option.isSome_none, cond_false]
   refine .ret (Or.inl ⟨rfl, a2, fun v h0 h1 => ?_, a4, fun p hp hl v h0 h1 => a5 p hp (fun v h0 h1 => ?_) v h0 h1⟩)
   . have := a3 v h0 h1; rwa [bnd_nil h0] at this
   . have := hl v h0 h1; rw [bnd_nil h0]; exact this
 . simp only [a2, Option.isSome_some, cond_true, Option.getD_some]
   exact .ret (Or.inr ⟨a1, c, rfl, a3⟩)
end Go.Proofs.YtjddmekfeckphaaV.Diff
namespace Go.Proofs.YtjddmekfeckphaaV
open Go Go.Vm
section
variable {f : Flow} {s : Sched}
def tm (f : Flow) (s : Sched) (v : Int) : Int := if v < Flow.Insts f then rd (Sched.Start s) v else if v < Flow.N f then rd (Sched.Params s) (v - Flow.Insts f) else if v = Flow.N f then 0 else Sched.Depth s
theorem tm_bound (F : FITS f s) (V : VALID f) {v : Int} (h0 : 0 <= v) : 0 <= tm f s v /\ tm f s v <= 4096 := by
 unfold tm
 have h1 := F.start
 have h2 := F.params
 have h3 := F.depth
 have hN : Flow.N f = Flow.Insts f + Flow.Params f := rfl
 have hi := V.i0
 split
 . have := F.starts v.toNat (by omega)
   rw [show ((v.toNat : Nat) : Int) = v by omega] at this
   exact this
 . split
   . have := F.parms (v - Flow.Insts f).toNat (by omega)
     rw [show (((v - Flow.Insts f).toNat : Nat) : Int) = v - Flow.Insts f by omega] at this
     exact this
   . split <;> omega
end
end Go.Proofs.YtjddmekfeckphaaV
namespace Go.Proofs.YtjddmekfeckphaaV
open Go Go.Vm
theorem evAt {α : Type} {f : Nat -> Option α} {y : α} (N : Nat) (h : ∀ k, f (k + N) = some y) : Ev f y :=
 ⟨N, fun k hk => by obtain ⟨j, rfl⟩ : ∃ j, k = j + N := ⟨k - N, by omega⟩; exact h j⟩
def f32 : Flow := (3, 0, false, [(3, 0, 0, 0, ()), (3, 1, 0, 0, ()), (3, 2, 0, 0, ()), (3, 4, 0, 0, ()), (0, 4, 2, 0, ()), (1, 4, 2, 0, ()), (2, 4, 2, 0, ())], [(1, 0, 0, 1, ())], [(0, 2, ()), (0, 2, ()), (0, 2, ())], ())
def g32 : Graph := (5, [(3, 0, ()), (3, 1, ()), (3, 2, ()), (3, 4, ()), (0, 4, ()), (1, 4, ()), (2, 4, ())], ())
def t32 : Graph := (5, [(0, 3, ()), (1, 3, ()), (2, 3, ()), (4, 0, ()), (4, 1, ()), (4, 2, ()), (4, 3, ())], ())
theorem next32 : NEXT g32 = [[4], [4], [4], [0, 1, 2, 4], []] := by decide
theorem turn32 : TURN g32 = t32 := by decide
theorem nextt32 : NEXT t32 = [[3], [3], [3], [], [0, 1, 2, 3]] := by decide
theorem triple32 : Ev (fun k => jacquardlaw32_triple.f k 1) f32 := evAt 20 fun k => by kernel_rfl
theorem fin32 : Ev (fun k => graph_finished.f k [[4], [4], [4], [0, 1, 2, 4], []]) [4, 0, 1, 2, 3] := evAt 200 fun k => by kernel_rfl
theorem comps32 : Ev (fun k => graph_Components.f k g32) [0, 1, 2, 3, 4] := by
 simp only [graph_Components.f]
 refine .bind (Next_prog g32 (by decide)) ?_
 rw [next32]
 refine .bind fin32 ?_
 refine .bind (Turn_prog g32 (by decide) (by decide)) ?_
 rw [turn32]
 refine .bind (x := [[3], [3], [3], [], [0, 1, 2, 3]]) ?_ ?_
 . have := Next_prog t32 (by decide)
   rw [nextt32] at this
   exact this
 . exact evAt 200 fun k => by kernel_rfl
theorem tangled32 : Ev (fun k => listsched_tangled.f k f32) false := by
 have h : Ev (fun k => (graph_Components.f k g32).bind fun y => listsched_tangled.c12 k (y.length : Int) 0 f32 y ([] : List (Int × Int))) false := by
  refine .bind comps32 ?_
  exact evAt 100 fun k => by kernel_rfl
 exact h.steps 8 fun k => by kernel_rfl
theorem sched32 : Ev (fun k => listsched_Schedule.f k f32) ((0, 6, [0, 2, 4], [], [0, 0, 0], ()), 0, ()) := by
 simp only [listsched_Schedule.f]
 refine .bind (x := true) (evAt 100 fun k => by kernel_rfl) ?_
 simp only [Bool.not_true, cond_false]
 have e : dataflow_Nodes.f f32 = some 5 := by kernel_rfl
 rw [e]
 simp only [Option.bind_some]
 have e2 : Flow.Loop f32 = false := rfl
 simp only [e2, cond_false]
 refine .bind (x := ([0, 0, 0, 0, 2], none, ())) (evAt 200 fun k => by kernel_rfl) ?_
 refine .bind tangled32 ?_
 exact evAt 400 fun k => by kernel_rfl
theorem awake_ev : Ev (fun k => jacquardlaw32_awake.f k) true := by
 simp only [jacquardlaw32_awake.f]
 refine .bind triple32 ?_
 refine .bind sched32 ?_
 exact evAt 0 fun k => by kernel_rfl
end Go.Proofs.YtjddmekfeckphaaV
namespace Go.Proofs.YtjddmekfeckphaaV
open Go Go.Vm
def cntN (l : List Need) (r : Int) : Nat -> Nat
 | 0 => 0
 | m + 1 => cntN l r m + if Need.Res (rd l (m : Int)) = r then 1 else 0
theorem cntN_succ (l : List Need) (r : Int) (m : Nat) : cntN l r (m + 1) = cntN l r m + if Need.Res (rd l (m : Int)) = r then 1 else 0 := rfl
def CONT (f : Flow) (i : Nat) : Prop := 0 <= Need.Res (rd (Flow.Needs f) (i : Int)) /\ Resource.Count (rd (Flow.Res f) (Need.Res (rd (Flow.Needs f) (i : Int)))) < (cntN (Flow.Needs f) (Need.Res (rd (Flow.Needs f) (i : Int))) (Flow.Needs f).length : Int)
instance (f : Flow) (i : Nat) : Decidable (CONT f i) := by unfold CONT; infer_instance
section
variable {f : Flow}
theorem need_at (V : VALID f) {i : Nat} (hi : i < (Flow.Needs f).length) : -1 <= Need.Res (rd (Flow.Needs f) (i : Int)) /\ Need.Res (rd (Flow.Needs f) (i : Int)) < ((Flow.Res f).length : Int) := by
 rcases V.need i hi with ⟨a, _⟩ | ⟨a, b, _⟩ <;> omega
end
end Go.Proofs.YtjddmekfeckphaaV
namespace Go.Proofs.YtjddmekfeckphaaV
open Go Go.Vm
theorem clone_f {xs : List Int} (h : xs.length <= 1000000000) : slices_Clone_int_int.f xs = some xs := by
 unfold slices_Clone_int_int.f
 have hb : Nat.ble (List.length ([] : List Int) + List.length xs) 1073741824 = true := by rw [Nat.ble_eq]; simp; omega
 rw [hb]
 cases xs with
 | nil => simp [both_same]
 | cons x l => rfl
theorem btw_f (n lo hi : Int) : listsched_between.f n lo hi = some (decide (lo <= n /\ n <= hi)) := by
 unfold listsched_between.f
 by_cases h : lo <= n
 . by_cases h2 : n <= hi <;> simp [h, h2]
 . simp [h]
section
variable {f : Flow} {s : Sched}
theorem fits10 (V : VALID f) (S : SSIZES s) (hu : ((Sched.Unit s).length : Int) = Flow.Insts f) : EvP (fun k => listsched_fits.c10 k (Sched.Unit s) ((Sched.Unit s).length : Int) 0 f) (∀ i, i < (Sched.Unit s).length -> (Need.Res (rd (Flow.Needs f) (i : Int)) < 0 -> rd (Sched.Unit s) (i : Int) = -1) /\
 (0 <= Need.Res (rd (Flow.Needs f) (i : Int)) -> 0 <= rd (Sched.Unit s) (i : Int) /\ rd (Sched.Unit s) (i : Int) < Resource.Count (rd (Flow.Res f) (Need.Res (rd (Flow.Needs f) (i : Int)))))) := by
 have hn := V.needs
 have hl := S.unit
 refine EvP.all' 1 (c := fun k i => listsched_fits.c10 k (Sched.Unit s) ((Sched.Unit s).length : Int) (i : Int) f) (n := (Sched.Unit s).length) (P := fun i => (Need.Res (rd (Flow.Needs f) (i : Int)) < 0 -> rd (Sched.Unit s) (i : Int) = -1) /\
  (0 <= Need.Res (rd (Flow.Needs f) (i : Int)) -> 0 <= rd (Sched.Unit s) (i : Int) /\ rd (Sched.Unit s) (i : Int) < Resource.Count (rd (Flow.Res f) (Need.Res (rd (Flow.Needs f) (i : Int)))))) (fun q => q) (fun i hi k => ?_) (fun h => ?_)
 . have b := need_at V (i := i) (by omega)
   have hc : 0 <= Need.Res (rd (Flow.Needs f) (i : Int)) -> 1 <= Resource.Count (rd (Flow.Res f) (Need.Res (rd (Flow.Needs f) (i : Int)))) /\ Resource.Count (rd (Flow.Res f) (Need.Res (rd (Flow.Needs f) (i : Int)))) <= 1024 := fun h0 => by
    obtain ⟨m, hm⟩ : ∃ m : Nat, Need.Res (rd (Flow.Needs f) (i : Int)) = (m : Int) := ⟨(Need.Res (rd (Flow.Needs f) (i : Int))).toNat, by omega⟩
    rw [hm]
    have := V.res m (by omega)
    exact ⟨this.2.2.1, this.2.2.2⟩
   simp (disch := omega) only [listsched_fits.c10, ↓cdT, ↓if_pos, natC, w64_id (n := (i : Int) + 1), btw_f, Option.bind_some]
   by_cases h0 : Need.Res (rd (Flow.Needs f) (i : Int)) < 0
   . simp (disch := omega) only [↓cdT, ↓cdF]
     by_cases h1 : rd (Sched.Unit s) (i : Int) = -1
     . simp (disch := omega) only [↓cnF]
       exact .inl ⟨⟨fun _ => h1, fun h => by omega⟩, trivial⟩
     . simp (disch := omega) only [↓cnT]
       exact .inr ⟨fun q => h1 (q.1 h0), trivial⟩
   . have hcc := hc (by omega)
     simp (disch := omega) only [↓cdT, ↓cdF, ↓if_pos, w64_id]
     by_cases h1 : 0 <= rd (Sched.Unit s) (i : Int) /\ rd (Sched.Unit s) (i : Int) <= Resource.Count (rd (Flow.Res f) (Need.Res (rd (Flow.Needs f) (i : Int)))) - 1
     . simp (disch := exact h1) only [↓cnF]
       exact .inl ⟨⟨fun h => by omega, fun _ => by omega⟩, trivial⟩
     . simp (disch := exact h1) only [↓cnT]
       exact .inr ⟨fun q => h1 (by have := q.2 (by omega); omega), trivial⟩
 . refine EvP.step (.tt h) fun k => ?_
   simp (disch := omega) only [listsched_fits.c10, ↓cdF]
theorem fits_prog (V : VALID f) (S : SSIZES s) : EvP (fun k => listsched_fits.f k f s) (FITS f s) := by
 have hs1 := S.start
 have hs2 := S.params
 simp only [listsched_fits.f, btw_f, Option.bind_some]
 simp (disch := omega) only [clone_f, Option.bind_some]
 by_cases h1 : ((Sched.Start s).length : Int) = Flow.Insts f
 rotate_left
 . simp (disch := exact h1) only [↓cnT]
   exact .ff fun v => h1 v.start
 by_cases h2 : ((Sched.Unit s).length : Int) = Flow.Insts f
 rotate_left
 . simp (disch := first | exact h1 | exact h2) only [↓cnF, ↓cnT]
   exact .ff fun v => h2 v.unit
 by_cases h3 : ((Sched.Params s).length : Int) = Flow.Params f
 rotate_left
 . simp (disch := first | exact h1 | exact h2 | exact h3) only [↓cnF, ↓cnT]
   exact .ff fun v => h3 v.params
 simp (disch := first | exact h1 | exact h2 | exact h3) only [↓cnF]
 refine .cond (fun h4 => .ff fun v => ?_) fun h4 => ?_
 . have := v.loop
   cases hl : Flow.Loop f <;> rw [hl] at h4 this <;> simp at h4 this <;> omega
 have h4 : 0 < Sched.II s ↔ Flow.Loop f = true := by
  cases hl : Flow.Loop f <;> rw [hl] at h4 <;> simp at h4 ⊢ <;> omega
 by_cases h5 : 0 <= Sched.II s /\ Sched.II s <= 256
 rotate_left
 . simp (disch := exact h5) only [↓cnT]
   exact .ff fun v => h5 v.ii
 by_cases h6 : 1 <= Sched.Depth s /\ Sched.Depth s <= 4096
 rotate_left
 . simp (disch := first | exact h5 | exact h6) only [↓cnF, ↓cnT]
   exact .ff fun v => h6 v.depth
 simp (disch := first | exact h5 | exact h6) only [↓cnF]
 have i1 := V.i1
 have p1 := V.p1
 simp (disch := omega) only [↓bleT]
 refine EvP.all' 1 (c := fun k i => listsched_fits.c4 k ((Sched.Start s ++ Sched.Params s).length : Int) (i : Int) f s (Sched.Start s ++ Sched.Params s)) (n := (Sched.Start s ++ Sched.Params s).length)
  (P := fun i => 0 <= rd (Sched.Start s ++ Sched.Params s) (i : Int) /\ rd (Sched.Start s ++ Sched.Params s) (i : Int) <= 4096) (fun F i hi => ?_) (fun i hi k => ?_) (fun h => ?_)
 . rw [List.length_append] at hi
   by_cases hlt : i < (Sched.Start s).length
   . rw [rd_app_l hlt]; exact F.starts i hlt
   . rw [rd_app_r (by omega)]; exact F.parms _ (by omega)
 . have hlen : (Sched.Start s ++ Sched.Params s).length <= 2000000000 := by rw [List.length_append]; omega
   simp (disch := omega) only [listsched_fits.c4, ↓cdT, ↓if_pos, natC, w64_id, btw_f, Option.bind_some]
   by_cases h7 : 0 <= rd (Sched.Start s ++ Sched.Params s) (i : Int) /\ rd (Sched.Start s ++ Sched.Params s) (i : Int) <= 4096
   . simp (disch := exact h7) only [↓cnF]
     exact .inl ⟨h7, trivial⟩
   . simp (disch := exact h7) only [↓cnT]
     exact .inr ⟨h7, trivial⟩
 . refine EvP.step (.iff (fits10 V S h2) ?_) fun k => ?_
   . constructor
     . intro hu
       refine ⟨h1, h2, h3, h5, h4, h6, fun i hi => ?_, fun i hi => ?_, hu⟩
       . have := h i (by rw [List.length_append]; omega)
         rwa [rd_app_l hi] at this
       . have := h ((Sched.Start s).length + i) (by rw [List.length_append]; omega)
         rw [rd_app_r (by omega)] at this
         rwa [show (Sched.Start s).length + i - (Sched.Start s).length = i by omega] at this
     . exact fun F => F.units
   . simp (disch := omega) only [listsched_fits.c4, ↓cdF]
theorem at_f (V : VALID f) (F : FITS f s) {v : Int} (h0 : 0 <= v) (h1 : v <= Flow.N f + 1) : listsched_at.f f s v = some (tm f s v) := by
 have i0 := V.i0; have i1 := V.i1; have p0 := V.p0; have p1 := V.p1
 have a1 := F.start; have a2 := F.params
 have hN : Flow.N f = Flow.Insts f + Flow.Params f := rfl
 simp only [listsched_at.f, dataflow_Source.f, dataflow_End.f, Option.bind_some]
 simp (disch := omega) only [w64_id (n := Flow.Insts f + Flow.Params f), w64_id (n := Flow.Insts f + Flow.Params f + 1)]
 unfold tm
 by_cases c1 : v < Flow.Insts f
 . simp (disch := omega) only [↓cdT, ↓if_pos]
 . simp (disch := omega) only [↓cdF, if_neg c1]
   by_cases c2 : v < Flow.N f
   . rw [hN] at c2
     simp (disch := omega) only [↓cdT, ↓if_pos, w64_id, hN]
   . rw [hN] at c2 h1
     simp (disch := omega) only [↓cdF, hN, if_neg c2]
     by_cases c3 : v = Flow.Insts f + Flow.Params f
     . rw [if_pos c3]
       simp (disch := omega) only [↓cdF]
     . rw [if_neg c3]
       simp (disch := omega) only [↓cdT]
def KL (f : Flow) (s : Sched) (i k : Nat) : Prop := k ≠ i /\ Need.Res (rd (Flow.Needs f) (k : Int)) = Need.Res (rd (Flow.Needs f) (i : Int)) /\ rd (Sched.Unit s) (k : Int) = rd (Sched.Unit s) (i : Int) /\
 rd (Sched.Start s) (k : Int) < rd (Sched.Start s) (i : Int) + Need.Busy (rd (Flow.Needs f) (i : Int)) /\ rd (Sched.Start s) (i : Int) < rd (Sched.Start s) (k : Int) + Need.Busy (rd (Flow.Needs f) (k : Int))
def CLA (f : Flow) (s : Sched) (i : Nat) : Prop := 0 <= Need.Res (rd (Flow.Needs f) (i : Int)) /\ ∃ k : Nat, k < (Flow.Needs f).length /\ KL f s i k
theorem KL.symm {i k : Nat} (h : KL f s i k) : KL f s k i := ⟨h.1.symm, h.2.1.symm, h.2.2.1.symm, h.2.2.2.2, h.2.2.2.1⟩
theorem busy_at (V : VALID f) {i : Nat} (hi : i < (Flow.Needs f).length) : 0 <= Need.Busy (rd (Flow.Needs f) (i : Int)) /\ Need.Busy (rd (Flow.Needs f) (i : Int)) <= 256 := by
 rcases V.need i hi with ⟨_, a⟩ | ⟨_, _, a, b⟩ <;> omega
theorem clashes_prog (V : VALID f) (F : FITS f s) {i : Nat} (hi : i < (Flow.Needs f).length) : EvP (fun k => listsched_clashes.f k f s (i : Int)) (CLA f s i) := by
 have hn := V.needs
 have i1 := V.i1
 have a1 := F.start
 have a2 := F.unit
 simp (disch := omega) only [listsched_clashes.f, ↓if_pos]
 by_cases h0 : Need.Res (rd (Flow.Needs f) (i : Int)) < 0
 . simp (disch := omega) only [↓cdT]
   exact .ff fun q => by have := q.1; omega
 simp (disch := omega) only [↓cdF]
 refine EvP.any' (c := fun k j => listsched_clashes.c5 k (i : Int) (Flow.Needs f) ((Flow.Needs f).length : Int) (j : Int) s (rd (Flow.Needs f) (i : Int))) (n := (Flow.Needs f).length) (P := fun j => KL f s i j)
  (fun j hj h => ⟨by omega, j, hj, h⟩) (fun j hj hp b ih => ?_) (fun j hj hp => ?_) (fun hall => ?_)
 . have bi := busy_at V hi
   have bj := busy_at V hj
   have si := F.starts i (by omega)
   have sj := F.starts j (by omega)
   simp only [natC] at ih
   refine .succ ?_
   simp (disch := omega) only [listsched_clashes.c5, ↓cdT, ↓if_pos, w64_id]
   refine .cond (fun e1 => ?_) fun _ => ih
   refine .dec (fun e2 => ?_) fun _ => ih
   refine .dec (fun e3 => ?_) fun _ => ih
   refine .dec (fun e4 => ?_) fun _ => ih
   refine .dec (fun e5 => ?_) fun _ => ih
   have e1 : ¬ (j : Int) = (i : Int) := by simpa using e1
   exact absurd ⟨by omega, e2, e3, e4, e5⟩ hp
 . have bi := busy_at V hi
   have bj := busy_at V hj
   have si := F.starts i (by omega)
   have sj := F.starts j (by omega)
   obtain ⟨e1, e2, e3, e4, e5⟩ := hp
   refine .succ ?_
   simp (disch := omega) only [listsched_clashes.c5, ↓cdT, ↓if_pos, w64_id, ↓cnT]
   exact .ret _
 . refine EvP.step (.ff fun q => ?_) fun k => ?_
   . obtain ⟨_, k, hk, h⟩ := q
     exact hall k hk h
   . simp (disch := omega) only [listsched_clashes.c5, ↓cdF]
structure LG (f : Flow) (s : Sched) : Prop where
 params : ∀ p : Nat, p < (Sched.Params s).length -> rd (Sched.Params s) (p : Int) = 0
 arcs : ∀ i : Nat, i < (Flow.Arcs f).length -> Arc.Lat (rd (Flow.Arcs f) (i : Int)) <= tm f s (Arc.To (rd (Flow.Arcs f) (i : Int))) - tm f s (Arc.From (rd (Flow.Arcs f) (i : Int)))
 free : ∀ i : Nat, i < (Sched.Start s).length -> ¬ CLA f s i
theorem none_zero (xs : List Int) (hl : xs.length <= 1000000000) : W (fun k => slices_ContainsFunc_int_int_i2.f k xs) (fun r => r.1 = true ↔ ∃ p : Nat, p < xs.length /\ rd xs (p : Int) ≠ 0) := by
 simp only [slices_ContainsFunc_int_int_i2.f, slices_IndexFunc_int_int_i3.f]
 have loop : ∀ (d i : Nat), i + d = xs.length -> (∀ p : Nat, p < i -> rd xs (p : Int) = 0) -> W (fun k => slices_IndexFunc_int_int_i3.c2 k xs (xs.length : Int) (i : Int)) (fun r => 0 <= r.1 ↔ ∃ p : Nat, p < xs.length /\ rd xs (p : Int) ≠ 0) := by
  intro d
  induction d with
  | zero =>
    intro i hi h
    refine .succ ?_
    simp (disch := omega) only [slices_IndexFunc_int_int_i3.c2, ↓cdF]
    refine .ret ⟨fun h => ?_, fun ⟨p, h1, h2⟩ => absurd (h p (by omega)) h2⟩
    have h' : (0 : Int) <= -1 := h
    omega
  | succ d ih =>
    intro i hi h
    refine .succ ?_
    simp (disch := omega) only [slices_IndexFunc_int_int_i3.c2, ↓cdT, ↓if_pos, listsched_legal_1.f, Option.bind_some, w64_id]
    by_cases e : rd xs (i : Int) = 0
    . simp (disch := exact e) only [↓cnF]
      have := ih (i + 1) (by omega) fun p hp => by
       rcases Nat.lt_or_eq_of_le (Nat.le_of_lt_succ hp) with h1 | h1
       . exact h p h1
       . rw [h1]; exact e
      simpa only [natC] using this
    . simp (disch := exact e) only [↓cnT]
      exact .ret ⟨fun _ => ⟨i, by omega, e⟩, fun _ => by show (0 : Int) <= (i : Int); omega⟩
 refine .bind (loop xs.length 0 (by omega) fun p hp => by omega) fun r hr => .ret ?_
 rw [decide_eq_true_iff]
 exact hr
theorem legal_prog (V : VALID f) (SF : SIZES f) (F : FITS f s) : EvP (fun k => listsched_legal.f k f s) (LG f s) := by
 have hn := V.needs
 have i1 := V.i1
 have p1 := V.p1
 have a1 := F.start
 have a3 := F.params
 have ha := SF.arcs
 simp only [listsched_legal.f]
 obtain ⟨r, hr, hq⟩ := none_zero (Sched.Params s) (by omega)
 refine .bind hr ?_
 refine .cond (fun h => .ff fun L => ?_) fun h => ?_
 . obtain ⟨p, h1, h2⟩ := hq.1 h
   exact h2 (L.params p h1)
 have hp : ∀ p : Nat, p < (Sched.Params s).length -> rd (Sched.Params s) (p : Int) = 0 := fun p hp => Classical.byContradiction fun hne => by
  have := hq.2 ⟨p, hp, hne⟩
  rw [this] at h
  cases h
 refine EvP.all' 1 (c := fun k i => listsched_legal.c4 k (Flow.Arcs f) ((Flow.Arcs f).length : Int) (i : Int) f s) (n := (Flow.Arcs f).length)
  (P := fun i => Arc.Lat (rd (Flow.Arcs f) (i : Int)) <= tm f s (Arc.To (rd (Flow.Arcs f) (i : Int))) - tm f s (Arc.From (rd (Flow.Arcs f) (i : Int)))) (fun L => L.arcs) (fun i hi k => ?_) (fun h1 => ?_)
 . obtain ⟨v1, v2, v3, v4, _⟩ := V.arcs i hi
   have t1 := tm_bound F V v1
   have t2 := tm_bound F V v3
   have e1 := at_f V F v1 (by omega)
   have e2 := at_f V F v3 v4
   simp (disch := omega) only [listsched_legal.c4, ↓cdT, ↓if_pos, natC, w64_id, e1, e2, Option.bind_some]
   by_cases h2 : tm f s (Arc.To (rd (Flow.Arcs f) (i : Int))) - tm f s (Arc.From (rd (Flow.Arcs f) (i : Int))) < Arc.Lat (rd (Flow.Arcs f) (i : Int))
   . simp (disch := omega) only [↓cdT]
     exact .inr ⟨by omega, trivial⟩
   . simp (disch := omega) only [↓cdF]
     exact .inl ⟨by omega, trivial⟩
 . refine EvP.step (g := fun k => listsched_legal.c10 k ((Sched.Start s).length : Int) 0 f s) ?_ fun k => ?_
   . refine EvP.all (c := fun k i => listsched_legal.c10 k ((Sched.Start s).length : Int) (i : Int) f s) (n := (Sched.Start s).length) (P := fun i => ¬ CLA f s i) (fun L => L.free) (fun i hi hp b ih => ?_) (fun i hi hnp => ?_) (fun h2 => ?_)
     . refine .succ ?_
       simp only [natC] at ih
       simp (disch := omega) only [listsched_legal.c10, ↓cdT, w64_id]
       refine .bind ((clashes_prog V F (by omega)).false hp) ?_
       exact ih
     . refine .succ ?_
       simp (disch := omega) only [listsched_legal.c10, ↓cdT, w64_id]
       refine .bind ((clashes_prog V F (by omega)).true (Classical.not_not.1 hnp)) ?_
       exact .ret _
     . refine EvP.step (.tt ⟨hp, h1, h2⟩) fun k => ?_
       simp (disch := omega) only [listsched_legal.c10, ↓cdF]
   . simp (disch := omega) only [listsched_legal.c4, ↓cdF]
end
end Go.Proofs.YtjddmekfeckphaaV
namespace Go.Proofs.YtjddmekfeckphaaV
open Go Go.Vm
section
variable {f : Flow} {s : Sched}
def lstN (f : Flow) (s : Sched) (v : Int) : Nat -> Int
 | 0 => 0
 | m + 1 => if Arc.To (rd (Flow.Arcs f) (m : Int)) = v /\ Arc.From (rd (Flow.Arcs f) (m : Int)) ≠ v then mx (lstN f s v m) (tm f s (Arc.From (rd (Flow.Arcs f) (m : Int))) + Arc.Lat (rd (Flow.Arcs f) (m : Int))) else lstN f s v m
def lst (f : Flow) (s : Sched) (v : Int) : Int := lstN f s v (Flow.Arcs f).length
theorem lstN_pos (v : Int) : ∀ m, 0 <= lstN f s v m
 | 0 => Int.le_refl _
 | m + 1 => by
   have := lstN_pos v m
   show 0 <= ite _ _ _
   split
   . exact Int.le_trans this (le_mx_l _ _)
   . exact this
theorem lst_pos (v : Int) : 0 <= lst f s v := lstN_pos v _
theorem lst_ge {v : Int} {i : Nat} (hi : i < (Flow.Arcs f).length) (ht : Arc.To (rd (Flow.Arcs f) (i : Int)) = v) (hf : Arc.From (rd (Flow.Arcs f) (i : Int)) ≠ v) : tm f s (Arc.From (rd (Flow.Arcs f) (i : Int))) + Arc.Lat (rd (Flow.Arcs f) (i : Int)) <= lst f s v := by
 have key : ∀ m, i < m -> tm f s (Arc.From (rd (Flow.Arcs f) (i : Int))) + Arc.Lat (rd (Flow.Arcs f) (i : Int)) <= lstN f s v m := by
  intro m
  induction m with
  | zero => intro h; omega
  | succ m ih =>
    intro h
    show _ <= ite _ _ _
    by_cases e : i = m
    . subst e
      rw [if_pos ⟨ht, hf⟩]
      exact le_mx_r _ _
    . have := ih (by omega)
      split
      . exact Int.le_trans this (le_mx_l _ _)
      . exact this
 exact key _ hi
theorem lst_at (v : Int) : lst f s v = 0 \/ ∃ i : Nat, i < (Flow.Arcs f).length /\ Arc.To (rd (Flow.Arcs f) (i : Int)) = v /\ Arc.From (rd (Flow.Arcs f) (i : Int)) ≠ v /\ lst f s v = tm f s (Arc.From (rd (Flow.Arcs f) (i : Int))) + Arc.Lat (rd (Flow.Arcs f) (i : Int)) := by
 have key : ∀ m, m <= (Flow.Arcs f).length -> lstN f s v m = 0 \/ ∃ i : Nat, i < (Flow.Arcs f).length /\ Arc.To (rd (Flow.Arcs f) (i : Int)) = v /\ Arc.From (rd (Flow.Arcs f) (i : Int)) ≠ v /\ lstN f s v m = tm f s (Arc.From (rd (Flow.Arcs f) (i : Int))) + Arc.Lat (rd (Flow.Arcs f) (i : Int)) := by
  intro m
  induction m with
  | zero => exact fun _ => .inl rfl
  | succ m ih =>
    intro hm
    by_cases h : Arc.To (rd (Flow.Arcs f) (m : Int)) = v /\ Arc.From (rd (Flow.Arcs f) (m : Int)) ≠ v
    . have e : lstN f s v (m + 1) = mx (lstN f s v m) (tm f s (Arc.From (rd (Flow.Arcs f) (m : Int))) + Arc.Lat (rd (Flow.Arcs f) (m : Int))) := if_pos h
      rw [e]
      rcases mx_eq (lstN f s v m) (tm f s (Arc.From (rd (Flow.Arcs f) (m : Int))) + Arc.Lat (rd (Flow.Arcs f) (m : Int))) with e2 | e2
      . rw [e2]; exact ih (by omega)
      . rw [e2]; exact .inr ⟨m, by omega, h.1, h.2, rfl⟩
    . have e : lstN f s v (m + 1) = lstN f s v m := if_neg h
      rw [e]
      exact ih (by omega)
 exact key _ (Nat.le_refl _)
theorem least_prog (V : VALID f) (SF : SIZES f) (F : FITS f s) (v : Int) : Ev (fun k => listsched_least.f k f s v) (lst f s v) := by
 have ha := SF.arcs
 simp only [listsched_least.f]
 refine Ev.up (c := fun k i => listsched_least.c3 k v (lstN f s v i) (Flow.Arcs f) ((Flow.Arcs f).length : Int) (i : Int) f s) (n := (Flow.Arcs f).length) ?_ (fun i hi ih => ?_) 0 (Nat.zero_le _)
 . refine .succ ?_
   simp (disch := omega) only [listsched_least.c3, ↓cdF]
   exact .ret _
 . obtain ⟨v1, v2, v3, v4, v5, v6, _⟩ := V.arcs i hi
   have t1 := tm_bound F V v1
   have e1 := at_f V F v1 (by omega)
   simp only [natC] at ih
   refine .succ ?_
   simp (disch := omega) only [listsched_least.c3, ↓cdT, ↓if_pos, w64_id, e1, Option.bind_some]
   by_cases h1 : Arc.To (rd (Flow.Arcs f) (i : Int)) = v
   . by_cases h2 : Arc.From (rd (Flow.Arcs f) (i : Int)) = v
     . have e : lstN f s v (i + 1) = lstN f s v i := if_neg fun q => q.2 h2
       rw [e] at ih
       simp (disch := first | exact h1 | exact h2) only [↓cdT, ↓cnF]
       exact ih
     . have e : lstN f s v (i + 1) = mx (lstN f s v i) (tm f s (Arc.From (rd (Flow.Arcs f) (i : Int))) + Arc.Lat (rd (Flow.Arcs f) (i : Int))) := if_pos ⟨h1, h2⟩
       rw [e] at ih
       simp (disch := first | exact h1 | exact h2) only [↓cdT, ↓cnT]
       exact ih
   . have e : lstN f s v (i + 1) = lstN f s v i := if_neg fun q => h1 q.1
     rw [e] at ih
     simp (disch := exact h1) only [↓cdF]
     exact ih
abbrev sch (s : Sched) (D : Int) (St : List Int) : Sched := (Sched.II s, D, St, Sched.Params s, Sched.Unit s, ())
structure TIGHT (f : Flow) (c : Sched) : Prop where
 starts : ∀ i : Nat, i < (Sched.Start c).length -> ∀ t : Int, lst f c (i : Int) <= t -> t < rd (Sched.Start c) (i : Int) -> CLA f (sch c (Sched.Depth c) (List.set (Sched.Start c) i t)) i
 depth : ¬ mx 1 (lst f c (Flow.N f + 1)) < Sched.Depth c
theorem tm_ne {D : Int} {St : List Int} {i : Nat} {c v : Int} (h : v ≠ (i : Int)) (h0 : 0 <= v) : tm f (sch s D (List.set St i c)) v = tm f (sch s D St) v := by
 unfold tm
 obtain ⟨m, rfl⟩ : ∃ m : Nat, v = (m : Int) := ⟨v.toNat, by omega⟩
 show (if _ then rd (List.set St i c) (m : Int) else _) = if _ then rd St (m : Int) else _
 rw [rd_set_ne (by omega)]
theorem tm_eq {D : Int} {St : List Int} {i : Nat} {c : Int} (h : i < St.length) (hi : (i : Int) < Flow.Insts f) : tm f (sch s D (List.set St i c)) (i : Int) = c := by
 unfold tm
 rw [if_pos hi]
 exact rd_set_eq h
theorem step_fits (V : VALID f) {D : Int} {St : List Int} (F : FITS f (sch s D St)) {i : Nat} (hi : i < St.length) {c : Int} (h0 : 0 <= c) (h1 : c < rd St (i : Int)) : FITS f (sch s D (List.set St i c)) := by
 refine ⟨?_, F.unit, F.params, F.ii, F.loop, F.depth, fun j hj => ?_, F.parms, F.units⟩
 . have := F.start
   show ((List.set St i c).length : Int) = _
   rw [List.length_set]
   exact this
 . have hj : j < St.length := by
    have : j < (List.set St i c).length := hj
    rwa [List.length_set] at this
   show 0 <= rd (List.set St i c) (j : Int) /\ rd (List.set St i c) (j : Int) <= 4096
   have hb := F.starts i hi
   have hb : 0 <= rd St (i : Int) /\ rd St (i : Int) <= 4096 := hb
   rw [rd_set hi]
   split
   . omega
   . exact F.starts j hj
theorem step_legal (V : VALID f) {D : Int} {St : List Int} (F : FITS f (sch s D St)) (L : LG f (sch s D St)) {i : Nat} (hi : i < St.length) {c : Int} (h0 : lst f (sch s D St) (i : Int) <= c) (h1 : c < rd St (i : Int)) (hc : ¬ CLA f (sch s D (List.set St i c)) i) : LG f (sch s D (List.set St i c)) := by
 have hst : (St.length : Int) = Flow.Insts f := F.start
 have hn := V.needs
 refine ⟨L.params, fun a ha => ?_, fun j hj => ?_⟩
 . obtain ⟨v1, v2, v3, v4, v5, v6, _⟩ := V.arcs a ha
   have hL := L.arcs a ha
   by_cases e1 : Arc.To (rd (Flow.Arcs f) (a : Int)) = (i : Int)
   . by_cases e2 : Arc.From (rd (Flow.Arcs f) (a : Int)) = (i : Int)
     . rw [e1, e2] at hL ⊢
       omega
     . rw [tm_ne e2 v1, e1, tm_eq hi (by omega)]
       have := lst_ge (s := sch s D St) ha e1 e2
       omega
   . by_cases e2 : Arc.From (rd (Flow.Arcs f) (a : Int)) = (i : Int)
     . rw [tm_ne e1 v3, e2, tm_eq hi (by omega)]
       rw [e2] at hL
       have : tm f (sch s D St) (i : Int) = rd St (i : Int) := by unfold tm; rw [if_pos (by omega)]
       omega
     . rw [tm_ne e1 v3, tm_ne e2 v1]
       exact hL
 . have hj : j < St.length := by
    have : j < (List.set St i c).length := hj
    rwa [List.length_set] at this
   by_cases e : j = i
   . rw [e]; exact hc
   . rintro ⟨q1, k, hk, q2⟩
     by_cases ek : k = i
     . rw [ek] at q2
       refine hc ⟨by have := q2.2.1; omega, j, by omega, q2.symm⟩
     . refine L.free j hj ⟨q1, k, hk, q2.1, q2.2.1, q2.2.2.1, ?_, ?_⟩
       . have := q2.2.2.2.1
         have r1 : rd (Sched.Start (sch s D (List.set St i c))) (k : Int) = rd St (k : Int) := rd_set_ne (Ne.symm ek)
         have r2 : rd (Sched.Start (sch s D (List.set St i c))) (j : Int) = rd St (j : Int) := rd_set_ne (Ne.symm e)
         rw [r1, r2] at this
         exact this
       . have := q2.2.2.2.2
         have r1 : rd (Sched.Start (sch s D (List.set St i c))) (k : Int) = rd St (k : Int) := rd_set_ne (Ne.symm ek)
         have r2 : rd (Sched.Start (sch s D (List.set St i c))) (j : Int) = rd St (j : Int) := rd_set_ne (Ne.symm e)
         rw [r1, r2] at this
         exact this
theorem tm_depth_ne {D D' : Int} {St : List Int} {v : Int} (h : v <= Flow.N f) : tm f (sch s D' St) v = tm f (sch s D St) v := by
 unfold tm
 by_cases h1 : v < Flow.Insts f
 . rw [if_pos h1, if_pos h1]
 . rw [if_neg h1, if_neg h1]
   by_cases h2 : v < Flow.N f
   . rw [if_pos h2, if_pos h2]
   . rw [if_neg h2, if_neg h2, if_pos (by omega), if_pos (by omega)]
theorem tm_depth_eq (V : VALID f) {D : Int} {St : List Int} : tm f (sch s D St) (Flow.N f + 1) = D := by
 have := V.p0
 unfold tm
 have : Flow.N f = Flow.Insts f + Flow.Params f := rfl
 rw [if_neg (by omega), if_neg (by omega), if_neg (by omega)]
theorem depth_fits {D D' : Int} {St : List Int} (F : FITS f (sch s D St)) (h0 : 1 <= D') (h1 : D' < D) : FITS f (sch s D' St) :=
 ⟨F.start, F.unit, F.params, F.ii, F.loop, ⟨h0, by have : D <= 4096 := F.depth.2; show D' <= 4096; omega⟩, F.starts, F.parms, F.units⟩
theorem depth_legal (V : VALID f) {D D' : Int} {St : List Int} (F : FITS f (sch s D St)) (L : LG f (sch s D St)) (h0 : lst f (sch s D St) (Flow.N f + 1) <= D') : LG f (sch s D' St) := by
 refine ⟨L.params, fun a ha => ?_, L.free⟩
 obtain ⟨v1, v2, v3, v4, v5, v6, _⟩ := V.arcs a ha
 have hL := L.arcs a ha
 rw [tm_depth_ne (D := D) v2]
 by_cases e : Arc.To (rd (Flow.Arcs f) (a : Int)) = Flow.N f + 1
 . have := lst_ge (s := sch s D St) ha e (by omega)
   rw [e, tm_depth_eq V]
   omega
 . rw [tm_depth_ne (D := D) (by omega)]
   exact hL
def sumI : List Int -> Nat
 | [] => 0
 | x :: l => x.toNat + sumI l
theorem sumI_set : ∀ {l : List Int} {i : Nat} {c : Int}, i < l.length -> 0 <= c -> c < rd l (i : Int) -> sumI (List.set l i c) < sumI l
 | x :: l, 0, c, _, h0, h1 => by
   have : c < x := h1
   show c.toNat + _ < x.toNat + _
   omega
 | x :: l, i + 1, c, hi, h0, h1 => by
   have e : rd (x :: l) ((i + 1 : Nat) : Int) = rd l (i : Int) := by simp [rd]
   rw [e] at h1
   have := sumI_set (l := l) (i := i) (c := c) (by simpa using hi) h0 h1
   show x.toNat + _ < x.toNat + _
   omega
 | [], _, _, hi, _, _ => by simp at hi
structure CO (f : Flow) (s : Sched) (D : Int) (St : List Int) : Prop where
 fits : FITS f (sch s D St)
 legal : LG f (sch s D St)
 len : St.length = (Sched.Start s).length
 le : ∀ i : Nat, i < St.length -> rd St (i : Int) <= rd (Sched.Start s) (i : Int)
 dle : D <= Sched.Depth s
 same : TIGHT f s -> St = Sched.Start s /\ D = Sched.Depth s
def COMPACT (f : Flow) (s : Sched) (r : Sched × Int × Unit) : Prop := r.2.1 = 0 /\ ∃ D St, r.1 = sch s D St /\ CO f s D St /\ TIGHT f (sch s D St)
theorem set_back {l : List Int} {i : Nat} {c : Int} (hi : i < l.length) : List.set (List.set l i c) i (rd l (i : Int)) = l := by
 rw [List.set_set]
 refine list_ext_rd (by rw [List.length_set]) fun j hj => ?_
 rw [rd_set hi]
 split
 . rename_i e; subst e; rfl
 . rfl
theorem pass_prog (V : VALID f) (SF : SIZES f) {s : Sched} : ∀ (M : Nat) (D : Int) (St : List Int), CO f s D St -> sumI St + D.toNat <= M ->
 W (fun k => listsched_Compact.c9 k true f (Sched.II s) D 0 0 St (Sched.Params s) (Sched.Unit s)) (COMPACT f s) := by
 intro M
 induction M using Nat.strongRecOn with
 | _ M IH =>
 intro D0 St0 C0 hM
 refine .succ ?_
 simp only [listsched_Compact.c9, cond_true]
 have hn := V.needs
 have hi1 := V.i1
 have hN : Flow.N f = Flow.Insts f + Flow.Params f := rfl
 have p0 := V.p0
 -- the end of a pass
 have last : ∀ (b : Bool) (D : Int) (St : List Int), CO f s D St -> (b = false -> St = St0 /\ D = D0 /\ ∀ i : Nat, i < St0.length -> ∀ t : Int, lst f (sch s D0 St0) (i : Int) <= t -> t < rd St0 (i : Int) -> CLA f (sch s D0 (List.set St0 i t)) i) ->
  (b = true -> sumI St + D.toNat < sumI St0 + D0.toNat) ->
  W (fun k => listsched_Compact.c12 k b (St0.length : Int) (St0.length : Int) f (Sched.II s) D 0 0 St (Sched.Params s) (Sched.Unit s)) (COMPACT f s) := by
  intro b D St C hb1 hb2
  have F := C.fits
  refine .succ ?_
  have he := V.p1
  simp (disch := omega) only [listsched_Compact.c12, ↓cdF, dataflow_End.f, Option.bind_some, w64_id (n := Flow.Insts f + Flow.Params f), w64_id (n := Flow.Insts f + Flow.Params f + 1)]
  refine .bindEv (least_prog V SF F (Flow.N f + 1)) ?_
  have hlp := lst_pos (f := f) (s := sch s D St) (Flow.N f + 1)
  refine .dec (fun h => ?_) fun h => ?_
  . -- the depth is less
    have h1 : 1 <= mx 1 (lst f (sch s D St) (Flow.N f + 1)) := le_mx_l _ _
    have h2 := le_mx_r 1 (lst f (sch s D St) (Flow.N f + 1))
    have C' : CO f s (mx 1 (lst f (sch s D St) (Flow.N f + 1))) St := by
     refine ⟨depth_fits F h1 h, depth_legal V F C.legal h2, C.len, C.le, by have := C.dle; omega, fun T => ?_⟩
     obtain ⟨e1, e2⟩ := C.same T
     have := T.depth
     have e3 : sch s D St = s := by rw [e1, e2]
     rw [e3, e2] at h
     exact absurd h this
    have hlt : sumI St + (mx 1 (lst f (sch s D St) (Flow.N f + 1))).toNat < sumI St0 + D0.toNat := by
     have : (mx 1 (lst f (sch s D St) (Flow.N f + 1))).toNat < D.toNat := by omega
     cases b
     . obtain ⟨e1, e2, _⟩ := hb1 rfl
       rw [e1, <- e2]
       rw [e1] at this
       omega
     . have := hb2 rfl
       omega
    exact IH (sumI St0 + D0.toNat - 1) (by omega) _ _ C' (by omega)
  . cases b
    . obtain ⟨e1, e2, hT⟩ := hb1 rfl
      refine .succ ?_
      simp only [listsched_Compact.c9, cond_false]
      refine .ret ⟨rfl, D, St, rfl, C, ?_⟩
      subst e1 e2
      exact ⟨hT, h⟩
    . have := hb2 rfl
      exact IH (sumI St + D.toNat) (by omega) _ _ C (Nat.le_refl _)
 -- the instructions one by one
 have loop : ∀ (d i : Nat), i + d = St0.length -> ∀ (b : Bool) (D : Int) (St : List Int), CO f s D St -> (b = false -> St = St0 /\ D = D0 /\ ∀ j : Nat, j < i -> ∀ t : Int, lst f (sch s D0 St0) (j : Int) <= t -> t < rd St0 (j : Int) -> CLA f (sch s D0 (List.set St0 j t)) j) ->
  (b = true -> sumI St + D.toNat < sumI St0 + D0.toNat) -> (sumI St + D.toNat <= sumI St0 + D0.toNat) ->
  W (fun k => listsched_Compact.c12 k b (St0.length : Int) (i : Int) f (Sched.II s) D 0 0 St (Sched.Params s) (Sched.Unit s)) (COMPACT f s) := by
  intro d
  induction d with
  | zero =>
    intro i hi b D St C hb1 hb2 hb3
    have e : i = St0.length := by omega
    subst e
    exact last b D St C hb1 hb2
  | succ d ih =>
    intro i hi b D St C hb1 hb2 hb3
    have F := C.fits
    have hlen : St.length = St0.length := C.len.trans C0.len.symm
    have hst : (St.length : Int) = Flow.Insts f := F.start
    refine .succ ?_
    simp (disch := omega) only [listsched_Compact.c12, ↓cdT, ↓if_pos]
    refine .bindEv (least_prog V SF F (i : Int)) ?_
    have hlp := lst_pos (f := f) (s := sch s D St) (i : Int)
    have hsi : 0 <= rd St (i : Int) /\ rd St (i : Int) <= 4096 := F.starts i (by show i < St.length; omega)
    -- the search for an earlier start
    have search : ∀ (e : Nat) (c : Int), lst f (sch s D St) (i : Int) <= c -> (rd St (i : Int) - c).toNat <= e -> (∀ t : Int, lst f (sch s D St) (i : Int) <= t -> t < c -> CLA f (sch s D (List.set St i t)) i) ->
     W (fun k => listsched_Compact.c16 k b (i : Int) (rd St (i : Int)) c (St0.length : Int) (i : Int) f (Sched.II s) D 0 0 St (Sched.Params s) (Sched.Unit s)) (COMPACT f s) := by
     intro e
     have stop : ∀ c : Int, ¬ c < rd St (i : Int) -> (∀ t : Int, lst f (sch s D St) (i : Int) <= t -> t < c -> CLA f (sch s D (List.set St i t)) i) ->
      W (fun k => listsched_Compact.c16 k b (i : Int) (rd St (i : Int)) c (St0.length : Int) (i : Int) f (Sched.II s) D 0 0 St (Sched.Params s) (Sched.Unit s)) (COMPACT f s) := by
      intro c hc hcl
      refine .succ ?_
      simp (disch := omega) only [listsched_Compact.c16, ↓cdF, w64_id]
      have := ih (i + 1) (by omega) b D St C (fun e => by
       obtain ⟨e1, e2, e3⟩ := hb1 e
       refine ⟨e1, e2, fun j hj t h1 h2 => ?_⟩
       rcases Nat.lt_or_eq_of_le (Nat.le_of_lt_succ hj) with hlt | heq
       . exact e3 j hlt t h1 h2
       . subst heq
         subst e1 e2
         exact hcl t h1 (by omega)) hb2 hb3
      simpa only [natC] using this
     induction e with
     | zero => intro c hc0 hce hcl; exact stop c (by omega) hcl
     | succ e ihe =>
       intro c hc0 hce hcl
       by_cases hc : c < rd St (i : Int)
       . have F' := step_fits V F (i := i) (by omega) (by omega) hc
         refine .succ ?_
         simp (disch := first | omega | (rw [List.length_set]; omega)) only [listsched_Compact.c16, ↓cdT, ↓if_pos, Int.toNat_natCast, set_back, w64_id]
         refine W.bind (clashes_prog V F' (i := i) (by omega)).w fun y hy => ?_
         cases y
         . -- an earlier start
           simp only [Bool.not_false, cond_true]
           have hnc : ¬ CLA f (sch s D (List.set St i c)) i := fun q => by have := hy.2 q; cases this
           have hs := sumI_set (l := St) (i := i) (c := c) (by omega) (by omega) hc
           have C' : CO f s D (List.set St i c) := by
            refine ⟨F', step_legal V F C.legal (by omega) hc0 hc hnc, by rw [List.length_set]; exact C.len, fun j hj => ?_, C.dle, fun T => ?_⟩
            . rw [List.length_set] at hj
              rw [rd_set (by omega)]
              split
              . rename_i e; subst e
                have := C.le i hj
                omega
              . exact C.le j hj
            . obtain ⟨e1, e2⟩ := C.same T
              have e3 : sch s D St = s := by rw [e1, e2]
              refine absurd ?_ hnc
              have := T.starts i (by rw [<- e1]; omega) c (by rw [<- e3]; exact hc0) (by rw [<- e1]; exact hc)
              rw [<- e1, <- e2] at this
              exact this
           have := ih (i + 1) (by omega) true D (List.set St i c) C' (fun e => by cases e) (fun _ => by omega) (by omega)
           simpa only [natC] using this
         . simp only [Bool.not_true, cond_false]
           have hcc := hy.1 rfl
           refine ihe (c + 1) (by omega) (by omega) fun t h1 h2 => ?_
           by_cases e : t = c
           . rw [e]; exact hcc
           . exact hcl t h1 (by omega)
       . exact stop c hc hcl
    exact search (rd St (i : Int) - lst f (sch s D St) (i : Int)).toNat _ (Int.le_refl _) (Nat.le_refl _) (fun t h1 h2 => by omega)
 have := loop St0.length 0 (by omega) false D0 St0 C0 (fun _ => ⟨rfl, rfl, fun j hj => by omega⟩) (fun e => by cases e) (Nat.le_refl _)
 exact this
theorem Compact_prog (V : VALID f) (SF : SIZES f) (S : SSIZES s) (F : FITS f s) (hl : Flow.Loop f = false) (L : LG f s) : W (fun k => listsched_Compact.f k f s) (COMPACT f s) := by
 have h1 := S.start
 have h2 := S.unit
 have h3 := S.params
 simp only [listsched_Compact.f]
 refine .bindEv ((valid_prog SF).true V) ?_
 simp only [Bool.not_true, cond_false]
 refine .bindEv ((fits_prog V S).true F) ?_
 simp only [Bool.not_true, cond_false, hl]
 refine .bindEv ((legal_prog V SF F).true L) ?_
 simp (disch := omega) only [Bool.not_true, cond_false, clone_f, Option.bind_some]
 have C : CO f s (Sched.Depth s) (Sched.Start s) := ⟨F, L, rfl, fun i _ => Int.le_refl _, Int.le_refl _, fun _ => ⟨rfl, rfl⟩⟩
 exact pass_prog V SF _ _ _ C (Nat.le_refl _)
end
end Go.Proofs.YtjddmekfeckphaaV
namespace Go.Proofs.YtjddmekfeckphaaV
open Go Go.Vm
def INQ (q TL : List Int) : Prop := ∀ x ∈ q, 0 <= x /\ x < (TL.length : Int)
theorem INQ.perm {q q' TL : List Int} (h : INQ q TL) (p : q'.Perm q) : INQ q' TL := fun x hx => h x (p.mem_iff.1 hx)
theorem INQ.rd {q TL : List Int} (h : INQ q TL) {i : Nat} (hi : i < q.length) : 0 <= rd q (i : Int) /\ rd q (i : Int) < (TL.length : Int) := h _ (rd_mem (by omega) (by omega))
def swq (l : List Int) (i j : Nat) : List Int := (l.set i (rd l (j : Int))).set j (rd l (i : Int))
theorem swq_len (l : List Int) (i j : Nat) : (swq l i j).length = l.length := by simp [swq]
theorem swq_perm {l : List Int} {i j : Nat} (hi : i < l.length) (hj : j < l.length) : (swq l i j).Perm l := by
 unfold swq
 rw [rd_eq hi, rd_eq hj]
 exact List.set_set_perm hi hj
theorem swq_rd {l : List Int} {i j c : Nat} (hi : c ≠ i) (hj : c ≠ j) : rd (swq l i j) (c : Int) = rd l (c : Int) := by
 unfold swq
 rw [rd_set_ne (Ne.symm hj), rd_set_ne (Ne.symm hi)]
theorem swap1_f {l TL : List Int} {i j : Nat} (hi : i < l.length) (hj : j < l.length) : listsched_queue_Swap_i1.f (i : Int) (j : Int) TL l = some ((), swq l i j, ()) := by
 unfold listsched_queue_Swap_i1.f swq
 rw [if_pos (by omega), if_pos (by omega), if_pos (by omega), if_pos (by rw [List.length_set]; omega)]
 rfl
theorem swap2_f {l TL : List Int} {i j : Nat} (hi : i < l.length) (hj : j < l.length) : listsched_queue_Swap_i2.f (i : Int) (j : Int) TL l = some ((), swq l i j, ()) := by
 unfold listsched_queue_Swap_i2.f swq
 rw [if_pos (by omega), if_pos (by omega), if_pos (by omega), if_pos (by rw [List.length_set]; omega)]
 rfl
theorem less_f {l TL : List Int} (h : INQ l TL) {i j : Nat} (hi : i < l.length) (hj : j < l.length) : ∃ b, listsched_queue_Less.f (i : Int) (j : Int) l TL = some (b, ()) := by
 have h1 := h.rd hi
 have h2 := h.rd hj
 unfold listsched_queue_Less.f
 rw [if_pos (by omega), if_pos (by omega), if_pos h1, if_pos h2, if_pos h1, if_pos h2]
 cases (!decide (rd TL (rd l (i : Int)) = rd TL (rd l (j : Int)))) <;> exact ⟨_, rfl⟩
theorem up_ev {TL : List Int} : ∀ (d i : Nat), i <= d -> ∀ l : List Int, i < l.length -> l.length <= 1000000 -> INQ l TL -> W (fun k => heap_up_i1.c0 k (i : Int) l TL) (fun r => r.2.1.Perm l) := by
 intro d
 induction d with
 | zero =>
   intro i hi l hl hb h
   have e : i = 0 := by omega
   subst e
   refine .succ ?_
   have e : w64 (Int.tdiv (w64 (((0 : Nat) : Int) - 1)) 2) = ((0 : Nat) : Int) := by decide
   simp only [heap_up_i1.c0, e, decide_true, cond_true]
   exact .ret (List.Perm.refl _)
 | succ d ih =>
   intro i hi l hl hb h
   by_cases e0 : i = 0
   . exact ih i (by omega) l hl hb h
   have e : w64 (Int.tdiv (w64 ((i : Int) - 1)) 2) = (((i - 1) / 2 : Nat) : Int) := by
    have e : w64 ((i : Int) - 1) = ((i - 1 : Nat) : Int) := by rw [w64_id (by omega) (by omega)]; omega
    rw [e, Int.tdiv_eq_ediv_of_nonneg (by omega), w64_id (by omega) (by omega)]
    omega
   have hp : (i - 1) / 2 < l.length := by omega
   refine .succ ?_
   simp only [heap_up_i1.c0, e]
   simp (disch := omega) only [↓cdF]
   obtain ⟨b, hbb⟩ := less_f h (i := i) (j := (i - 1) / 2) hl hp
   rw [hbb]
   simp only [Option.bind_some]
   cases b
   . simp only [Bool.not_false, cond_true]
     exact .ret (List.Perm.refl _)
   . simp only [Bool.not_true, cond_false]
     rw [swap1_f hp hl]
     simp only [Option.bind_some]
     have hs := swq_perm (l := l) hp hl
     exact (ih ((i - 1) / 2) (by omega) (swq l ((i - 1) / 2) i) (by rw [swq_len]; omega) (by rw [swq_len]; omega) (h.perm hs)).mono fun r hr => hr.trans hs
theorem push_evq {q TL : List Int} {x : Int} (hq : INQ q TL) (hx : 0 <= x /\ x < (TL.length : Int)) (hl : q.length < 1000000) : W (fun k => heap_Push_i4.f k x q TL) (fun r => r.2.2.1 = TL /\ r.2.2.2.1.Perm (q ++ [x])) := by
 have hq2 : INQ (q ++ [x]) TL := fun y hy => by
  rcases List.mem_append.1 hy with h | h
  . exact hq y h
  . rw [List.mem_singleton.1 h]; exact hx
 have hlen : (q ++ [x]).length = q.length + 1 := by simp
 simp only [heap_Push_i4.f, listsched_queue_Push_i4.f, listsched_queue_Len.f]
 simp (disch := (simp only [List.length_singleton]; omega)) only [↓bleT, Option.bind_some]
 have e : w64 (((q ++ [x]).length : Int) - 1) = (q.length : Int) := by rw [w64_id (by omega) (by omega)]; omega
 rw [e]
 refine .bind (up_ev q.length q.length (Nat.le_refl _) (q ++ [x]) (by omega) (by omega) hq2) fun r hr => .ret ⟨rfl, hr⟩
theorem down_ev {TL : List Int} {n : Nat} : ∀ (d i : Nat), n - i <= d -> ∀ l : List Int, i < l.length -> n <= l.length -> l.length <= 1000000 -> INQ l TL ->
 W (fun k => heap_down_i1.c2 k 0 (n : Int) (i : Int) l TL) (fun r => r.2.1.Perm l /\ ∀ c : Nat, n <= c -> i < n -> rd r.2.1 (c : Int) = rd l (c : Int)) := by
 intro d
 induction d with
 | zero =>
   intro i hi l hl hn hb h
   refine .succ ?_
   have e : w64 (w64 (2 * (i : Int)) + 1) = 2 * (i : Int) + 1 := by rw [w64_id (n := 2 * (i : Int)) (by omega) (by omega), w64_id (by omega) (by omega)]
   simp only [heap_down_i1.c2, e]
   simp (disch := omega) only [↓cdT]
   exact .ret ⟨List.Perm.refl _, fun _ _ _ => rfl⟩
 | succ d ih =>
   intro i hi l hl hn hb h
   refine .succ ?_
   have e : w64 (w64 (2 * (i : Int)) + 1) = ((2 * i + 1 : Nat) : Int) := by rw [w64_id (n := 2 * (i : Int)) (by omega) (by omega), w64_id (by omega) (by omega)]; omega
   have e2 : w64 (((2 * i + 1 : Nat) : Int) + 1) = ((2 * i + 2 : Nat) : Int) := by rw [w64_id (by omega) (by omega)]; omega
   simp only [heap_down_i1.c2, e, e2]
   refine .dec (fun h1 => .ret ⟨List.Perm.refl _, fun _ _ _ => rfl⟩) fun h1 => ?_
   simp (disch := omega) only [↓cdF]
   have body : ∀ c : Nat, i < c -> c < n -> W (fun k => heap_down_i1.c8 k 0 (n : Int) (i : Int) (c : Int) l TL) (fun r => r.2.1.Perm l /\ ∀ c : Nat, n <= c -> i < n -> rd r.2.1 (c : Int) = rd l (c : Int)) := by
    intro c hic hcn
    refine .succ ?_
    obtain ⟨b, hbb⟩ := less_f h (i := c) (j := i) (by omega) hl
    simp only [heap_down_i1.c8, hbb, Option.bind_some]
    cases b
    . simp only [Bool.not_false, cond_true]
      exact .ret ⟨List.Perm.refl _, fun _ _ _ => rfl⟩
    . simp only [Bool.not_true, cond_false]
      rw [swap2_f hl (by omega)]
      simp only [Option.bind_some]
      have hs := swq_perm (l := l) (i := i) (j := c) hl (by omega)
      refine (ih c (by omega) (swq l i c) (by rw [swq_len]; omega) (by rw [swq_len]; omega) (by rw [swq_len]; omega) (h.perm hs)).mono fun r hr => ⟨hr.1.trans hs, fun x hx _ => ?_⟩
      rw [hr.2 x hx hcn, swq_rd (by omega) (by omega)]
   refine .dec (fun h2 => ?_) fun h2 => body _ (by omega) (by omega)
   obtain ⟨b, hbb⟩ := less_f h (i := 2 * i + 2) (j := 2 * i + 1) (by omega) (by omega)
   rw [hbb]
   simp only [Option.bind_some]
   cases b
   . exact body _ (by omega) (by omega)
   . exact body _ (by omega) (by omega)
theorem pop_evq {q TL : List Int} (hq : INQ q TL) (h0 : 0 < q.length) (hl : q.length <= 1000000) : W (fun k => heap_Pop_i3.f k q TL) (fun r => r.2.2.1 = TL /\ (r.1 :: r.2.2.2.1).Perm q) := by
 simp only [heap_Pop_i3.f, listsched_queue_Len.f, Option.bind_some]
 have e : w64 ((q.length : Int) - 1) = ((q.length - 1 : Nat) : Int) := by rw [w64_id (by omega) (by omega)]; omega
 rw [e]
 have e0 : (0 : Int) = ((0 : Nat) : Int) := rfl
 have hsw := swap2_f (l := q) (TL := TL) (i := 0) (j := q.length - 1) h0 (by omega)
 rw [<- e0] at hsw
 rw [hsw]
 simp only [Option.bind_some]
 have hs := swq_perm (l := q) (i := 0) (j := q.length - 1) h0 (by omega)
 simp only [heap_down_i1.f]
 refine .bind (down_ev (TL := TL) (n := q.length - 1) (q.length - 1) 0 (by omega) (swq q 0 (q.length - 1)) (by rw [swq_len]; omega) (by rw [swq_len]; omega) (by rw [swq_len]; omega) (hq.perm hs)) fun r hr => ?_
 obtain ⟨r0, l, _⟩ := r
 have hp : l.Perm q := hr.1.trans hs
 have hlen : l.length = q.length := hp.length_eq
 have e3 : w64 ((l.length : Int) - 1) = ((q.length - 1 : Nat) : Int) := by rw [hlen]; exact e
 simp only [listsched_queue_Pop_i3.f, e3]
 simp (disch := omega) only [↓if_pos, Option.bind_some, Int.toNat_natCast]
 refine .ret ⟨rfl, ?_⟩
 have e4 : l.take (q.length - 1) ++ [rd l ((q.length - 1 : Nat) : Int)] = l := by
  have : l.take (q.length - 1 + 1) = l := List.take_of_length_le (by omega)
  rw [List.take_add_one, List.getElem?_eq_getElem (by omega)] at this
  rw [rd_eq (by omega)]
  simpa using this
 show (rd l ((q.length - 1 : Nat) : Int) :: l.take (q.length - 1)).Perm q
 refine List.Perm.trans ?_ hp
 conv => rhs; rw [<- e4]
 exact (List.perm_append_singleton _ _).symm
end Go.Proofs.YtjddmekfeckphaaV
