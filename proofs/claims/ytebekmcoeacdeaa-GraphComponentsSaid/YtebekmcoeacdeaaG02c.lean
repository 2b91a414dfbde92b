/- Chapter 02: the reference's matrix, and its Next; comparing lists. -/
import Derived.Test.YtebekmcoeacdeaaG02b
set_option linter.unusedVariables false
set_option linter.unusedSimpArgs false
namespace Go.Proofs.YtebekmcoeacdeaaV
open Go Go.Vm

def mok (g : Graph) (a b : Nat) (l : Link) : Bool := decide (l.1 = (a : Int)) && decide (l.2.1 = (b : Int))
def mraw (g : Graph) (i a b : Nat) : Bool := (g.2.1.take i).any (mok g a b)
theorem mraw_succ {g : Graph} {i a b : Nat} (h : i < g.2.1.length) : mraw g (i + 1) a b = (mraw g i a b || mok g a b (rd g.2.1 (i : Int))) := by
  unfold mraw
  rw [List.take_add_one, rd_eq h, List.getElem?_eq_getElem h, List.any_append]
  simp
theorem mraw_adj {g : Graph} {a b : Nat} (ha : a < gN g) (hb : b < gN g) : mraw g g.2.1.length a b = adj g a b := by
  unfold mraw adj mok
  simp [ha, hb]

theorem Matrix_ref (g : Graph) (hl : g.2.1.length ≤ 1000000) : Ev (fun k => jacquardref02_Matrix.f k g) (MAT g) := by
  have hn := gN_le g
  simp only [jacquardref02_Matrix.f, nodes_ev, Option.bind_some]
  refine Ev.up (c := fun k i => jacquardref02_Matrix.c4 k (gN g : Int) (gN g : Int) (i : Int) g (tb i fun _ => tb (gN g) fun _ => false)) (n := gN g) ?_ ?_ 0 (Nat.zero_le _)
  · refine .succ ?_
    simp (disch := omega) only [jacquardref02_Matrix.c4, ↓cdF, Graph.Links]
    have e0 : (tb (gN g) fun _ => tb (gN g) fun _ => false) = tb (gN g) fun a => tb (gN g) (mraw g 0 a) := tb_congr fun c hc => tb_congr fun d hd => by simp [mraw]
    rw [e0]
    refine Ev.up (c := fun k i => jacquardref02_Matrix.c8 k (gN g : Int) (g.2.1.length : Int) (i : Int) g (tb (gN g) fun a => tb (gN g) (mraw g i a))) (n := g.2.1.length) ?_ ?_ 0 (Nat.zero_le _)
    · refine .succ ?_
      simp (disch := omega) only [jacquardref02_Matrix.c8, ↓cdF]
      refine (Ev.ret _).congr fun k => ?_
      congr 1
      exact tb_congr fun c hc => tb_congr fun d hd => mraw_adj hc hd
    · intro i hi hnext
      refine .succ ?_
      simp (disch := omega) only [jacquardref02_Matrix.c8, ↓cdT, ↓if_pos, Link.From, Link.To, Graph.Links, w64_id, tb_len]
      simp only [natC] at hnext
      have skip : (∀ a b, a < gN g → b < gN g → mok g a b (rd g.2.1 (i : Int)) = false) → Ev (fun k => jacquardref02_Matrix.c8 k (gN g : Int) (g.2.1.length : Int) ((i : Int) + 1) g (tb (gN g) fun a => tb (gN g) (mraw g i a))) (MAT g) := fun h => by
        refine hnext.congr fun k => ?_
        congr 1
        exact tb_congr fun c hc => tb_congr fun d hd => by rw [mraw_succ hi, h c d hc hd]; simp
      generalize hL : rd g.2.1 (i : Int) = l at *
      refine .dec (fun h1 => ?_) fun h1 => skip fun a b ha hb => by simp [mok]; omega
      refine .dec (fun h2 => ?_) fun h2 => skip fun a b ha hb => by simp [mok]; omega
      refine .dec (fun h3 => ?_) fun h3 => skip fun a b ha hb => by simp [mok]; omega
      refine .dec (fun h4 => ?_) fun h4 => skip fun a b ha hb => by simp [mok]; omega
      obtain ⟨a, ha⟩ : ∃ a : Nat, l.1 = (a : Int) := ⟨l.1.toNat, by omega⟩
      obtain ⟨b, hb⟩ : ∃ b : Nat, l.2.1 = (b : Int) := ⟨l.2.1.toNat, by omega⟩
      have han : a < gN g := by omega
      have hbn : b < gN g := by omega
      simp (disch := omega) only [ha, hb, tb_rd han, tb_len, ↓if_pos, Int.toNat_natCast, tb_set]
      refine hnext.congr fun k => ?_
      congr 1
      exact tb_congr fun c hc => by
        by_cases e : c = a
        · subst e
          rw [if_pos rfl]
          exact tb_congr fun d hd => by
            rw [mraw_succ hi, hL]
            by_cases e2 : d = b
            · subst e2; simp [mok, ha, hb]
            · rw [if_neg e2, show mok g c d l = false by simp [mok]; omega]; simp
        · rw [if_neg e]
          exact tb_congr fun d hd => by
            rw [mraw_succ hi, hL]
            rw [show mok g c d l = false by simp [mok]; omega]; simp
  · intro i hi hnext
    refine .succ ?_
    simp only [natC] at hnext
    simp (disch := first | omega | (simp only [List.length_cons, List.length_nil, tb_len]; omega)) only [jacquardref02_Matrix.c4, ↓cdT, ↓if_pos, ↓bleT, w64_id, tb_rep, Int.toNat_natCast]
    refine hnext.congr fun k => ?_
    rw [← tb_app]

theorem MAT_rd {g : Graph} {a b : Nat} (ha : a < gN g) (hb : b < gN g) : rd (rd (MAT g) (a : Int)) (b : Int) = adj g a b := by
  unfold MAT
  rw [tb_rd ha, tb_rd hb]
theorem MAT_len (g : Graph) : (MAT g).length = gN g := tb_len _ _
theorem MAT_row {g : Graph} {a : Nat} (ha : a < gN g) : (rd (MAT g) (a : Int)).length = gN g := by
  unfold MAT
  rw [tb_rd ha, tb_len]
theorem NEXT_len (g : Graph) : (NEXT g).length = gN g := tb_len _ _
theorem NEXT_rd {g : Graph} {a : Nat} (ha : a < gN g) : rd (NEXT g) (a : Int) = succs g a := tb_rd ha

theorem Next_ref (g : Graph) (hl : g.2.1.length ≤ 1000000) : Ev (fun k => jacquardref02_Next.f k g) (NEXT g) := by
  have hn := gN_le g
  simp only [jacquardref02_Next.f]
  refine .bind (Matrix_ref g hl) ?_
  simp only [MAT_len]
  refine Ev.up (c := fun k i => jacquardref02_Next.c4 k (gN g : Int) (i : Int) (MAT g) (tb i (succs g))) (n := gN g) ?_ ?_ 0 (Nat.zero_le _)
  · refine .succ ?_
    simp (disch := omega) only [jacquardref02_Next.c4, ↓cdF]
    exact .ret _
  · intro i hi hnext
    refine .succ ?_
    simp only [natC] at hnext
    simp (disch := omega) only [jacquardref02_Next.c4, ↓cdT, MAT_len]
    refine Ev.up (c := fun k j => jacquardref02_Next.c8 k (i : Int) (gN g : Int) (i : Int) (gN g : Int) (j : Int) (MAT g) (tb i (succs g)) (pick (adj g i) (fun b => (b : Int)) j)) (n := gN g) ?_ ?_ 0 (Nat.zero_le _)
    · refine .succ ?_
      simp (disch := first | omega | (simp only [List.length_cons, List.length_nil, tb_len]; omega)) only [jacquardref02_Next.c8, ↓cdF, ↓bleT, w64_id]
      refine hnext.congr fun k => ?_
      rw [← tb_app]; rfl
    · intro j hj h2
      refine .succ ?_
      simp only [natC] at h2
      have hp := pick_len (adj g i) (fun b => (b : Int)) j
      simp (disch := first | omega | (simp only [List.length_cons, List.length_nil]; omega)) only [jacquardref02_Next.c8, ↓cdT, ↓if_pos, MAT_len, MAT_row hi, MAT_rd hi hj, ↓bleT, w64_id]
      refine .cond (fun h => ?_) fun h => ?_
      · refine h2.congr fun k => ?_
        rw [pick_succ, if_pos h]
      · refine h2.congr fun k => ?_
        rw [pick_succ, if_neg (by simp [h])]

/-- two lists are compared -/
theorem same_ev (a b : List Int) (hl : a.length ≤ 1000000) : EvP (fun k => jacquardlaw02_same.f k a b) (a = b) := by
  simp only [jacquardlaw02_same.f]
  by_cases h : a.length = b.length
  · simp (disch := omega) only [↓cnF]
    refine EvP.all' (c := fun k i => jacquardlaw02_same.c4 k a b (a.length : Int) (i : Int)) (n := a.length) 1 (fun i => rd a (i : Int) = rd b (i : Int)) (fun e i hi => by rw [e]) (fun i hi k => ?_) (fun hall => ?_)
    · by_cases e : rd a (i : Int) = rd b (i : Int)
      · refine .inl ⟨e, ?_⟩
        simp (disch := first | omega | exact e) only [jacquardlaw02_same.c4, ↓cdT, ↓if_pos, ↓cnF, w64_id, natC]
      · refine .inr ⟨e, ?_⟩
        simp (disch := first | omega | exact e) only [jacquardlaw02_same.c4, ↓cdT, ↓if_pos, ↓cnT, w64_id, natC]
    · refine EvP.step (g := fun _ => some true) (.tt (list_ext_rd h hall)) fun k => ?_
      simp (disch := omega) only [jacquardlaw02_same.c4, ↓cdF]
  · simp (disch := omega) only [↓cnT]
    exact .ff fun e => h (by rw [e])
end Go.Proofs.YtebekmcoeacdeaaV
