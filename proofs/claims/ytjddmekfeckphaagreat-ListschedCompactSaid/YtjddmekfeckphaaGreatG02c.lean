/- Chapter 02: the reference's matrix, and its Next; comparing lists. -/
import Derived.Test.YtjddmekfeckphaaGreatG02b
set_option linter.unusedVariables false
set_option linter.unusedSimpArgs false
namespace Go.Proofs.YtjddmekfeckphaaGreatV
open Go Go.Vm

def mok (g : Graph) (a b : Nat) (l : Link) : Bool := decide (l.1 = (a : Int)) && decide (l.2.1 = (b : Int))
def mraw (g : Graph) (i a b : Nat) : Bool := (g.2.1.take i).any (mok g a b)
theorem mraw_succ {g : Graph} {i a b : Nat} (h : i < g.2.1.length) : mraw g (i + 1) a b = (mraw g i a b || mok g a b (rd g.2.1 (i : Int))) := by
  unfold mraw
  rw [List.take_add_one, rd_eq h, List.getElem?_eq_getElem h, List.any_append]
  simp
theorem mraw_adj {g : Graph} {a b : Nat} (ha : a < gN g) (hb : b < gN g) : mraw g g.2.1.length a b = adj g a b := by
  unfold mraw adj mok
  simp [ha, hb]

theorem MAT_rd {g : Graph} {a b : Nat} (ha : a < gN g) (hb : b < gN g) : rd (rd (MAT g) (a : Int)) (b : Int) = adj g a b := by
  unfold MAT
  rw [tb_rd ha, tb_rd hb]
theorem MAT_len (g : Graph) : (MAT g).length = gN g := tb_len _ _
theorem MAT_row {g : Graph} {a : Nat} (ha : a < gN g) : (rd (MAT g) (a : Int)).length = gN g := by
  unfold MAT
  rw [tb_rd ha, tb_len]
theorem NEXT_len (g : Graph) : (NEXT g).length = gN g := tb_len _ _
theorem NEXT_rd {g : Graph} {a : Nat} (ha : a < gN g) : rd (NEXT g) (a : Int) = succs g a := tb_rd ha

end Go.Proofs.YtjddmekfeckphaaGreatV
