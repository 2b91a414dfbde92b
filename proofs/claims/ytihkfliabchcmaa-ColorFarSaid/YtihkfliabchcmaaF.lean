/- The functions, as plain functions: printed. -/
import Derived.Test.YtihkfliabchcmaaVs
set_option linter.unusedVariables false
set_option linter.unusedSimpArgs false
namespace Go.Proofs.YtihkfliabchcmaaV
open Go Go.Vm
def color_interval.f (a0 : Int) : Option (Int) :=
  some (mn (mx a0 0) 256)
def color_limited.f (a0 : Span) (a1 : Int) : Option (Span) :=
  bif (decide (0 < a1)) then
    some ((mn (mx (Span.Start a0) (-1073741824)) 1073741824), (mn (mn (mx (Span.Len a0) 0) 1048576) a1), ())
  else
  some ((mn (mx (Span.Start a0) (-1073741824)) 1073741824), (mn (mx (Span.Len a0) 0) 1048576), ())
def color_modulo.f (a0 : Int) (a1 : Int) : Option (Int) :=
  if ¬ a1 = 0 then
  if ¬ a1 = 0 then
  some (Int.tmod (w64 ((Int.tmod a0 a1) + a1)) a1)
  else none
  else none
mutual
def color_Load.c5 : Nat → Int → (List Span) → Int → Int → (List Int) → Option ((List Int))
  | 0, _, _, _, _, _ => none
  | k + 1, x1, x23, x24, x25, o1 =>
    bif (decide (x25 < x24)) then
      if 0 ≤ x25 ∧ x25 < (x23.length : Int) then
      (color_limited.f (rd x23 x25) x1).bind fun y31 =>
      color_Load.c9 k x1 x23 x24 x25 (Span.Len y31) 0 o1 y31
      else none
    else
    some o1
def color_Load.c17 : Nat → (List Span) → Int → Int → (List Span) → Int → Int → Option ((List Int))
  | 0, _, _, _, _, _, _ => none
  | k + 1, x0, x9, x10, x51, x52, x53 =>
    bif (decide (x53 < x52)) then
      if 0 ≤ x53 ∧ x53 < (x51.length : Int) then
      (color_limited.f (rd x51 x53) 0).bind fun y58 =>
      bif (decide (0 < (Span.Len y58))) then
        color_Load.c17 k x0 (mn x9 (Span.Start y58)) (mx x10 (w64 ((Span.Start y58) + (Span.Len y58)))) x51 x52 (w64 (x53 + 1))
      else
      color_Load.c17 k x0 x9 x10 x51 x52 (w64 (x53 + 1))
      else none
    else
    bif (decide (x10 ≤ x9)) then
      some []
    else
    bif (decide (2097152 < (w64 (x10 - x9)))) then
      some []
    else
    if 0 ≤ (w64 ((w64 (x10 - x9)) + 1)) ∧ (w64 ((w64 (x10 - x9)) + 1)) ≤ (w64 ((w64 (x10 - x9)) + 1)) ∧ (w64 ((w64 (x10 - x9)) + 1)) ≤ 1073741824 then
    color_Load.c27 k x9 x10 x0 (x0.length : Int) 0 (List.replicate (w64 ((w64 (x10 - x9)) + 1)).toNat (0 : Int))
    else none
def color_Load.c9 : Nat → Int → (List Span) → Int → Int → Int → Int → (List Int) → Span → Option ((List Int))
  | 0, _, _, _, _, _, _, _, _ => none
  | k + 1, x1, x23, x24, x25, x33, x34, o1, o2 =>
    bif (decide (x34 < x33)) then
      (color_modulo.f (w64 ((Span.Start o2) + x34)) x1).bind fun y43 =>
      if 0 ≤ y43 ∧ y43 < (o1.length : Int) then
      if 0 ≤ y43 ∧ y43 < (o1.length : Int) then
      color_Load.c9 k x1 x23 x24 x25 x33 (w64 (x34 + 1)) (List.set o1 y43.toNat (w64 ((rd o1 y43) + 1))) o2
      else none
      else none
    else
    color_Load.c5 k x1 x23 x24 (w64 (x25 + 1)) o1
def color_Load.c27 : Nat → Int → Int → (List Span) → Int → Int → (List Int) → Option ((List Int))
  | 0, _, _, _, _, _, _ => none
  | k + 1, x9, x10, x88, x89, x90, o4 =>
    bif (decide (x90 < x89)) then
      if 0 ≤ x90 ∧ x90 < (x88.length : Int) then
      (color_limited.f (rd x88 x90) 0).bind fun y95 =>
      bif (decide (0 < (Span.Len y95))) then
        if 0 ≤ (w64 ((Span.Start y95) - x9)) ∧ (w64 ((Span.Start y95) - x9)) < (o4.length : Int) then
        if 0 ≤ (w64 ((Span.Start y95) - x9)) ∧ (w64 ((Span.Start y95) - x9)) < (o4.length : Int) then
        if 0 ≤ (w64 ((w64 ((Span.Start y95) + (Span.Len y95))) - x9)) ∧ (w64 ((w64 ((Span.Start y95) + (Span.Len y95))) - x9)) < ((List.set o4 (w64 ((Span.Start y95) - x9)).toNat (w64 ((rd o4 (w64 ((Span.Start y95) - x9))) + 1))).length : Int) then
        if 0 ≤ (w64 ((w64 ((Span.Start y95) + (Span.Len y95))) - x9)) ∧ (w64 ((w64 ((Span.Start y95) + (Span.Len y95))) - x9)) < ((List.set o4 (w64 ((Span.Start y95) - x9)).toNat (w64 ((rd o4 (w64 ((Span.Start y95) - x9))) + 1))).length : Int) then
        color_Load.c27 k x9 x10 x88 x89 (w64 (x90 + 1)) (List.set (List.set o4 (w64 ((Span.Start y95) - x9)).toNat (w64 ((rd o4 (w64 ((Span.Start y95) - x9))) + 1))) (w64 ((w64 ((Span.Start y95) + (Span.Len y95))) - x9)).toNat (w64 ((rd (List.set o4 (w64 ((Span.Start y95) - x9)).toNat (w64 ((rd o4 (w64 ((Span.Start y95) - x9))) + 1))) (w64 ((w64 ((Span.Start y95) + (Span.Len y95))) - x9))) - 1)))
        else none
        else none
        else none
        else none
      else
      color_Load.c27 k x9 x10 x88 x89 (w64 (x90 + 1)) o4
      else none
    else
    color_Load.c35 k x9 x10 1 o4
def color_Load.c35 : Nat → Int → Int → Int → (List Int) → Option ((List Int))
  | 0, _, _, _, _ => none
  | k + 1, x9, x10, x16, o4 =>
    bif (decide (x16 < (o4.length : Int))) then
      if 0 ≤ x16 ∧ x16 < (o4.length : Int) then
      if 0 ≤ (w64 (x16 - 1)) ∧ (w64 (x16 - 1)) < (o4.length : Int) then
      if 0 ≤ x16 ∧ x16 < (o4.length : Int) then
      color_Load.c35 k x9 x10 (w64 (x16 + 1)) (List.set o4 x16.toNat (w64 ((rd o4 x16) + (rd o4 (w64 (x16 - 1))))))
      else none
      else none
      else none
    else
    if 0 ≤ (w64 (x10 - x9)) ∧ (w64 (x10 - x9)) ≤ (o4.length : Int) then
    some (List.take (w64 (x10 - x9)).toNat o4)
    else none
end
def color_Load.f (k : Nat) (a0 : (List Span)) (a1 : Int) : Option ((List Int)) :=
  (color_interval.f a1).bind fun y18 =>
  bif (decide (0 < y18)) then
    if 0 ≤ y18 ∧ y18 ≤ y18 ∧ y18 ≤ 1073741824 then
    color_Load.c5 k y18 a0 (a0.length : Int) 0 (List.replicate y18.toNat (0 : Int))
    else none
  else
  color_Load.c17 k a0 1074790400 (-1073741824) a0 (a0.length : Int) 0
mutual
def slices_Min_int_int.c3 : Nat → (List Int) → Option (Int)
  | 0, _ => none
  | k + 1, x0 =>
    if 0 ≤ (0 : Int) ∧ 0 < (x0.length : Int) then
    slices_Min_int_int.c5 k x0 (rd x0 0) 1
    else none
def slices_Min_int_int.c5 : Nat → (List Int) → Int → Int → Option (Int)
  | 0, _, _, _ => none
  | k + 1, x0, x3, x4 =>
    bif (decide (x4 < (x0.length : Int))) then
      if 0 ≤ x4 ∧ x4 < (x0.length : Int) then
      slices_Min_int_int.c5 k x0 (mn x3 (rd x0 x4)) (w64 (x4 + 1))
      else none
    else
    some x3
end
def slices_Min_int_int.f (k : Nat) (a0 : (List Int)) : Option (Int) :=
  bif (decide ((a0.length : Int) < 1)) then
    none
  else
  slices_Min_int_int.c3 k a0
mutual
def slices_Index_int_int.c2 : Nat → (List Int) → Int → Int → Int → Option (Int)
  | 0, _, _, _, _ => none
  | k + 1, x0, x1, x7, x8 =>
    bif (decide (x8 < x7)) then
      if 0 ≤ x8 ∧ x8 < (x0.length : Int) then
      bif (decide (x1 = (rd x0 x8))) then
        some x8
      else
      slices_Index_int_int.c2 k x0 x1 x7 (w64 (x8 + 1))
      else none
    else
    some (-1)
end
def slices_Index_int_int.f (k : Nat) (a0 : (List Int)) (a1 : Int) : Option (Int) :=
  slices_Index_int_int.c2 k a0 a1 (a0.length : Int) 0
def cmp_isNaN_int.f (a0 : Int) : Option (Bool) :=
  some (!decide (a0 = a0))
def cmp_Compare_int.f (a0 : Int) (a1 : Int) : Option (Int) :=
  (cmp_isNaN_int.f a0).bind fun y8 =>
  (cmp_isNaN_int.f a1).bind fun y10 =>
  bif y8 then
    bif y10 then
      some 0
    else
    some (-1)
  else
  bif y10 then
    some 1
  else
  bif (decide (a0 < a1)) then
    some (-1)
  else
  bif (decide (a1 < a0)) then
    some 1
  else
  some 0
mutual
def cmp_Or_int.c3 : Nat → Int → (List Int) → Int → Int → Option (Int)
  | 0, _, _, _, _ => none
  | k + 1, x3, x6, x7, x8 =>
    bif (decide (x8 < x7)) then
      if 0 ≤ x8 ∧ x8 < (x6.length : Int) then
      bif (!decide ((rd x6 x8) = x3)) then
        some (rd x6 x8)
      else
      cmp_Or_int.c3 k x3 x6 x7 (w64 (x8 + 1))
      else none
    else
    some x3
end
def cmp_Or_int.f (k : Nat) (a0 : (List Int)) : Option (Int) :=
  cmp_Or_int.c3 k 0 a0 (a0.length : Int) 0
def color_paint_1.f (k : Nat) (x0 : Int) (x1 : Int) (o0 : (List Span)) : Option (Int × Unit) :=
  if 0 ≤ x0 ∧ x0 < (o0.length : Int) then
  if 0 ≤ x1 ∧ x1 < (o0.length : Int) then
  (cmp_Compare_int.f (Span.Start (rd o0 x0)) (Span.Start (rd o0 x1))).bind fun y16 =>
  (cmp_Compare_int.f x0 x1).bind fun y19 =>
  (cmp_Or_int.f k [y16, y19]).bind fun y21 =>
  some (y21, ())
  else none
  else none
mutual
def slices_insertionSortCmpFunc_int_i1.c1 : Nat → Int → Int → Int → (List Int) → (List Span) → Option (Unit × (List Int) × Unit)
  | 0, _, _, _, _, _ => none
  | k + 1, x1, x2, x8, o0, o1 =>
    bif (decide (x8 < x2)) then
      slices_insertionSortCmpFunc_int_i1.c4 k x1 x2 x8 x8 o0 o1
    else
    some ((()), o0, ())
def slices_insertionSortCmpFunc_int_i1.c4 : Nat → Int → Int → Int → Int → (List Int) → (List Span) → Option (Unit × (List Int) × Unit)
  | 0, _, _, _, _, _, _ => none
  | k + 1, x1, x2, x8, x9, o0, o1 =>
    bif (decide (x1 < x9)) then
      if 0 ≤ x9 ∧ x9 < (o0.length : Int) then
      if 0 ≤ (w64 (x9 - 1)) ∧ (w64 (x9 - 1)) < (o0.length : Int) then
      (color_paint_1.f k (rd o0 x9) (rd o0 (w64 (x9 - 1))) o1).bind fun y32 =>
      bif (decide (y32.1 < 0)) then
        if 0 ≤ (w64 (x9 - 1)) ∧ (w64 (x9 - 1)) < (o0.length : Int) then
        if 0 ≤ x9 ∧ x9 < (o0.length : Int) then
        if 0 ≤ x9 ∧ x9 < (o0.length : Int) then
        if 0 ≤ (w64 (x9 - 1)) ∧ (w64 (x9 - 1)) < ((List.set o0 x9.toNat (rd o0 (w64 (x9 - 1)))).length : Int) then
        slices_insertionSortCmpFunc_int_i1.c4 k x1 x2 x8 (w64 (x9 - 1)) (List.set (List.set o0 x9.toNat (rd o0 (w64 (x9 - 1)))) (w64 (x9 - 1)).toNat (rd o0 x9)) o1
        else none
        else none
        else none
        else none
      else
      slices_insertionSortCmpFunc_int_i1.c1 k x1 x2 (w64 (x8 + 1)) o0 o1
      else none
      else none
    else
    slices_insertionSortCmpFunc_int_i1.c1 k x1 x2 (w64 (x8 + 1)) o0 o1
end
def slices_insertionSortCmpFunc_int_i1.f (k : Nat) (x1 : Int) (x2 : Int) (o0 : (List Int)) (o1 : (List Span)) : Option (Unit × (List Int) × Unit) :=
  slices_insertionSortCmpFunc_int_i1.c1 k x1 x2 (w64 (x1 + 1)) o0 o1
mutual
def slices_swapRangeCmpFunc_int_i1.c1 : Nat → Int → Int → Int → Int → (List Int) → Option (Unit × (List Int) × Unit)
  | 0, _, _, _, _, _ => none
  | k + 1, x1, x2, x3, x10, o0 =>
    bif (decide (x10 < x3)) then
      if 0 ≤ (w64 (x2 + x10)) ∧ (w64 (x2 + x10)) < (o0.length : Int) then
      if 0 ≤ (w64 (x1 + x10)) ∧ (w64 (x1 + x10)) < (o0.length : Int) then
      if 0 ≤ (w64 (x1 + x10)) ∧ (w64 (x1 + x10)) < (o0.length : Int) then
      if 0 ≤ (w64 (x2 + x10)) ∧ (w64 (x2 + x10)) < ((List.set o0 (w64 (x1 + x10)).toNat (rd o0 (w64 (x2 + x10)))).length : Int) then
      slices_swapRangeCmpFunc_int_i1.c1 k x1 x2 x3 (w64 (x10 + 1)) (List.set (List.set o0 (w64 (x1 + x10)).toNat (rd o0 (w64 (x2 + x10)))) (w64 (x2 + x10)).toNat (rd o0 (w64 (x1 + x10))))
      else none
      else none
      else none
      else none
    else
    some ((()), o0, ())
end
def slices_swapRangeCmpFunc_int_i1.f (k : Nat) (x1 : Int) (x2 : Int) (x3 : Int) (o0 : (List Int)) (o1 : (List Span)) : Option (Unit × (List Int) × Unit) :=
  slices_swapRangeCmpFunc_int_i1.c1 k x1 x2 x3 0 o0
mutual
def slices_rotateCmpFunc_int_i1.c2 : Nat → Int → Int → Int → (List Int) → (List Span) → Option (Unit × (List Int) × Unit)
  | 0, _, _, _, _, _ => none
  | k + 1, x2, x10, x11, o0, o1 =>
    bif (!decide (x10 = x11)) then
      bif (decide (x11 < x10)) then
        (slices_swapRangeCmpFunc_int_i1.f k (w64 (x2 - x10)) x2 x11 o0 o1).bind fun y31 =>
        slices_rotateCmpFunc_int_i1.c2 k x2 (w64 (x10 - x11)) x11 y31.2.1 o1
      else
      (slices_swapRangeCmpFunc_int_i1.f k (w64 (x2 - x10)) (w64 ((w64 (x2 + x11)) - x10)) x10 o0 o1).bind fun y46 =>
      slices_rotateCmpFunc_int_i1.c2 k x2 x10 (w64 (x11 - x10)) y46.2.1 o1
    else
    (slices_swapRangeCmpFunc_int_i1.f k (w64 (x2 - x10)) x2 x10 o0 o1).bind fun y57 =>
    some ((()), y57.2.1, ())
end
def slices_rotateCmpFunc_int_i1.f (k : Nat) (x1 : Int) (x2 : Int) (x3 : Int) (o0 : (List Int)) (o1 : (List Span)) : Option (Unit × (List Int) × Unit) :=
  slices_rotateCmpFunc_int_i1.c2 k x2 (w64 (x2 - x1)) (w64 (x3 - x2)) o0 o1
mutual
def slices_symMergeCmpFunc_int_i1.c3 : Nat → Int → Int → Int → (List Int) → (List Span) → Option (Unit × (List Int) × Unit)
  | 0, _, _, _, _, _ => none
  | k + 1, x1, x10, x11, o0, o1 =>
    bif (decide (x10 < x11)) then
      if 0 ≤ (w64 ((shrW .u64 (IntKind.wrap .u64 ((w64 (x10 + x11)))) 1))) ∧ (w64 ((shrW .u64 (IntKind.wrap .u64 ((w64 (x10 + x11)))) 1))) < (o0.length : Int) then
      if 0 ≤ x1 ∧ x1 < (o0.length : Int) then
      (color_paint_1.f k (rd o0 (w64 ((shrW .u64 (IntKind.wrap .u64 ((w64 (x10 + x11)))) 1)))) (rd o0 x1) o1).bind fun y49 =>
      bif (decide (y49.1 < 0)) then
        slices_symMergeCmpFunc_int_i1.c3 k x1 (w64 ((w64 ((shrW .u64 (IntKind.wrap .u64 ((w64 (x10 + x11)))) 1))) + 1)) x11 o0 o1
      else
      slices_symMergeCmpFunc_int_i1.c3 k x1 x10 (w64 ((shrW .u64 (IntKind.wrap .u64 ((w64 (x10 + x11)))) 1))) o0 o1
      else none
      else none
    else
    slices_symMergeCmpFunc_int_i1.c9 k x10 x1 o0
def slices_symMergeCmpFunc_int_i1.c15 : Nat → Int → Int → Int → (List Int) → (List Span) → Option (Unit × (List Int) × Unit)
  | 0, _, _, _, _, _ => none
  | k + 1, x2, x14, x15, o0, o1 =>
    bif (decide (x14 < x15)) then
      if 0 ≤ x2 ∧ x2 < (o0.length : Int) then
      if 0 ≤ (w64 ((shrW .u64 (IntKind.wrap .u64 ((w64 (x14 + x15)))) 1))) ∧ (w64 ((shrW .u64 (IntKind.wrap .u64 ((w64 (x14 + x15)))) 1))) < (o0.length : Int) then
      (color_paint_1.f k (rd o0 x2) (rd o0 (w64 ((shrW .u64 (IntKind.wrap .u64 ((w64 (x14 + x15)))) 1)))) o1).bind fun y101 =>
      bif (!(decide (y101.1 < 0))) then
        slices_symMergeCmpFunc_int_i1.c15 k x2 (w64 ((w64 ((shrW .u64 (IntKind.wrap .u64 ((w64 (x14 + x15)))) 1))) + 1)) x15 o0 o1
      else
      slices_symMergeCmpFunc_int_i1.c15 k x2 x14 (w64 ((shrW .u64 (IntKind.wrap .u64 ((w64 (x14 + x15)))) 1))) o0 o1
      else none
      else none
    else
    slices_symMergeCmpFunc_int_i1.c21 k x14 x2 o0
def slices_symMergeCmpFunc_int_i1.c32 : Nat → Int → Int → Int → Int → Int → Int → Int → (List Int) → (List Span) → Option (Unit × (List Int) × Unit)
  | 0, _, _, _, _, _, _, _, _, _ => none
  | k + 1, x1, x2, x3, x18, x19, x20, x21, o0, o1 =>
    slices_symMergeCmpFunc_int_i1.c33 k x1 x2 x3 x18 x19 x20 x21 (w64 (x19 - 1)) o0 o1
def slices_symMergeCmpFunc_int_i1.c9 : Nat → Int → Int → (List Int) → Option (Unit × (List Int) × Unit)
  | 0, _, _, _ => none
  | k + 1, x10, x13, o0 =>
    bif (decide (x13 < (w64 (x10 - 1)))) then
      if 0 ≤ (w64 (x13 + 1)) ∧ (w64 (x13 + 1)) < (o0.length : Int) then
      if 0 ≤ x13 ∧ x13 < (o0.length : Int) then
      if 0 ≤ x13 ∧ x13 < (o0.length : Int) then
      if 0 ≤ (w64 (x13 + 1)) ∧ (w64 (x13 + 1)) < ((List.set o0 x13.toNat (rd o0 (w64 (x13 + 1)))).length : Int) then
      slices_symMergeCmpFunc_int_i1.c9 k x10 (w64 (x13 + 1)) (List.set (List.set o0 x13.toNat (rd o0 (w64 (x13 + 1)))) (w64 (x13 + 1)).toNat (rd o0 x13))
      else none
      else none
      else none
      else none
    else
    some ((()), o0, ())
def slices_symMergeCmpFunc_int_i1.c21 : Nat → Int → Int → (List Int) → Option (Unit × (List Int) × Unit)
  | 0, _, _, _ => none
  | k + 1, x14, x17, o0 =>
    bif (decide (x14 < x17)) then
      if 0 ≤ (w64 (x17 - 1)) ∧ (w64 (x17 - 1)) < (o0.length : Int) then
      if 0 ≤ x17 ∧ x17 < (o0.length : Int) then
      if 0 ≤ x17 ∧ x17 < (o0.length : Int) then
      if 0 ≤ (w64 (x17 - 1)) ∧ (w64 (x17 - 1)) < ((List.set o0 x17.toNat (rd o0 (w64 (x17 - 1)))).length : Int) then
      slices_symMergeCmpFunc_int_i1.c21 k x14 (w64 (x17 - 1)) (List.set (List.set o0 x17.toNat (rd o0 (w64 (x17 - 1)))) (w64 (x17 - 1)).toNat (rd o0 x17))
      else none
      else none
      else none
      else none
    else
    some ((()), o0, ())
def slices_symMergeCmpFunc_int_i1.c33 : Nat → Int → Int → Int → Int → Int → Int → Int → Int → (List Int) → (List Span) → Option (Unit × (List Int) × Unit)
  | 0, _, _, _, _, _, _, _, _, _, _ => none
  | k + 1, x1, x2, x3, x18, x19, x20, x21, x22, o0, o1 =>
    bif (decide (x20 < x21)) then
      if 0 ≤ (w64 (x22 - (w64 ((shrW .u64 (IntKind.wrap .u64 ((w64 (x20 + x21)))) 1))))) ∧ (w64 (x22 - (w64 ((shrW .u64 (IntKind.wrap .u64 ((w64 (x20 + x21)))) 1))))) < (o0.length : Int) then
      if 0 ≤ (w64 ((shrW .u64 (IntKind.wrap .u64 ((w64 (x20 + x21)))) 1))) ∧ (w64 ((shrW .u64 (IntKind.wrap .u64 ((w64 (x20 + x21)))) 1))) < (o0.length : Int) then
      (color_paint_1.f k (rd o0 (w64 (x22 - (w64 ((shrW .u64 (IntKind.wrap .u64 ((w64 (x20 + x21)))) 1)))))) (rd o0 (w64 ((shrW .u64 (IntKind.wrap .u64 ((w64 (x20 + x21)))) 1)))) o1).bind fun y169 =>
      bif (!(decide (y169.1 < 0))) then
        slices_symMergeCmpFunc_int_i1.c33 k x1 x2 x3 x18 x19 (w64 ((w64 ((shrW .u64 (IntKind.wrap .u64 ((w64 (x20 + x21)))) 1))) + 1)) x21 x22 o0 o1
      else
      slices_symMergeCmpFunc_int_i1.c33 k x1 x2 x3 x18 x19 x20 (w64 ((shrW .u64 (IntKind.wrap .u64 ((w64 (x20 + x21)))) 1))) x22 o0 o1
      else none
      else none
    else
    bif (decide (x20 < x2)) then
      bif (decide (x2 < (w64 (x19 - x20)))) then
        (slices_rotateCmpFunc_int_i1.f k x20 x2 (w64 (x19 - x20)) o0 o1).bind fun y191 =>
        slices_symMergeCmpFunc_int_i1.c41 k x1 x3 x18 x20 (w64 (x19 - x20)) y191.2.1 o1
      else
      slices_symMergeCmpFunc_int_i1.c41 k x1 x3 x18 x20 (w64 (x19 - x20)) o0 o1
    else
    slices_symMergeCmpFunc_int_i1.c41 k x1 x3 x18 x20 (w64 (x19 - x20)) o0 o1
def slices_symMergeCmpFunc_int_i1.c41 : Nat → Int → Int → Int → Int → Int → (List Int) → (List Span) → Option (Unit × (List Int) × Unit)
  | 0, _, _, _, _, _, _, _ => none
  | k + 1, x1, x3, x18, x20, x24, o0, o1 =>
    bif (decide (x1 < x20)) then
      bif (decide (x20 < x18)) then
        (slices_symMergeCmpFunc_int_i1.f k x1 x20 x18 o0 o1).bind fun y205 =>
        slices_symMergeCmpFunc_int_i1.c43 k x3 x18 x24 y205.2.1 o1
      else
      slices_symMergeCmpFunc_int_i1.c43 k x3 x18 x24 o0 o1
    else
    slices_symMergeCmpFunc_int_i1.c43 k x3 x18 x24 o0 o1
def slices_symMergeCmpFunc_int_i1.c43 : Nat → Int → Int → Int → (List Int) → (List Span) → Option (Unit × (List Int) × Unit)
  | 0, _, _, _, _, _ => none
  | k + 1, x3, x18, x24, o0, o1 =>
    bif (decide (x18 < x24)) then
      bif (decide (x24 < x3)) then
        (slices_symMergeCmpFunc_int_i1.f k x18 x24 x3 o0 o1).bind fun y219 =>
        some ((()), y219.2.1, ())
      else
      some ((()), o0, ())
    else
    some ((()), o0, ())
def slices_symMergeCmpFunc_int_i1.f : Nat → Int → Int → Int → (List Int) → (List Span) → Option (Unit × (List Int) × Unit)
  | 0, _, _, _, _, _ => none
  | k + 1, x1, x2, x3, o0, o1 =>
    bif (decide ((w64 (x2 - x1)) = 1)) then
      slices_symMergeCmpFunc_int_i1.c3 k x1 x2 x3 o0 o1
    else
    bif (decide ((w64 (x3 - x2)) = 1)) then
      slices_symMergeCmpFunc_int_i1.c15 k x2 x1 x2 o0 o1
    else
    bif (decide ((w64 ((shrW .u64 (IntKind.wrap .u64 ((w64 (x1 + x3)))) 1))) < x2)) then
      slices_symMergeCmpFunc_int_i1.c32 k x1 x2 x3 (w64 ((shrW .u64 (IntKind.wrap .u64 ((w64 (x1 + x3)))) 1))) (w64 ((w64 ((shrW .u64 (IntKind.wrap .u64 ((w64 (x1 + x3)))) 1))) + x2)) (w64 ((w64 ((w64 ((shrW .u64 (IntKind.wrap .u64 ((w64 (x1 + x3)))) 1))) + x2)) - x3)) (w64 ((shrW .u64 (IntKind.wrap .u64 ((w64 (x1 + x3)))) 1))) o0 o1
    else
    slices_symMergeCmpFunc_int_i1.c32 k x1 x2 x3 (w64 ((shrW .u64 (IntKind.wrap .u64 ((w64 (x1 + x3)))) 1))) (w64 ((w64 ((shrW .u64 (IntKind.wrap .u64 ((w64 (x1 + x3)))) 1))) + x2)) x1 x2 o0 o1
end
mutual
def slices_stableCmpFunc_int_i1.c2 : Nat → Int → Int → Int → Int → (List Int) → (List Span) → Option (Unit × (List Int) × Unit)
  | 0, _, _, _, _, _, _ => none
  | k + 1, x1, x6, x7, x8, o0, o1 =>
    bif (decide (x8 ≤ x1)) then
      (slices_insertionSortCmpFunc_int_i1.f k x7 x8 o0 o1).bind fun y18 =>
      slices_stableCmpFunc_int_i1.c2 k x1 x6 x8 (w64 (x8 + x6)) y18.2.1 o1
    else
    (slices_insertionSortCmpFunc_int_i1.f k x7 x1 o0 o1).bind fun y27 =>
    slices_stableCmpFunc_int_i1.c7 k x1 x6 y27.2.1 o1
def slices_stableCmpFunc_int_i1.c7 : Nat → Int → Int → (List Int) → (List Span) → Option (Unit × (List Int) × Unit)
  | 0, _, _, _, _ => none
  | k + 1, x1, x6, o0, o1 =>
    bif (decide (x6 < x1)) then
      slices_stableCmpFunc_int_i1.c9 k x1 x6 0 (w64 (2 * x6)) o0 o1
    else
    some ((()), o0, ())
def slices_stableCmpFunc_int_i1.c9 : Nat → Int → Int → Int → Int → (List Int) → (List Span) → Option (Unit × (List Int) × Unit)
  | 0, _, _, _, _, _, _ => none
  | k + 1, x1, x6, x7, x8, o0, o1 =>
    bif (decide (x8 ≤ x1)) then
      (slices_symMergeCmpFunc_int_i1.f k x7 (w64 (x7 + x6)) x8 o0 o1).bind fun y43 =>
      slices_stableCmpFunc_int_i1.c9 k x1 x6 x8 (w64 (x8 + (w64 (2 * x6)))) y43.2.1 o1
    else
    bif (decide ((w64 (x7 + x6)) < x1)) then
      (slices_symMergeCmpFunc_int_i1.f k x7 (w64 (x7 + x6)) x1 o0 o1).bind fun y60 =>
      slices_stableCmpFunc_int_i1.c7 k x1 (w64 (x6 * 2)) y60.2.1 o1
    else
    slices_stableCmpFunc_int_i1.c7 k x1 (w64 (x6 * 2)) o0 o1
end
def slices_stableCmpFunc_int_i1.f (k : Nat) (x1 : Int) (o0 : (List Int)) (o1 : (List Span)) : Option (Unit × (List Int) × Unit) :=
  slices_stableCmpFunc_int_i1.c2 k x1 20 0 20 o0 o1
def slices_SortStableFunc_int_int_i1.f (k : Nat) (o0 : (List Int)) (o1 : (List Span)) : Option (Unit × (List Int) × Unit) :=
  (slices_stableCmpFunc_int_i1.f k (o0.length : Int) o0 o1).bind fun y8 =>
  some ((()), y8.2.1, ())
def color_paint_2.f (x0 : Int) (o0 : Span) : Option (Bool × Unit) :=
  some ((decide (x0 ≤ (Span.Start o0))), ())
mutual
def slices_IndexFunc_int_int.c2 : Nat → (List Int) → Int → Int → Span → Option (Int × Unit)
  | 0, _, _, _, _ => none
  | k + 1, x0, x7, x8, o0 =>
    bif (decide (x8 < x7)) then
      if 0 ≤ x8 ∧ x8 < (x0.length : Int) then
      (color_paint_2.f (rd x0 x8) o0).bind fun y16 =>
      bif y16.1 then
        some (x8, ())
      else
      slices_IndexFunc_int_int.c2 k x0 x7 (w64 (x8 + 1)) o0
      else none
    else
    some ((-1), ())
end
def slices_IndexFunc_int_int.f (k : Nat) (x0 : (List Int)) (o0 : Span) : Option (Int × Unit) :=
  slices_IndexFunc_int_int.c2 k x0 (x0.length : Int) 0 o0
mutual
def color_paint_i2.c4 : Nat → Int → Int → Int → (List Int) → (List Int) → (List Span) → (List Int) → Option (Unit × (List Int) × (List Int) × Unit)
  | 0, _, _, _, _, _, _, _ => none
  | k + 1, x3, x17, x18, o0, o1, o2, o3 =>
    bif (decide (x18 < x17)) then
      if 0 ≤ x18 ∧ x18 < (o0.length : Int) then
      if 0 ≤ (rd o0 x18) ∧ (rd o0 x18) < (o2.length : Int) then
      (slices_IndexFunc_int_int.f k o3 (rd o2 (rd o0 x18))).bind fun y28 =>
      bif (decide (y28.1 < 0)) then
        bif Nat.ble (List.length o3 + List.length [0]) 1073741824 then
        color_paint_i2.c11 k x3 (rd o0 x18) (o3.length : Int) x17 x18 o0 o1 o2 (o3 ++ [0]) (rd o2 (rd o0 x18))
        else none
      else
      color_paint_i2.c11 k x3 (rd o0 x18) y28.1 x17 x18 o0 o1 o2 o3 (rd o2 (rd o0 x18))
      else none
      else none
    else
    some ((()), o0, o1, ())
def color_paint_i2.c11 : Nat → Int → Int → Int → Int → Int → (List Int) → (List Int) → (List Span) → (List Int) → Span → Option (Unit × (List Int) × (List Int) × Unit)
  | 0, _, _, _, _, _, _, _, _, _, _ => none
  | k + 1, x3, x10, x12, x17, x18, o0, o1, o2, o6, o4 =>
    if 0 ≤ x12 ∧ x12 < (o6.length : Int) then
    if 0 ≤ x10 ∧ x10 < (o1.length : Int) then
    color_paint_i2.c4 k x3 x17 (w64 (x18 + 1)) o0 (List.set o1 x10.toNat (w64 (x3 + x12))) o2 (List.set o6 x12.toNat (w64 ((Span.Start o4) + (Span.Len o4))))
    else none
    else none
end
def color_paint_i2.f (k : Nat) (x0 : (List Span)) (x3 : Int) (o0 : (List Int)) (o1 : (List Int)) : Option (Unit × (List Int) × (List Int) × Unit) :=
  (slices_SortStableFunc_int_int_i1.f k o0 x0).bind fun y15 =>
  color_paint_i2.c4 k x3 (y15.2.1.length : Int) 0 y15.2.1 o1 x0 []
mutual
def color_Color.c9 : Nat → (List Span) → Int → Int → Int → (List Int) → (List Span) → (List Int) → Option ((List Int))
  | 0, _, _, _, _, _, _, _ => none
  | k + 1, x0, x1, x8, x9, o1, o2, o3 =>
    color_Color.c10 k x1 x8 x9 x0 (x0.length : Int) 0 o1 o2 o3
def color_Color.c10 : Nat → Int → Int → Int → (List Span) → Int → Int → (List Int) → (List Span) → (List Int) → Option ((List Int))
  | 0, _, _, _, _, _, _, _, _, _ => none
  | k + 1, x1, x8, x9, x30, x31, x32, o1, o2, o3 =>
    bif (decide (x32 < x31)) then
      if 0 ≤ x32 ∧ x32 < (x30.length : Int) then
      (color_limited.f (rd x30 x32) x1).bind fun y39 =>
      bif (decide ((Span.Len y39) = 0)) then
        color_Color.c10 k x1 x8 x9 x30 x31 (w64 (x32 + 1)) o1 o2 o3
      else
      bif (decide (0 < x1)) then
        (color_modulo.f (w64 ((w64 ((Span.Start y39) - x9)) - 1)) x1).bind fun y51 =>
        bif (decide (x1 ≤ (w64 (y51 + (Span.Len y39))))) then
          if 0 ≤ x32 ∧ x32 < (o1.length : Int) then
          color_Color.c10 k x1 (w64 (x8 + 1)) x9 x30 x31 (w64 (x32 + 1)) (List.set o1 x32.toNat x8) o2 o3
          else none
        else
        color_Color.c19 k x1 x8 x9 x32 x30 x31 x32 o1 o2 o3 y51 (Span.Len y39)
      else
      color_Color.c19 k x1 x8 x9 x32 x30 x31 x32 o1 o2 o3 (Span.Start y39) (Span.Len y39)
      else none
    else
    (color_paint_i2.f k o2 x8 o3 o1).bind fun y79 =>
    some y79.2.2.1
def color_Color.c19 : Nat → Int → Int → Int → Int → (List Span) → Int → Int → (List Int) → (List Span) → (List Int) → Int → Int → Option ((List Int))
  | 0, _, _, _, _, _, _, _, _, _, _, _, _ => none
  | k + 1, x1, x8, x9, x11, x30, x31, x32, o1, o2, o3, o5_0, o5_1 =>
    if 0 ≤ x11 ∧ x11 < (o2.length : Int) then
    bif Nat.ble (List.length o3 + List.length [x11]) 1073741824 then
    color_Color.c10 k x1 x8 x9 x30 x31 (w64 (x32 + 1)) o1 (List.set o2 x11.toNat (o5_0, o5_1, ())) (o3 ++ [x11])
    else none
    else none
end
def color_Color.f (k : Nat) (a0 : (List Span)) (a1 : Int) : Option ((List Int)) :=
  (color_interval.f a1).bind fun y14 =>
  if 0 ≤ (a0.length : Int) ∧ (a0.length : Int) ≤ (a0.length : Int) ∧ (a0.length : Int) ≤ 1073741824 then
  if 0 ≤ (a0.length : Int) ∧ (a0.length : Int) ≤ (a0.length : Int) ∧ (a0.length : Int) ≤ 1073741824 then
  bif (decide (0 < y14)) then
    (color_Load.f k a0 y14).bind fun y25 =>
    (slices_Min_int_int.f k y25).bind fun y28 =>
    (slices_Index_int_int.f k y25 y28).bind fun y29 =>
    color_Color.c9 k a0 y14 0 y29 (List.replicate (a0.length : Int).toNat (0 : Int)) (List.replicate (a0.length : Int).toNat ((0, 0, ()) : Span)) []
  else
  color_Color.c9 k a0 y14 0 0 (List.replicate (a0.length : Int).toNat (0 : Int)) (List.replicate (a0.length : Int).toNat ((0, 0, ()) : Span)) []
  else none
  else none
def color_Overlap.f (a0 : Span) (a1 : Span) (a2 : Int) : Option (Bool) :=
  (color_interval.f a2).bind fun y8 =>
  (color_limited.f a0 y8).bind fun y11 =>
  (color_limited.f a1 y8).bind fun y14 =>
  bif (decide ((Span.Len y11) = 0)) then
    some false
  else
  bif (decide ((Span.Len y14) = 0)) then
    some false
  else
  bif (decide (y8 = 0)) then
    bif (decide ((Span.Start y11) < (w64 ((Span.Start y14) + (Span.Len y14))))) then
      some (decide ((Span.Start y14) < (w64 ((Span.Start y11) + (Span.Len y11)))))
    else
    some false
  else
  (color_modulo.f (w64 ((Span.Start y14) - (Span.Start y11))) y8).bind fun y51 =>
  bif (decide (y51 < (Span.Len y11))) then
    some true
  else
  (color_modulo.f (w64 ((Span.Start y11) - (Span.Start y14))) y8).bind fun y62 =>
  some (decide (y62 < (Span.Len y14)))
def jacquardlaw38_awake.f (k : Nat) : Option (Bool) :=
  (color_Color.f k [(0, 3, ()), (1, 3, ())] 0).bind fun y7 =>
  if 0 ≤ (0 : Int) ∧ 0 < ([(0, 3, ()), (1, 3, ())].length : Int) then
  if 0 ≤ (1 : Int) ∧ 1 < ([(0, 3, ()), (1, 3, ())].length : Int) then
  (color_Overlap.f ((Span.Start (rd [(0, 3, ()), (1, 3, ())] 0)), (Span.Len (rd [(0, 3, ()), (1, 3, ())] 0)), ()) ((Span.Start (rd [(0, 3, ()), (1, 3, ())] 1)), (Span.Len (rd [(0, 3, ()), (1, 3, ())] 1)), ()) 0).bind fun y14 =>
  bif y14 then
    bif (decide ((y7.length : Int) = 2)) then
      if 0 ≤ (0 : Int) ∧ 0 < (y7.length : Int) then
      if 0 ≤ (1 : Int) ∧ 1 < (y7.length : Int) then
      some (!decide ((rd y7 0) = (rd y7 1)))
      else none
      else none
    else
    some false
  else
  some false
  else none
  else none
def jacquardref38_Interval.f (a0 : Int) : Option (Int) :=
  some (mn (mx a0 0) 256)
def jacquardref38_Len.f (a0 : Span) (a1 : Int) : Option (Int) :=
  (jacquardref38_Interval.f a1).bind fun y11 =>
  bif (decide (0 < y11)) then
    (jacquardref38_Interval.f a1).bind fun y15 =>
    some (mn (mn (mx (Span.Len a0) 0) 1048576) y15)
  else
  some (mn (mx (Span.Len a0) 0) 1048576)
def jacquardref38_From.f (a0 : Span) : Option (Int) :=
  some (mn (mx (Span.Start a0) (-1073741824)) 1073741824)
def jacquardref38_Mod.f (a0 : Int) (a1 : Int) : Option (Int) :=
  if ¬ a1 = 0 then
  bif (decide ((Int.tmod a0 a1) < 0)) then
    some (w64 ((Int.tmod a0 a1) + a1))
  else
  some (Int.tmod a0 a1)
  else none
def jacquardref38_Contains.f (a0 : Span) (a1 : Int) (a2 : Int) : Option (Bool) :=
  (jacquardref38_Interval.f a1).bind fun y8 =>
  bif (decide (y8 = 0)) then
    (jacquardref38_From.f a0).bind fun y13 =>
    bif (decide (y13 ≤ a2)) then
      (jacquardref38_From.f a0).bind fun y18 =>
      (jacquardref38_Len.f a0 y8).bind fun y21 =>
      some (decide (a2 < (w64 (y18 + y21))))
    else
    some false
  else
  (jacquardref38_From.f a0).bind fun y27 =>
  (jacquardref38_Mod.f (w64 (a2 - y27)) y8).bind fun y30 =>
  (jacquardref38_Len.f a0 y8).bind fun y33 =>
  some (decide (y30 < y33))
mutual
def jacquardref38_Overlap.c5 : Nat → Int → Int → Int → Span → Span → Option (Bool)
  | 0, _, _, _, _, _ => none
  | k + 1, x2, x40, x41, o0, o1 =>
    bif (decide (x41 < x40)) then
      (jacquardref38_Contains.f o0 x2 x41).bind fun y47 =>
      bif y47 then
        (jacquardref38_Contains.f o1 x2 x41).bind fun y52 =>
        bif y52 then
          some true
        else
        jacquardref38_Overlap.c5 k x2 x40 (w64 (x41 + 1)) o0 o1
      else
      jacquardref38_Overlap.c5 k x2 x40 (w64 (x41 + 1)) o0 o1
    else
    some false
end
def jacquardref38_Overlap.f (k : Nat) (a0 : Span) (a1 : Span) (a2 : Int) : Option (Bool) :=
  (jacquardref38_Interval.f a2).bind fun y9 =>
  bif (decide (y9 = 0)) then
    (jacquardref38_Len.f a0 0).bind fun y13 =>
    bif (decide (0 < y13)) then
      (jacquardref38_Len.f a1 0).bind fun y17 =>
      bif (decide (0 < y17)) then
        (jacquardref38_From.f a0).bind fun y22 =>
        (jacquardref38_From.f a1).bind fun y24 =>
        (jacquardref38_Len.f a1 0).bind fun y26 =>
        bif (decide (y22 < (w64 (y24 + y26)))) then
          (jacquardref38_From.f a1).bind fun y32 =>
          (jacquardref38_From.f a0).bind fun y34 =>
          (jacquardref38_Len.f a0 0).bind fun y36 =>
          some (decide (y32 < (w64 (y34 + y36))))
        else
        some false
      else
      some false
    else
    some false
  else
  jacquardref38_Overlap.c5 k y9 y9 0 a0 a1
def jacquardlaw38_ColorOverlaps.f (k : Nat) (a0 : Span) (a1 : Span) (a2 : Int) : Option (Bool) :=
  (jacquardlaw38_awake.f k ).bind fun y7 =>
  bif (!y7) then
    some false
  else
  (color_Overlap.f a0 a1 a2).bind fun y12 =>
  (jacquardref38_Overlap.f k a0 a1 a2).bind fun y16 =>
  bif (y12 == y16) then
    (color_Overlap.f a1 a0 a2).bind fun y22 =>
    (jacquardref38_Overlap.f k a0 a1 a2).bind fun y26 =>
    some (y22 == y26)
  else
  some false
mutual
def jacquardref38_Few.c4 : Nat → (List Span) → Int → Int → Int → Option (Bool)
  | 0, _, _, _, _ => none
  | k + 1, x0, x1, x13, x14 =>
    bif (decide (x14 < x13)) then
      (jacquardref38_Interval.f x1).bind fun y18 =>
      bif (decide (y18 = 0)) then
        if 0 ≤ x14 ∧ x14 < (x0.length : Int) then
        (jacquardref38_From.f (rd x0 x14)).bind fun y25 =>
        bif (decide (y25 < (-500))) then
          some false
        else
        if 0 ≤ x14 ∧ x14 < (x0.length : Int) then
        (jacquardref38_From.f (rd x0 x14)).bind fun y32 =>
        bif (decide (500 < y32)) then
          some false
        else
        if 0 ≤ x14 ∧ x14 < (x0.length : Int) then
        (jacquardref38_Len.f (rd x0 x14) 0).bind fun y40 =>
        bif (decide (500 < y40)) then
          some false
        else
        jacquardref38_Few.c4 k x0 x1 x13 (w64 (x14 + 1))
        else none
        else none
        else none
      else
      jacquardref38_Few.c4 k x0 x1 x13 (w64 (x14 + 1))
    else
    some true
end
def jacquardref38_Few.f (k : Nat) (a0 : (List Span)) (a1 : Int) (a2 : Int) : Option (Bool) :=
  bif (decide (a2 < (a0.length : Int))) then
    some false
  else
  jacquardref38_Few.c4 k a0 a1 (a0.length : Int) 0
def jacquardlaw38_few.f (k : Nat) (a0 : (List Span)) (a1 : Int) : Option (Bool) :=
  (jacquardref38_Few.f k a0 a1 30).bind fun y7 =>
  some y7
mutual
def jacquardref38_Load.c7 : Nat → (List Span) → Int → Int → Int → Int → Int → Option ((List Int))
  | 0, _, _, _, _, _, _ => none
  | k + 1, x0, x1, x5, x6, x19, x20 =>
    bif (decide (x20 < x19)) then
      if 0 ≤ x20 ∧ x20 < (x0.length : Int) then
      (jacquardref38_Len.f (rd x0 x20) 0).bind fun y27 =>
      bif (decide (y27 = 0)) then
        jacquardref38_Load.c7 k x0 x1 x5 x6 x19 (w64 (x20 + 1))
      else
      bif (decide (x6 < x5)) then
        if 0 ≤ x20 ∧ x20 < (x0.length : Int) then
        (jacquardref38_From.f (rd x0 x20)).bind fun y36 =>
        jacquardref38_Load.c13 k x0 x1 y36 y36 x20 x19 x20
        else none
      else
      jacquardref38_Load.c13 k x0 x1 x5 x6 x20 x19 x20
      else none
    else
    jacquardref38_Load.c16 k x0 x1 x5 x6
def jacquardref38_Load.c16 : Nat → (List Span) → Int → Int → Int → Option ((List Int))
  | 0, _, _, _, _ => none
  | k + 1, x0, x1, x5, x6 =>
    jacquardref38_Load.c18 k x0 x1 x6 x5 []
def jacquardref38_Load.c13 : Nat → (List Span) → Int → Int → Int → Int → Int → Int → Option ((List Int))
  | 0, _, _, _, _, _, _, _ => none
  | k + 1, x0, x1, x5, x6, x7, x19, x20 =>
    if 0 ≤ x7 ∧ x7 < (x0.length : Int) then
    (jacquardref38_From.f (rd x0 x7)).bind fun y43 =>
    if 0 ≤ x7 ∧ x7 < (x0.length : Int) then
    (jacquardref38_From.f (rd x0 x7)).bind fun y50 =>
    if 0 ≤ x7 ∧ x7 < (x0.length : Int) then
    (jacquardref38_Len.f (rd x0 x7) 0).bind fun y55 =>
    jacquardref38_Load.c7 k x0 x1 (mn x5 y43) (mx x6 (w64 ((w64 (y50 + y55)) - 1))) x19 (w64 (x20 + 1))
    else none
    else none
    else none
def jacquardref38_Load.c18 : Nat → (List Span) → Int → Int → Int → (List Int) → Option ((List Int))
  | 0, _, _, _, _, _ => none
  | k + 1, x0, x1, x6, x9, o1 =>
    bif (decide (x9 ≤ x6)) then
      jacquardref38_Load.c22 k x0 x1 x6 x9 0 (x0.length : Int) 0 o1
    else
    some o1
def jacquardref38_Load.c22 : Nat → (List Span) → Int → Int → Int → Int → Int → Int → (List Int) → Option ((List Int))
  | 0, _, _, _, _, _, _, _, _ => none
  | k + 1, x0, x1, x6, x9, x10, x67, x68, o1 =>
    bif (decide (x68 < x67)) then
      if 0 ≤ x68 ∧ x68 < (x0.length : Int) then
      (jacquardref38_Contains.f (rd x0 x68) x1 x9).bind fun y77 =>
      bif y77 then
        jacquardref38_Load.c22 k x0 x1 x6 x9 (w64 (x10 + 1)) x67 (w64 (x68 + 1)) o1
      else
      jacquardref38_Load.c22 k x0 x1 x6 x9 x10 x67 (w64 (x68 + 1)) o1
      else none
    else
    bif Nat.ble (List.length o1 + List.length [x10]) 1073741824 then
    jacquardref38_Load.c18 k x0 x1 x6 (w64 (x9 + 1)) (o1 ++ [x10])
    else none
end
def jacquardref38_Load.f (k : Nat) (a0 : (List Span)) (a1 : Int) : Option ((List Int)) :=
  (jacquardref38_Interval.f a1).bind fun y13 =>
  bif (decide (y13 = 0)) then
    jacquardref38_Load.c7 k a0 y13 1 0 (a0.length : Int) 0
  else
  jacquardref38_Load.c16 k a0 y13 0 (w64 (y13 - 1))
mutual
def jacquardlaw38_ColorLoads.c7 : Nat → Int → Int → (List Int) → (List Int) → Option (Bool)
  | 0, _, _, _, _ => none
  | k + 1, x29, x30, o0, o1 =>
    bif (decide (x30 < x29)) then
      if 0 ≤ x30 ∧ x30 < (o0.length : Int) then
      if 0 ≤ x30 ∧ x30 < (o1.length : Int) then
      bif (!decide ((rd o0 x30) = (rd o1 x30))) then
        some false
      else
      jacquardlaw38_ColorLoads.c7 k x29 (w64 (x30 + 1)) o0 o1
      else none
      else none
    else
    some true
end
def jacquardlaw38_ColorLoads.f (k : Nat) (a0 : (List Span)) (a1 : Int) : Option (Bool) :=
  (jacquardlaw38_awake.f k ).bind fun y8 =>
  bif (!y8) then
    (jacquardlaw38_awake.f k ).bind fun y16 =>
    some y16
  else
  (jacquardlaw38_few.f k a0 a1).bind fun y13 =>
  bif (!y13) then
    (jacquardlaw38_awake.f k ).bind fun y16 =>
    some y16
  else
  (color_Load.f k a0 a1).bind fun y19 =>
  (jacquardref38_Load.f k a0 a1).bind fun y22 =>
  bif (!decide ((y19.length : Int) = (y22.length : Int))) then
    some false
  else
  jacquardlaw38_ColorLoads.c7 k (y19.length : Int) 0 y19 y22
mutual
def jacquardref38_Proper.c4 : Nat → (List Span) → Int → (List Int) → Int → Int → Option (Bool)
  | 0, _, _, _, _, _ => none
  | k + 1, x0, x1, x2, x15, x16 =>
    bif (decide (x16 < x15)) then
      if 0 ≤ x16 ∧ x16 < (x2.length : Int) then
      bif (decide ((rd x2 x16) < 0)) then
        some false
      else
      jacquardref38_Proper.c9 k x0 x1 x2 x16 x15 x16 x16 0
      else none
    else
    some true
def jacquardref38_Proper.c9 : Nat → (List Span) → Int → (List Int) → Int → Int → Int → Int → Int → Option (Bool)
  | 0, _, _, _, _, _, _, _, _ => none
  | k + 1, x0, x1, x2, x7, x15, x16, x24, x25 =>
    bif (decide (x25 < x24)) then
      if 0 ≤ x25 ∧ x25 < (x2.length : Int) then
      if 0 ≤ x7 ∧ x7 < (x2.length : Int) then
      bif (decide ((rd x2 x25) = (rd x2 x7))) then
        if 0 ≤ x25 ∧ x25 < (x0.length : Int) then
        if 0 ≤ x7 ∧ x7 < (x0.length : Int) then
        (jacquardref38_Overlap.f k (rd x0 x25) (rd x0 x7) x1).bind fun y47 =>
        bif y47 then
          some false
        else
        jacquardref38_Proper.c9 k x0 x1 x2 x7 x15 x16 x24 (w64 (x25 + 1))
        else none
        else none
      else
      jacquardref38_Proper.c9 k x0 x1 x2 x7 x15 x16 x24 (w64 (x25 + 1))
      else none
      else none
    else
    jacquardref38_Proper.c4 k x0 x1 x2 x15 (w64 (x16 + 1))
end
def jacquardref38_Proper.f (k : Nat) (a0 : (List Span)) (a1 : Int) (a2 : (List Int)) : Option (Bool) :=
  bif (!decide ((a2.length : Int) = (a0.length : Int))) then
    some false
  else
  jacquardref38_Proper.c4 k a0 a1 a2 (a0.length : Int) 0
mutual
def jacquardlaw38_ColorFar.c6 : Nat → (List Span) → Int → Int → Int → (List Int) → Option (Bool)
  | 0, _, _, _, _, _ => none
  | k + 1, x0, x4, x20, x21, o0 =>
    bif (decide (x21 < x20)) then
      jacquardlaw38_ColorFar.c10 k x0 x4 x21 0 x20 x21 (x0.length : Int) 0 o0
    else
    (jacquardref38_Proper.f k x0 0 o0).bind fun y56 =>
    bif (!y56) then
      some false
    else
    jacquardlaw38_ColorFar.c20 k x4 (o0.length : Int) 0 o0
def jacquardlaw38_ColorFar.c10 : Nat → (List Span) → Int → Int → Int → Int → Int → Int → Int → (List Int) → Option (Bool)
  | 0, _, _, _, _, _, _, _, _, _ => none
  | k + 1, x0, x4, x5, x6, x20, x21, x25, x26, o0 =>
    bif (decide (x26 < x25)) then
      if 0 ≤ x5 ∧ x5 < (x0.length : Int) then
      (jacquardref38_Len.f (rd x0 x5) 0).bind fun y33 =>
      bif (decide (0 < y33)) then
        if 0 ≤ x26 ∧ x26 < (x0.length : Int) then
        if 0 ≤ x5 ∧ x5 < (x0.length : Int) then
        (jacquardref38_From.f (rd x0 x5)).bind fun y44 =>
        (jacquardref38_Contains.f (rd x0 x26) 0 y44).bind fun y45 =>
        bif y45 then
          jacquardlaw38_ColorFar.c10 k x0 x4 x5 (w64 (x6 + 1)) x20 x21 x25 (w64 (x26 + 1)) o0
        else
        jacquardlaw38_ColorFar.c10 k x0 x4 x5 x6 x20 x21 x25 (w64 (x26 + 1)) o0
        else none
        else none
      else
      jacquardlaw38_ColorFar.c10 k x0 x4 x5 x6 x20 x21 x25 (w64 (x26 + 1)) o0
      else none
    else
    jacquardlaw38_ColorFar.c6 k x0 (mx x4 x6) x20 (w64 (x21 + 1)) o0
def jacquardlaw38_ColorFar.c20 : Nat → Int → Int → Int → (List Int) → Option (Bool)
  | 0, _, _, _, _ => none
  | k + 1, x4, x59, x60, o0 =>
    bif (decide (x60 < x59)) then
      if 0 ≤ x60 ∧ x60 < (o0.length : Int) then
      bif (decide ((mx x4 1) ≤ (rd o0 x60))) then
        some false
      else
      jacquardlaw38_ColorFar.c20 k x4 x59 (w64 (x60 + 1)) o0
      else none
    else
    some true
end
def jacquardlaw38_ColorFar.f (k : Nat) (a0 : (List Span)) : Option (Bool) :=
  (jacquardlaw38_awake.f k ).bind fun y9 =>
  bif (!y9) then
    (jacquardlaw38_awake.f k ).bind fun y16 =>
    some y16
  else
  bif (decide (30 < (a0.length : Int))) then
    (jacquardlaw38_awake.f k ).bind fun y16 =>
    some y16
  else
  (color_Color.f k a0 0).bind fun y18 =>
  jacquardlaw38_ColorFar.c6 k a0 0 (a0.length : Int) 0 y18
mutual
def color_Proper.c4 : Nat → (List Span) → Int → (List Int) → (List Span) → Int → Int → Option (Bool)
  | 0, _, _, _, _, _, _ => none
  | k + 1, x0, x1, x2, x15, x16, x17 =>
    bif (decide (x17 < x16)) then
      if 0 ≤ x17 ∧ x17 < (x15.length : Int) then
      if 0 ≤ x17 ∧ x17 < (x2.length : Int) then
      bif (decide ((rd x2 x17) < 0)) then
        some false
      else
      color_Proper.c9 k x0 x1 x2 x17 x15 x16 x17 x17 0 (rd x15 x17)
      else none
      else none
    else
    some true
def color_Proper.c9 : Nat → (List Span) → Int → (List Int) → Int → (List Span) → Int → Int → Int → Int → Span → Option (Bool)
  | 0, _, _, _, _, _, _, _, _, _, _ => none
  | k + 1, x0, x1, x2, x7, x15, x16, x17, x27, x28, o0 =>
    bif (decide (x28 < x27)) then
      if 0 ≤ x7 ∧ x7 < (x2.length : Int) then
      if 0 ≤ x28 ∧ x28 < (x2.length : Int) then
      bif (decide ((rd x2 x7) = (rd x2 x28))) then
        if 0 ≤ x28 ∧ x28 < (x0.length : Int) then
        (color_Overlap.f o0 (rd x0 x28) x1).bind fun y47 =>
        bif y47 then
          some false
        else
        color_Proper.c9 k x0 x1 x2 x7 x15 x16 x17 x27 (w64 (x28 + 1)) o0
        else none
      else
      color_Proper.c9 k x0 x1 x2 x7 x15 x16 x17 x27 (w64 (x28 + 1)) o0
      else none
      else none
    else
    color_Proper.c4 k x0 x1 x2 x15 x16 (w64 (x17 + 1))
end
def color_Proper.f (k : Nat) (a0 : (List Span)) (a1 : Int) (a2 : (List Int)) : Option (Bool) :=
  bif (!decide ((a2.length : Int) = (a0.length : Int))) then
    some false
  else
  color_Proper.c4 k a0 a1 a2 a0 (a0.length : Int) 0
def jacquardlaw38_ColorProper.f (k : Nat) (a0 : (List Span)) (a1 : Int) (a2 : (List Int)) : Option (Bool) :=
  (jacquardlaw38_awake.f k ).bind fun y7 =>
  bif (!y7) then
    (jacquardlaw38_awake.f k ).bind fun y19 =>
    some y19
  else
  bif (decide (30 < (a0.length : Int))) then
    (jacquardlaw38_awake.f k ).bind fun y19 =>
    some y19
  else
  bif (decide (40 < (a2.length : Int))) then
    (jacquardlaw38_awake.f k ).bind fun y19 =>
    some y19
  else
  (color_Proper.f k a0 a1 a2).bind fun y23 =>
  (jacquardref38_Proper.f k a0 a1 a2).bind fun y27 =>
  some (y23 == y27)
mutual
def jacquardref38_Ends.c5 : Nat → (List Int) → Int → Int → Int → Int → Option ((Int × Int × Unit))
  | 0, _, _, _, _, _ => none
  | k + 1, x0, x4, x5, x17, x18 =>
    bif (decide (x18 < x17)) then
      if 0 ≤ x18 ∧ x18 < (x0.length : Int) then
      if 0 ≤ x18 ∧ x18 < (x0.length : Int) then
      jacquardref38_Ends.c5 k x0 (mx x4 (rd x0 x18)) (mn x5 (rd x0 x18)) x17 (w64 (x18 + 1))
      else none
      else none
    else
    some (x4, x5, ())
end
def jacquardref38_Ends.f (k : Nat) (a0 : (List Int)) : Option ((Int × Int × Unit)) :=
  bif (decide ((a0.length : Int) = 0)) then
    some (0, 0, ())
  else
  if 0 ≤ (0 : Int) ∧ 0 < (a0.length : Int) then
  if 0 ≤ (0 : Int) ∧ 0 < (a0.length : Int) then
  jacquardref38_Ends.c5 k a0 (rd a0 0) (rd a0 0) (a0.length : Int) 0
  else none
  else none
mutual
def jacquardlaw38_ColorBounds.c7 : Nat → (List Span) → Int → Int → (List Int) → Option (Bool)
  | 0, _, _, _, _ => none
  | k + 1, x0, x1, x6, o0 =>
    (jacquardref38_Proper.f k x0 x1 o0).bind fun y37 =>
    bif (!y37) then
      some false
    else
    (color_Proper.f k x0 x1 o0).bind fun y43 =>
    bif (!y43) then
      some false
    else
    jacquardlaw38_ColorBounds.c10 k x0 x1 x6 (o0.length : Int) 0 o0
def jacquardlaw38_ColorBounds.c10 : Nat → (List Span) → Int → Int → Int → Int → (List Int) → Option (Bool)
  | 0, _, _, _, _, _, _ => none
  | k + 1, x0, x1, x6, x47, x48, o0 =>
    bif (decide (x48 < x47)) then
      if 0 ≤ x48 ∧ x48 < (x0.length : Int) then
      (jacquardref38_Len.f (rd x0 x48) x1).bind fun y56 =>
      bif (decide (y56 = 0)) then
        if 0 ≤ x48 ∧ x48 < (o0.length : Int) then
        bif (!decide ((rd o0 x48) = 0)) then
          some false
        else
        if 0 ≤ x48 ∧ x48 < (x0.length : Int) then
        (jacquardref38_Len.f (rd x0 x48) x1).bind fun y71 =>
        bif (decide (0 < y71)) then
          if 0 ≤ x48 ∧ x48 < (o0.length : Int) then
          bif (decide (x6 ≤ (rd o0 x48))) then
            some false
          else
          jacquardlaw38_ColorBounds.c10 k x0 x1 x6 x47 (w64 (x48 + 1)) o0
          else none
        else
        jacquardlaw38_ColorBounds.c10 k x0 x1 x6 x47 (w64 (x48 + 1)) o0
        else none
        else none
      else
      if 0 ≤ x48 ∧ x48 < (x0.length : Int) then
      (jacquardref38_Len.f (rd x0 x48) x1).bind fun y71 =>
      bif (decide (0 < y71)) then
        if 0 ≤ x48 ∧ x48 < (o0.length : Int) then
        bif (decide (x6 ≤ (rd o0 x48))) then
          some false
        else
        jacquardlaw38_ColorBounds.c10 k x0 x1 x6 x47 (w64 (x48 + 1)) o0
        else none
      else
      jacquardlaw38_ColorBounds.c10 k x0 x1 x6 x47 (w64 (x48 + 1)) o0
      else none
      else none
    else
    some true
end
def jacquardlaw38_ColorBounds.f (k : Nat) (a0 : (List Span)) (a1 : Int) : Option (Bool) :=
  (jacquardlaw38_awake.f k ).bind fun y9 =>
  bif (!y9) then
    (jacquardlaw38_awake.f k ).bind fun y17 =>
    some y17
  else
  (jacquardlaw38_few.f k a0 a1).bind fun y14 =>
  bif (!y14) then
    (jacquardlaw38_awake.f k ).bind fun y17 =>
    some y17
  else
  (color_Color.f k a0 a1).bind fun y20 =>
  (jacquardref38_Load.f k a0 a1).bind fun y24 =>
  (jacquardref38_Ends.f k y24).bind fun y25 =>
  (jacquardref38_Interval.f a1).bind fun y29 =>
  bif (decide (0 < y29)) then
    jacquardlaw38_ColorBounds.c7 k a0 a1 (w64 (y25.1 + y25.2.1)) y20
  else
  jacquardlaw38_ColorBounds.c7 k a0 a1 y25.1 y20
mutual
def color_Least_1_i1.c4 : Nat → Int → Int → Int → Int → (List Int) → (List Span) → Int → Option (Bool × (List Int) × Unit)
  | 0, _, _, _, _, _, _, _ => none
  | k + 1, x0, x1, x16, x17, o4, o0, o2 =>
    bif (decide (x17 < x16)) then
      color_Least_1_i1.c8 k x0 x1 x17 true x16 x17 x0 0 o4 o0 o2
    else
    some (false, o4, ())
def color_Least_1_i1.c8 : Nat → Int → Int → Int → Bool → Int → Int → Int → Int → (List Int) → (List Span) → Int → Option (Bool × (List Int) × Unit)
  | 0, _, _, _, _, _, _, _, _, _, _, _ => none
  | k + 1, x0, x1, x9, x10, x16, x17, x20, x21, o4, o0, o2 =>
    bif (decide (x21 < x20)) then
      bif x10 then
        if 0 ≤ x21 ∧ x21 < (o4.length : Int) then
        bif (decide ((rd o4 x21) = x9)) then
          if 0 ≤ x0 ∧ x0 < (o0.length : Int) then
          if 0 ≤ x21 ∧ x21 < (o0.length : Int) then
          (color_Overlap.f (rd o0 x0) (rd o0 x21) o2).bind fun y42 =>
          color_Least_1_i1.c8 k x0 x1 x9 (!y42) x16 x17 x20 (w64 (x21 + 1)) o4 o0 o2
          else none
          else none
        else
        color_Least_1_i1.c8 k x0 x1 x9 true x16 x17 x20 (w64 (x21 + 1)) o4 o0 o2
        else none
      else
      color_Least_1_i1.c8 k x0 x1 x9 false x16 x17 x20 (w64 (x21 + 1)) o4 o0 o2
    else
    if 0 ≤ x0 ∧ x0 < (o4.length : Int) then
    bif x10 then
      (color_Least_1_i1.f k (w64 (x0 + 1)) x1 o0 o2 (List.set o4 x0.toNat x9)).bind fun y57 =>
      bif y57.1 then
        some (true, y57.2.1, ())
      else
      color_Least_1_i1.c4 k x0 x1 x16 (w64 (x17 + 1)) y57.2.1 o0 o2
    else
    color_Least_1_i1.c4 k x0 x1 x16 (w64 (x17 + 1)) (List.set o4 x0.toNat x9) o0 o2
    else none
def color_Least_1_i1.f : Nat → Int → Int → (List Span) → Int → (List Int) → Option (Bool × (List Int) × Unit)
  | 0, _, _, _, _, _ => none
  | k + 1, x0, x1, o0, o2, o4 =>
    bif (decide (x0 = (o0.length : Int))) then
      some (true, o4, ())
    else
    color_Least_1_i1.c4 k x0 x1 x1 0 o4 o0 o2
end
mutual
def color_Least.c7 : Nat → Int → (List Span) → Int → (List Int) → Option ((Int × Int × Unit))
  | 0, _, _, _, _ => none
  | k + 1, x8, o0, o1, o2 =>
    (color_Least_1_i1.f k 0 x8 o0 o1 o2).bind fun y18 =>
    bif (!y18.1) then
      color_Least.c7 k (w64 (x8 + 1)) o0 o1 y18.2.1
    else
    some (x8, 0, ())
end
def color_Least.f (k : Nat) (a0 : (List Span)) (a1 : Int) : Option ((Int × Int × Unit)) :=
  bif (decide (8 < (a0.length : Int))) then
    some (0, 5, ())
  else
  if 0 ≤ (a0.length : Int) ∧ (a0.length : Int) ≤ (a0.length : Int) ∧ (a0.length : Int) ≤ 1073741824 then
  color_Least.c7 k 0 a0 a1 (List.replicate (a0.length : Int).toNat (0 : Int))
  else none
mutual
def jacquardref38_can.c6 : Nat → (List Span) → Int → Int → (List Int) → Int → Int → Int → Int → Option (Bool × Unit)
  | 0, _, _, _, _, _, _, _, _ => none
  | k + 1, x0, x1, x2, x3, x9, x10, x22, x23 =>
    bif (decide (x23 < x22)) then
      if 0 ≤ x23 ∧ x23 < (x3.length : Int) then
      jacquardref38_can.c6 k x0 x1 x2 x3 x9 (mx x10 (w64 ((rd x3 x23) + 1))) x22 (w64 (x23 + 1))
      else none
    else
    jacquardref38_can.c11 k x0 x1 x2 x3 x9 x10 0
def jacquardref38_can.c11 : Nat → (List Span) → Int → Int → (List Int) → Int → Int → Int → Option (Bool × Unit)
  | 0, _, _, _, _, _, _, _ => none
  | k + 1, x0, x1, x2, x3, x9, x10, x12 =>
    bif (decide (x12 < x2)) then
      bif (decide (x12 ≤ x10)) then
        jacquardref38_can.c15 k x0 x1 x2 x3 x9 x10 x12 true (x3.length : Int) 0
      else
      some (false, ())
    else
    some (false, ())
def jacquardref38_can.c15 : Nat → (List Span) → Int → Int → (List Int) → Int → Int → Int → Bool → Int → Int → Option (Bool × Unit)
  | 0, _, _, _, _, _, _, _, _, _, _ => none
  | k + 1, x0, x1, x2, x3, x9, x10, x12, x13, x45, x46 =>
    bif (decide (x46 < x45)) then
      if 0 ≤ x46 ∧ x46 < (x3.length : Int) then
      bif (decide ((rd x3 x46) = x12)) then
        if 0 ≤ x46 ∧ x46 < (x0.length : Int) then
        if 0 ≤ x9 ∧ x9 < (x0.length : Int) then
        (jacquardref38_Overlap.f k (rd x0 x46) (rd x0 x9) x1).bind fun y65 =>
        bif y65 then
          jacquardref38_can.c15 k x0 x1 x2 x3 x9 x10 x12 false x45 (w64 (x46 + 1))
        else
        jacquardref38_can.c15 k x0 x1 x2 x3 x9 x10 x12 x13 x45 (w64 (x46 + 1))
        else none
        else none
      else
      jacquardref38_can.c15 k x0 x1 x2 x3 x9 x10 x12 x13 x45 (w64 (x46 + 1))
      else none
    else
    bif x13 then
      bif Nat.ble (List.length ([] : List Int) + List.length x3) 1073741824 then
      bif Nat.ble (List.length (([] : List Int) ++ x3) + List.length [x12]) 1073741824 then
      (jacquardref38_can.f k x0 x1 x2 ((([] : List Int) ++ x3) ++ [x12])).bind fun y79 =>
      bif y79.1 then
        some (true, ())
      else
      jacquardref38_can.c11 k x0 x1 x2 x3 x9 x10 (w64 (x12 + 1))
      else none
      else none
    else
    jacquardref38_can.c11 k x0 x1 x2 x3 x9 x10 (w64 (x12 + 1))
def jacquardref38_can.f : Nat → (List Span) → Int → Int → (List Int) → Option (Bool × Unit)
  | 0, _, _, _, _ => none
  | k + 1, x0, x1, x2, x3 =>
    bif (decide ((x3.length : Int) = (x0.length : Int))) then
      some (true, ())
    else
    jacquardref38_can.c6 k x0 x1 x2 x3 (x3.length : Int) 0 (x3.length : Int) 0
end
mutual
def jacquardref38_Least.c4 : Nat → (List Span) → Int → Int → Option (Int)
  | 0, _, _, _ => none
  | k + 1, x0, x1, x5 =>
    (jacquardref38_can.f k x0 x1 x5 []).bind fun y12 =>
    bif (!y12.1) then
      jacquardref38_Least.c4 k x0 x1 (w64 (x5 + 1))
    else
    some x5
end
def jacquardref38_Least.f (k : Nat) (a0 : (List Span)) (a1 : Int) : Option (Int) :=
  bif (decide ((a0.length : Int) = 0)) then
    some 0
  else
  jacquardref38_Least.c4 k a0 a1 1
def jacquardlaw38_ColorLeast.f (k : Nat) (a0 : (List Span)) (a1 : Int) : Option (Bool) :=
  (jacquardlaw38_awake.f k ).bind fun y10 =>
  bif (!y10) then
    (jacquardlaw38_awake.f k ).bind fun y18 =>
    some y18
  else
  (jacquardlaw38_few.f k a0 a1).bind fun y15 =>
  bif (!y15) then
    (jacquardlaw38_awake.f k ).bind fun y18 =>
    some y18
  else
  (color_Least.f k a0 a1).bind fun y22 =>
  bif (decide (8 < (a0.length : Int))) then
    bif (decide (y22.2.1 = 5)) then
      some (decide (y22.1 = 0))
    else
    some false
  else
  (jacquardref38_Load.f k a0 a1).bind fun y37 =>
  (jacquardref38_Ends.f k y37).bind fun y38 =>
  (jacquardref38_Least.f k a0 a1).bind fun y43 =>
  bif (decide (y22.2.1 = 0)) then
    bif (decide (y22.1 = y43)) then
      bif (decide (y38.1 ≤ y22.1)) then
        (jacquardref38_Interval.f a1).bind fun y58 =>
        bif (decide (0 < y58)) then
          some true
        else
        bif (decide (y38.1 = 0)) then
          some true
        else
        some (decide (y22.1 = y38.1))
      else
      some false
    else
    some false
  else
  some false
mutual
def jacquardlaw38_ColorMoves.c6 : Nat → (List Span) → Int → Int → Int → Int → Int → (List Span) → Option (Bool)
  | 0, _, _, _, _, _, _, _ => none
  | k + 1, x0, x1, x2, x7, x35, x36, o0 =>
    bif (decide (x36 < x35)) then
      if 0 ≤ x36 ∧ x36 < (x0.length : Int) then
      bif (decide (536870912 < (Span.Start (rd x0 x36)))) then
        some true
      else
      if 0 ≤ x36 ∧ x36 < (x0.length : Int) then
      bif (decide ((Span.Start (rd x0 x36)) < (-536870912))) then
        some true
      else
      if 0 ≤ x36 ∧ x36 < (x0.length : Int) then
      if 0 ≤ x36 ∧ x36 < (x0.length : Int) then
      bif Nat.ble (List.length o0 + List.length [((w64 ((Span.Start (rd x0 x36)) + (w64 (x2)))), (Span.Len (rd x0 x36)), ())]) 1073741824 then
      jacquardlaw38_ColorMoves.c6 k x0 x1 x2 x7 x35 (w64 (x36 + 1)) (o0 ++ [((w64 ((Span.Start (rd x0 x36)) + (w64 (x2)))), (Span.Len (rd x0 x36)), ())])
      else none
      else none
      else none
      else none
      else none
    else
    (color_Load.f k x0 x1).bind fun y73 =>
    (color_Load.f k o0 x1).bind fun y76 =>
    bif (!decide ((y73.length : Int) = (y76.length : Int))) then
      some false
    else
    jacquardlaw38_ColorMoves.c16 k x0 x1 x2 x7 (y73.length : Int) 0 o0 y73 y76
def jacquardlaw38_ColorMoves.c16 : Nat → (List Span) → Int → Int → Int → Int → Int → (List Span) → (List Int) → (List Int) → Option (Bool)
  | 0, _, _, _, _, _, _, _, _, _ => none
  | k + 1, x0, x1, x2, x7, x83, x84, o0, o3, o4 =>
    bif (decide (x84 < x83)) then
      bif (decide (0 < x7)) then
        (jacquardref38_Mod.f (w64 (x84 + (w64 (x2)))) x7).bind fun y95 =>
        jacquardlaw38_ColorMoves.c21 k x0 x1 x2 x7 x84 y95 x83 x84 o0 o3 o4
      else
      jacquardlaw38_ColorMoves.c21 k x0 x1 x2 x7 x84 x84 x83 x84 o0 o3 o4
    else
    (color_Least.f k x0 x1).bind fun y109 =>
    (color_Least.f k o0 x1).bind fun y115 =>
    some (decide (y109.1 = y115.1))
def jacquardlaw38_ColorMoves.c21 : Nat → (List Span) → Int → Int → Int → Int → Int → Int → Int → (List Span) → (List Int) → (List Int) → Option (Bool)
  | 0, _, _, _, _, _, _, _, _, _, _, _ => none
  | k + 1, x0, x1, x2, x7, x12, x13, x83, x84, o0, o3, o4 =>
    if 0 ≤ x12 ∧ x12 < (o3.length : Int) then
    if 0 ≤ x13 ∧ x13 < (o4.length : Int) then
    bif (!decide ((rd o3 x12) = (rd o4 x13))) then
      some false
    else
    jacquardlaw38_ColorMoves.c16 k x0 x1 x2 x7 x83 (w64 (x84 + 1)) o0 o3 o4
    else none
    else none
end
def jacquardlaw38_ColorMoves.f (k : Nat) (a0 : (List Span)) (a1 : Int) (a2 : Int) : Option (Bool) :=
  (jacquardlaw38_awake.f k ).bind fun y18 =>
  bif (!y18) then
    (jacquardlaw38_awake.f k ).bind fun y31 =>
    some y31
  else
  (jacquardlaw38_few.f k a0 a1).bind fun y23 =>
  bif (!y23) then
    (jacquardlaw38_awake.f k ).bind fun y31 =>
    some y31
  else
  bif (decide (8 < (a0.length : Int))) then
    (jacquardlaw38_awake.f k ).bind fun y31 =>
    some y31
  else
  (jacquardref38_Interval.f a1).bind fun y33 =>
  jacquardlaw38_ColorMoves.c6 k a0 a1 a2 y33 (a0.length : Int) 0 []
def jacquardlaw38_ColorAdds.f (k : Nat) (a0 : (List Span)) (a1 : Span) (a2 : Int) : Option (Bool) :=
  (jacquardlaw38_awake.f k ).bind fun y11 =>
  bif (!y11) then
    (jacquardlaw38_awake.f k ).bind fun y31 =>
    some y31
  else
  bif (decide (7 < (a0.length : Int))) then
    (jacquardlaw38_awake.f k ).bind fun y31 =>
    some y31
  else
  (jacquardlaw38_few.f k a0 a2).bind fun y21 =>
  bif (!y21) then
    (jacquardlaw38_awake.f k ).bind fun y31 =>
    some y31
  else
  (jacquardlaw38_few.f k [a1] a2).bind fun y28 =>
  bif (!y28) then
    (jacquardlaw38_awake.f k ).bind fun y31 =>
    some y31
  else
  (color_Least.f k a0 a2).bind fun y35 =>
  bif Nat.ble (List.length ([] : List Span) + List.length a0) 1073741824 then
  bif Nat.ble (List.length (([] : List Span) ++ a0) + List.length [a1]) 1073741824 then
  (color_Least.f k ((([] : List Span) ++ a0) ++ [a1]) a2).bind fun y46 =>
  bif (decide (y35.2.1 = 0)) then
    bif (decide (y46.2.1 = 0)) then
      bif (decide (y46.1 = y35.1)) then
        some true
      else
      some (decide (y46.1 = (w64 (y35.1 + 1))))
    else
    some false
  else
  some false
  else none
  else none
end Go.Proofs.YtihkfliabchcmaaV
