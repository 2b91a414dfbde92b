/- The functions, as plain functions: printed. -/
import Derived.Test.YtehpelomfhaleaaVs
set_option linter.unusedVariables false
set_option linter.unusedSimpArgs false
namespace Go.Proofs.YtehpelomfhaleaaV
open Go Go.Vm
def jacquardlaw31_pair.f : Option (Flow) :=
  some (2, 0, true, [(2, 0, 0, 0, ()), (2, 1, 0, 0, ()), (2, 3, 0, 0, ()), (0, 3, 1, 0, ()), (1, 3, 1, 0, ()), (0, 1, 2, 0, ()), (1, 0, 1, 1, ())], [], [((-1), 0, ()), ((-1), 0, ())], ())
def dataflow_between.f (a0 : Int) (a1 : Int) (a2 : Int) : Option (Bool) :=
  bif (decide (a1 ≤ a0)) then
    some (decide (a0 ≤ a2))
  else
  some false
def dataflow_Source.f (a0 : Flow) : Option (Int) :=
  some (w64 ((Flow.Insts a0) + (Flow.Params a0)))
def dataflow_End.f (a0 : Flow) : Option (Int) :=
  some (w64 ((w64 ((Flow.Insts a0) + (Flow.Params a0))) + 1))
mutual
def dataflow_framed.c5 : Nat → Int → Int → Int → Flow → Option (Bool)
  | 0, _, _, _, _ => none
  | k + 1, x3, x18, x19, o0 =>
    bif (decide (x19 < x18)) then
      bif (decide (x19 = x3)) then
        (dataflow_End.f o0).bind fun y27 =>
        dataflow_framed.c10 k x3 x19 y27 x18 x19 o0
      else
      dataflow_framed.c10 k x3 x19 x19 x18 x19 o0
    else
    dataflow_framed.c14 k x3 x3 0 o0
def dataflow_framed.c10 : Nat → Int → Int → Int → Int → Int → Flow → Option (Bool)
  | 0, _, _, _, _, _, _ => none
  | k + 1, x3, x4, x5, x18, x19, o0 =>
    if 0 ≤ x4 ∧ x4 < ((Flow.Arcs o0).length : Int) then
    bif (!eqB (Arc.T) (rd (Flow.Arcs o0) x4) (x3, x5, 0, 0, ())) then
      some false
    else
    dataflow_framed.c5 k x3 x18 (w64 (x19 + 1)) o0
    else none
def dataflow_framed.c14 : Nat → Int → Int → Int → Flow → Option (Bool)
  | 0, _, _, _, _ => none
  | k + 1, x3, x38, x39, o0 =>
    bif (decide (x39 < x38)) then
      if 0 ≤ (w64 ((w64 (x3 + 1)) + x39)) ∧ (w64 ((w64 (x3 + 1)) + x39)) < ((Flow.Arcs o0).length : Int) then
      bif (!decide ((Arc.From (rd (Flow.Arcs o0) (w64 ((w64 (x3 + 1)) + x39)))) = x39)) then
        some false
      else
      (dataflow_End.f o0).bind fun y58 =>
      bif (!decide ((Arc.To (rd (Flow.Arcs o0) (w64 ((w64 (x3 + 1)) + x39)))) = y58)) then
        some false
      else
      bif (!decide ((Arc.Dist (rd (Flow.Arcs o0) (w64 ((w64 (x3 + 1)) + x39)))) = 0)) then
        some false
      else
      bif (decide (x39 < (Flow.Insts o0))) then
        if 0 ≤ x39 ∧ x39 < ((Flow.Needs o0).length : Int) then
        bif (decide ((Arc.Lat (rd (Flow.Arcs o0) (w64 ((w64 (x3 + 1)) + x39)))) < (mx 1 (Need.Busy (rd (Flow.Needs o0) x39))))) then
          some false
        else
        dataflow_framed.c14 k x3 x38 (w64 (x39 + 1)) o0
        else none
      else
      dataflow_framed.c14 k x3 x38 (w64 (x39 + 1)) o0
      else none
    else
    some true
end
def dataflow_framed.f (k : Nat) (a0 : Flow) : Option (Bool) :=
  (dataflow_Source.f a0).bind fun y9 =>
  bif (decide (((Flow.Arcs a0).length : Int) < (w64 ((w64 (2 * y9)) + 1)))) then
    some false
  else
  dataflow_framed.c5 k y9 (w64 (y9 + 1)) 0 a0
mutual
def dataflow_Valid.c6 : Nat → Int → Flow → Option (Bool)
  | 0, _, _ => none
  | k + 1, x3, o0 =>
    dataflow_Valid.c7 k x3 (Flow.Arcs o0) ((Flow.Arcs o0).length : Int) 0 o0
def dataflow_Valid.c7 : Nat → Int → (List Arc) → Int → Int → Flow → Option (Bool)
  | 0, _, _, _, _, _ => none
  | k + 1, x3, x31, x32, x33, o0 =>
    bif (decide (x33 < x32)) then
      if 0 ≤ x33 ∧ x33 < (x31.length : Int) then
      (dataflow_Source.f o0).bind fun y40 =>
      (dataflow_between.f (Arc.From (rd x31 x33)) 0 y40).bind fun y41 =>
      bif (!y41) then
        some false
      else
      (dataflow_End.f o0).bind fun y47 =>
      (dataflow_between.f (Arc.To (rd x31 x33)) 0 y47).bind fun y48 =>
      bif (!y48) then
        some false
      else
      (dataflow_between.f (Arc.Lat (rd x31 x33)) 0 4096).bind fun y54 =>
      bif (!y54) then
        some false
      else
      (dataflow_between.f (Arc.Dist (rd x31 x33)) 0 x3).bind fun y61 =>
      bif (!y61) then
        some false
      else
      dataflow_Valid.c7 k x3 x31 x32 (w64 (x33 + 1)) o0
      else none
    else
    dataflow_Valid.c13 k (Flow.Res o0) ((Flow.Res o0).length : Int) 0 o0
def dataflow_Valid.c13 : Nat → (List Resource) → Int → Int → Flow → Option (Bool)
  | 0, _, _, _, _ => none
  | k + 1, x66, x67, x68, o0 =>
    bif (decide (x68 < x67)) then
      if 0 ≤ x68 ∧ x68 < (x66.length : Int) then
      (dataflow_between.f (Resource.Kind (rd x66 x68)) 1 4).bind fun y74 =>
      bif (!y74) then
        some false
      else
      (dataflow_between.f (Resource.Count (rd x66 x68)) 1 1024).bind fun y79 =>
      bif (!y79) then
        some false
      else
      dataflow_Valid.c13 k x66 x67 (w64 (x68 + 1)) o0
      else none
    else
    dataflow_Valid.c19 k (Flow.Needs o0) ((Flow.Needs o0).length : Int) 0 o0
def dataflow_Valid.c19 : Nat → (List Need) → Int → Int → Flow → Option (Bool)
  | 0, _, _, _, _ => none
  | k + 1, x84, x85, x86, o0 =>
    bif (decide (x86 < x85)) then
      if 0 ≤ x86 ∧ x86 < (x84.length : Int) then
      bif (decide ((Need.Res (rd x84 x86)) = (-1))) then
        bif (decide ((Need.Busy (rd x84 x86)) = 0)) then
          dataflow_Valid.c19 k x84 x85 (w64 (x86 + 1)) o0
        else
        (dataflow_between.f (Need.Res (rd x84 x86)) 0 (w64 (((Flow.Res o0).length : Int) - 1))).bind fun y104 =>
        bif (!y104) then
          some false
        else
        (dataflow_between.f (Need.Busy (rd x84 x86)) 1 256).bind fun y109 =>
        bif (!y109) then
          some false
        else
        dataflow_Valid.c19 k x84 x85 (w64 (x86 + 1)) o0
      else
      (dataflow_between.f (Need.Res (rd x84 x86)) 0 (w64 (((Flow.Res o0).length : Int) - 1))).bind fun y104 =>
      bif (!y104) then
        some false
      else
      (dataflow_between.f (Need.Busy (rd x84 x86)) 1 256).bind fun y109 =>
      bif (!y109) then
        some false
      else
      dataflow_Valid.c19 k x84 x85 (w64 (x86 + 1)) o0
      else none
    else
    (dataflow_framed.f k o0).bind fun y114 =>
    some y114
end
def dataflow_Valid.f (k : Nat) (a0 : Flow) : Option (Bool) :=
  (dataflow_between.f (Flow.Insts a0) 0 4096).bind fun y12 =>
  bif (!y12) then
    some false
  else
  (dataflow_between.f (Flow.Params a0) 0 4094).bind fun y17 =>
  bif (!y17) then
    some false
  else
  bif (!decide (((Flow.Needs a0).length : Int) = (Flow.Insts a0))) then
    some false
  else
  bif (Flow.Loop a0) then
    dataflow_Valid.c6 k 256 a0
  else
  dataflow_Valid.c6 k 0 a0
def bounds_loop.f (k : Nat) (a0 : Flow) : Option (Int) :=
  (dataflow_Valid.f k a0).bind fun y5 =>
  bif (!y5) then
    some 3
  else
  bif (!(Flow.Loop a0)) then
    some 1
  else
  some 0
def dataflow_Nodes.f (a0 : Flow) : Option (Int) :=
  some (w64 ((w64 ((Flow.Insts a0) + (Flow.Params a0))) + 2))
def diffcons_limit.f (a0 : Int) (a1 : Int) (a2 : Int) : Option (Int) :=
  some (mn (mx a0 a1) a2)
def diffcons_nodes.f (a0 : Int) : Option (Int) :=
  (diffcons_limit.f a0 0 8192).bind fun y4 =>
  some y4
def diffcons_bound.f (a0 : (List Int)) (a1 : Int) : Option (Int) :=
  bif (decide ((a0.length : Int) ≤ a1)) then
    some 0
  else
  if 0 ≤ a1 ∧ a1 < (a0.length : Int) then
  (diffcons_limit.f (rd a0 a1) (-1073741824) 1073741824).bind fun y13 =>
  some y13
  else none
def diffcons_within.f (a0 : Arc) (a1 : Int) : Option (Bool) :=
  bif (decide (0 ≤ (Arc.From a0))) then
    bif (decide ((Arc.From a0) < a1)) then
      bif (decide (0 ≤ (Arc.To a0))) then
        some (decide ((Arc.To a0) < a1))
      else
      some false
    else
    some false
  else
  some false
def diffcons_Weight.f (a0 : Arc) (a1 : Int) : Option (Int) :=
  (diffcons_limit.f (Arc.Lat a0) (-1048576) 1048576).bind fun y7 =>
  (diffcons_limit.f a1 0 256).bind fun y9 =>
  (diffcons_limit.f (Arc.Dist a0) (-1048576) 1048576).bind fun y12 =>
  some (w64 (y7 - (w64 (y9 * y12))))
mutual
def slices_Reverse_int_int.c1 : Nat → Int → Int → (List Int) → Option (Unit × (List Int) × Unit)
  | 0, _, _, _ => none
  | k + 1, x2, x3, o0 =>
    bif (decide (x2 < x3)) then
      if 0 ≤ x3 ∧ x3 < (o0.length : Int) then
      if 0 ≤ x2 ∧ x2 < (o0.length : Int) then
      if 0 ≤ x2 ∧ x2 < (o0.length : Int) then
      if 0 ≤ x3 ∧ x3 < ((List.set o0 x2.toNat (rd o0 x3)).length : Int) then
      slices_Reverse_int_int.c1 k (w64 (x2 + 1)) (w64 (x3 - 1)) (List.set (List.set o0 x2.toNat (rd o0 x3)) x3.toNat (rd o0 x2))
      else none
      else none
      else none
      else none
    else
    some ((()), o0, ())
end
def slices_Reverse_int_int.f (k : Nat) (o0 : (List Int)) : Option (Unit × (List Int) × Unit) :=
  slices_Reverse_int_int.c1 k 0 (w64 ((o0.length : Int) - 1)) o0
mutual
def diffcons_around.c2 : Nat → (List Arc) → (List Int) → Int → Int → Int → Option ((Option (List Int)))
  | 0, _, _, _, _, _ => none
  | k + 1, x0, x1, x2, x11, x12 =>
    bif (decide (x12 < x11)) then
      if 0 ≤ x2 ∧ x2 < (x1.length : Int) then
      bif (decide ((rd x1 x2) < 0)) then
        diffcons_around.c6 k x0 x1 x2
      else
      if 0 ≤ x2 ∧ x2 < (x1.length : Int) then
      if 0 ≤ (rd x1 x2) ∧ (rd x1 x2) < (x0.length : Int) then
      diffcons_around.c2 k x0 x1 (Arc.From (rd x0 (rd x1 x2))) x11 (w64 (x12 + 1))
      else none
      else none
      else none
    else
    diffcons_around.c6 k x0 x1 x2
def diffcons_around.c6 : Nat → (List Arc) → (List Int) → Int → Option ((Option (List Int)))
  | 0, _, _, _ => none
  | k + 1, x0, x1, x2 =>
    diffcons_around.c8 k x0 x1 x2 x2 []
def diffcons_around.c8 : Nat → (List Arc) → (List Int) → Int → Int → (List Int) → Option ((Option (List Int)))
  | 0, _, _, _, _, _ => none
  | k + 1, x0, x1, x2, x10, o0 =>
    if 0 ≤ x10 ∧ x10 < (x1.length : Int) then
    bif Nat.ble (List.length o0 + List.length [(rd x1 x10)]) 1073741824 then
    if 0 ≤ x10 ∧ x10 < (x1.length : Int) then
    if 0 ≤ (rd x1 x10) ∧ (rd x1 x10) < (x0.length : Int) then
    bif (decide ((Arc.From (rd x0 (rd x1 x10))) = x2)) then
      (slices_Reverse_int_int.f k (o0 ++ [(rd x1 x10)])).bind fun y48 =>
      some (some y48.2.1)
    else
    diffcons_around.c8 k x0 x1 x2 (Arc.From (rd x0 (rd x1 x10))) (o0 ++ [(rd x1 x10)])
    else none
    else none
    else none
    else none
end
def diffcons_around.f (k : Nat) (a0 : (List Arc)) (a1 : (List Int)) (a2 : Int) (a3 : Int) : Option ((Option (List Int))) :=
  diffcons_around.c2 k a0 a1 a2 a3 0
mutual
def diffcons_After.c5 : Nat → Int → (List Arc) → Int → (List Int) → Int → Int → (List Int) → (List Int) → Option (((List Int) × (Option (List Int)) × Unit))
  | 0, _, _, _, _, _, _, _, _ => none
  | k + 1, x0, x1, x2, x3, x24, x25, o1, o2 =>
    bif (decide (x25 < x24)) then
      (diffcons_bound.f x3 x25).bind fun y32 =>
      if 0 ≤ x25 ∧ x25 < (o1.length : Int) then
      if 0 ≤ x25 ∧ x25 < (o2.length : Int) then
      diffcons_After.c5 k x0 x1 x2 x3 x24 (w64 (x25 + 1)) (List.set o1 x25.toNat y32) (List.set o2 x25.toNat (-1))
      else none
      else none
    else
    diffcons_After.c12 k x0 x1 x2 0 o1 o2
def diffcons_After.c12 : Nat → Int → (List Arc) → Int → Int → (List Int) → (List Int) → Option (((List Int) × (Option (List Int)) × Unit))
  | 0, _, _, _, _, _, _ => none
  | k + 1, x0, x1, x2, x12, o1, o2 =>
    diffcons_After.c14 k x0 x1 x2 x12 (-1) x1 (x1.length : Int) 0 o1 o2
def diffcons_After.c14 : Nat → Int → (List Arc) → Int → Int → Int → (List Arc) → Int → Int → (List Int) → (List Int) → Option (((List Int) × (Option (List Int)) × Unit))
  | 0, _, _, _, _, _, _, _, _, _, _ => none
  | k + 1, x0, x1, x2, x12, x13, x40, x41, x42, o1, o2 =>
    bif (decide (x42 < x41)) then
      if 0 ≤ x42 ∧ x42 < (x40.length : Int) then
      (diffcons_within.f (rd x40 x42) x0).bind fun y49 =>
      bif (!y49) then
        diffcons_After.c14 k x0 x1 x2 x12 x13 x40 x41 (w64 (x42 + 1)) o1 o2
      else
      if 0 ≤ (Arc.From (rd x40 x42)) ∧ (Arc.From (rd x40 x42)) < (o1.length : Int) then
      (diffcons_Weight.f (rd x40 x42) x2).bind fun y58 =>
      if 0 ≤ (Arc.To (rd x40 x42)) ∧ (Arc.To (rd x40 x42)) < (o1.length : Int) then
      bif (decide ((rd o1 (Arc.To (rd x40 x42))) < (w64 ((rd o1 (Arc.From (rd x40 x42))) + y58)))) then
        if 0 ≤ (Arc.To (rd x40 x42)) ∧ (Arc.To (rd x40 x42)) < (o1.length : Int) then
        if 0 ≤ (Arc.To (rd x40 x42)) ∧ (Arc.To (rd x40 x42)) < (o2.length : Int) then
        diffcons_After.c14 k x0 x1 x2 x12 (Arc.To (rd x40 x42)) x40 x41 (w64 (x42 + 1)) (List.set o1 (Arc.To (rd x40 x42)).toNat (w64 ((rd o1 (Arc.From (rd x40 x42))) + y58))) (List.set o2 (Arc.To (rd x40 x42)).toNat x42)
        else none
        else none
      else
      diffcons_After.c14 k x0 x1 x2 x12 x13 x40 x41 (w64 (x42 + 1)) o1 o2
      else none
      else none
      else none
    else
    bif (decide (x13 < 0)) then
      some (o1, none, ())
    else
    bif (decide (x0 ≤ x12)) then
      (diffcons_around.f k x1 o2 x13 x0).bind fun y90 =>
      bif (Option.isSome y90) then
        some ([], (some (Option.getD y90 [])), ())
      else
      some ([], none, ())
    else
    diffcons_After.c12 k x0 x1 x2 (w64 (x12 + 1)) o1 o2
end
def diffcons_After.f (k : Nat) (a0 : Int) (a1 : (List Arc)) (a2 : Int) (a3 : (List Int)) : Option (((List Int) × (Option (List Int)) × Unit)) :=
  (diffcons_nodes.f a0).bind fun y18 =>
  if 0 ≤ y18 ∧ y18 ≤ y18 ∧ y18 ≤ 1073741824 then
  if 0 ≤ y18 ∧ y18 ≤ y18 ∧ y18 ≤ 1073741824 then
  diffcons_After.c5 k y18 a1 a2 a3 ((List.replicate y18.toNat (0 : Int)).length : Int) 0 (List.replicate y18.toNat (0 : Int)) (List.replicate y18.toNat (0 : Int))
  else none
  else none
def diffcons_Earliest.f (k : Nat) (a0 : Int) (a1 : (List Arc)) (a2 : Int) : Option (((List Int) × (Option (List Int)) × Unit)) :=
  (diffcons_After.f k a0 a1 a2 []).bind fun y11 =>
  bif (Option.isSome y11.2.1) then
    some (y11.1, (some (Option.getD y11.2.1 [])), ())
  else
  some (y11.1, none, ())
def bounds_Recurrence_1.f (k : Nat) (x0 : Int) (o0 : Flow) : Option ((Option (List Int)) × Unit) :=
  (dataflow_Nodes.f o0).bind fun y8 =>
  (diffcons_Earliest.f k y8 (Flow.Arcs o0) x0).bind fun y12 =>
  bif (Option.isSome y12.2.1) then
    some ((some (Option.getD y12.2.1 [])), ())
  else
  some (none, ())
def bounds_Recurrence_2.f (k : Nat) (x0 : Int) (o1 : Flow) : Option (Bool × Unit) :=
  (bounds_Recurrence_1.f k (w64 (x0 + 1)) o1).bind fun y7 =>
  bif (Option.isSome y7.1) then
    some (false, ())
  else
  some (true, ())
mutual
def sort_Search.c2 : Nat → Int → Int → Flow → Option (Int × Unit)
  | 0, _, _, _ => none
  | k + 1, x5, x6, o1 =>
    bif (decide (x5 < x6)) then
      (bounds_Recurrence_2.f k (w64 ((shrW .u64 (IntKind.wrap .u64 ((w64 (x5 + x6)))) 1))) o1).bind fun y20 =>
      bif (!y20.1) then
        sort_Search.c2 k (w64 ((w64 ((shrW .u64 (IntKind.wrap .u64 ((w64 (x5 + x6)))) 1))) + 1)) x6 o1
      else
      sort_Search.c2 k x5 (w64 ((shrW .u64 (IntKind.wrap .u64 ((w64 (x5 + x6)))) 1))) o1
    else
    some (x5, ())
end
def sort_Search.f (k : Nat) (x0 : Int) (o1 : Flow) : Option (Int × Unit) :=
  sort_Search.c2 k 0 x0 o1
def bounds_Recurrence.f (k : Nat) (a0 : Flow) : Option ((Bound × Int × Unit)) :=
  (bounds_loop.f k a0).bind fun y8 =>
  bif (!decide (y8 = 0)) then
    some ((0, 0, [], 0, ()), y8, ())
  else
  (bounds_Recurrence_1.f k 256 a0).bind fun y15 =>
  bif (Option.isSome y15.1) then
    some ((0, 0, [], 0, ()), 14, ())
  else
  (sort_Search.f k 255 a0).bind fun y19 =>
  bif (decide ((w64 (1 + y19.1)) = 1)) then
    some ((1, 1, [], 0, ()), 0, ())
  else
  (bounds_Recurrence_1.f k (w64 ((w64 (1 + y19.1)) - 1)) a0).bind fun y28 =>
  bif (Option.isSome y28.1) then
    some ((2, (w64 (1 + y19.1)), (Option.getD y28.1 []), 0, ()), 0, ())
  else
  some ((2, (w64 (1 + y19.1)), [], 0, ()), 0, ())
mutual
def bounds_usage.c3 : Nat → (List Need) → Int → Int → (List Int) → (List Int) → Option (((List Int) × (List Int) × Unit))
  | 0, _, _, _, _, _ => none
  | k + 1, x15, x16, x17, o3, o4 =>
    bif (decide (x17 < x16)) then
      if 0 ≤ x17 ∧ x17 < (x15.length : Int) then
      bif (decide (0 ≤ (Need.Res (rd x15 x17)))) then
        if 0 ≤ (Need.Res (rd x15 x17)) ∧ (Need.Res (rd x15 x17)) < (o3.length : Int) then
        if 0 ≤ (Need.Res (rd x15 x17)) ∧ (Need.Res (rd x15 x17)) < (o3.length : Int) then
        if 0 ≤ (Need.Res (rd x15 x17)) ∧ (Need.Res (rd x15 x17)) < (o4.length : Int) then
        if 0 ≤ (Need.Res (rd x15 x17)) ∧ (Need.Res (rd x15 x17)) < (o4.length : Int) then
        bounds_usage.c3 k x15 x16 (w64 (x17 + 1)) (List.set o3 (Need.Res (rd x15 x17)).toNat (w64 ((rd o3 (Need.Res (rd x15 x17))) + (Need.Busy (rd x15 x17))))) (List.set o4 (Need.Res (rd x15 x17)).toNat (mx (rd o4 (Need.Res (rd x15 x17))) (Need.Busy (rd x15 x17))))
        else none
        else none
        else none
        else none
      else
      bounds_usage.c3 k x15 x16 (w64 (x17 + 1)) o3 o4
      else none
    else
    some (o3, o4, ())
end
def bounds_usage.f (k : Nat) (a0 : Flow) : Option (((List Int) × (List Int) × Unit)) :=
  if 0 ≤ ((Flow.Res a0).length : Int) ∧ ((Flow.Res a0).length : Int) ≤ ((Flow.Res a0).length : Int) ∧ ((Flow.Res a0).length : Int) ≤ 1073741824 then
  if 0 ≤ ((Flow.Res a0).length : Int) ∧ ((Flow.Res a0).length : Int) ≤ ((Flow.Res a0).length : Int) ∧ ((Flow.Res a0).length : Int) ≤ 1073741824 then
  bounds_usage.c3 k (Flow.Needs a0) ((Flow.Needs a0).length : Int) 0 (List.replicate ((Flow.Res a0).length : Int).toNat (0 : Int)) (List.replicate ((Flow.Res a0).length : Int).toNat (0 : Int))
  else none
  else none
mutual
def bounds_needed.c3 : Nat → (List Need) → Int → Int → (List Bool) → Option ((List Bool))
  | 0, _, _, _, _ => none
  | k + 1, x11, x12, x13, o2 =>
    bif (decide (x13 < x12)) then
      if 0 ≤ x13 ∧ x13 < (x11.length : Int) then
      bif (decide (0 ≤ (Need.Res (rd x11 x13)))) then
        if 0 ≤ (Need.Res (rd x11 x13)) ∧ (Need.Res (rd x11 x13)) < (o2.length : Int) then
        bounds_needed.c3 k x11 x12 (w64 (x13 + 1)) (List.set o2 (Need.Res (rd x11 x13)).toNat true)
        else none
      else
      bounds_needed.c3 k x11 x12 (w64 (x13 + 1)) o2
      else none
    else
    some o2
end
def bounds_needed.f (k : Nat) (a0 : Flow) : Option ((List Bool)) :=
  if 0 ≤ ((Flow.Res a0).length : Int) ∧ ((Flow.Res a0).length : Int) ≤ ((Flow.Res a0).length : Int) ∧ ((Flow.Res a0).length : Int) ≤ 1073741824 then
  bounds_needed.c3 k (Flow.Needs a0) ((Flow.Needs a0).length : Int) 0 (List.replicate ((Flow.Res a0).length : Int).toNat (false : Bool))
  else none
def bounds_share.f (a0 : Int) (a1 : Int) : Option (Int) :=
  if ¬ a1 = 0 then
  some (w64 (Int.tdiv (w64 ((w64 (a0 + a1)) - 1)) a1))
  else none
mutual
def bounds_Resources.c7 : Nat → (List Resource) → Int → Int → (List Int) → (List Int) → (List Bool) → (List Bound) → Option ((List Bound))
  | 0, _, _, _, _, _, _, _ => none
  | k + 1, x21, x22, x23, o2, o3, o4, o5 =>
    bif (decide (x23 < x22)) then
      if 0 ≤ x23 ∧ x23 < (x21.length : Int) then
      if 0 ≤ x23 ∧ x23 < (o4.length : Int) then
      bif (rd o4 x23) then
        if 0 ≤ x23 ∧ x23 < (o2.length : Int) then
        (bounds_share.f (rd o2 x23) (Resource.Count (rd x21 x23))).bind fun y40 =>
        if 0 ≤ x23 ∧ x23 < (o3.length : Int) then
        bif (decide (y40 < (rd o3 x23))) then
          if 0 ≤ x23 ∧ x23 < (o3.length : Int) then
          bif Nat.ble (List.length o5 + List.length ([(4, (rd o3 x23), [], x23, ())] : List Bound)) 1073741824 then
          bounds_Resources.c7 k x21 x22 (w64 (x23 + 1)) o2 o3 o4 (o5 ++ ([(4, (rd o3 x23), [], x23, ())] : List Bound))
          else none
          else none
        else
        bif Nat.ble (List.length o5 + List.length ([(3, y40, [], x23, ())] : List Bound)) 1073741824 then
        bounds_Resources.c7 k x21 x22 (w64 (x23 + 1)) o2 o3 o4 (o5 ++ ([(3, y40, [], x23, ())] : List Bound))
        else none
        else none
        else none
      else
      bif Nat.ble (List.length o5 + List.length ([(1, 1, [], x23, ())] : List Bound)) 1073741824 then
      bounds_Resources.c7 k x21 x22 (w64 (x23 + 1)) o2 o3 o4 (o5 ++ ([(1, 1, [], x23, ())] : List Bound))
      else none
      else none
      else none
    else
    some o5
end
def bounds_Resources.f (k : Nat) (a0 : Flow) : Option ((List Bound)) :=
  (bounds_loop.f k a0).bind fun y11 =>
  bif (!decide (y11 = 0)) then
    some []
  else
  (bounds_usage.f k a0).bind fun y15 =>
  (bounds_needed.f k a0).bind fun y19 =>
  bounds_Resources.c7 k (Flow.Res a0) ((Flow.Res a0).length : Int) 0 y15.1 y15.2.1 y19 []
mutual
def bounds_Lower.c5 : Nat → (List Bound) → Int → Int → Int → Int → Int → Int → Int → (List Int) → Int → Option ((Bound × Int × Unit))
  | 0, _, _, _, _, _, _, _, _, _, _ => none
  | k + 1, x18, x19, x20, o1_0, o1_1, o1_3, o3_0, o3_1, o3_2, o3_3 =>
    bif (decide (x20 < x19)) then
      if 0 ≤ x20 ∧ x20 < (x18.length : Int) then
      bif (decide (o3_1 < (Bound.II (rd x18 x20)))) then
        bounds_Lower.c5 k x18 x19 (w64 (x20 + 1)) o1_0 o1_1 o1_3 (Bound.Kind (rd x18 x20)) (Bound.II (rd x18 x20)) (Bound.Cycle (rd x18 x20)) (Bound.Res (rd x18 x20))
      else
      bounds_Lower.c5 k x18 x19 (w64 (x20 + 1)) o1_0 o1_1 o1_3 o3_0 o3_1 o3_2 o3_3
      else none
    else
    bif (decide (256 < o3_1)) then
      some ((0, 0, [], 0, ()), 14, ())
    else
    some ((o3_0, o3_1, o3_2, o3_3, ()), 0, ())
end
def bounds_Lower.f (k : Nat) (a0 : Flow) : Option ((Bound × Int × Unit)) :=
  (bounds_Recurrence.f k a0).bind fun y10 =>
  bif (!decide (y10.2.1 = 0)) then
    some ((0, 0, [], 0, ()), y10.2.1, ())
  else
  (bounds_Resources.f k a0).bind fun y18 =>
  bounds_Lower.c5 k y18 (y18.length : Int) 0 0 0 0 (Bound.Kind y10.1) (Bound.II y10.1) (Bound.Cycle y10.1) (Bound.Res y10.1)
def jacquardlaw31_awake.f (k : Nat) : Option (Bool) :=
  (jacquardlaw31_pair.f ).bind fun y4 =>
  (bounds_Lower.f k ((Flow.Insts y4), (Flow.Params y4), (Flow.Loop y4), (Flow.Arcs y4), (Flow.Res y4), (Flow.Needs y4), ())).bind fun y5 =>
  bif (decide (y5.2.1 = 0)) then
    bif (decide ((Bound.II y5.1) = 3)) then
      some (decide ((Bound.Kind y5.1) = 2))
    else
    some false
  else
  some false
mutual
def jacquardref28_Small.c2 : Nat → Int → Int → Int → Int → Flow → Option (Bool)
  | 0, _, _, _, _, _ => none
  | k + 1, x1, x2, x11, x12, o0 =>
    bif (decide (x12 < x11)) then
      if 0 ≤ x12 ∧ x12 < ((Flow.Arcs o0).length : Int) then
      bif (decide (60 < (Arc.Lat (rd (Flow.Arcs o0) x12)))) then
        some false
      else
      if 0 ≤ x12 ∧ x12 < ((Flow.Arcs o0).length : Int) then
      bif (decide (20 < (Arc.Dist (rd (Flow.Arcs o0) x12)))) then
        some false
      else
      jacquardref28_Small.c2 k x1 x2 x11 (w64 (x12 + 1)) o0
      else none
      else none
    else
    jacquardref28_Small.c8 k x1 x2 ((Flow.Needs o0).length : Int) 0 o0
def jacquardref28_Small.c8 : Nat → Int → Int → Int → Int → Flow → Option (Bool)
  | 0, _, _, _, _, _ => none
  | k + 1, x1, x2, x34, x35, o0 =>
    bif (decide (x35 < x34)) then
      if 0 ≤ x35 ∧ x35 < ((Flow.Needs o0).length : Int) then
      bif (decide (20 < (Need.Busy (rd (Flow.Needs o0) x35)))) then
        some false
      else
      jacquardref28_Small.c8 k x1 x2 x34 (w64 (x35 + 1)) o0
      else none
    else
    bif (decide ((Flow.Insts o0) ≤ x1)) then
      bif (decide ((Flow.Params o0) ≤ x2)) then
        bif (decide (((Flow.Arcs o0).length : Int) ≤ 90)) then
          some (decide (((Flow.Res o0).length : Int) ≤ 6))
        else
        some false
      else
      some false
    else
    some false
end
def jacquardref28_Small.f (k : Nat) (a0 : Flow) (a1 : Int) (a2 : Int) : Option (Bool) :=
  jacquardref28_Small.c2 k a1 a2 ((Flow.Arcs a0).length : Int) 0 a0
def jacquardlaw31_few.f (k : Nat) (a0 : Flow) : Option (Bool) :=
  (jacquardref28_Small.f k a0 12 6).bind fun y4 =>
  bif y4 then
    some (decide (((Flow.Needs a0).length : Int) ≤ 20))
  else
  some false
mutual
def bounds_Depth.c11 : Nat → Int → (List Resource) → Int → Int → (List Int) → Option ((Int × Int × Unit))
  | 0, _, _, _, _, _ => none
  | k + 1, x6, x38, x39, x40, o3 =>
    bif (decide (x40 < x39)) then
      if 0 ≤ x40 ∧ x40 < (x38.length : Int) then
      if 0 ≤ x40 ∧ x40 < (o3.length : Int) then
      (bounds_share.f (rd o3 x40) (Resource.Count (rd x38 x40))).bind fun y52 =>
      bounds_Depth.c11 k (mx x6 y52) x38 x39 (w64 (x40 + 1)) o3
      else none
      else none
    else
    some (x6, 0, ())
end
def bounds_Depth.f (k : Nat) (a0 : Flow) : Option ((Int × Int × Unit)) :=
  (dataflow_Valid.f k a0).bind fun y12 =>
  bif (!y12) then
    some (0, 3, ())
  else
  bif (Flow.Loop a0) then
    some (0, 1, ())
  else
  (dataflow_Nodes.f a0).bind fun y18 =>
  (diffcons_Earliest.f k y18 (Flow.Arcs a0) 0).bind fun y21 =>
  bif (Option.isSome y21.2.1) then
    some (0, 14, ())
  else
  (dataflow_End.f a0).bind fun y28 =>
  if 0 ≤ y28 ∧ y28 < (y21.1.length : Int) then
  (bounds_usage.f k a0).bind fun y34 =>
  bounds_Depth.c11 k (mx 1 (rd y21.1 y28)) (Flow.Res a0) ((Flow.Res a0).length : Int) 0 y34.1
  else none
def jacquardref28_Source.f (a0 : Flow) : Option (Int) :=
  some (w64 ((Flow.Insts a0) + (Flow.Params a0)))
def jacquardref28_End.f (a0 : Flow) : Option (Int) :=
  some (w64 ((w64 ((Flow.Insts a0) + (Flow.Params a0))) + 1))
mutual
def jacquardref28_Valid.c5 : Nat → Int → Int → Int → Flow → Option (Bool)
  | 0, _, _, _, _ => none
  | k + 1, x3, x47, x48, o0 =>
    bif (decide (x48 < x47)) then
      if 0 ≤ x48 ∧ x48 < ((Flow.Arcs o0).length : Int) then
      bif (decide ((Arc.From (rd (Flow.Arcs o0) x48)) < 0)) then
        some false
      else
      bif (decide ((w64 (x3 - 1)) ≤ (Arc.From (rd (Flow.Arcs o0) x48)))) then
        some false
      else
      bif (decide ((Arc.To (rd (Flow.Arcs o0) x48)) < 0)) then
        some false
      else
      bif (decide (x3 ≤ (Arc.To (rd (Flow.Arcs o0) x48)))) then
        some false
      else
      bif (decide ((Arc.Lat (rd (Flow.Arcs o0) x48)) < 0)) then
        some false
      else
      bif (decide (4096 < (Arc.Lat (rd (Flow.Arcs o0) x48)))) then
        some false
      else
      bif (decide ((Arc.Dist (rd (Flow.Arcs o0) x48)) < 0)) then
        some false
      else
      bif (decide (256 < (Arc.Dist (rd (Flow.Arcs o0) x48)))) then
        some false
      else
      bif (decide (0 < (Arc.Dist (rd (Flow.Arcs o0) x48)))) then
        bif (!(Flow.Loop o0)) then
          some false
        else
        jacquardref28_Valid.c5 k x3 x47 (w64 (x48 + 1)) o0
      else
      jacquardref28_Valid.c5 k x3 x47 (w64 (x48 + 1)) o0
      else none
    else
    bif (decide (((Flow.Arcs o0).length : Int) < (w64 ((w64 (2 * x3)) - 3)))) then
      some false
    else
    jacquardref28_Valid.c14 k x3 (w64 (x3 - 1)) 0 o0
def jacquardref28_Valid.c14 : Nat → Int → Int → Int → Flow → Option (Bool)
  | 0, _, _, _, _ => none
  | k + 1, x3, x116, x117, o0 =>
    bif (decide (x117 < x116)) then
      (jacquardref28_Source.f o0).bind fun y123 =>
      bif (decide (y123 ≤ x117)) then
        jacquardref28_Valid.c19 k x3 x117 (w64 (x117 + 1)) x116 x117 o0
      else
      jacquardref28_Valid.c19 k x3 x117 x117 x116 x117 o0
    else
    jacquardref28_Valid.c23 k x3 ((Flow.Res o0).length : Int) 0 o0
def jacquardref28_Valid.c19 : Nat → Int → Int → Int → Int → Int → Flow → Option (Bool)
  | 0, _, _, _, _, _, _ => none
  | k + 1, x3, x6, x7, x116, x117, o0 =>
    if 0 ≤ x6 ∧ x6 < ((Flow.Arcs o0).length : Int) then
    (jacquardref28_Source.f o0).bind fun y133 =>
    bif (!eqB (Arc.T) (rd (Flow.Arcs o0) x6) (y133, x7, 0, 0, ())) then
      some false
    else
    jacquardref28_Valid.c14 k x3 x116 (w64 (x117 + 1)) o0
    else none
def jacquardref28_Valid.c23 : Nat → Int → Int → Int → Flow → Option (Bool)
  | 0, _, _, _, _ => none
  | k + 1, x3, x140, x141, o0 =>
    bif (decide (x141 < x140)) then
      if 0 ≤ x141 ∧ x141 < ((Flow.Res o0).length : Int) then
      bif (decide ((Resource.Kind (rd (Flow.Res o0) x141)) < 1)) then
        some false
      else
      if 0 ≤ x141 ∧ x141 < ((Flow.Res o0).length : Int) then
      bif (decide (4 < (Resource.Kind (rd (Flow.Res o0) x141)))) then
        some false
      else
      if 0 ≤ x141 ∧ x141 < ((Flow.Res o0).length : Int) then
      bif (decide ((Resource.Count (rd (Flow.Res o0) x141)) < 1)) then
        some false
      else
      if 0 ≤ x141 ∧ x141 < ((Flow.Res o0).length : Int) then
      bif (decide (1024 < (Resource.Count (rd (Flow.Res o0) x141)))) then
        some false
      else
      jacquardref28_Valid.c23 k x3 x140 (w64 (x141 + 1)) o0
      else none
      else none
      else none
      else none
    else
    jacquardref28_Valid.c29 k x3 (w64 (x3 - 2)) 0 o0
def jacquardref28_Valid.c29 : Nat → Int → Int → Int → Flow → Option (Bool)
  | 0, _, _, _, _ => none
  | k + 1, x3, x180, x181, o0 =>
    bif (decide (x181 < x180)) then
      if 0 ≤ (w64 ((w64 (x3 - 1)) + x181)) ∧ (w64 ((w64 (x3 - 1)) + x181)) < ((Flow.Arcs o0).length : Int) then
      bif (!decide ((Arc.From (rd (Flow.Arcs o0) (w64 ((w64 (x3 - 1)) + x181)))) = x181)) then
        some false
      else
      (jacquardref28_End.f o0).bind fun y200 =>
      bif (!decide ((Arc.To (rd (Flow.Arcs o0) (w64 ((w64 (x3 - 1)) + x181)))) = y200)) then
        some false
      else
      bif (!decide ((Arc.Dist (rd (Flow.Arcs o0) (w64 ((w64 (x3 - 1)) + x181)))) = 0)) then
        some false
      else
      bif (decide (x181 < (Flow.Insts o0))) then
        if 0 ≤ x181 ∧ x181 < ((Flow.Needs o0).length : Int) then
        bif (decide ((Arc.Lat (rd (Flow.Arcs o0) (w64 ((w64 (x3 - 1)) + x181)))) < (mx 1 (Need.Busy (rd (Flow.Needs o0) x181))))) then
          some false
        else
        jacquardref28_Valid.c29 k x3 x180 (w64 (x181 + 1)) o0
        else none
      else
      jacquardref28_Valid.c29 k x3 x180 (w64 (x181 + 1)) o0
      else none
    else
    jacquardref28_Valid.c36 k ((Flow.Needs o0).length : Int) 0 o0
def jacquardref28_Valid.c36 : Nat → Int → Int → Flow → Option (Bool)
  | 0, _, _, _ => none
  | k + 1, x229, x230, o0 =>
    bif (decide (x230 < x229)) then
      if 0 ≤ x230 ∧ x230 < ((Flow.Needs o0).length : Int) then
      bif (decide ((Need.Res (rd (Flow.Needs o0) x230)) < (-1))) then
        some false
      else
      bif (decide (((Flow.Res o0).length : Int) ≤ (Need.Res (rd (Flow.Needs o0) x230)))) then
        some false
      else
      bif (decide ((Need.Res (rd (Flow.Needs o0) x230)) = (-1))) then
        bif (!decide ((Need.Busy (rd (Flow.Needs o0) x230)) = 0)) then
          some false
        else
        bif (decide (0 ≤ (Need.Res (rd (Flow.Needs o0) x230)))) then
          bif (decide ((Need.Busy (rd (Flow.Needs o0) x230)) < 1)) then
            some false
          else
          bif (decide (256 < (Need.Busy (rd (Flow.Needs o0) x230)))) then
            some false
          else
          jacquardref28_Valid.c36 k x229 (w64 (x230 + 1)) o0
        else
        jacquardref28_Valid.c36 k x229 (w64 (x230 + 1)) o0
      else
      bif (decide (0 ≤ (Need.Res (rd (Flow.Needs o0) x230)))) then
        bif (decide ((Need.Busy (rd (Flow.Needs o0) x230)) < 1)) then
          some false
        else
        bif (decide (256 < (Need.Busy (rd (Flow.Needs o0) x230)))) then
          some false
        else
        jacquardref28_Valid.c36 k x229 (w64 (x230 + 1)) o0
      else
      jacquardref28_Valid.c36 k x229 (w64 (x230 + 1)) o0
      else none
    else
    some true
end
def jacquardref28_Valid.f (k : Nat) (a0 : Flow) : Option (Bool) :=
  bif (decide ((Flow.Insts a0) < 0)) then
    some false
  else
  bif (decide (4096 < (Flow.Insts a0))) then
    some false
  else
  bif (decide ((Flow.Params a0) < 0)) then
    some false
  else
  bif (decide (4094 < (Flow.Params a0))) then
    some false
  else
  bif (!decide (((Flow.Needs a0).length : Int) = (Flow.Insts a0))) then
    some false
  else
  jacquardref28_Valid.c5 k (w64 ((w64 ((Flow.Insts a0) + (Flow.Params a0))) + 2)) ((Flow.Arcs a0).length : Int) 0 a0
def jacquardref30_Nodes.f (a0 : Int) : Option (Int) :=
  some (mn (mx a0 0) 8192)
def jacquardref30_Counts.f (a0 : Int) (a1 : Arc) : Option (Bool) :=
  bif (decide (0 ≤ (Arc.From a1))) then
    (jacquardref30_Nodes.f a0).bind fun y12 =>
    bif (decide ((Arc.From a1) < y12)) then
      bif (decide (0 ≤ (Arc.To a1))) then
        (jacquardref30_Nodes.f a0).bind fun y24 =>
        some (decide ((Arc.To a1) < y24))
      else
      some false
    else
    some false
  else
  some false
def jacquardref30_Weight.f (a0 : Arc) (a1 : Int) : Option (Int) :=
  some (w64 ((mn (mx (Arc.Lat a0) (w64 (0 - 1048576))) 1048576) - (w64 ((mn (mx a1 0) 256) * (mn (mx (Arc.Dist a0) (w64 (0 - 1048576))) 1048576)))))
mutual
def jacquardref30_Walks.c4 : Nat → Int → (List Arc) → Int → Int → Int → (List (List Int)) → Option (((List (List Int)) × Bool × Unit))
  | 0, _, _, _, _, _, _ => none
  | k + 1, x0, x1, x2, x19, x20, o1 =>
    bif (decide (x20 < x19)) then
      if 0 ≤ x0 ∧ x0 ≤ x0 ∧ x0 ≤ 1073741824 then
      jacquardref30_Walks.c8 k x0 x1 x2 x20 x19 x20 x0 0 o1 (List.replicate x0.toNat (0 : Int))
      else none
    else
    jacquardref30_Walks.c16 k x0 x1 x2 (x1.length : Int) 0 o1
def jacquardref30_Walks.c8 : Nat → Int → (List Arc) → Int → Int → Int → Int → Int → Int → (List (List Int)) → (List Int) → Option (((List (List Int)) × Bool × Unit))
  | 0, _, _, _, _, _, _, _, _, _, _ => none
  | k + 1, x0, x1, x2, x9, x19, x20, x25, x26, o1, o2 =>
    bif (decide (x26 < x25)) then
      if 0 ≤ x26 ∧ x26 < (o2.length : Int) then
      jacquardref30_Walks.c8 k x0 x1 x2 x9 x19 x20 x25 (w64 (x26 + 1)) o1 (List.set o2 x26.toNat (-1152921504606846976))
      else none
    else
    if 0 ≤ x9 ∧ x9 < (o2.length : Int) then
    bif Nat.ble (List.length o1 + List.length [(List.set o2 x9.toNat 0)]) 1073741824 then
    jacquardref30_Walks.c4 k x0 x1 x2 x19 (w64 (x20 + 1)) (o1 ++ [(List.set o2 x9.toNat 0)])
    else none
    else none
def jacquardref30_Walks.c16 : Nat → Int → (List Arc) → Int → Int → Int → (List (List Int)) → Option (((List (List Int)) × Bool × Unit))
  | 0, _, _, _, _, _, _ => none
  | k + 1, x0, x1, x2, x42, x43, o1 =>
    bif (decide (x43 < x42)) then
      if 0 ≤ x43 ∧ x43 < (x1.length : Int) then
      (jacquardref30_Counts.f x0 (rd x1 x43)).bind fun y51 =>
      bif y51 then
        if 0 ≤ x43 ∧ x43 < (x1.length : Int) then
        if 0 ≤ (Arc.From (rd x1 x43)) ∧ (Arc.From (rd x1 x43)) < (o1.length : Int) then
        if 0 ≤ x43 ∧ x43 < (x1.length : Int) then
        if 0 ≤ x43 ∧ x43 < (x1.length : Int) then
        if 0 ≤ (Arc.From (rd x1 x43)) ∧ (Arc.From (rd x1 x43)) < (o1.length : Int) then
        if 0 ≤ x43 ∧ x43 < (x1.length : Int) then
        if 0 ≤ (Arc.To (rd x1 x43)) ∧ (Arc.To (rd x1 x43)) < ((rd o1 (Arc.From (rd x1 x43))).length : Int) then
        if 0 ≤ x43 ∧ x43 < (x1.length : Int) then
        (jacquardref30_Weight.f (rd x1 x43) x2).bind fun y85 =>
        if 0 ≤ (Arc.To (rd x1 x43)) ∧ (Arc.To (rd x1 x43)) < ((rd o1 (Arc.From (rd x1 x43))).length : Int) then
        jacquardref30_Walks.c16 k x0 x1 x2 x42 (w64 (x43 + 1)) (List.set o1 (Arc.From (rd x1 x43)).toNat (List.set (rd o1 (Arc.From (rd x1 x43))) (Arc.To (rd x1 x43)).toNat (mx (rd (rd o1 (Arc.From (rd x1 x43))) (Arc.To (rd x1 x43))) y85)))
        else none
        else none
        else none
        else none
        else none
        else none
        else none
        else none
        else none
      else
      jacquardref30_Walks.c16 k x0 x1 x2 x42 (w64 (x43 + 1)) o1
      else none
    else
    jacquardref30_Walks.c22 k x0 x0 0 o1
def jacquardref30_Walks.c22 : Nat → Int → Int → Int → (List (List Int)) → Option (((List (List Int)) × Bool × Unit))
  | 0, _, _, _, _ => none
  | k + 1, x0, x89, x90, o1 =>
    bif (decide (x90 < x89)) then
      if 0 ≤ x90 ∧ x90 < (o1.length : Int) then
      if 0 ≤ x90 ∧ x90 < ((rd o1 x90).length : Int) then
      bif (decide (0 < (rd (rd o1 x90) x90))) then
        some ([], false, ())
      else
      jacquardref30_Walks.c27 k x0 x90 x89 x90 x0 0 o1
      else none
      else none
    else
    some (o1, true, ())
def jacquardref30_Walks.c27 : Nat → Int → Int → Int → Int → Int → Int → (List (List Int)) → Option (((List (List Int)) × Bool × Unit))
  | 0, _, _, _, _, _, _, _ => none
  | k + 1, x0, x13, x89, x90, x101, x102, o1 =>
    bif (decide (x102 < x101)) then
      jacquardref30_Walks.c30 k x0 x13 x102 x89 x90 x101 x102 x0 0 o1
    else
    jacquardref30_Walks.c37 k x0 x89 x90 x0 0 o1
def jacquardref30_Walks.c30 : Nat → Int → Int → Int → Int → Int → Int → Int → Int → Int → (List (List Int)) → Option (((List (List Int)) × Bool × Unit))
  | 0, _, _, _, _, _, _, _, _, _, _ => none
  | k + 1, x0, x13, x14, x89, x90, x101, x102, x105, x106, o1 =>
    bif (decide (x106 < x105)) then
      if 0 ≤ x14 ∧ x14 < (o1.length : Int) then
      if 0 ≤ x13 ∧ x13 < ((rd o1 x14).length : Int) then
      bif (decide ((-1152921504606846976) < (rd (rd o1 x14) x13))) then
        if 0 ≤ x13 ∧ x13 < (o1.length : Int) then
        if 0 ≤ x106 ∧ x106 < ((rd o1 x13).length : Int) then
        bif (decide ((-1152921504606846976) < (rd (rd o1 x13) x106))) then
          if 0 ≤ x14 ∧ x14 < (o1.length : Int) then
          if 0 ≤ x14 ∧ x14 < (o1.length : Int) then
          if 0 ≤ x106 ∧ x106 < ((rd o1 x14).length : Int) then
          if 0 ≤ x14 ∧ x14 < (o1.length : Int) then
          if 0 ≤ x13 ∧ x13 < ((rd o1 x14).length : Int) then
          if 0 ≤ x13 ∧ x13 < (o1.length : Int) then
          if 0 ≤ x106 ∧ x106 < ((rd o1 x13).length : Int) then
          if 0 ≤ x106 ∧ x106 < ((rd o1 x14).length : Int) then
          jacquardref30_Walks.c30 k x0 x13 x14 x89 x90 x101 x102 x105 (w64 (x106 + 1)) (List.set o1 x14.toNat (List.set (rd o1 x14) x106.toNat (mx (rd (rd o1 x14) x106) (w64 ((rd (rd o1 x14) x13) + (rd (rd o1 x13) x106))))))
          else none
          else none
          else none
          else none
          else none
          else none
          else none
          else none
        else
        jacquardref30_Walks.c30 k x0 x13 x14 x89 x90 x101 x102 x105 (w64 (x106 + 1)) o1
        else none
        else none
      else
      jacquardref30_Walks.c30 k x0 x13 x14 x89 x90 x101 x102 x105 (w64 (x106 + 1)) o1
      else none
      else none
    else
    jacquardref30_Walks.c27 k x0 x13 x89 x90 x101 (w64 (x102 + 1)) o1
def jacquardref30_Walks.c37 : Nat → Int → Int → Int → Int → Int → (List (List Int)) → Option (((List (List Int)) × Bool × Unit))
  | 0, _, _, _, _, _, _ => none
  | k + 1, x0, x89, x90, x158, x159, o1 =>
    bif (decide (x159 < x158)) then
      if 0 ≤ x159 ∧ x159 < (o1.length : Int) then
      if 0 ≤ x159 ∧ x159 < ((rd o1 x159).length : Int) then
      bif (decide (0 < (rd (rd o1 x159) x159))) then
        some ([], false, ())
      else
      jacquardref30_Walks.c37 k x0 x89 x90 x158 (w64 (x159 + 1)) o1
      else none
      else none
    else
    jacquardref30_Walks.c22 k x0 x89 (w64 (x90 + 1)) o1
end
def jacquardref30_Walks.f (k : Nat) (a0 : Int) (a1 : (List Arc)) (a2 : Int) : Option (((List (List Int)) × Bool × Unit)) :=
  (jacquardref30_Nodes.f a0).bind fun y18 =>
  jacquardref30_Walks.c4 k y18 a1 a2 y18 0 []
def jacquardref30_Bound.f (a0 : (List Int)) (a1 : Int) : Option (Int) :=
  bif (decide ((a0.length : Int) ≤ a1)) then
    some 0
  else
  if 0 ≤ a1 ∧ a1 < (a0.length : Int) then
  some (mn (mx (rd a0 a1) (-1073741824)) 1073741824)
  else none
mutual
def jacquardref30_After.c6 : Nat → (List Int) → Int → Int → (List (List Int)) → (List Int) → Option (((List Int) × Bool × Unit))
  | 0, _, _, _, _, _ => none
  | k + 1, x3, x26, x27, o1, o2 =>
    bif (decide (x27 < x26)) then
      (jacquardref30_Bound.f x3 x27).bind fun y32 =>
      jacquardref30_After.c10 k x3 x27 y32 x26 x27 (o1.length : Int) 0 o1 o2
    else
    some (o2, true, ())
def jacquardref30_After.c10 : Nat → (List Int) → Int → Int → Int → Int → Int → Int → (List (List Int)) → (List Int) → Option (((List Int) × Bool × Unit))
  | 0, _, _, _, _, _, _, _, _, _ => none
  | k + 1, x3, x13, x14, x26, x27, x34, x35, o1, o2 =>
    bif (decide (x35 < x34)) then
      if 0 ≤ x35 ∧ x35 < (o1.length : Int) then
      if 0 ≤ x13 ∧ x13 < ((rd o1 x35).length : Int) then
      bif (decide ((-1152921504606846976) < (rd (rd o1 x35) x13))) then
        (jacquardref30_Bound.f x3 x35).bind fun y49 =>
        if 0 ≤ x35 ∧ x35 < (o1.length : Int) then
        if 0 ≤ x13 ∧ x13 < ((rd o1 x35).length : Int) then
        jacquardref30_After.c10 k x3 x13 (mx x14 (w64 (y49 + (rd (rd o1 x35) x13)))) x26 x27 x34 (w64 (x35 + 1)) o1 o2
        else none
        else none
      else
      jacquardref30_After.c10 k x3 x13 x14 x26 x27 x34 (w64 (x35 + 1)) o1 o2
      else none
      else none
    else
    bif Nat.ble (List.length o2 + List.length [x14]) 1073741824 then
    jacquardref30_After.c6 k x3 x26 (w64 (x27 + 1)) o1 (o2 ++ [x14])
    else none
end
def jacquardref30_After.f (k : Nat) (a0 : Int) (a1 : (List Arc)) (a2 : Int) (a3 : (List Int)) : Option (((List Int) × Bool × Unit)) :=
  (jacquardref30_Walks.f k a0 a1 a2).bind fun y20 =>
  bif (!y20.2.1) then
    some ([], false, ())
  else
  jacquardref30_After.c6 k a3 (y20.1.length : Int) 0 y20.1 []
mutual
def jacquardref31_Sum.c3 : Nat → Int → Int → Int → Int → Int → Flow → Option ((Int × Int × Unit))
  | 0, _, _, _, _, _, _ => none
  | k + 1, x1, x6, x7, x11, x12, o0 =>
    bif (decide (x12 < x11)) then
      if 0 ≤ x12 ∧ x12 < ((Flow.Needs o0).length : Int) then
      bif (decide ((Need.Res (rd (Flow.Needs o0) x12)) = x1)) then
        if 0 ≤ x12 ∧ x12 < ((Flow.Needs o0).length : Int) then
        if 0 ≤ x12 ∧ x12 < ((Flow.Needs o0).length : Int) then
        jacquardref31_Sum.c3 k x1 (w64 (x6 + (Need.Busy (rd (Flow.Needs o0) x12)))) (mx x7 (Need.Busy (rd (Flow.Needs o0) x12))) x11 (w64 (x12 + 1)) o0
        else none
        else none
      else
      jacquardref31_Sum.c3 k x1 x6 x7 x11 (w64 (x12 + 1)) o0
      else none
    else
    some (x6, x7, ())
end
def jacquardref31_Sum.f (k : Nat) (a0 : Flow) (a1 : Int) : Option ((Int × Int × Unit)) :=
  jacquardref31_Sum.c3 k a1 0 0 ((Flow.Needs a0).length : Int) 0 a0
mutual
def jacquardref31_Depth.c6 : Nat → Int → Int → Int → Flow → Option (Int)
  | 0, _, _, _, _ => none
  | k + 1, x5, x28, x29, o0 =>
    bif (decide (x29 < x28)) then
      (jacquardref31_Sum.f k o0 x29).bind fun y35 =>
      if 0 ≤ x29 ∧ x29 < ((Flow.Res o0).length : Int) then
      if 0 ≤ x29 ∧ x29 < ((Flow.Res o0).length : Int) then
      if ¬ (Resource.Count (rd (Flow.Res o0) x29)) = 0 then
      jacquardref31_Depth.c6 k (mx x5 (w64 (Int.tdiv (w64 ((w64 (y35.1 + (Resource.Count (rd (Flow.Res o0) x29)))) - 1)) (Resource.Count (rd (Flow.Res o0) x29))))) x28 (w64 (x29 + 1)) o0
      else none
      else none
      else none
    else
    some x5
end
def jacquardref31_Depth.f (k : Nat) (a0 : Flow) : Option (Int) :=
  (jacquardref28_End.f a0).bind fun y11 =>
  (jacquardref30_After.f k (w64 (y11 + 1)) (Flow.Arcs a0) 0 []).bind fun y15 =>
  bif (!y15.2.1) then
    some 0
  else
  (jacquardref28_End.f a0).bind fun y22 =>
  if 0 ≤ y22 ∧ y22 < (y15.1.length : Int) then
  jacquardref31_Depth.c6 k (mx 1 (rd y15.1 y22)) ((Flow.Res a0).length : Int) 0 a0
  else none
def jacquardlaw31_BoundsDepth.f (k : Nat) (a0 : Flow) : Option (Bool) :=
  (jacquardlaw31_awake.f k ).bind fun y6 =>
  bif (!y6) then
    (jacquardlaw31_awake.f k ).bind fun y13 =>
    some y13
  else
  (jacquardlaw31_few.f k a0).bind fun y10 =>
  bif (!y10) then
    (jacquardlaw31_awake.f k ).bind fun y13 =>
    some y13
  else
  (bounds_Depth.f k a0).bind fun y16 =>
  (jacquardref28_Valid.f k a0).bind fun y21 =>
  bif (!y21) then
    bif (decide (y16.2.1 = 3)) then
      some (decide (y16.1 = 0))
    else
    some false
  else
  bif (Flow.Loop a0) then
    bif (decide (y16.2.1 = 1)) then
      some (decide (y16.1 = 0))
    else
    some false
  else
  (jacquardref31_Depth.f k a0).bind fun y39 =>
  bif (decide (y39 = 0)) then
    bif (decide (y16.2.1 = 14)) then
      some (decide (y16.1 = 0))
    else
    some false
  else
  bif (decide (y16.2.1 = 0)) then
    some (decide (y16.1 = y39))
  else
  some false
def jacquardref31_Feasible.f (k : Nat) (a0 : Flow) (a1 : Int) : Option (Bool) :=
  (jacquardref28_End.f a0).bind fun y9 =>
  (jacquardref30_Walks.f k (w64 (y9 + 1)) (Flow.Arcs a0) a1).bind fun y14 =>
  some y14.2.1
mutual
def jacquardref31_Recurrence.c4 : Nat → Int → Flow → Option (Int)
  | 0, _, _ => none
  | k + 1, x3, o0 =>
    bif (decide (x3 < 256)) then
      (jacquardref31_Feasible.f k o0 x3).bind fun y13 =>
      bif y13 then
        some x3
      else
      jacquardref31_Recurrence.c4 k (w64 (x3 + 1)) o0
    else
    some 256
end
def jacquardref31_Recurrence.f (k : Nat) (a0 : Flow) : Option (Int) :=
  (jacquardref31_Feasible.f k a0 256).bind fun y5 =>
  bif (!y5) then
    some 0
  else
  jacquardref31_Recurrence.c4 k 1 a0
mutual
def jacquardref30_Positive.c3 : Nat → Int → (List Arc) → Int → (List Int) → Int → Int → Int → Option ((Int × Bool × Unit))
  | 0, _, _, _, _, _, _, _ => none
  | k + 1, x0, x1, x2, x3, x10, x16, x17 =>
    bif (decide (x17 < x16)) then
      if 0 ≤ x17 ∧ x17 < (x3.length : Int) then
      bif (decide ((rd x3 x17) < 0)) then
        some (0, false, ())
      else
      if 0 ≤ x17 ∧ x17 < (x3.length : Int) then
      bif (decide ((x1.length : Int) ≤ (rd x3 x17))) then
        some (0, false, ())
      else
      if 0 ≤ x17 ∧ x17 < (x3.length : Int) then
      if 0 ≤ (rd x3 x17) ∧ (rd x3 x17) < (x1.length : Int) then
      (jacquardref30_Counts.f x0 (rd x1 (rd x3 x17))).bind fun y43 =>
      bif (!y43) then
        some (0, false, ())
      else
      if 0 ≤ x17 ∧ x17 < (x3.length : Int) then
      if 0 ≤ (rd x3 x17) ∧ (rd x3 x17) < (x1.length : Int) then
      (jacquardref30_Weight.f (rd x1 (rd x3 x17)) x2).bind fun y55 =>
      jacquardref30_Positive.c3 k x0 x1 x2 x3 (w64 (x10 + y55)) x16 (w64 (x17 + 1))
      else none
      else none
      else none
      else none
      else none
      else none
    else
    jacquardref30_Positive.c10 k x1 x3 x10 (x3.length : Int) 0
def jacquardref30_Positive.c10 : Nat → (List Arc) → (List Int) → Int → Int → Int → Option ((Int × Bool × Unit))
  | 0, _, _, _, _, _ => none
  | k + 1, x1, x3, x10, x59, x60 =>
    bif (decide (x60 < x59)) then
      if ¬ (x3.length : Int) = 0 then
      if 0 ≤ (Int.tmod (w64 (x60 + 1)) (x3.length : Int)) ∧ (Int.tmod (w64 (x60 + 1)) (x3.length : Int)) < (x3.length : Int) then
      if 0 ≤ x60 ∧ x60 < (x3.length : Int) then
      if 0 ≤ (rd x3 x60) ∧ (rd x3 x60) < (x1.length : Int) then
      if 0 ≤ (rd x3 (Int.tmod (w64 (x60 + 1)) (x3.length : Int))) ∧ (rd x3 (Int.tmod (w64 (x60 + 1)) (x3.length : Int))) < (x1.length : Int) then
      bif (!decide ((Arc.To (rd x1 (rd x3 x60))) = (Arc.From (rd x1 (rd x3 (Int.tmod (w64 (x60 + 1)) (x3.length : Int))))))) then
        some (0, false, ())
      else
      jacquardref30_Positive.c16 k x1 x3 x10 x60 x59 x60 x60 0
      else none
      else none
      else none
      else none
      else none
    else
    some (x10, (decide (0 < x10)), ())
def jacquardref30_Positive.c16 : Nat → (List Arc) → (List Int) → Int → Int → Int → Int → Int → Int → Option ((Int × Bool × Unit))
  | 0, _, _, _, _, _, _, _, _ => none
  | k + 1, x1, x3, x10, x12, x59, x60, x85, x86 =>
    bif (decide (x86 < x85)) then
      if 0 ≤ x86 ∧ x86 < (x3.length : Int) then
      if 0 ≤ (rd x3 x86) ∧ (rd x3 x86) < (x1.length : Int) then
      if 0 ≤ x12 ∧ x12 < (x3.length : Int) then
      if 0 ≤ (rd x3 x12) ∧ (rd x3 x12) < (x1.length : Int) then
      bif (decide ((Arc.From (rd x1 (rd x3 x86))) = (Arc.From (rd x1 (rd x3 x12))))) then
        some (0, false, ())
      else
      jacquardref30_Positive.c16 k x1 x3 x10 x12 x59 x60 x85 (w64 (x86 + 1))
      else none
      else none
      else none
      else none
    else
    jacquardref30_Positive.c10 k x1 x3 x10 x59 (w64 (x60 + 1))
end
def jacquardref30_Positive.f (k : Nat) (a0 : Int) (a1 : (List Arc)) (a2 : Int) (a3 : (List Int)) : Option ((Int × Bool × Unit)) :=
  jacquardref30_Positive.c3 k a0 a1 a2 a3 0 (a3.length : Int) 0
mutual
def jacquardref31_Accepts.c11 : Nat → Flow → Bound → Option (Bool)
  | 0, _, _ => none
  | k + 1, o0, o1 =>
    bif (decide ((Bound.Res o1) < 0)) then
      some false
    else
    bif (decide (((Flow.Res o0).length : Int) ≤ (Bound.Res o1))) then
      some false
    else
    (jacquardref31_Sum.f k o0 (Bound.Res o1)).bind fun y64 =>
    bif (decide ((Bound.Kind o1) = 3)) then
      if 0 ≤ (Bound.Res o1) ∧ (Bound.Res o1) < ((Flow.Res o0).length : Int) then
      some (decide ((w64 ((w64 ((Bound.II o1) - 1)) * (Resource.Count (rd (Flow.Res o0) (Bound.Res o1))))) < y64.1))
      else none
    else
    some (decide ((Bound.II o1) ≤ y64.2.1))
end
def jacquardref31_Accepts.f (k : Nat) (a0 : Flow) (a1 : Bound) : Option (Bool) :=
  bif (decide ((Bound.II a1) < 1)) then
    some false
  else
  bif (decide (256 < (Bound.II a1))) then
    some false
  else
  bif (decide ((Bound.Kind a1) = 1)) then
    some (decide ((Bound.II a1) = 1))
  else
  bif (decide ((Bound.Kind a1) = 2)) then
    (jacquardref28_End.f a0).bind fun y28 =>
    (jacquardref30_Positive.f k (w64 (y28 + 1)) (Flow.Arcs a0) (w64 ((Bound.II a1) - 1)) (Bound.Cycle a1)).bind fun y37 =>
    bif (decide (2 ≤ (Bound.II a1))) then
      some y37.2.1
    else
    some false
  else
  bif (decide ((Bound.Kind a1) = 3)) then
    jacquardref31_Accepts.c11 k a0 a1
  else
  bif (decide ((Bound.Kind a1) = 4)) then
    jacquardref31_Accepts.c11 k a0 a1
  else
  some false
mutual
def diffcons_Positive.c6 : Nat → Int → (List Arc) → Int → (List Int) → Int → (List Int) → Int → Int → (List (Int × Bool)) → Option ((Int × Bool × Unit))
  | 0, _, _, _, _, _, _, _, _, _ => none
  | k + 1, x0, x1, x2, x3, x8, x20, x21, x22, o0 =>
    bif (decide (x22 < x21)) then
      if 0 ≤ x22 ∧ x22 < (x20.length : Int) then
      if ¬ (x3.length : Int) = 0 then
      if 0 ≤ (Int.tmod (w64 (x22 + 1)) (x3.length : Int)) ∧ (Int.tmod (w64 (x22 + 1)) (x3.length : Int)) < (x3.length : Int) then
      bif (decide ((rd x20 x22) < 0)) then
        some (0, false, ())
      else
      bif (decide ((x1.length : Int) ≤ (rd x20 x22))) then
        some (0, false, ())
      else
      bif (decide ((rd x3 (Int.tmod (w64 (x22 + 1)) (x3.length : Int))) < 0)) then
        some (0, false, ())
      else
      bif (decide ((x1.length : Int) ≤ (rd x3 (Int.tmod (w64 (x22 + 1)) (x3.length : Int))))) then
        some (0, false, ())
      else
      if 0 ≤ (rd x20 x22) ∧ (rd x20 x22) < (x1.length : Int) then
      (diffcons_within.f (rd x1 (rd x20 x22)) x0).bind fun y59 =>
      bif (!y59) then
        some (0, false, ())
      else
      if 0 ≤ (rd x20 x22) ∧ (rd x20 x22) < (x1.length : Int) then
      if 0 ≤ (rd x3 (Int.tmod (w64 (x22 + 1)) (x3.length : Int))) ∧ (rd x3 (Int.tmod (w64 (x22 + 1)) (x3.length : Int))) < (x1.length : Int) then
      bif (!decide ((Arc.To (rd x1 (rd x20 x22))) = (Arc.From (rd x1 (rd x3 (Int.tmod (w64 (x22 + 1)) (x3.length : Int))))))) then
        some (0, false, ())
      else
      if 0 ≤ (rd x20 x22) ∧ (rd x20 x22) < (x1.length : Int) then
      bif (Option.getD (mpGet o0 (Arc.From (rd x1 (rd x20 x22)))) (false : Bool)) then
        some (0, false, ())
      else
      if 0 ≤ (rd x20 x22) ∧ (rd x20 x22) < (x1.length : Int) then
      if 0 ≤ (rd x20 x22) ∧ (rd x20 x22) < (x1.length : Int) then
      (diffcons_Weight.f (rd x1 (rd x20 x22)) x2).bind fun y96 =>
      diffcons_Positive.c6 k x0 x1 x2 x3 (w64 (x8 + y96)) x20 x21 (w64 (x22 + 1)) (mpPut o0 (Arc.From (rd x1 (rd x20 x22))) true)
      else none
      else none
      else none
      else none
      else none
      else none
      else none
      else none
      else none
    else
    some (x8, (decide (0 < x8)), ())
end
def diffcons_Positive.f (k : Nat) (a0 : Int) (a1 : (List Arc)) (a2 : Int) (a3 : (List Int)) : Option ((Int × Bool × Unit)) :=
  (diffcons_nodes.f a0).bind fun y15 =>
  bif (decide ((a3.length : Int) = 0)) then
    some (0, false, ())
  else
  diffcons_Positive.c6 k y15 a1 a2 a3 0 a3 (a3.length : Int) 0 ([] : List (Int × Bool))
def bounds_Check_1.f (x0 : Need) (o0 : Bound) : Option (Bool × Unit) :=
  bif (decide ((Need.Res x0) = (Bound.Res o0))) then
    some ((decide ((Bound.II o0) ≤ (Need.Busy x0))), ())
  else
  some (false, ())
mutual
def api_Need_i1.c2 : Nat → (List Need) → Int → Int → Bound → Option (Int × Unit)
  | 0, _, _, _, _ => none
  | k + 1, x0, x7, x8, o0 =>
    bif (decide (x8 < x7)) then
      if 0 ≤ x8 ∧ x8 < (x0.length : Int) then
      (bounds_Check_1.f (rd x0 x8) o0).bind fun y16 =>
      bif y16.1 then
        some (x8, ())
      else
      api_Need_i1.c2 k x0 x7 (w64 (x8 + 1)) o0
      else none
    else
    some ((-1), ())
end
def api_Need_i1.f (k : Nat) (x0 : (List Need)) (o0 : Bound) : Option (Int × Unit) :=
  api_Need_i1.c2 k x0 (x0.length : Int) 0 o0
def api_Need.f (k : Nat) (x0 : (List Need)) (o0 : Bound) : Option (Bool × Unit) :=
  (api_Need_i1.f k x0 o0).bind fun y7 =>
  some ((decide (0 ≤ y7.1)), ())
def bounds_Check.f (k : Nat) (a0 : Flow) (a1 : Bound) : Option (Bool) :=
  (bounds_loop.f k a0).bind fun y11 =>
  bif (!decide (y11 = 0)) then
    some false
  else
  bif (decide ((Bound.II a1) < 1)) then
    some false
  else
  bif (decide (256 < (Bound.II a1))) then
    some false
  else
  bif (decide (0 ≤ (Bound.Res a1))) then
    bif (decide ((Bound.Kind a1) = 1)) then
      some (decide ((Bound.II a1) = 1))
    else
    bif (decide ((Bound.Kind a1) = 2)) then
      (dataflow_Nodes.f a0).bind fun y45 =>
      (diffcons_Positive.f k y45 (Flow.Arcs a0) (w64 ((Bound.II a1) - 1)) (Bound.Cycle a1)).bind fun y53 =>
      bif (decide (2 ≤ (Bound.II a1))) then
        some y53.2.1
      else
      some false
    else
    bif (decide ((Bound.Kind a1) = 3)) then
      (bounds_usage.f k a0).bind fun y66 =>
      bif (decide ((Bound.Res a1) < ((Flow.Res a0).length : Int))) then
        if 0 ≤ (Bound.Res a1) ∧ (Bound.Res a1) < (y66.1.length : Int) then
        if 0 ≤ (Bound.Res a1) ∧ (Bound.Res a1) < ((Flow.Res a0).length : Int) then
        some (decide ((w64 ((w64 ((Bound.II a1) - 1)) * (Resource.Count (rd (Flow.Res a0) (Bound.Res a1))))) < (rd y66.1 (Bound.Res a1))))
        else none
        else none
      else
      some false
    else
    bif (decide ((Bound.Kind a1) = 4)) then
      bif (decide ((Bound.Res a1) < ((Flow.Res a0).length : Int))) then
        (api_Need.f k (Flow.Needs a0) a1).bind fun y96 =>
        some y96.1
      else
      some false
    else
    some false
  else
  bif (decide ((Bound.Kind a1) = 1)) then
    some (decide ((Bound.II a1) = 1))
  else
  bif (decide ((Bound.Kind a1) = 2)) then
    (dataflow_Nodes.f a0).bind fun y45 =>
    (diffcons_Positive.f k y45 (Flow.Arcs a0) (w64 ((Bound.II a1) - 1)) (Bound.Cycle a1)).bind fun y53 =>
    bif (decide (2 ≤ (Bound.II a1))) then
      some y53.2.1
    else
    some false
  else
  bif (decide ((Bound.Kind a1) = 3)) then
    (bounds_usage.f k a0).bind fun y66 =>
    some false
  else
  bif (decide ((Bound.Kind a1) = 4)) then
    some false
  else
  some false
def jacquardlaw31_BoundsRecurrence.f (k : Nat) (a0 : Flow) : Option (Bool) :=
  (jacquardlaw31_awake.f k ).bind fun y6 =>
  bif (!y6) then
    (jacquardlaw31_awake.f k ).bind fun y13 =>
    some y13
  else
  (jacquardlaw31_few.f k a0).bind fun y10 =>
  bif (!y10) then
    (jacquardlaw31_awake.f k ).bind fun y13 =>
    some y13
  else
  (bounds_Recurrence.f k a0).bind fun y16 =>
  (jacquardref28_Valid.f k a0).bind fun y21 =>
  bif (!y21) then
    bif (decide (y16.2.1 = 3)) then
      some (decide ((Bound.II y16.1) = 0))
    else
    some false
  else
  bif (!(Flow.Loop a0)) then
    bif (decide (y16.2.1 = 1)) then
      some (decide ((Bound.II y16.1) = 0))
    else
    some false
  else
  (jacquardref31_Recurrence.f k a0).bind fun y42 =>
  bif (decide (y42 = 0)) then
    bif (decide (y16.2.1 = 14)) then
      some (decide ((Bound.II y16.1) = 0))
    else
    some false
  else
  bif (decide (y42 = 1)) then
    bif (decide (y16.2.1 = 0)) then
      bif (decide ((Bound.Kind y16.1) = 1)) then
        bif (decide ((Bound.II y16.1) = 1)) then
          bif (decide (((Bound.Cycle y16.1).length : Int) = 0)) then
            some (decide ((Bound.Res y16.1) = 0))
          else
          some false
        else
        some false
      else
      some false
    else
    some false
  else
  bif (decide (y16.2.1 = 0)) then
    bif (decide ((Bound.Kind y16.1) = 2)) then
      bif (decide ((Bound.II y16.1) = y42)) then
        bif (decide ((Bound.Res y16.1) = 0)) then
          (jacquardref31_Accepts.f k a0 ((Bound.Kind y16.1), (Bound.II y16.1), (Bound.Cycle y16.1), (Bound.Res y16.1), ())).bind fun y98 =>
          bif y98 then
            (bounds_Check.f k a0 ((Bound.Kind y16.1), (Bound.II y16.1), (Bound.Cycle y16.1), (Bound.Res y16.1), ())).bind fun y103 =>
            some y103
          else
          some false
        else
        some false
      else
      some false
    else
    some false
  else
  some false
def jacquardlaw31_loop.f (k : Nat) (a0 : Flow) : Option (Bool) :=
  (jacquardref28_Valid.f k a0).bind fun y4 =>
  bif y4 then
    some (Flow.Loop a0)
  else
  some false
def jacquardref31_Resource.f (k : Nat) (a0 : Flow) (a1 : Int) : Option (Bound) :=
  (jacquardref31_Sum.f k a0 a1).bind fun y11 =>
  if 0 ≤ a1 ∧ a1 < ((Flow.Res a0).length : Int) then
  if 0 ≤ a1 ∧ a1 < ((Flow.Res a0).length : Int) then
  if ¬ (Resource.Count (rd (Flow.Res a0) a1)) = 0 then
  bif (decide (y11.1 = 0)) then
    some (1, 1, [], a1, ())
  else
  bif (decide (y11.2.1 ≤ (w64 (Int.tdiv (w64 ((w64 (y11.1 + (Resource.Count (rd (Flow.Res a0) a1)))) - 1)) (Resource.Count (rd (Flow.Res a0) a1)))))) then
    some (3, (w64 (Int.tdiv (w64 ((w64 (y11.1 + (Resource.Count (rd (Flow.Res a0) a1)))) - 1)) (Resource.Count (rd (Flow.Res a0) a1)))), [], a1, ())
  else
  some (4, y11.2.1, [], a1, ())
  else none
  else none
  else none
mutual
def jacquardlaw31_BoundsResources.c9 : Nat → Int → Int → Flow → (List Bound) → Option (Bool)
  | 0, _, _, _, _ => none
  | k + 1, x29, x30, o0, o1 =>
    bif (decide (x30 < x29)) then
      (jacquardref31_Resource.f k o0 x30).bind fun y35 =>
      if 0 ≤ x30 ∧ x30 < (o1.length : Int) then
      bif (!decide ((Bound.Kind (rd o1 x30)) = (Bound.Kind y35))) then
        some false
      else
      if 0 ≤ x30 ∧ x30 < (o1.length : Int) then
      bif (!decide ((Bound.II (rd o1 x30)) = (Bound.II y35))) then
        some false
      else
      if 0 ≤ x30 ∧ x30 < (o1.length : Int) then
      bif (!decide ((Bound.Res (rd o1 x30)) = x30)) then
        some false
      else
      if 0 ≤ x30 ∧ x30 < (o1.length : Int) then
      bif (decide (0 < ((Bound.Cycle (rd o1 x30)).length : Int))) then
        some false
      else
      bif (decide ((Bound.II y35) ≤ 256)) then
        if 0 ≤ x30 ∧ x30 < (o1.length : Int) then
        (bounds_Check.f k o0 ((Bound.Kind (rd o1 x30)), (Bound.II (rd o1 x30)), (Bound.Cycle (rd o1 x30)), (Bound.Res (rd o1 x30)), ())).bind fun y81 =>
        bif (!y81) then
          some false
        else
        jacquardlaw31_BoundsResources.c9 k x29 (w64 (x30 + 1)) o0 o1
        else none
      else
      jacquardlaw31_BoundsResources.c9 k x29 (w64 (x30 + 1)) o0 o1
      else none
      else none
      else none
      else none
    else
    some true
end
def jacquardlaw31_BoundsResources.f (k : Nat) (a0 : Flow) : Option (Bool) :=
  (jacquardlaw31_awake.f k ).bind fun y6 =>
  bif (!y6) then
    (jacquardlaw31_awake.f k ).bind fun y13 =>
    some y13
  else
  (jacquardlaw31_few.f k a0).bind fun y10 =>
  bif (!y10) then
    (jacquardlaw31_awake.f k ).bind fun y13 =>
    some y13
  else
  (bounds_Resources.f k a0).bind fun y15 =>
  (jacquardlaw31_loop.f k a0).bind fun y17 =>
  bif (!y17) then
    some (decide ((y15.length : Int) = 0))
  else
  bif (!decide ((y15.length : Int) = ((Flow.Res a0).length : Int))) then
    some false
  else
  jacquardlaw31_BoundsResources.c9 k (y15.length : Int) 0 a0 y15
mutual
def jacquardlaw31_BoundsLower.c9 : Nat → Int → (List Bound) → Int → Int → Flow → Int → Int → (List Int) → Int → Int → Int → (List Int) → Int → Option (Bool)
  | 0, _, _, _, _, _, _, _, _, _, _, _, _, _ => none
  | k + 1, x4, x7, x40, x41, o0, o2_0, o2_1, o2_2, o2_3, o4_0, o4_1, o4_2, o4_3 =>
    bif (decide (x41 < x40)) then
      if 0 ≤ x41 ∧ x41 < (x7.length : Int) then
      bif (decide (o4_1 < (Bound.II (rd x7 x41)))) then
        if 0 ≤ x41 ∧ x41 < (x7.length : Int) then
        jacquardlaw31_BoundsLower.c9 k x4 x7 x40 (w64 (x41 + 1)) o0 o2_0 o2_1 o2_2 o2_3 (Bound.Kind (rd x7 x41)) (Bound.II (rd x7 x41)) (Bound.Cycle (rd x7 x41)) (Bound.Res (rd x7 x41))
        else none
      else
      jacquardlaw31_BoundsLower.c9 k x4 x7 x40 (w64 (x41 + 1)) o0 o2_0 o2_1 o2_2 o2_3 o4_0 o4_1 o4_2 o4_3
      else none
    else
    bif (decide (256 < o4_1)) then
      bif (decide (x4 = 14)) then
        some (decide (o2_1 = 0))
      else
      some false
    else
    bif (decide (x4 = 0)) then
      bif (decide (o2_1 = o4_1)) then
        bif (decide (o2_0 = o4_0)) then
          bif (decide (o2_3 = o4_3)) then
            (bounds_Check.f k o0 (o2_0, o2_1, o2_2, o2_3, ())).bind fun y93 =>
            some y93
          else
          some false
        else
        some false
      else
      some false
    else
    some false
end
def jacquardlaw31_BoundsLower.f (k : Nat) (a0 : Flow) : Option (Bool) :=
  (jacquardlaw31_awake.f k ).bind fun y9 =>
  bif (!y9) then
    (jacquardlaw31_awake.f k ).bind fun y16 =>
    some y16
  else
  (jacquardlaw31_few.f k a0).bind fun y13 =>
  bif (!y13) then
    (jacquardlaw31_awake.f k ).bind fun y16 =>
    some y16
  else
  (bounds_Lower.f k a0).bind fun y19 =>
  (bounds_Recurrence.f k a0).bind fun y24 =>
  bif (!decide (y24.2.1 = 0)) then
    bif (decide (y19.2.1 = y24.2.1)) then
      some (decide ((Bound.II y19.1) = 0))
    else
    some false
  else
  (bounds_Resources.f k a0).bind fun y38 =>
  jacquardlaw31_BoundsLower.c9 k y19.2.1 y38 (y38.length : Int) 0 a0 (Bound.Kind y19.1) (Bound.II y19.1) (Bound.Cycle y19.1) (Bound.Res y19.1) (Bound.Kind y24.1) (Bound.II y24.1) (Bound.Cycle y24.1) (Bound.Res y24.1)
def jacquardlaw31_BoundsAccepts.f (k : Nat) (a0 : Flow) (a1 : Bound) : Option (Bool) :=
  (jacquardlaw31_awake.f k ).bind fun y5 =>
  bif (!y5) then
    (jacquardlaw31_awake.f k ).bind fun y18 =>
    some y18
  else
  (jacquardlaw31_few.f k a0).bind fun y9 =>
  bif (!y9) then
    (jacquardlaw31_awake.f k ).bind fun y18 =>
    some y18
  else
  bif (decide (30 < ((Bound.Cycle a1).length : Int))) then
    (jacquardlaw31_awake.f k ).bind fun y18 =>
    some y18
  else
  (bounds_Check.f k a0 a1).bind fun y21 =>
  (jacquardlaw31_loop.f k a0).bind fun y23 =>
  bif y23 then
    (jacquardref31_Accepts.f k a0 a1).bind fun y27 =>
    some (y21 == y27)
  else
  some (y21 == false)
mutual
def jacquardref28_Fits.c4 : Nat → Int → Int → Flow → Sched → Option (Bool)
  | 0, _, _, _, _ => none
  | k + 1, x60, x61, o0, o1 =>
    bif (decide (x61 < x60)) then
      if 0 ≤ x61 ∧ x61 < ((Flow.Needs o0).length : Int) then
      if 0 ≤ x61 ∧ x61 < ((Sched.Start o1).length : Int) then
      bif (decide ((rd (Sched.Start o1) x61) < 0)) then
        some false
      else
      if 0 ≤ x61 ∧ x61 < ((Sched.Start o1).length : Int) then
      bif (decide (4096 < (rd (Sched.Start o1) x61))) then
        some false
      else
      bif (decide ((Need.Res (rd (Flow.Needs o0) x61)) < 0)) then
        if 0 ≤ x61 ∧ x61 < ((Sched.Unit o1).length : Int) then
        bif (!decide ((rd (Sched.Unit o1) x61) = (-1))) then
          some false
        else
        bif (decide (0 ≤ (Need.Res (rd (Flow.Needs o0) x61)))) then
          if 0 ≤ x61 ∧ x61 < ((Sched.Unit o1).length : Int) then
          bif (decide ((rd (Sched.Unit o1) x61) < 0)) then
            some false
          else
          if 0 ≤ x61 ∧ x61 < ((Sched.Unit o1).length : Int) then
          if 0 ≤ (Need.Res (rd (Flow.Needs o0) x61)) ∧ (Need.Res (rd (Flow.Needs o0) x61)) < ((Flow.Res o0).length : Int) then
          bif (decide ((Resource.Count (rd (Flow.Res o0) (Need.Res (rd (Flow.Needs o0) x61)))) ≤ (rd (Sched.Unit o1) x61))) then
            some false
          else
          jacquardref28_Fits.c4 k x60 (w64 (x61 + 1)) o0 o1
          else none
          else none
          else none
        else
        jacquardref28_Fits.c4 k x60 (w64 (x61 + 1)) o0 o1
        else none
      else
      bif (decide (0 ≤ (Need.Res (rd (Flow.Needs o0) x61)))) then
        if 0 ≤ x61 ∧ x61 < ((Sched.Unit o1).length : Int) then
        bif (decide ((rd (Sched.Unit o1) x61) < 0)) then
          some false
        else
        if 0 ≤ x61 ∧ x61 < ((Sched.Unit o1).length : Int) then
        if 0 ≤ (Need.Res (rd (Flow.Needs o0) x61)) ∧ (Need.Res (rd (Flow.Needs o0) x61)) < ((Flow.Res o0).length : Int) then
        bif (decide ((Resource.Count (rd (Flow.Res o0) (Need.Res (rd (Flow.Needs o0) x61)))) ≤ (rd (Sched.Unit o1) x61))) then
          some false
        else
        jacquardref28_Fits.c4 k x60 (w64 (x61 + 1)) o0 o1
        else none
        else none
        else none
      else
      jacquardref28_Fits.c4 k x60 (w64 (x61 + 1)) o0 o1
      else none
      else none
      else none
    else
    jacquardref28_Fits.c11 k ((Sched.Params o1).length : Int) 0 o1
def jacquardref28_Fits.c11 : Nat → Int → Int → Sched → Option (Bool)
  | 0, _, _, _ => none
  | k + 1, x127, x128, o1 =>
    bif (decide (x128 < x127)) then
      if 0 ≤ x128 ∧ x128 < ((Sched.Params o1).length : Int) then
      bif (decide ((rd (Sched.Params o1) x128) < 0)) then
        some false
      else
      if 0 ≤ x128 ∧ x128 < ((Sched.Params o1).length : Int) then
      bif (decide (4096 < (rd (Sched.Params o1) x128))) then
        some false
      else
      jacquardref28_Fits.c11 k x127 (w64 (x128 + 1)) o1
      else none
      else none
    else
    some true
end
def jacquardref28_Fits.f (k : Nat) (a0 : Flow) (a1 : Sched) : Option (Bool) :=
  bif (!decide (((Sched.Start a1).length : Int) = (Flow.Insts a0))) then
    some false
  else
  bif (!decide (((Sched.Unit a1).length : Int) = (Flow.Insts a0))) then
    some false
  else
  bif (!decide (((Sched.Params a1).length : Int) = (Flow.Params a0))) then
    some false
  else
  bif (decide ((Sched.II a1) < 0)) then
    some false
  else
  bif (decide (256 < (Sched.II a1))) then
    some false
  else
  bif (!((decide (0 < (Sched.II a1))) == (Flow.Loop a0))) then
    some false
  else
  bif (decide ((Sched.Depth a1) < 1)) then
    some false
  else
  bif (decide (4096 < (Sched.Depth a1))) then
    some false
  else
  jacquardref28_Fits.c4 k ((Sched.Start a1).length : Int) 0 a0 a1
def jacquardref28_Time.f (a0 : Flow) (a1 : Sched) (a2 : Int) : Option (Int) :=
  bif (decide (a2 < (Flow.Insts a0))) then
    if 0 ≤ a2 ∧ a2 < ((Sched.Start a1).length : Int) then
    some (rd (Sched.Start a1) a2)
    else none
  else
  (jacquardref28_Source.f a0).bind fun y20 =>
  bif (decide (a2 < y20)) then
    if 0 ≤ (w64 (a2 - (Flow.Insts a0))) ∧ (w64 (a2 - (Flow.Insts a0))) < ((Sched.Params a1).length : Int) then
    some (rd (Sched.Params a1) (w64 (a2 - (Flow.Insts a0))))
    else none
  else
  (jacquardref28_Source.f a0).bind fun y33 =>
  bif (decide (a2 = y33)) then
    some 0
  else
  some (Sched.Depth a1)
def jacquardref28_Weight.f (a0 : Arc) (a1 : Int) : Option (Int) :=
  some (w64 ((Arc.Lat a0) - (w64 (a1 * (Arc.Dist a0)))))
mutual
def jacquardref28_Late.c3 : Nat → Int → Int → Flow → Sched → (List Int) → Option ((List Int))
  | 0, _, _, _, _, _ => none
  | k + 1, x10, x11, o0, o1, o3 =>
    bif (decide (x11 < x10)) then
      if 0 ≤ x11 ∧ x11 < ((Flow.Arcs o0).length : Int) then
      (jacquardref28_Time.f o0 o1 (Arc.To (rd (Flow.Arcs o0) x11))).bind fun y23 =>
      (jacquardref28_Time.f o0 o1 (Arc.From (rd (Flow.Arcs o0) x11))).bind fun y28 =>
      (jacquardref28_Weight.f (rd (Flow.Arcs o0) x11) (Sched.II o1)).bind fun y33 =>
      bif (decide ((w64 (y23 - y28)) < y33)) then
        bif Nat.ble (List.length o3 + List.length [x11]) 1073741824 then
        jacquardref28_Late.c3 k x10 (w64 (x11 + 1)) o0 o1 (o3 ++ [x11])
        else none
      else
      jacquardref28_Late.c3 k x10 (w64 (x11 + 1)) o0 o1 o3
      else none
    else
    some o3
end
def jacquardref28_Late.f (k : Nat) (a0 : Flow) (a1 : Sched) : Option ((List Int)) :=
  jacquardref28_Late.c3 k ((Flow.Arcs a0).length : Int) 0 a0 a1 []
mutual
def jacquardref28_Occupies.c6 : Nat → Int → Int → Flow → Option (Bool)
  | 0, _, _, _ => none
  | k + 1, x2, x9, o0 =>
    bif (decide (0 ≤ x9)) then
      if 0 ≤ x2 ∧ x2 < ((Flow.Needs o0).length : Int) then
      some (decide (x9 < (Need.Busy (rd (Flow.Needs o0) x2))))
      else none
    else
    some false
end
def jacquardref28_Occupies.f (k : Nat) (a0 : Flow) (a1 : Sched) (a2 : Int) (a3 : Int) : Option (Bool) :=
  if 0 ≤ a2 ∧ a2 < ((Sched.Start a1).length : Int) then
  bif (decide (0 < (Sched.II a1))) then
    if ¬ (Sched.II a1) = 0 then
    bif (decide ((Int.tmod (w64 (a3 - (rd (Sched.Start a1) a2))) (Sched.II a1)) < 0)) then
      jacquardref28_Occupies.c6 k a2 (w64 ((Int.tmod (w64 (a3 - (rd (Sched.Start a1) a2))) (Sched.II a1)) + (Sched.II a1))) a0
    else
    jacquardref28_Occupies.c6 k a2 (Int.tmod (w64 (a3 - (rd (Sched.Start a1) a2))) (Sched.II a1)) a0
    else none
  else
  jacquardref28_Occupies.c6 k a2 (w64 (a3 - (rd (Sched.Start a1) a2))) a0
  else none
mutual
def jacquardref28_Clash.c9 : Nat → Int → Int → Int → Int → Flow → Sched → Option (Bool)
  | 0, _, _, _, _, _, _ => none
  | k + 1, x2, x3, x9, x10, o0, o1 =>
    jacquardref28_Clash.c10 k x2 x3 x10 x9 o0 o1
def jacquardref28_Clash.c10 : Nat → Int → Int → Int → Int → Flow → Sched → Option (Bool)
  | 0, _, _, _, _, _, _ => none
  | k + 1, x2, x3, x10, x11, o0, o1 =>
    bif (decide (x11 ≤ x10)) then
      (jacquardref28_Occupies.f k o0 o1 x2 x11).bind fun y103 =>
      bif y103 then
        (jacquardref28_Occupies.f k o0 o1 x3 x11).bind fun y109 =>
        bif y109 then
          some true
        else
        jacquardref28_Clash.c10 k x2 x3 x10 (w64 (x11 + 1)) o0 o1
      else
      jacquardref28_Clash.c10 k x2 x3 x10 (w64 (x11 + 1)) o0 o1
    else
    some false
end
def jacquardref28_Clash.f (k : Nat) (a0 : Flow) (a1 : Sched) (a2 : Int) (a3 : Int) : Option (Bool) :=
  if 0 ≤ a2 ∧ a2 < ((Flow.Needs a0).length : Int) then
  bif (decide ((Need.Res (rd (Flow.Needs a0) a2)) < 0)) then
    some false
  else
  if 0 ≤ a2 ∧ a2 < ((Flow.Needs a0).length : Int) then
  if 0 ≤ a3 ∧ a3 < ((Flow.Needs a0).length : Int) then
  bif (!decide ((Need.Res (rd (Flow.Needs a0) a2)) = (Need.Res (rd (Flow.Needs a0) a3)))) then
    some false
  else
  if 0 ≤ a2 ∧ a2 < ((Sched.Unit a1).length : Int) then
  if 0 ≤ a3 ∧ a3 < ((Sched.Unit a1).length : Int) then
  bif (!decide ((rd (Sched.Unit a1) a2) = (rd (Sched.Unit a1) a3))) then
    some false
  else
  bif (decide (a2 = a3)) then
    bif (decide (0 < (Sched.II a1))) then
      if 0 ≤ a2 ∧ a2 < ((Flow.Needs a0).length : Int) then
      some (decide ((Sched.II a1) < (Need.Busy (rd (Flow.Needs a0) a2))))
      else none
    else
    some false
  else
  if 0 ≤ a2 ∧ a2 < ((Sched.Start a1).length : Int) then
  if 0 ≤ a3 ∧ a3 < ((Sched.Start a1).length : Int) then
  if 0 ≤ a2 ∧ a2 < ((Sched.Start a1).length : Int) then
  if 0 ≤ a3 ∧ a3 < ((Sched.Start a1).length : Int) then
  bif (decide (0 < (Sched.II a1))) then
    jacquardref28_Clash.c9 k a2 a3 0 (w64 ((Sched.II a1) - 1)) a0 a1
  else
  jacquardref28_Clash.c9 k a2 a3 (mn (rd (Sched.Start a1) a2) (rd (Sched.Start a1) a3)) (w64 ((mx (rd (Sched.Start a1) a2) (rd (Sched.Start a1) a3)) + 256)) a0 a1
  else none
  else none
  else none
  else none
  else none
  else none
  else none
  else none
  else none
mutual
def jacquardref28_Clashes.c3 : Nat → Int → Int → Flow → Sched → (List Arr2_3) → Option ((List Arr2_3))
  | 0, _, _, _, _, _ => none
  | k + 1, x9, x10, o0, o1, o3 =>
    bif (decide (x10 < x9)) then
      jacquardref28_Clashes.c6 k x10 x10 x9 x10 o0 o1 o3
    else
    some o3
def jacquardref28_Clashes.c6 : Nat → Int → Int → Int → Int → Flow → Sched → (List Arr2_3) → Option ((List Arr2_3))
  | 0, _, _, _, _, _, _, _ => none
  | k + 1, x6, x7, x9, x10, o0, o1, o3 =>
    bif (decide (x7 < (Flow.Insts o0))) then
      (jacquardref28_Clash.f k o0 o1 x6 x7).bind fun y24 =>
      bif y24 then
        bif Nat.ble (List.length o3 + List.length [(x6, x7, ())]) 1073741824 then
        jacquardref28_Clashes.c6 k x6 (w64 (x7 + 1)) x9 x10 o0 o1 (o3 ++ [(x6, x7, ())])
        else none
      else
      jacquardref28_Clashes.c6 k x6 (w64 (x7 + 1)) x9 x10 o0 o1 o3
    else
    jacquardref28_Clashes.c3 k x9 (w64 (x10 + 1)) o0 o1 o3
end
def jacquardref28_Clashes.f (k : Nat) (a0 : Flow) (a1 : Sched) : Option ((List Arr2_3)) :=
  jacquardref28_Clashes.c3 k (Flow.Insts a0) 0 a0 a1 []
mutual
def jacquardref28_Legal.c4 : Nat → Int → Int → Flow → Sched → Option (Bool)
  | 0, _, _, _, _ => none
  | k + 1, x19, x20, o0, o1 =>
    bif (decide (x20 < x19)) then
      bif (!(Flow.Loop o0)) then
        if 0 ≤ x20 ∧ x20 < ((Sched.Params o1).length : Int) then
        bif (!decide ((rd (Sched.Params o1) x20) = 0)) then
          some false
        else
        jacquardref28_Legal.c4 k x19 (w64 (x20 + 1)) o0 o1
        else none
      else
      jacquardref28_Legal.c4 k x19 (w64 (x20 + 1)) o0 o1
    else
    (jacquardref28_Late.f k o0 o1).bind fun y37 =>
    bif (decide ((y37.length : Int) = 0)) then
      (jacquardref28_Clashes.f k o0 o1).bind fun y43 =>
      some (decide ((y43.length : Int) = 0))
    else
    some false
end
def jacquardref28_Legal.f (k : Nat) (a0 : Flow) (a1 : Sched) : Option (Bool) :=
  (jacquardref28_Fits.f k a0 a1).bind fun y8 =>
  bif (!y8) then
    some false
  else
  bif (decide ((Sched.Depth a1) < (Sched.II a1))) then
    some false
  else
  jacquardref28_Legal.c4 k ((Sched.Params a1).length : Int) 0 a0 a1
def jacquardlaw31_BoundsSound.f (k : Nat) (a0 : Flow) (a1 : Sched) (a2 : Bound) : Option (Bool) :=
  (jacquardlaw31_awake.f k ).bind fun y9 =>
  bif (!y9) then
    (jacquardlaw31_awake.f k ).bind fun y51 =>
    some y51
  else
  (jacquardlaw31_few.f k a0).bind fun y13 =>
  bif (!y13) then
    (jacquardlaw31_awake.f k ).bind fun y51 =>
    some y51
  else
  bif (decide (30 < ((Bound.Cycle a2).length : Int))) then
    (jacquardlaw31_awake.f k ).bind fun y51 =>
    some y51
  else
  (jacquardlaw31_loop.f k a0).bind fun y24 =>
  bif (!y24) then
    (jacquardlaw31_awake.f k ).bind fun y51 =>
    some y51
  else
  bif (decide (20 < ((Sched.Start a1).length : Int))) then
    (jacquardlaw31_awake.f k ).bind fun y51 =>
    some y51
  else
  bif (decide (20 < ((Sched.Unit a1).length : Int))) then
    (jacquardlaw31_awake.f k ).bind fun y51 =>
    some y51
  else
  bif (decide (20 < ((Sched.Params a1).length : Int))) then
    (jacquardlaw31_awake.f k ).bind fun y51 =>
    some y51
  else
  (jacquardref28_Legal.f k a0 a1).bind fun y48 =>
  bif (!y48) then
    (jacquardlaw31_awake.f k ).bind fun y51 =>
    some y51
  else
  (bounds_Lower.f k a0).bind fun y54 =>
  bif (decide (y54.2.1 = 0)) then
    bif (decide ((Bound.II y54.1) ≤ (Sched.II a1))) then
      (bounds_Check.f k a0 a2).bind fun y69 =>
      bif (!y69) then
        some true
      else
      some (decide ((Bound.II a2) ≤ (Sched.II a1)))
    else
    some false
  else
  some false
mutual
def slices_Max_int_int.c3 : Nat → (List Int) → Option (Int)
  | 0, _ => none
  | k + 1, x0 =>
    if 0 ≤ (0 : Int) ∧ 0 < (x0.length : Int) then
    slices_Max_int_int.c5 k x0 (rd x0 0) 1
    else none
def slices_Max_int_int.c5 : Nat → (List Int) → Int → Int → Option (Int)
  | 0, _, _, _ => none
  | k + 1, x0, x3, x4 =>
    bif (decide (x4 < (x0.length : Int))) then
      if 0 ≤ x4 ∧ x4 < (x0.length : Int) then
      slices_Max_int_int.c5 k x0 (mx x3 (rd x0 x4)) (w64 (x4 + 1))
      else none
    else
    some x3
end
def slices_Max_int_int.f (k : Nat) (a0 : (List Int)) : Option (Int) :=
  bif (decide ((a0.length : Int) < 1)) then
    none
  else
  slices_Max_int_int.c3 k a0
def bits_Mul64.f (a0 : Int) (a1 : Int) : Option ((Int × Int × Unit)) :=
  some ((IntKind.wrap .u64 ((IntKind.wrap .u64 ((IntKind.wrap .u64 ((shrW .u64 a0 32) * (shrW .u64 a1 32))) + (shrW .u64 (IntKind.wrap .u64 ((IntKind.wrap .u64 ((shrW .u64 a0 32) * (andW .u64 a1 4294967295))) + (shrW .u64 (IntKind.wrap .u64 ((andW .u64 a0 4294967295) * (andW .u64 a1 4294967295))) 32))) 32))) + (shrW .u64 (IntKind.wrap .u64 ((andW .u64 (IntKind.wrap .u64 ((IntKind.wrap .u64 ((shrW .u64 a0 32) * (andW .u64 a1 4294967295))) + (shrW .u64 (IntKind.wrap .u64 ((andW .u64 a0 4294967295) * (andW .u64 a1 4294967295))) 32))) 4294967295) + (IntKind.wrap .u64 ((andW .u64 a0 4294967295) * (shrW .u64 a1 32))))) 32))), (IntKind.wrap .u64 (a0 * a1)), ())
def bits_Mul.f (a0 : Int) (a1 : Int) : Option ((Int × Int × Unit)) :=
  (bits_Mul64.f a0 a1).bind fun y25 =>
  some (y25.1, y25.2.1, ())
mutual
def slices_Repeat_int_int.c3 : Nat → (List Int) → Int → Option ((List Int))
  | 0, _, _ => none
  | k + 1, x0, x1 =>
    (bits_Mul.f (IntKind.wrap .u64 ((x0.length : Int))) (IntKind.wrap .u64 (x1))).bind fun y18 =>
    bif (decide (0 < y18.1)) then
      none
    else
    bif (decide (9223372036854775807 < y18.2.1)) then
      none
    else
    slices_Repeat_int_int.c6 k x0 y18.2.1
def slices_Repeat_int_int.c6 : Nat → (List Int) → Int → Option ((List Int))
  | 0, _, _ => none
  | k + 1, x0, x6 =>
    if 0 ≤ (w64 (x6)) ∧ (w64 (x6)) ≤ (w64 (x6)) ∧ (w64 (x6)) ≤ 1073741824 then
    slices_Repeat_int_int.c8 k ((min (List.length x0) (List.length (List.replicate (w64 (x6)).toNat (0 : Int))) : Nat) : Int) (splice (List.replicate (w64 (x6)).toNat (0 : Int)) 0 (List.length (List.replicate (w64 (x6)).toNat (0 : Int))) x0)
    else none
def slices_Repeat_int_int.c8 : Nat → Int → (List Int) → Option ((List Int))
  | 0, _, _ => none
  | k + 1, x8, o1 =>
    bif (decide (x8 < (o1.length : Int))) then
      if 0 ≤ x8 ∧ x8 ≤ (o1.length : Int) then
      if 0 ≤ x8 ∧ x8 ≤ (o1.length : Int) then
      slices_Repeat_int_int.c8 k (w64 (x8 + ((min (List.length (List.take x8.toNat (List.drop 0 o1))) (o1.length - x8.toNat) : Nat) : Int))) (splice o1 x8.toNat (o1.length - x8.toNat) (List.take x8.toNat (List.drop 0 o1)))
      else none
      else none
    else
    some o1
end
def slices_Repeat_int_int.f (k : Nat) (a0 : (List Int)) (a1 : Int) : Option ((List Int)) :=
  bif (decide (a1 < 0)) then
    none
  else
  slices_Repeat_int_int.c3 k a0 a1
mutual
def slices_Reverse_int_int_i1.c1 : Nat → Int → Int → (List Int) → Option (Unit × (List Int) × Unit)
  | 0, _, _, _ => none
  | k + 1, x2, x3, o0 =>
    bif (decide (x2 < x3)) then
      if 0 ≤ x3 ∧ x3 < (o0.length : Int) then
      if 0 ≤ x2 ∧ x2 < (o0.length : Int) then
      if 0 ≤ x2 ∧ x2 < (o0.length : Int) then
      if 0 ≤ x3 ∧ x3 < ((List.set o0 x2.toNat (rd o0 x3)).length : Int) then
      slices_Reverse_int_int_i1.c1 k (w64 (x2 + 1)) (w64 (x3 - 1)) (List.set (List.set o0 x2.toNat (rd o0 x3)) x3.toNat (rd o0 x2))
      else none
      else none
      else none
      else none
    else
    some ((()), o0, ())
end
def slices_Reverse_int_int_i1.f (k : Nat) (o0 : (List Int)) : Option (Unit × (List Int) × Unit) :=
  slices_Reverse_int_int_i1.c1 k 0 (w64 ((o0.length : Int) - 1)) o0
mutual
def diffcons_Latest.c4 : Nat → Int → Int → (List Int) → (List Arc) → Int → Int → (List Arc) → Option (((List Int) × (List Int) × Unit))
  | 0, _, _, _, _, _, _, _ => none
  | k + 1, x0, x2, x3, x21, x22, x23, o2 =>
    bif (decide (x23 < x22)) then
      if 0 ≤ x23 ∧ x23 < (x21.length : Int) then
      if 0 ≤ x23 ∧ x23 < (o2.length : Int) then
      diffcons_Latest.c4 k x0 x2 x3 x21 x22 (w64 (x23 + 1)) (List.set o2 x23.toNat ((Arc.To (rd x21 x23)), (Arc.From (rd x21 x23)), (Arc.Lat (rd x21 x23)), (Arc.Dist (rd x21 x23)), ()))
      else none
      else none
    else
    if 0 ≤ x0 ∧ x0 ≤ x0 ∧ x0 ≤ 1073741824 then
    diffcons_Latest.c10 k x0 x2 x3 ((List.replicate x0.toNat (0 : Int)).length : Int) 0 o2 (List.replicate x0.toNat (0 : Int))
    else none
def diffcons_Latest.c10 : Nat → Int → Int → (List Int) → Int → Int → (List Arc) → (List Int) → Option (((List Int) × (List Int) × Unit))
  | 0, _, _, _, _, _, _, _ => none
  | k + 1, x0, x2, x3, x44, x45, o2, o4 =>
    bif (decide (x45 < x44)) then
      (diffcons_bound.f x3 x45).bind fun y52 =>
      if 0 ≤ x45 ∧ x45 < (o4.length : Int) then
      diffcons_Latest.c10 k x0 x2 x3 x44 (w64 (x45 + 1)) o2 (List.set o4 x45.toNat (w64 (0 - y52)))
      else none
    else
    (diffcons_After.f k x0 o2 x2 o4).bind fun y61 =>
    bif (Option.isSome y61.2.1) then
      diffcons_Latest.c16 k (y61.1.length : Int) 0 y61.1 (Option.getD y61.2.1 [])
    else
    diffcons_Latest.c16 k (y61.1.length : Int) 0 y61.1 []
def diffcons_Latest.c16 : Nat → Int → Int → (List Int) → (List Int) → Option (((List Int) × (List Int) × Unit))
  | 0, _, _, _, _ => none
  | k + 1, x65, x66, o5, o6 =>
    bif (decide (x66 < x65)) then
      if 0 ≤ x66 ∧ x66 < (o5.length : Int) then
      if 0 ≤ x66 ∧ x66 < (o5.length : Int) then
      diffcons_Latest.c16 k x65 (w64 (x66 + 1)) (List.set o5 x66.toNat (w64 (0 - (rd o5 x66)))) o6
      else none
      else none
    else
    (slices_Reverse_int_int_i1.f k o6).bind fun y79 =>
    some (o5, y79.2.1, ())
end
def diffcons_Latest.f (k : Nat) (a0 : Int) (a1 : (List Arc)) (a2 : Int) (a3 : (List Int)) : Option (((List Int) × (List Int) × Unit)) :=
  (diffcons_nodes.f a0).bind fun y17 =>
  if 0 ≤ (a1.length : Int) ∧ (a1.length : Int) ≤ (a1.length : Int) ∧ (a1.length : Int) ≤ 1073741824 then
  diffcons_Latest.c4 k y17 a2 a3 a1 (a1.length : Int) 0 (List.replicate (a1.length : Int).toNat ((0, 0, 0, 0, ()) : Arc))
  else none
def bounds_Window.f (k : Nat) (a0 : Flow) (a1 : Int) (a2 : Int) : Option (((List Int) × (List Int) × Int × Unit)) :=
  (dataflow_Valid.f k a0).bind fun y13 =>
  bif (!y13) then
    some ([], [], 3, ())
  else
  bif (!(Flow.Loop a0)) then
    bif (!decide (a1 = 0)) then
      some ([], [], 3, ())
    else
    bif (Flow.Loop a0) then
      bif (decide (a1 < 1)) then
        some ([], [], 3, ())
      else
      bif (decide (256 < a1)) then
        some ([], [], 3, ())
      else
      bif (decide (a2 < 0)) then
        some ([], [], 3, ())
      else
      bif (decide (4096 < a2)) then
        some ([], [], 3, ())
      else
      (dataflow_Nodes.f a0).bind fun y45 =>
      (diffcons_Earliest.f k y45 (Flow.Arcs a0) a1).bind fun y51 =>
      bif (Option.isSome y51.2.1) then
        some ([], [], 14, ())
      else
      (slices_Max_int_int.f k y51.1).bind fun y58 =>
      bif (decide (a2 < y58)) then
        some ([], [], 14, ())
      else
      (slices_Repeat_int_int.f k [a2] y45).bind fun y65 =>
      (dataflow_Source.f a0).bind fun y68 =>
      if 0 ≤ y68 ∧ y68 < (y65.length : Int) then
      (diffcons_Latest.f k y45 (Flow.Arcs a0) a1 (List.set y65 y68.toNat 0)).bind fun y76 =>
      some (y51.1, y76.1, 0, ())
      else none
    else
    bif (decide (a2 < 0)) then
      some ([], [], 3, ())
    else
    bif (decide (4096 < a2)) then
      some ([], [], 3, ())
    else
    (dataflow_Nodes.f a0).bind fun y45 =>
    (diffcons_Earliest.f k y45 (Flow.Arcs a0) a1).bind fun y51 =>
    bif (Option.isSome y51.2.1) then
      some ([], [], 14, ())
    else
    (slices_Max_int_int.f k y51.1).bind fun y58 =>
    bif (decide (a2 < y58)) then
      some ([], [], 14, ())
    else
    (slices_Repeat_int_int.f k [a2] y45).bind fun y65 =>
    (dataflow_Source.f a0).bind fun y68 =>
    if 0 ≤ y68 ∧ y68 < (y65.length : Int) then
    (diffcons_Latest.f k y45 (Flow.Arcs a0) a1 (List.set y65 y68.toNat 0)).bind fun y76 =>
    some (y51.1, y76.1, 0, ())
    else none
  else
  bif (Flow.Loop a0) then
    bif (decide (a1 < 1)) then
      some ([], [], 3, ())
    else
    bif (decide (256 < a1)) then
      some ([], [], 3, ())
    else
    bif (decide (a2 < 0)) then
      some ([], [], 3, ())
    else
    bif (decide (4096 < a2)) then
      some ([], [], 3, ())
    else
    (dataflow_Nodes.f a0).bind fun y45 =>
    (diffcons_Earliest.f k y45 (Flow.Arcs a0) a1).bind fun y51 =>
    bif (Option.isSome y51.2.1) then
      some ([], [], 14, ())
    else
    (slices_Max_int_int.f k y51.1).bind fun y58 =>
    bif (decide (a2 < y58)) then
      some ([], [], 14, ())
    else
    (slices_Repeat_int_int.f k [a2] y45).bind fun y65 =>
    (dataflow_Source.f a0).bind fun y68 =>
    if 0 ≤ y68 ∧ y68 < (y65.length : Int) then
    (diffcons_Latest.f k y45 (Flow.Arcs a0) a1 (List.set y65 y68.toNat 0)).bind fun y76 =>
    some (y51.1, y76.1, 0, ())
    else none
  else
  bif (decide (a2 < 0)) then
    some ([], [], 3, ())
  else
  bif (decide (4096 < a2)) then
    some ([], [], 3, ())
  else
  (dataflow_Nodes.f a0).bind fun y45 =>
  (diffcons_Earliest.f k y45 (Flow.Arcs a0) a1).bind fun y51 =>
  bif (Option.isSome y51.2.1) then
    some ([], [], 14, ())
  else
  (slices_Max_int_int.f k y51.1).bind fun y58 =>
  bif (decide (a2 < y58)) then
    some ([], [], 14, ())
  else
  (slices_Repeat_int_int.f k [a2] y45).bind fun y65 =>
  (dataflow_Source.f a0).bind fun y68 =>
  if 0 ≤ y68 ∧ y68 < (y65.length : Int) then
  (diffcons_Latest.f k y45 (Flow.Arcs a0) a1 (List.set y65 y68.toNat 0)).bind fun y76 =>
  some (y51.1, y76.1, 0, ())
  else none
mutual
def jacquardref30_Latest.c6 : Nat → (List Int) → Int → Int → (List (List Int)) → (List Int) → Option (((List Int) × Bool × Unit))
  | 0, _, _, _, _, _ => none
  | k + 1, x3, x26, x27, o1, o2 =>
    bif (decide (x27 < x26)) then
      (jacquardref30_Bound.f x3 x27).bind fun y32 =>
      jacquardref30_Latest.c10 k x3 x27 y32 x26 x27 (o1.length : Int) 0 o1 o2
    else
    some (o2, true, ())
def jacquardref30_Latest.c10 : Nat → (List Int) → Int → Int → Int → Int → Int → Int → (List (List Int)) → (List Int) → Option (((List Int) × Bool × Unit))
  | 0, _, _, _, _, _, _, _, _, _ => none
  | k + 1, x3, x13, x14, x26, x27, x34, x35, o1, o2 =>
    bif (decide (x35 < x34)) then
      if 0 ≤ x13 ∧ x13 < (o1.length : Int) then
      if 0 ≤ x35 ∧ x35 < ((rd o1 x13).length : Int) then
      bif (decide ((-1152921504606846976) < (rd (rd o1 x13) x35))) then
        (jacquardref30_Bound.f x3 x35).bind fun y49 =>
        if 0 ≤ x13 ∧ x13 < (o1.length : Int) then
        if 0 ≤ x35 ∧ x35 < ((rd o1 x13).length : Int) then
        jacquardref30_Latest.c10 k x3 x13 (mn x14 (w64 (y49 - (rd (rd o1 x13) x35)))) x26 x27 x34 (w64 (x35 + 1)) o1 o2
        else none
        else none
      else
      jacquardref30_Latest.c10 k x3 x13 x14 x26 x27 x34 (w64 (x35 + 1)) o1 o2
      else none
      else none
    else
    bif Nat.ble (List.length o2 + List.length [x14]) 1073741824 then
    jacquardref30_Latest.c6 k x3 x26 (w64 (x27 + 1)) o1 (o2 ++ [x14])
    else none
end
def jacquardref30_Latest.f (k : Nat) (a0 : Int) (a1 : (List Arc)) (a2 : Int) (a3 : (List Int)) : Option (((List Int) × Bool × Unit)) :=
  (jacquardref30_Walks.f k a0 a1 a2).bind fun y20 =>
  bif (!y20.2.1) then
    some ([], false, ())
  else
  jacquardref30_Latest.c6 k a3 (y20.1.length : Int) 0 y20.1 []
mutual
def jacquardlaw31_BoundsWindow.c9 : Nat → Int → Int → Int → Int → Bool → Int → Int → Flow → (List Int) → (List Int) → (List Int) → Option (Bool)
  | 0, _, _, _, _, _, _, _, _, _, _, _ => none
  | k + 1, x1, x2, x9, x10, x12, x89, x90, o0, o1, o2, o3 =>
    bif (decide (x90 < x89)) then
      bif x12 then
        if 0 ≤ x90 ∧ x90 < (o3.length : Int) then
        jacquardlaw31_BoundsWindow.c9 k x1 x2 x9 x10 (decide ((rd o3 x90) ≤ x2)) x89 (w64 (x90 + 1)) o0 o1 o2 o3
        else none
      else
      jacquardlaw31_BoundsWindow.c9 k x1 x2 x9 x10 false x89 (w64 (x90 + 1)) o0 o1 o2 o3
    else
    bif (!x12) then
      bif (decide (x9 = 14)) then
        some (decide ((w64 ((o1.length : Int) + (o2.length : Int))) = 0))
      else
      some false
    else
    if 0 ≤ x10 ∧ x10 ≤ x10 ∧ x10 ≤ 1073741824 then
    jacquardlaw31_BoundsWindow.c17 k x1 x2 x9 x10 ((List.replicate x10.toNat (0 : Int)).length : Int) 0 o0 o1 o2 o3 (List.replicate x10.toNat (0 : Int))
    else none
def jacquardlaw31_BoundsWindow.c17 : Nat → Int → Int → Int → Int → Int → Int → Flow → (List Int) → (List Int) → (List Int) → (List Int) → Option (Bool)
  | 0, _, _, _, _, _, _, _, _, _, _, _ => none
  | k + 1, x1, x2, x9, x10, x118, x119, o0, o1, o2, o3, o4 =>
    bif (decide (x119 < x118)) then
      if 0 ≤ x119 ∧ x119 < (o4.length : Int) then
      jacquardlaw31_BoundsWindow.c17 k x1 x2 x9 x10 x118 (w64 (x119 + 1)) o0 o1 o2 o3 (List.set o4 x119.toNat x2)
      else none
    else
    (jacquardref28_Source.f o0).bind fun y129 =>
    if 0 ≤ y129 ∧ y129 < (o4.length : Int) then
    (jacquardref30_Latest.f k x10 (Flow.Arcs o0) x1 (List.set o4 y129.toNat 0)).bind fun y137 =>
    bif (!decide (x9 = 0)) then
      some false
    else
    bif (!decide ((o1.length : Int) = x10)) then
      some false
    else
    bif (!decide ((o2.length : Int) = x10)) then
      some false
    else
    jacquardlaw31_BoundsWindow.c26 k x10 0 o1 o2 o3 y137.1
    else none
def jacquardlaw31_BoundsWindow.c26 : Nat → Int → Int → (List Int) → (List Int) → (List Int) → (List Int) → Option (Bool)
  | 0, _, _, _, _, _, _ => none
  | k + 1, x154, x155, o1, o2, o3, o5 =>
    bif (decide (x155 < x154)) then
      if 0 ≤ x155 ∧ x155 < (o1.length : Int) then
      if 0 ≤ x155 ∧ x155 < (o3.length : Int) then
      bif (!decide ((rd o1 x155) = (rd o3 x155))) then
        some false
      else
      if 0 ≤ x155 ∧ x155 < (o2.length : Int) then
      if 0 ≤ x155 ∧ x155 < (o5.length : Int) then
      bif (!decide ((rd o2 x155) = (rd o5 x155))) then
        some false
      else
      jacquardlaw31_BoundsWindow.c26 k x154 (w64 (x155 + 1)) o1 o2 o3 o5
      else none
      else none
      else none
      else none
    else
    some true
end
def jacquardlaw31_BoundsWindow.f (k : Nat) (a0 : Flow) (a1 : Int) (a2 : Int) : Option (Bool) :=
  (jacquardlaw31_awake.f k ).bind fun y19 =>
  bif (!y19) then
    (jacquardlaw31_awake.f k ).bind fun y26 =>
    some y26
  else
  (jacquardlaw31_few.f k a0).bind fun y23 =>
  bif (!y23) then
    (jacquardlaw31_awake.f k ).bind fun y26 =>
    some y26
  else
  (bounds_Window.f k a0 a1 a2).bind fun y31 =>
  (jacquardref28_Valid.f k a0).bind fun y36 =>
  bif (!y36) then
    bif (decide (y31.2.2.1 = 3)) then
      some (decide ((w64 ((y31.1.length : Int) + (y31.2.1.length : Int))) = 0))
    else
    some false
  else
  bif (Flow.Loop a0) then
    bif (decide (a1 < 1)) then
      bif (decide (y31.2.2.1 = 3)) then
        some (decide ((w64 ((y31.1.length : Int) + (y31.2.1.length : Int))) = 0))
      else
      some false
    else
    bif (decide (256 < a1)) then
      bif (decide (y31.2.2.1 = 3)) then
        some (decide ((w64 ((y31.1.length : Int) + (y31.2.1.length : Int))) = 0))
      else
      some false
    else
    bif (!(Flow.Loop a0)) then
      bif (!decide (a1 = 0)) then
        bif (decide (y31.2.2.1 = 3)) then
          some (decide ((w64 ((y31.1.length : Int) + (y31.2.1.length : Int))) = 0))
        else
        some false
      else
      bif (decide (a2 < 0)) then
        bif (decide (y31.2.2.1 = 3)) then
          some (decide ((w64 ((y31.1.length : Int) + (y31.2.1.length : Int))) = 0))
        else
        some false
      else
      bif (decide (4096 < a2)) then
        bif (decide (y31.2.2.1 = 3)) then
          some (decide ((w64 ((y31.1.length : Int) + (y31.2.1.length : Int))) = 0))
        else
        some false
      else
      (jacquardref28_End.f a0).bind fun y78 =>
      (jacquardref30_After.f k (w64 (y78 + 1)) (Flow.Arcs a0) a1 []).bind fun y85 =>
      jacquardlaw31_BoundsWindow.c9 k a1 a2 y31.2.2.1 (w64 (y78 + 1)) y85.2.1 (y85.1.length : Int) 0 a0 y31.1 y31.2.1 y85.1
    else
    bif (decide (a2 < 0)) then
      bif (decide (y31.2.2.1 = 3)) then
        some (decide ((w64 ((y31.1.length : Int) + (y31.2.1.length : Int))) = 0))
      else
      some false
    else
    bif (decide (4096 < a2)) then
      bif (decide (y31.2.2.1 = 3)) then
        some (decide ((w64 ((y31.1.length : Int) + (y31.2.1.length : Int))) = 0))
      else
      some false
    else
    (jacquardref28_End.f a0).bind fun y78 =>
    (jacquardref30_After.f k (w64 (y78 + 1)) (Flow.Arcs a0) a1 []).bind fun y85 =>
    jacquardlaw31_BoundsWindow.c9 k a1 a2 y31.2.2.1 (w64 (y78 + 1)) y85.2.1 (y85.1.length : Int) 0 a0 y31.1 y31.2.1 y85.1
  else
  bif (!(Flow.Loop a0)) then
    bif (!decide (a1 = 0)) then
      bif (decide (y31.2.2.1 = 3)) then
        some (decide ((w64 ((y31.1.length : Int) + (y31.2.1.length : Int))) = 0))
      else
      some false
    else
    bif (decide (a2 < 0)) then
      bif (decide (y31.2.2.1 = 3)) then
        some (decide ((w64 ((y31.1.length : Int) + (y31.2.1.length : Int))) = 0))
      else
      some false
    else
    bif (decide (4096 < a2)) then
      bif (decide (y31.2.2.1 = 3)) then
        some (decide ((w64 ((y31.1.length : Int) + (y31.2.1.length : Int))) = 0))
      else
      some false
    else
    (jacquardref28_End.f a0).bind fun y78 =>
    (jacquardref30_After.f k (w64 (y78 + 1)) (Flow.Arcs a0) a1 []).bind fun y85 =>
    jacquardlaw31_BoundsWindow.c9 k a1 a2 y31.2.2.1 (w64 (y78 + 1)) y85.2.1 (y85.1.length : Int) 0 a0 y31.1 y31.2.1 y85.1
  else
  bif (decide (a2 < 0)) then
    bif (decide (y31.2.2.1 = 3)) then
      some (decide ((w64 ((y31.1.length : Int) + (y31.2.1.length : Int))) = 0))
    else
    some false
  else
  bif (decide (4096 < a2)) then
    bif (decide (y31.2.2.1 = 3)) then
      some (decide ((w64 ((y31.1.length : Int) + (y31.2.1.length : Int))) = 0))
    else
    some false
  else
  (jacquardref28_End.f a0).bind fun y78 =>
  (jacquardref30_After.f k (w64 (y78 + 1)) (Flow.Arcs a0) a1 []).bind fun y85 =>
  jacquardlaw31_BoundsWindow.c9 k a1 a2 y31.2.2.1 (w64 (y78 + 1)) y85.2.1 (y85.1.length : Int) 0 a0 y31.1 y31.2.1 y85.1
mutual
def jacquardlaw31_BoundsWithin.c8 : Nat → Int → Int → Flow → Sched → (List Int) → (List Int) → Option (Bool)
  | 0, _, _, _, _, _, _ => none
  | k + 1, x77, x78, o0, o1, o2, o3 =>
    bif (decide (x78 < x77)) then
      (jacquardref28_Time.f o0 o1 x78).bind fun y84 =>
      if 0 ≤ x78 ∧ x78 < (o2.length : Int) then
      bif (decide (y84 < (rd o2 x78))) then
        some false
      else
      if 0 ≤ x78 ∧ x78 < (o3.length : Int) then
      bif (decide ((rd o3 x78) < y84)) then
        some false
      else
      jacquardlaw31_BoundsWithin.c8 k x77 (w64 (x78 + 1)) o0 o1 o2 o3
      else none
      else none
    else
    bif (Flow.Loop o0) then
      some true
    else
    (bounds_Depth.f k o0).bind fun y104 =>
    bif (decide (y104.2.1 = 0)) then
      some (decide (y104.1 ≤ (Sched.Depth o1)))
    else
    some false
end
def jacquardlaw31_BoundsWithin.f (k : Nat) (a0 : Flow) (a1 : Sched) : Option (Bool) :=
  (jacquardlaw31_awake.f k ).bind fun y13 =>
  bif (!y13) then
    (jacquardlaw31_awake.f k ).bind fun y49 =>
    some y49
  else
  (jacquardlaw31_few.f k a0).bind fun y17 =>
  bif (!y17) then
    (jacquardlaw31_awake.f k ).bind fun y49 =>
    some y49
  else
  bif (decide (20 < ((Sched.Start a1).length : Int))) then
    (jacquardlaw31_awake.f k ).bind fun y49 =>
    some y49
  else
  bif (decide (20 < ((Sched.Unit a1).length : Int))) then
    (jacquardlaw31_awake.f k ).bind fun y49 =>
    some y49
  else
  bif (decide (20 < ((Sched.Params a1).length : Int))) then
    (jacquardlaw31_awake.f k ).bind fun y49 =>
    some y49
  else
  (jacquardref28_Valid.f k a0).bind fun y40 =>
  bif (!y40) then
    (jacquardlaw31_awake.f k ).bind fun y49 =>
    some y49
  else
  (jacquardref28_Legal.f k a0 a1).bind fun y46 =>
  bif (!y46) then
    (jacquardlaw31_awake.f k ).bind fun y49 =>
    some y49
  else
  (bounds_Window.f k a0 (Sched.II a1) (Sched.Depth a1)).bind fun y56 =>
  (jacquardref28_End.f a0).bind fun y61 =>
  bif (!decide (y56.2.2.1 = 0)) then
    some false
  else
  bif (!decide ((y56.1.length : Int) = (w64 (y61 + 1)))) then
    some false
  else
  bif (!decide ((y56.2.1.length : Int) = (w64 (y61 + 1)))) then
    some false
  else
  jacquardlaw31_BoundsWithin.c8 k (w64 (y61 + 1)) 0 a0 a1 y56.1 y56.2.1
end Go.Proofs.YtehpelomfhaleaaV
