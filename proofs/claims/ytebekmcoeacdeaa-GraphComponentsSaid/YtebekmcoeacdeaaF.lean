/- The functions, as plain functions: printed. -/
import Derived.Test.YtebekmcoeacdeaaVs
import Derived.Test.YtebekmcoeacdeaaVm7
import Derived.Test.YtebekmcoeacdeaaVm8
import Derived.Test.YtebekmcoeacdeaaPre02
set_option linter.unusedVariables false
set_option linter.unusedSimpArgs false
namespace Go.Proofs.YtebekmcoeacdeaaV
open Go Go.Vm
def compact44.f (x : List Int) : Option (List Int × Unit) := bif Nat.ble (List.length x) 1073741824 then some (compactI x, ()) else none
def cmp_isNaN_int.f (a0 : Int) : Option (Bool) :=
  some (!decide (a0 = a0))
def cmp_Compare_int.f (a0 : Int) (a1 : Int) : Option (Int) :=
  (cmp_isNaN_int.f a0).bind fun y8 =>
  (cmp_isNaN_int.f a1).bind fun y10 =>
  bif y8 then
    bif y10 then
      some 0
    else
    some (-1)
  else
  bif y10 then
    some 1
  else
  bif (decide (a0 < a1)) then
    some (-1)
  else
  bif (decide (a1 < a0)) then
    some 1
  else
  some 0
mutual
def cmp_Or_int.c3 : Nat → Int → (List Int) → Int → Int → Option (Int)
  | 0, _, _, _, _ => none
  | k + 1, x3, x6, x7, x8 =>
    bif (decide (x8 < x7)) then
      if 0 ≤ x8 ∧ x8 < (x6.length : Int) then
      bif (!decide ((rd x6 x8) = x3)) then
        some (rd x6 x8)
      else
      cmp_Or_int.c3 k x3 x6 x7 (w64 (x8 + 1))
      else none
    else
    some x3
end
def cmp_Or_int.f (k : Nat) (a0 : (List Int)) : Option (Int) :=
  cmp_Or_int.c3 k 0 a0 (a0.length : Int) 0
def graph_Turn_1.f (k : Nat) (a0 : Link) (a1 : Link) : Option (Int) :=
  (cmp_Compare_int.f (Link.From a0) (Link.From a1)).bind fun y9 =>
  (cmp_Compare_int.f (Link.To a0) (Link.To a1)).bind fun y14 =>
  (cmp_Or_int.f k [y9, y14]).bind fun y16 =>
  some y16
def graph_size.f (a0 : Graph) : Option (Int) :=
  some (mn (mx (Graph.N a0) 0) 20000)
mutual
def graph_Next.c4 : Nat → Int → (List Link) → Int → Int → (List (List Int)) → Option ((List (List Int)))
  | 0, _, _, _, _, _ => none
  | k + 1, x3, x13, x14, x15, o2 =>
    bif (decide (x15 < x14)) then
      if 0 ≤ x15 ∧ x15 < (x13.length : Int) then
      bif (decide (0 ≤ (Link.From (rd x13 x15)))) then
        bif (decide ((Link.From (rd x13 x15)) < x3)) then
          bif (decide (0 ≤ (Link.To (rd x13 x15)))) then
            bif (decide ((Link.To (rd x13 x15)) < x3)) then
              if 0 ≤ (Link.From (rd x13 x15)) ∧ (Link.From (rd x13 x15)) < (o2.length : Int) then
              bif Nat.ble (List.length (rd o2 (Link.From (rd x13 x15))) + List.length [(Link.To (rd x13 x15))]) 1073741824 then
              if 0 ≤ (Link.From (rd x13 x15)) ∧ (Link.From (rd x13 x15)) < (o2.length : Int) then
              if (Link.From (rd x13 x15)).toNat = (Link.From (rd x13 x15)).toNat then
              graph_Next.c4 k x3 x13 x14 (w64 (x15 + 1)) (List.set o2 (Link.From (rd x13 x15)).toNat ((rd o2 (Link.From (rd x13 x15))) ++ [(Link.To (rd x13 x15))]))
              else none
              else none
              else none
              else none
            else
            graph_Next.c4 k x3 x13 x14 (w64 (x15 + 1)) o2
          else
          graph_Next.c4 k x3 x13 x14 (w64 (x15 + 1)) o2
        else
        graph_Next.c4 k x3 x13 x14 (w64 (x15 + 1)) o2
      else
      graph_Next.c4 k x3 x13 x14 (w64 (x15 + 1)) o2
      else none
    else
    graph_Next.c10 k (o2.length : Int) 0 o2
def graph_Next.c10 : Nat → Int → Int → (List (List Int)) → Option ((List (List Int)))
  | 0, _, _, _ => none
  | k + 1, x54, x55, o2 =>
    bif (decide (x55 < x54)) then
      if 0 ≤ x55 ∧ x55 < (o2.length : Int) then
      bif Nat.ble (List.length (rd o2 x55)) 1073741824 then
      if 0 ≤ x55 ∧ x55 < ((List.set o2 x55.toNat (sortI (rd o2 x55))).length : Int) then
      (compact44.f (rd (List.set o2 x55.toNat (sortI (rd o2 x55))) x55)).bind fun y69 =>
      if 0 ≤ x55 ∧ x55 < ((List.set o2 x55.toNat (sortI (rd o2 x55))).length : Int) then
      if x55.toNat = x55.toNat then
      graph_Next.c10 k x54 (w64 (x55 + 1)) (List.set (List.set o2 x55.toNat (sortI (rd o2 x55))) x55.toNat y69.1)
      else none
      else none
      else none
      else none
      else none
    else
    some o2
end
def graph_Next.f (k : Nat) (a0 : Graph) : Option ((List (List Int))) :=
  (graph_size.f a0).bind fun y9 =>
  if 0 ≤ y9 ∧ y9 ≤ y9 ∧ y9 ≤ 1073741824 then
  graph_Next.c4 k y9 (Graph.Links a0) ((Graph.Links a0).length : Int) 0 (List.replicate y9.toNat ([] : (List Int)))
  else none
mutual
def graph_heap_push_i3.c3 : Nat → Int → (List Int) → Option (Unit × Unit × (List Int) × Unit)
  | 0, _, _ => none
  | k + 1, x5, o3 =>
    bif (decide (0 < x5)) then
      if 0 ≤ (w64 (Int.tdiv (w64 (x5 - 1)) 2)) ∧ (w64 (Int.tdiv (w64 (x5 - 1)) 2)) < (o3.length : Int) then
      if 0 ≤ x5 ∧ x5 < (o3.length : Int) then
      bif (decide ((rd o3 x5) < (rd o3 (w64 (Int.tdiv (w64 (x5 - 1)) 2))))) then
        if 0 ≤ (w64 (Int.tdiv (w64 (x5 - 1)) 2)) ∧ (w64 (Int.tdiv (w64 (x5 - 1)) 2)) < (o3.length : Int) then
        if 0 ≤ x5 ∧ x5 < (o3.length : Int) then
        if 0 ≤ x5 ∧ x5 < (o3.length : Int) then
        if 0 ≤ (w64 (Int.tdiv (w64 (x5 - 1)) 2)) ∧ (w64 (Int.tdiv (w64 (x5 - 1)) 2)) < ((List.set o3 x5.toNat (rd o3 (w64 (Int.tdiv (w64 (x5 - 1)) 2)))).length : Int) then
        graph_heap_push_i3.c3 k (w64 (Int.tdiv (w64 (x5 - 1)) 2)) (List.set (List.set o3 x5.toNat (rd o3 (w64 (Int.tdiv (w64 (x5 - 1)) 2)))) (w64 (Int.tdiv (w64 (x5 - 1)) 2)).toNat (rd o3 x5))
        else none
        else none
        else none
        else none
      else
      some ((()), (), o3, ())
      else none
      else none
    else
    some ((()), (), o3, ())
end
def graph_heap_push_i3.f (k : Nat) (x1 : Int) (o1 : (List Int)) : Option (Unit × Unit × (List Int) × Unit) :=
  bif Nat.ble (List.length o1 + List.length [x1]) 1073741824 then
  graph_heap_push_i3.c3 k (w64 (((o1 ++ [x1]).length : Int) - 1)) (o1 ++ [x1])
  else none
mutual
def graph_heap_pop_i2.c7 : Nat → Int → Int → Int → (List Int) → Option (Int × Unit × (List Int) × Unit)
  | 0, _, _, _, _ => none
  | k + 1, x4, x5, x6, o2 =>
    bif (decide ((w64 ((w64 ((w64 (2 * x6)) + 1)) + 1)) < x5)) then
      if 0 ≤ (w64 ((w64 ((w64 (2 * x6)) + 1)) + 1)) ∧ (w64 ((w64 ((w64 (2 * x6)) + 1)) + 1)) < (o2.length : Int) then
      if 0 ≤ (w64 ((w64 (2 * x6)) + 1)) ∧ (w64 ((w64 (2 * x6)) + 1)) < (o2.length : Int) then
      bif (decide ((rd o2 (w64 ((w64 ((w64 (2 * x6)) + 1)) + 1))) < (rd o2 (w64 ((w64 (2 * x6)) + 1))))) then
        graph_heap_pop_i2.c10 k x4 x5 x6 (w64 ((w64 ((w64 (2 * x6)) + 1)) + 1)) o2
      else
      graph_heap_pop_i2.c10 k x4 x5 x6 (w64 ((w64 (2 * x6)) + 1)) o2
      else none
      else none
    else
    graph_heap_pop_i2.c10 k x4 x5 x6 (w64 ((w64 (2 * x6)) + 1)) o2
def graph_heap_pop_i2.c10 : Nat → Int → Int → Int → Int → (List Int) → Option (Int × Unit × (List Int) × Unit)
  | 0, _, _, _, _, _ => none
  | k + 1, x4, x5, x6, x7, o2 =>
    bif (decide (x5 ≤ x7)) then
      some (x4, (), o2, ())
    else
    if 0 ≤ x6 ∧ x6 < (o2.length : Int) then
    if 0 ≤ x7 ∧ x7 < (o2.length : Int) then
    bif (decide ((rd o2 x6) ≤ (rd o2 x7))) then
      some (x4, (), o2, ())
    else
    if 0 ≤ x7 ∧ x7 < (o2.length : Int) then
    if 0 ≤ x6 ∧ x6 < (o2.length : Int) then
    if 0 ≤ x6 ∧ x6 < (o2.length : Int) then
    if 0 ≤ x7 ∧ x7 < ((List.set o2 x6.toNat (rd o2 x7)).length : Int) then
    graph_heap_pop_i2.c7 k x4 x5 x7 (List.set (List.set o2 x6.toNat (rd o2 x7)) x7.toNat (rd o2 x6))
    else none
    else none
    else none
    else none
    else none
    else none
end
def graph_heap_pop_i2.f (k : Nat) (o1 : (List Int)) : Option (Int × Unit × (List Int) × Unit) :=
  if 0 ≤ (0 : Int) ∧ 0 < (o1.length : Int) then
  if 0 ≤ (w64 ((o1.length : Int) - 1)) ∧ (w64 ((o1.length : Int) - 1)) < (o1.length : Int) then
  if 0 ≤ (0 : Int) ∧ 0 < (o1.length : Int) then
  if 0 ≤ (w64 ((o1.length : Int) - 1)) ∧ (w64 ((o1.length : Int) - 1)) ≤ ((List.set o1 (0 : Int).toNat (rd o1 (w64 ((o1.length : Int) - 1)))).length : Int) then
  graph_heap_pop_i2.c7 k (rd o1 0) (w64 ((o1.length : Int) - 1)) 0 (List.take (w64 ((o1.length : Int) - 1)).toNat (List.set o1 (0 : Int).toNat (rd o1 (w64 ((o1.length : Int) - 1)))))
  else none
  else none
  else none
  else none
mutual
def graph_Topo.c4 : Nat → (List (List Int)) → (List (List Int)) → Int → Int → (List Int) → Option (((List Int) × Bool × Unit))
  | 0, _, _, _, _, _ => none
  | k + 1, x4, x22, x23, x24, o3 =>
    bif (decide (x24 < x23)) then
      if 0 ≤ x24 ∧ x24 < (x22.length : Int) then
      graph_Topo.c7 k x4 x22 x23 x24 (rd x22 x24) ((rd x22 x24).length : Int) 0 o3
      else none
    else
    graph_Topo.c14 k x4 (o3.length : Int) 0 o3 []
def graph_Topo.c7 : Nat → (List (List Int)) → (List (List Int)) → Int → Int → (List Int) → Int → Int → (List Int) → Option (((List Int) × Bool × Unit))
  | 0, _, _, _, _, _, _, _, _ => none
  | k + 1, x4, x22, x23, x24, x28, x29, x30, o3 =>
    bif (decide (x30 < x29)) then
      if 0 ≤ x30 ∧ x30 < (x28.length : Int) then
      if 0 ≤ (rd x28 x30) ∧ (rd x28 x30) < (o3.length : Int) then
      if 0 ≤ (rd x28 x30) ∧ (rd x28 x30) < (o3.length : Int) then
      graph_Topo.c7 k x4 x22 x23 x24 x28 x29 (w64 (x30 + 1)) (List.set o3 (rd x28 x30).toNat (w64 ((rd o3 (rd x28 x30)) + 1)))
      else none
      else none
      else none
    else
    graph_Topo.c4 k x4 x22 x23 (w64 (x24 + 1)) o3
def graph_Topo.c14 : Nat → (List (List Int)) → Int → Int → (List Int) → (List Int) → Option (((List Int) × Bool × Unit))
  | 0, _, _, _, _, _ => none
  | k + 1, x4, x43, x44, o3, o14 =>
    bif (decide (x44 < x43)) then
      if 0 ≤ x44 ∧ x44 < (o3.length : Int) then
      bif (decide ((rd o3 x44) = 0)) then
        (graph_heap_push_i3.f k x44 o14).bind fun y52 =>
        graph_Topo.c14 k x4 x43 (w64 (x44 + 1)) o3 y52.2.2.1
      else
      graph_Topo.c14 k x4 x43 (w64 (x44 + 1)) o3 o14
      else none
    else
    graph_Topo.c20 k x4 o3 [] o14
def graph_Topo.c20 : Nat → (List (List Int)) → (List Int) → (List Int) → (List Int) → Option (((List Int) × Bool × Unit))
  | 0, _, _, _, _ => none
  | k + 1, x4, o3, o7, o14 =>
    bif (decide (0 < (o14.length : Int))) then
      (graph_heap_pop_i2.f k o14).bind fun y57 =>
      bif Nat.ble (List.length o7 + List.length [y57.1]) 1073741824 then
      if 0 ≤ y57.1 ∧ y57.1 < (x4.length : Int) then
      graph_Topo.c24 k x4 (rd x4 y57.1) ((rd x4 y57.1).length : Int) 0 o3 (o7 ++ [y57.1]) y57.2.2.1
      else none
      else none
    else
    bif (!decide ((o7.length : Int) = (x4.length : Int))) then
      some ([], false, ())
    else
    some (o7, true, ())
def graph_Topo.c24 : Nat → (List (List Int)) → (List Int) → Int → Int → (List Int) → (List Int) → (List Int) → Option (((List Int) × Bool × Unit))
  | 0, _, _, _, _, _, _, _ => none
  | k + 1, x4, x65, x66, x67, o3, o11, o8 =>
    bif (decide (x67 < x66)) then
      if 0 ≤ x67 ∧ x67 < (x65.length : Int) then
      if 0 ≤ (rd x65 x67) ∧ (rd x65 x67) < (o3.length : Int) then
      if 0 ≤ (rd x65 x67) ∧ (rd x65 x67) < (o3.length : Int) then
      if 0 ≤ (rd x65 x67) ∧ (rd x65 x67) < ((List.set o3 (rd x65 x67).toNat (w64 ((rd o3 (rd x65 x67)) - 1))).length : Int) then
      bif (decide ((rd (List.set o3 (rd x65 x67).toNat (w64 ((rd o3 (rd x65 x67)) - 1))) (rd x65 x67)) = 0)) then
        (graph_heap_push_i3.f k (rd x65 x67) o8).bind fun y83 =>
        graph_Topo.c24 k x4 x65 x66 (w64 (x67 + 1)) (List.set o3 (rd x65 x67).toNat (w64 ((rd o3 (rd x65 x67)) - 1))) o11 y83.2.2.1
      else
      graph_Topo.c24 k x4 x65 x66 (w64 (x67 + 1)) (List.set o3 (rd x65 x67).toNat (w64 ((rd o3 (rd x65 x67)) - 1))) o11 o8
      else none
      else none
      else none
      else none
    else
    graph_Topo.c20 k x4 o3 o11 o8
end
def graph_Topo.f (k : Nat) (a0 : Graph) : Option (((List Int) × Bool × Unit)) :=
  (graph_Next.f k a0).bind fun y18 =>
  if 0 ≤ (y18.length : Int) ∧ (y18.length : Int) ≤ (y18.length : Int) ∧ (y18.length : Int) ≤ 1073741824 then
  graph_Topo.c4 k y18 y18 (y18.length : Int) 0 (List.replicate (y18.length : Int).toNat (0 : Int))
  else none
def jacquardlaw02_awake.f (k : Nat) : Option (Bool) :=
  (graph_Topo.f k (2, [(1, 0, ())], ())).bind fun y7 =>
  bif y7.2.1 then
    bif (decide ((y7.1.length : Int) = 2)) then
      if 0 ≤ (0 : Int) ∧ 0 < (y7.1.length : Int) then
      some (decide ((rd y7.1 0) = 1))
      else none
    else
    some false
  else
  some false
def jacquardref02_Nodes.f (a0 : Graph) : Option (Int) :=
  some (mn (mx (Graph.N a0) 0) 20000)
def jacquardref02_Few.f (a0 : Graph) (a1 : Int) (a2 : Int) : Option (Bool) :=
  (jacquardref02_Nodes.f a0).bind fun y8 =>
  bif (decide (y8 ≤ a1)) then
    some (decide (((Graph.Links a0).length : Int) ≤ a2))
  else
  some false
def jacquardlaw02_few.f (a0 : Graph) : Option (Bool) :=
  (jacquardref02_Few.f a0 24 100).bind fun y4 =>
  some y4
mutual
def jacquardref02_Matrix.c4 : Nat → Int → Int → Int → Graph → (List (List Bool)) → Option ((List (List Bool)))
  | 0, _, _, _, _, _ => none
  | k + 1, x3, x10, x11, o0, o2 =>
    bif (decide (x11 < x10)) then
      if 0 ≤ x3 ∧ x3 ≤ x3 ∧ x3 ≤ 1073741824 then
      bif Nat.ble (List.length o2 + List.length [(List.replicate x3.toNat (false : Bool))]) 1073741824 then
      jacquardref02_Matrix.c4 k x3 x10 (w64 (x11 + 1)) o0 (o2 ++ [(List.replicate x3.toNat (false : Bool))])
      else none
      else none
    else
    jacquardref02_Matrix.c8 k x3 ((Graph.Links o0).length : Int) 0 o0 o2
def jacquardref02_Matrix.c8 : Nat → Int → Int → Int → Graph → (List (List Bool)) → Option ((List (List Bool)))
  | 0, _, _, _, _, _ => none
  | k + 1, x3, x21, x22, o0, o2 =>
    bif (decide (x22 < x21)) then
      if 0 ≤ x22 ∧ x22 < ((Graph.Links o0).length : Int) then
      if 0 ≤ x22 ∧ x22 < ((Graph.Links o0).length : Int) then
      bif (decide (0 ≤ (Link.From (rd (Graph.Links o0) x22)))) then
        bif (decide ((Link.From (rd (Graph.Links o0) x22)) < x3)) then
          bif (decide (0 ≤ (Link.To (rd (Graph.Links o0) x22)))) then
            bif (decide ((Link.To (rd (Graph.Links o0) x22)) < x3)) then
              if 0 ≤ (Link.From (rd (Graph.Links o0) x22)) ∧ (Link.From (rd (Graph.Links o0) x22)) < (o2.length : Int) then
              if 0 ≤ (Link.To (rd (Graph.Links o0) x22)) ∧ (Link.To (rd (Graph.Links o0) x22)) < ((rd o2 (Link.From (rd (Graph.Links o0) x22))).length : Int) then
              jacquardref02_Matrix.c8 k x3 x21 (w64 (x22 + 1)) o0 (List.set o2 (Link.From (rd (Graph.Links o0) x22)).toNat (List.set (rd o2 (Link.From (rd (Graph.Links o0) x22))) (Link.To (rd (Graph.Links o0) x22)).toNat true))
              else none
              else none
            else
            jacquardref02_Matrix.c8 k x3 x21 (w64 (x22 + 1)) o0 o2
          else
          jacquardref02_Matrix.c8 k x3 x21 (w64 (x22 + 1)) o0 o2
        else
        jacquardref02_Matrix.c8 k x3 x21 (w64 (x22 + 1)) o0 o2
      else
      jacquardref02_Matrix.c8 k x3 x21 (w64 (x22 + 1)) o0 o2
      else none
      else none
    else
    some o2
end
def jacquardref02_Matrix.f (k : Nat) (a0 : Graph) : Option ((List (List Bool))) :=
  (jacquardref02_Nodes.f a0).bind fun y9 =>
  jacquardref02_Matrix.c4 k y9 y9 0 a0 []
mutual
def jacquardref02_Topo.c5 : Nat → Int → Int → (List (List Bool)) → (List Bool) → (List Int) → Option (((List Int) × Bool × Unit))
  | 0, _, _, _, _, _ => none
  | k + 1, x17, x18, o2, o3, o4 =>
    bif (decide (x18 < x17)) then
      jacquardref02_Topo.c8 k (-1) (w64 ((o2.length : Int) - 1)) x17 x18 o2 o3 o4
    else
    some (o4, true, ())
def jacquardref02_Topo.c8 : Nat → Int → Int → Int → Int → (List (List Bool)) → (List Bool) → (List Int) → Option (((List Int) × Bool × Unit))
  | 0, _, _, _, _, _, _, _ => none
  | k + 1, x7, x8, x17, x18, o2, o3, o4 =>
    bif (decide (0 ≤ x8)) then
      if 0 ≤ x8 ∧ x8 < (o3.length : Int) then
      jacquardref02_Topo.c12 k x7 x8 (!(rd o3 x8)) x17 x18 (o2.length : Int) 0 o2 o3 o4
      else none
    else
    bif (decide (x7 < 0)) then
      some ([], false, ())
    else
    if 0 ≤ x7 ∧ x7 < (o3.length : Int) then
    bif Nat.ble (List.length o4 + List.length [x7]) 1073741824 then
    jacquardref02_Topo.c5 k x17 (w64 (x18 + 1)) o2 (List.set o3 x7.toNat true) (o4 ++ [x7])
    else none
    else none
def jacquardref02_Topo.c12 : Nat → Int → Int → Bool → Int → Int → Int → Int → (List (List Bool)) → (List Bool) → (List Int) → Option (((List Int) × Bool × Unit))
  | 0, _, _, _, _, _, _, _, _, _, _ => none
  | k + 1, x7, x8, x9, x17, x18, x33, x34, o2, o3, o4 =>
    bif (decide (x34 < x33)) then
      if 0 ≤ x34 ∧ x34 < (o2.length : Int) then
      if 0 ≤ x8 ∧ x8 < ((rd o2 x34).length : Int) then
      bif (rd (rd o2 x34) x8) then
        if 0 ≤ x34 ∧ x34 < (o3.length : Int) then
        bif (!(rd o3 x34)) then
          jacquardref02_Topo.c12 k x7 x8 false x17 x18 x33 (w64 (x34 + 1)) o2 o3 o4
        else
        jacquardref02_Topo.c12 k x7 x8 x9 x17 x18 x33 (w64 (x34 + 1)) o2 o3 o4
        else none
      else
      jacquardref02_Topo.c12 k x7 x8 x9 x17 x18 x33 (w64 (x34 + 1)) o2 o3 o4
      else none
      else none
    else
    bif x9 then
      jacquardref02_Topo.c8 k x8 (w64 (x8 - 1)) x17 x18 o2 o3 o4
    else
    jacquardref02_Topo.c8 k x7 (w64 (x8 - 1)) x17 x18 o2 o3 o4
end
def jacquardref02_Topo.f (k : Nat) (a0 : Graph) : Option (((List Int) × Bool × Unit)) :=
  (jacquardref02_Matrix.f k a0).bind fun y12 =>
  if 0 ≤ (y12.length : Int) ∧ (y12.length : Int) ≤ (y12.length : Int) ∧ (y12.length : Int) ≤ 1073741824 then
  jacquardref02_Topo.c5 k (y12.length : Int) 0 y12 (List.replicate (y12.length : Int).toNat (false : Bool)) []
  else none
mutual
def jacquardlaw02_same.c4 : Nat → (List Int) → (List Int) → Int → Int → Option (Bool)
  | 0, _, _, _, _ => none
  | k + 1, x0, x1, x12, x13 =>
    bif (decide (x13 < x12)) then
      if 0 ≤ x13 ∧ x13 < (x0.length : Int) then
      if 0 ≤ x13 ∧ x13 < (x1.length : Int) then
      bif (!decide ((rd x0 x13) = (rd x1 x13))) then
        some false
      else
      jacquardlaw02_same.c4 k x0 x1 x12 (w64 (x13 + 1))
      else none
      else none
    else
    some true
end
def jacquardlaw02_same.f (k : Nat) (a0 : (List Int)) (a1 : (List Int)) : Option (Bool) :=
  bif (!decide ((a0.length : Int) = (a1.length : Int))) then
    some false
  else
  jacquardlaw02_same.c4 k a0 a1 (a0.length : Int) 0
def jacquardlaw02_GraphTopo.f (k : Nat) (a0 : Graph) : Option (Bool) :=
  (jacquardlaw02_awake.f k ).bind fun y7 =>
  bif (!y7) then
    (jacquardlaw02_awake.f k ).bind fun y14 =>
    some y14
  else
  (jacquardlaw02_few.f a0).bind fun y11 =>
  bif (!y11) then
    (jacquardlaw02_awake.f k ).bind fun y14 =>
    some y14
  else
  (graph_Topo.f k a0).bind fun y17 =>
  (jacquardref02_Topo.f k a0).bind fun y22 =>
  bif (y17.2.1 == y22.2.1) then
    (jacquardlaw02_same.f k y17.1 y22.1).bind fun y31 =>
    some y31
  else
  some false
mutual
def graph_reach.c7 : Nat → (List (List Int)) → Int → Int → (List Bool) → (List Int) → Option ((List Bool))
  | 0, _, _, _, _, _ => none
  | k + 1, x0, x2, x9, o1, o2 =>
    bif (decide (x9 < (o2.length : Int))) then
      if 0 ≤ x9 ∧ x9 < (o2.length : Int) then
      if 0 ≤ (rd o2 x9) ∧ (rd o2 x9) < (x0.length : Int) then
      graph_reach.c10 k x0 x2 x9 (rd x0 (rd o2 x9)) ((rd x0 (rd o2 x9)).length : Int) 0 o1 o2
      else none
      else none
    else
    some o1
def graph_reach.c10 : Nat → (List (List Int)) → Int → Int → (List Int) → Int → Int → (List Bool) → (List Int) → Option ((List Bool))
  | 0, _, _, _, _, _, _, _, _ => none
  | k + 1, x0, x2, x9, x46, x47, x48, o1, o2 =>
    bif (decide (x48 < x47)) then
      if 0 ≤ x48 ∧ x48 < (x46.length : Int) then
      if 0 ≤ (rd x46 x48) ∧ (rd x46 x48) < (o1.length : Int) then
      bif (!(rd o1 (rd x46 x48))) then
        bif (!decide ((rd x46 x48) = x2)) then
          if 0 ≤ (rd x46 x48) ∧ (rd x46 x48) < (o1.length : Int) then
          bif Nat.ble (List.length o2 + List.length [(rd x46 x48)]) 1073741824 then
          graph_reach.c10 k x0 x2 x9 x46 x47 (w64 (x48 + 1)) (List.set o1 (rd x46 x48).toNat true) (o2 ++ [(rd x46 x48)])
          else none
          else none
        else
        graph_reach.c10 k x0 x2 x9 x46 x47 (w64 (x48 + 1)) o1 o2
      else
      graph_reach.c10 k x0 x2 x9 x46 x47 (w64 (x48 + 1)) o1 o2
      else none
      else none
    else
    graph_reach.c7 k x0 x2 (w64 (x9 + 1)) o1 o2
end
def graph_reach.f (k : Nat) (a0 : (List (List Int))) (a1 : Int) (a2 : Int) : Option ((List Bool)) :=
  if 0 ≤ (a0.length : Int) ∧ (a0.length : Int) ≤ (a0.length : Int) ∧ (a0.length : Int) ≤ 1073741824 then
  bif (decide (a1 < 0)) then
    some (List.replicate (a0.length : Int).toNat (false : Bool))
  else
  bif (decide ((a0.length : Int) ≤ a1)) then
    some (List.replicate (a0.length : Int).toNat (false : Bool))
  else
  bif (decide (a1 = a2)) then
    some (List.replicate (a0.length : Int).toNat (false : Bool))
  else
  if 0 ≤ a1 ∧ a1 < ((List.replicate (a0.length : Int).toNat (false : Bool)).length : Int) then
  graph_reach.c7 k a0 a2 0 (List.set (List.replicate (a0.length : Int).toNat (false : Bool)) a1.toNat true) [a1]
  else none
  else none
def graph_Reach.f (k : Nat) (a0 : Graph) (a1 : Int) : Option ((List Bool)) :=
  (graph_Next.f k a0).bind fun y6 =>
  (graph_reach.f k y6 a1 (-1)).bind fun y8 =>
  some y8
mutual
def jacquardref02_Closure.c3 : Nat → (List (List Bool)) → Int → Int → Int → (List (List Bool)) → Option ((List (List Bool)))
  | 0, _, _, _, _, _ => none
  | k + 1, x0, x1, x12, x13, o1 =>
    bif (decide (x13 < x12)) then
      if 0 ≤ x13 ∧ x13 < (x0.length : Int) then
      bif Nat.ble (List.length ([] : List Bool) + List.length (rd x0 x13)) 1073741824 then
      bif Nat.ble (List.length o1 + List.length ([(([] : List Bool) ++ (rd x0 x13))] : List (List Bool))) 1073741824 then
      jacquardref02_Closure.c7 k x0 x1 x13 x12 x13 (x0.length : Int) 0 (o1 ++ ([(([] : List Bool) ++ (rd x0 x13))] : List (List Bool)))
      else none
      else none
      else none
    else
    jacquardref02_Closure.c14 k (o1.length : Int) 0 o1
def jacquardref02_Closure.c7 : Nat → (List (List Bool)) → Int → Int → Int → Int → Int → Int → (List (List Bool)) → Option ((List (List Bool)))
  | 0, _, _, _, _, _, _, _, _ => none
  | k + 1, x0, x1, x6, x12, x13, x26, x27, o5 =>
    bif (decide (x27 < x26)) then
      bif (decide (x6 = x1)) then
        if 0 ≤ x6 ∧ x6 < (o5.length : Int) then
        if 0 ≤ x27 ∧ x27 < ((rd o5 x6).length : Int) then
        jacquardref02_Closure.c7 k x0 x1 x6 x12 x13 x26 (w64 (x27 + 1)) (List.set o5 x6.toNat (List.set (rd o5 x6) x27.toNat false))
        else none
        else none
      else
      bif (decide (x27 = x1)) then
        if 0 ≤ x6 ∧ x6 < (o5.length : Int) then
        if 0 ≤ x27 ∧ x27 < ((rd o5 x6).length : Int) then
        jacquardref02_Closure.c7 k x0 x1 x6 x12 x13 x26 (w64 (x27 + 1)) (List.set o5 x6.toNat (List.set (rd o5 x6) x27.toNat false))
        else none
        else none
      else
      jacquardref02_Closure.c7 k x0 x1 x6 x12 x13 x26 (w64 (x27 + 1)) o5
    else
    jacquardref02_Closure.c3 k x0 x1 x12 (w64 (x13 + 1)) o5
def jacquardref02_Closure.c14 : Nat → Int → Int → (List (List Bool)) → Option ((List (List Bool)))
  | 0, _, _, _ => none
  | k + 1, x47, x48, o1 =>
    bif (decide (x48 < x47)) then
      jacquardref02_Closure.c17 k x48 x47 x48 (o1.length : Int) 0 o1
    else
    some o1
def jacquardref02_Closure.c17 : Nat → Int → Int → Int → Int → Int → (List (List Bool)) → Option ((List (List Bool)))
  | 0, _, _, _, _, _, _ => none
  | k + 1, x8, x47, x48, x52, x53, o1 =>
    bif (decide (x53 < x52)) then
      jacquardref02_Closure.c20 k x8 x53 x47 x48 x52 x53 (o1.length : Int) 0 o1
    else
    jacquardref02_Closure.c14 k x47 (w64 (x48 + 1)) o1
def jacquardref02_Closure.c20 : Nat → Int → Int → Int → Int → Int → Int → Int → Int → (List (List Bool)) → Option ((List (List Bool)))
  | 0, _, _, _, _, _, _, _, _, _ => none
  | k + 1, x8, x9, x47, x48, x52, x53, x57, x58, o1 =>
    bif (decide (x58 < x57)) then
      if 0 ≤ x9 ∧ x9 < (o1.length : Int) then
      if 0 ≤ x8 ∧ x8 < ((rd o1 x9).length : Int) then
      bif (rd (rd o1 x9) x8) then
        if 0 ≤ x8 ∧ x8 < (o1.length : Int) then
        if 0 ≤ x58 ∧ x58 < ((rd o1 x8).length : Int) then
        bif (rd (rd o1 x8) x58) then
          if 0 ≤ x9 ∧ x9 < (o1.length : Int) then
          if 0 ≤ x58 ∧ x58 < ((rd o1 x9).length : Int) then
          jacquardref02_Closure.c20 k x8 x9 x47 x48 x52 x53 x57 (w64 (x58 + 1)) (List.set o1 x9.toNat (List.set (rd o1 x9) x58.toNat true))
          else none
          else none
        else
        jacquardref02_Closure.c20 k x8 x9 x47 x48 x52 x53 x57 (w64 (x58 + 1)) o1
        else none
        else none
      else
      jacquardref02_Closure.c20 k x8 x9 x47 x48 x52 x53 x57 (w64 (x58 + 1)) o1
      else none
      else none
    else
    jacquardref02_Closure.c17 k x8 x47 x48 x52 (w64 (x53 + 1)) o1
end
def jacquardref02_Closure.f (k : Nat) (a0 : (List (List Bool))) (a1 : Int) : Option ((List (List Bool))) :=
  jacquardref02_Closure.c3 k a0 a1 (a0.length : Int) 0 []
mutual
def jacquardref02_Reach.c4 : Nat → Int → Int → Int → (List (List Bool)) → (List Bool) → Option ((List Bool))
  | 0, _, _, _, _, _ => none
  | k + 1, x1, x15, x16, o3, o4 =>
    bif (decide (x16 < x15)) then
      bif (decide (0 ≤ x1)) then
        bif (decide (x1 < (o3.length : Int))) then
          bif (decide (x16 = x1)) then
            if 0 ≤ x16 ∧ x16 < (o4.length : Int) then
            jacquardref02_Reach.c4 k x1 x15 (w64 (x16 + 1)) o3 (List.set o4 x16.toNat true)
            else none
          else
          if 0 ≤ x1 ∧ x1 < (o3.length : Int) then
          if 0 ≤ x16 ∧ x16 < ((rd o3 x1).length : Int) then
          if 0 ≤ x16 ∧ x16 < (o4.length : Int) then
          jacquardref02_Reach.c4 k x1 x15 (w64 (x16 + 1)) o3 (List.set o4 x16.toNat (rd (rd o3 x1) x16))
          else none
          else none
          else none
        else
        if 0 ≤ x16 ∧ x16 < (o4.length : Int) then
        jacquardref02_Reach.c4 k x1 x15 (w64 (x16 + 1)) o3 (List.set o4 x16.toNat false)
        else none
      else
      if 0 ≤ x16 ∧ x16 < (o4.length : Int) then
      jacquardref02_Reach.c4 k x1 x15 (w64 (x16 + 1)) o3 (List.set o4 x16.toNat false)
      else none
    else
    some o4
end
def jacquardref02_Reach.f (k : Nat) (a0 : Graph) (a1 : Int) : Option ((List Bool)) :=
  (jacquardref02_Matrix.f k a0).bind fun y9 =>
  (jacquardref02_Closure.f k y9 (-1)).bind fun y10 =>
  if 0 ≤ (y10.length : Int) ∧ (y10.length : Int) ≤ (y10.length : Int) ∧ (y10.length : Int) ≤ 1073741824 then
  jacquardref02_Reach.c4 k a1 (y10.length : Int) 0 y10 (List.replicate (y10.length : Int).toNat (false : Bool))
  else none
mutual
def jacquardlaw02_GraphReach.c7 : Nat → Int → Int → (List Bool) → (List Bool) → Option (Bool)
  | 0, _, _, _, _ => none
  | k + 1, x28, x29, o1, o2 =>
    bif (decide (x29 < x28)) then
      if 0 ≤ x29 ∧ x29 < (o1.length : Int) then
      if 0 ≤ x29 ∧ x29 < (o2.length : Int) then
      bif (!((rd o1 x29) == (rd o2 x29))) then
        some false
      else
      jacquardlaw02_GraphReach.c7 k x28 (w64 (x29 + 1)) o1 o2
      else none
      else none
    else
    some true
end
def jacquardlaw02_GraphReach.f (k : Nat) (a0 : Graph) (a1 : Int) : Option (Bool) :=
  (jacquardlaw02_awake.f k ).bind fun y8 =>
  bif (!y8) then
    (jacquardlaw02_awake.f k ).bind fun y15 =>
    some y15
  else
  (jacquardlaw02_few.f a0).bind fun y12 =>
  bif (!y12) then
    (jacquardlaw02_awake.f k ).bind fun y15 =>
    some y15
  else
  (graph_Reach.f k a0 a1).bind fun y18 =>
  (jacquardref02_Reach.f k a0 a1).bind fun y21 =>
  bif (!decide ((y18.length : Int) = (y21.length : Int))) then
    some false
  else
  jacquardlaw02_GraphReach.c7 k (y18.length : Int) 0 y18 y21
def graph_weight.f (a0 : (List Int)) (a1 : Int) : Option (Int) :=
  bif (decide ((a0.length : Int) ≤ a1)) then
    some 0
  else
  if 0 ≤ a1 ∧ a1 < (a0.length : Int) then
  some (mn (mx (rd a0 a1) (-1073741824)) 1073741824)
  else none
mutual
def graph_longest.c8 : Nat → (List Int) → Int → Int → (List Int) → (List Int) → (List Int) → (List (List Int)) → Option (((List Int) × (List Int) × Bool × Unit))
  | 0, _, _, _, _, _, _, _ => none
  | k + 1, x1, x31, x32, o5, o6, o3, o4 =>
    bif (decide (x32 < x31)) then
      (graph_weight.f x1 x32).bind fun y39 =>
      if 0 ≤ x32 ∧ x32 < (o5.length : Int) then
      if 0 ≤ x32 ∧ x32 < (o6.length : Int) then
      graph_longest.c8 k x1 x31 (w64 (x32 + 1)) (List.set o5 x32.toNat y39) (List.set o6 x32.toNat (-1)) o3 o4
      else none
      else none
    else
    graph_longest.c14 k x1 o4 (o3.length : Int) 0 o5 o6 o3
def graph_longest.c14 : Nat → (List Int) → (List (List Int)) → Int → Int → (List Int) → (List Int) → (List Int) → Option (((List Int) × (List Int) × Bool × Unit))
  | 0, _, _, _, _, _, _, _ => none
  | k + 1, x1, x8, x46, x47, o5, o6, o3 =>
    bif (decide (x47 < x46)) then
      if 0 ≤ x47 ∧ x47 < (o3.length : Int) then
      if 0 ≤ (rd o3 x47) ∧ (rd o3 x47) < (x8.length : Int) then
      graph_longest.c17 k x1 x8 (rd o3 x47) x46 x47 (rd x8 (rd o3 x47)) ((rd x8 (rd o3 x47)).length : Int) 0 o5 o6 o3
      else none
      else none
    else
    some (o5, o6, true, ())
def graph_longest.c17 : Nat → (List Int) → (List (List Int)) → Int → Int → Int → (List Int) → Int → Int → (List Int) → (List Int) → (List Int) → Option (((List Int) × (List Int) × Bool × Unit))
  | 0, _, _, _, _, _, _, _, _, _, _, _ => none
  | k + 1, x1, x8, x11, x46, x47, x54, x55, x56, o5, o6, o3 =>
    bif (decide (x56 < x55)) then
      if 0 ≤ x56 ∧ x56 < (x54.length : Int) then
      if 0 ≤ x11 ∧ x11 < (o5.length : Int) then
      (graph_weight.f x1 (rd x54 x56)).bind fun y66 =>
      if 0 ≤ (rd x54 x56) ∧ (rd x54 x56) < (o5.length : Int) then
      bif (decide ((rd o5 (rd x54 x56)) < (w64 ((rd o5 x11) + y66)))) then
        if 0 ≤ (rd x54 x56) ∧ (rd x54 x56) < (o5.length : Int) then
        if 0 ≤ (rd x54 x56) ∧ (rd x54 x56) < (o6.length : Int) then
        graph_longest.c17 k x1 x8 x11 x46 x47 x54 x55 (w64 (x56 + 1)) (List.set o5 (rd x54 x56).toNat (w64 ((rd o5 x11) + y66))) (List.set o6 (rd x54 x56).toNat x11) o3
        else none
        else none
      else
      graph_longest.c17 k x1 x8 x11 x46 x47 x54 x55 (w64 (x56 + 1)) o5 o6 o3
      else none
      else none
      else none
    else
    graph_longest.c14 k x1 x8 x46 (w64 (x47 + 1)) o5 o6 o3
end
def graph_longest.f (k : Nat) (a0 : Graph) (a1 : (List Int)) : Option (((List Int) × (List Int) × Bool × Unit)) :=
  (graph_Topo.f k a0).bind fun y17 =>
  bif (!y17.2.1) then
    some ([], [], false, ())
  else
  (graph_Next.f k a0).bind fun y23 =>
  if 0 ≤ (y23.length : Int) ∧ (y23.length : Int) ≤ (y23.length : Int) ∧ (y23.length : Int) ≤ 1073741824 then
  if 0 ≤ (y23.length : Int) ∧ (y23.length : Int) ≤ (y23.length : Int) ∧ (y23.length : Int) ≤ 1073741824 then
  graph_longest.c8 k a1 (y23.length : Int) 0 (List.replicate (y23.length : Int).toNat (0 : Int)) (List.replicate (y23.length : Int).toNat (0 : Int)) y17.1 y23
  else none
  else none
def graph_Longest.f (k : Nat) (a0 : Graph) (a1 : (List Int)) : Option (((List Int) × Bool × Unit)) :=
  (graph_longest.f k a0 a1).bind fun y12 =>
  some (y12.1, y12.2.2.1, ())
def jacquardref02_Weight.f (a0 : (List Int)) (a1 : Int) : Option (Int) :=
  bif (decide ((a0.length : Int) ≤ a1)) then
    some 0
  else
  if 0 ≤ a1 ∧ a1 < (a0.length : Int) then
  some (mn (mx (rd a0 a1) (-1073741824)) 1073741824)
  else none
mutual
def jacquardref02_Longest.c7 : Nat → (List Int) → Int → Int → (List Int) → (List (List Bool)) → (List Int) → Option (((List Int) × Bool × Unit))
  | 0, _, _, _, _, _, _ => none
  | k + 1, x1, x27, x28, o2, o3, o4 =>
    bif (decide (x28 < x27)) then
      if 0 ≤ x28 ∧ x28 < (o2.length : Int) then
      jacquardref02_Longest.c12 k x1 (rd o2 x28) 0 x27 x28 (o3.length : Int) 0 o2 o3 o4
      else none
    else
    some (o4, true, ())
def jacquardref02_Longest.c12 : Nat → (List Int) → Int → Int → Int → Int → Int → Int → (List Int) → (List (List Bool)) → (List Int) → Option (((List Int) × Bool × Unit))
  | 0, _, _, _, _, _, _, _, _, _, _ => none
  | k + 1, x1, x11, x12, x27, x28, x36, x37, o2, o3, o4 =>
    bif (decide (x37 < x36)) then
      if 0 ≤ x37 ∧ x37 < (o3.length : Int) then
      if 0 ≤ x11 ∧ x11 < ((rd o3 x37).length : Int) then
      bif (rd (rd o3 x37) x11) then
        if 0 ≤ x37 ∧ x37 < (o4.length : Int) then
        jacquardref02_Longest.c12 k x1 x11 (mx x12 (rd o4 x37)) x27 x28 x36 (w64 (x37 + 1)) o2 o3 o4
        else none
      else
      jacquardref02_Longest.c12 k x1 x11 x12 x27 x28 x36 (w64 (x37 + 1)) o2 o3 o4
      else none
      else none
    else
    (jacquardref02_Weight.f x1 x11).bind fun y59 =>
    if 0 ≤ x11 ∧ x11 < (o4.length : Int) then
    jacquardref02_Longest.c7 k x1 x27 (w64 (x28 + 1)) o2 o3 (List.set o4 x11.toNat (w64 (x12 + y59)))
    else none
end
def jacquardref02_Longest.f (k : Nat) (a0 : Graph) (a1 : (List Int)) : Option (((List Int) × Bool × Unit)) :=
  (jacquardref02_Topo.f k a0).bind fun y16 =>
  bif (!y16.2.1) then
    some ([], false, ())
  else
  (jacquardref02_Matrix.f k a0).bind fun y22 =>
  if 0 ≤ (y22.length : Int) ∧ (y22.length : Int) ≤ (y22.length : Int) ∧ (y22.length : Int) ≤ 1073741824 then
  jacquardref02_Longest.c7 k a1 (y16.1.length : Int) 0 y16.1 y22 (List.replicate (y22.length : Int).toNat (0 : Int))
  else none
def jacquardlaw02_GraphLongest.f (k : Nat) (a0 : Graph) (a1 : (List Int)) : Option (Bool) :=
  (jacquardlaw02_awake.f k ).bind fun y9 =>
  bif (!y9) then
    (jacquardlaw02_awake.f k ).bind fun y21 =>
    some y21
  else
  (jacquardlaw02_few.f a0).bind fun y13 =>
  bif (!y13) then
    (jacquardlaw02_awake.f k ).bind fun y21 =>
    some y21
  else
  bif (decide (40 < (a1.length : Int))) then
    (jacquardlaw02_awake.f k ).bind fun y21 =>
    some y21
  else
  (graph_Longest.f k a0 a1).bind fun y25 =>
  (jacquardref02_Longest.f k a0 a1).bind fun y31 =>
  bif (y25.2.1 == y31.2.1) then
    (jacquardlaw02_same.f k y25.1 y31.1).bind fun y40 =>
    some y40
  else
  some false
mutual
def slices_Index_int_int.c2 : Nat → (List Int) → Int → Int → Int → Option (Int)
  | 0, _, _, _, _ => none
  | k + 1, x0, x1, x7, x8 =>
    bif (decide (x8 < x7)) then
      if 0 ≤ x8 ∧ x8 < (x0.length : Int) then
      bif (decide (x1 = (rd x0 x8))) then
        some x8
      else
      slices_Index_int_int.c2 k x0 x1 x7 (w64 (x8 + 1))
      else none
    else
    some (-1)
end
def slices_Index_int_int.f (k : Nat) (a0 : (List Int)) (a1 : Int) : Option (Int) :=
  slices_Index_int_int.c2 k a0 a1 (a0.length : Int) 0
def slices_Clone_int_int.f (a0 : (List Int)) : Option ((List Int)) :=
  if 0 < List.length a0 then
  bif Nat.ble (List.length ([] : List Int) + List.length a0) 1073741824 then
  some (([] : List Int) ++ a0)
  else none
  else none
mutual
def graph_Cycle.c5 : Nat → Int → Int → (List (List Int)) → (List Int) → (List Int) → Option ((List Int))
  | 0, _, _, _, _, _ => none
  | k + 1, x19, x20, o2, o3, o4 =>
    bif (decide (x20 < x19)) then
      if 0 ≤ x20 ∧ x20 < (o3.length : Int) then
      bif (!decide ((rd o3 x20) = 0)) then
        graph_Cycle.c5 k x19 (w64 (x20 + 1)) o2 o3 o4
      else
      if 0 ≤ x20 ∧ x20 < (o3.length : Int) then
      graph_Cycle.c10 k x19 x20 o2 (List.set o3 x20.toNat 1) o4 [x20]
      else none
      else none
    else
    some []
def graph_Cycle.c10 : Nat → Int → Int → (List (List Int)) → (List Int) → (List Int) → (List Int) → Option ((List Int))
  | 0, _, _, _, _, _, _ => none
  | k + 1, x19, x20, o2, o3, o4, o5 =>
    bif (decide (0 < (o5.length : Int))) then
      if 0 ≤ (w64 ((o5.length : Int) - 1)) ∧ (w64 ((o5.length : Int) - 1)) < (o5.length : Int) then
      if 0 ≤ (rd o5 (w64 ((o5.length : Int) - 1))) ∧ (rd o5 (w64 ((o5.length : Int) - 1))) < (o4.length : Int) then
      if 0 ≤ (rd o5 (w64 ((o5.length : Int) - 1))) ∧ (rd o5 (w64 ((o5.length : Int) - 1))) < (o2.length : Int) then
      bif (decide ((rd o4 (rd o5 (w64 ((o5.length : Int) - 1)))) = ((rd o2 (rd o5 (w64 ((o5.length : Int) - 1)))).length : Int))) then
        if 0 ≤ (rd o5 (w64 ((o5.length : Int) - 1))) ∧ (rd o5 (w64 ((o5.length : Int) - 1))) < (o3.length : Int) then
        if 0 ≤ (w64 ((o5.length : Int) - 1)) ∧ (w64 ((o5.length : Int) - 1)) ≤ (o5.length : Int) then
        graph_Cycle.c10 k x19 x20 o2 (List.set o3 (rd o5 (w64 ((o5.length : Int) - 1))).toNat 2) o4 (List.take (w64 ((o5.length : Int) - 1)).toNat o5)
        else none
        else none
      else
      if 0 ≤ (rd o5 (w64 ((o5.length : Int) - 1))) ∧ (rd o5 (w64 ((o5.length : Int) - 1))) < (o2.length : Int) then
      if 0 ≤ (rd o5 (w64 ((o5.length : Int) - 1))) ∧ (rd o5 (w64 ((o5.length : Int) - 1))) < (o4.length : Int) then
      if 0 ≤ (rd o4 (rd o5 (w64 ((o5.length : Int) - 1)))) ∧ (rd o4 (rd o5 (w64 ((o5.length : Int) - 1)))) < ((rd o2 (rd o5 (w64 ((o5.length : Int) - 1)))).length : Int) then
      if 0 ≤ (rd o5 (w64 ((o5.length : Int) - 1))) ∧ (rd o5 (w64 ((o5.length : Int) - 1))) < (o4.length : Int) then
      if 0 ≤ (rd o5 (w64 ((o5.length : Int) - 1))) ∧ (rd o5 (w64 ((o5.length : Int) - 1))) < (o4.length : Int) then
      if 0 ≤ (rd (rd o2 (rd o5 (w64 ((o5.length : Int) - 1)))) (rd o4 (rd o5 (w64 ((o5.length : Int) - 1))))) ∧ (rd (rd o2 (rd o5 (w64 ((o5.length : Int) - 1)))) (rd o4 (rd o5 (w64 ((o5.length : Int) - 1))))) < (o3.length : Int) then
      bif (decide ((rd o3 (rd (rd o2 (rd o5 (w64 ((o5.length : Int) - 1)))) (rd o4 (rd o5 (w64 ((o5.length : Int) - 1)))))) = 0)) then
        if 0 ≤ (rd (rd o2 (rd o5 (w64 ((o5.length : Int) - 1)))) (rd o4 (rd o5 (w64 ((o5.length : Int) - 1))))) ∧ (rd (rd o2 (rd o5 (w64 ((o5.length : Int) - 1)))) (rd o4 (rd o5 (w64 ((o5.length : Int) - 1))))) < (o3.length : Int) then
        bif Nat.ble (List.length o5 + List.length [(rd (rd o2 (rd o5 (w64 ((o5.length : Int) - 1)))) (rd o4 (rd o5 (w64 ((o5.length : Int) - 1)))))]) 1073741824 then
        graph_Cycle.c10 k x19 x20 o2 (List.set o3 (rd (rd o2 (rd o5 (w64 ((o5.length : Int) - 1)))) (rd o4 (rd o5 (w64 ((o5.length : Int) - 1))))).toNat 1) (List.set o4 (rd o5 (w64 ((o5.length : Int) - 1))).toNat (w64 ((rd o4 (rd o5 (w64 ((o5.length : Int) - 1)))) + 1))) (o5 ++ [(rd (rd o2 (rd o5 (w64 ((o5.length : Int) - 1)))) (rd o4 (rd o5 (w64 ((o5.length : Int) - 1)))))])
        else none
        else none
      else
      bif (decide ((rd o3 (rd (rd o2 (rd o5 (w64 ((o5.length : Int) - 1)))) (rd o4 (rd o5 (w64 ((o5.length : Int) - 1)))))) = 1)) then
        (slices_Index_int_int.f k o5 (rd (rd o2 (rd o5 (w64 ((o5.length : Int) - 1)))) (rd o4 (rd o5 (w64 ((o5.length : Int) - 1)))))).bind fun y94 =>
        if 0 ≤ y94 ∧ y94 ≤ (o5.length : Int) then
        (slices_Clone_int_int.f (List.take (o5.length - y94.toNat) (List.drop y94.toNat o5))).bind fun y96 =>
        some y96
        else none
      else
      graph_Cycle.c10 k x19 x20 o2 o3 (List.set o4 (rd o5 (w64 ((o5.length : Int) - 1))).toNat (w64 ((rd o4 (rd o5 (w64 ((o5.length : Int) - 1)))) + 1))) o5
      else none
      else none
      else none
      else none
      else none
      else none
      else none
      else none
      else none
    else
    graph_Cycle.c5 k x19 (w64 (x20 + 1)) o2 o3 o4
end
def graph_Cycle.f (k : Nat) (a0 : Graph) : Option ((List Int)) :=
  (graph_Next.f k a0).bind fun y11 =>
  if 0 ≤ (y11.length : Int) ∧ (y11.length : Int) ≤ (y11.length : Int) ∧ (y11.length : Int) ≤ 1073741824 then
  if 0 ≤ (y11.length : Int) ∧ (y11.length : Int) ≤ (y11.length : Int) ∧ (y11.length : Int) ≤ 1073741824 then
  graph_Cycle.c5 k (y11.length : Int) 0 y11 (List.replicate (y11.length : Int).toNat (0 : Int)) (List.replicate (y11.length : Int).toNat (0 : Int))
  else none
  else none
mutual
def jacquardlaw02_GraphCycle.c9 : Nat → Int → Int → (List Int) → (List (List Bool)) → Option (Bool)
  | 0, _, _, _, _ => none
  | k + 1, x32, x33, o1, o3 =>
    bif (decide (x33 < x32)) then
      if ¬ (o1.length : Int) = 0 then
      if 0 ≤ (Int.tmod (w64 (x33 + 1)) (o1.length : Int)) ∧ (Int.tmod (w64 (x33 + 1)) (o1.length : Int)) < (o1.length : Int) then
      if 0 ≤ x33 ∧ x33 < (o1.length : Int) then
      bif (decide ((rd o1 x33) < 0)) then
        some false
      else
      if 0 ≤ x33 ∧ x33 < (o1.length : Int) then
      bif (decide ((o3.length : Int) ≤ (rd o1 x33))) then
        some false
      else
      bif (decide ((rd o1 (Int.tmod (w64 (x33 + 1)) (o1.length : Int))) < 0)) then
        some false
      else
      bif (decide ((o3.length : Int) ≤ (rd o1 (Int.tmod (w64 (x33 + 1)) (o1.length : Int))))) then
        some false
      else
      if 0 ≤ x33 ∧ x33 < (o1.length : Int) then
      if 0 ≤ (rd o1 x33) ∧ (rd o1 x33) < (o3.length : Int) then
      if 0 ≤ (rd o1 (Int.tmod (w64 (x33 + 1)) (o1.length : Int))) ∧ (rd o1 (Int.tmod (w64 (x33 + 1)) (o1.length : Int))) < ((rd o3 (rd o1 x33)).length : Int) then
      bif (!(rd (rd o3 (rd o1 x33)) (rd o1 (Int.tmod (w64 (x33 + 1)) (o1.length : Int))))) then
        some false
      else
      jacquardlaw02_GraphCycle.c15 k x33 x32 x33 x33 0 o1 o3
      else none
      else none
      else none
      else none
      else none
      else none
      else none
    else
    some (decide (0 < (o1.length : Int)))
def jacquardlaw02_GraphCycle.c15 : Nat → Int → Int → Int → Int → Int → (List Int) → (List (List Bool)) → Option (Bool)
  | 0, _, _, _, _, _, _, _ => none
  | k + 1, x7, x32, x33, x81, x82, o1, o3 =>
    bif (decide (x82 < x81)) then
      if 0 ≤ x82 ∧ x82 < (o1.length : Int) then
      if 0 ≤ x7 ∧ x7 < (o1.length : Int) then
      bif (decide ((rd o1 x82) = (rd o1 x7))) then
        some false
      else
      jacquardlaw02_GraphCycle.c15 k x7 x32 x33 x81 (w64 (x82 + 1)) o1 o3
      else none
      else none
    else
    jacquardlaw02_GraphCycle.c9 k x32 (w64 (x33 + 1)) o1 o3
end
def jacquardlaw02_GraphCycle.f (k : Nat) (a0 : Graph) : Option (Bool) :=
  (jacquardlaw02_awake.f k ).bind fun y10 =>
  bif (!y10) then
    (jacquardlaw02_awake.f k ).bind fun y17 =>
    some y17
  else
  (jacquardlaw02_few.f a0).bind fun y14 =>
  bif (!y14) then
    (jacquardlaw02_awake.f k ).bind fun y17 =>
    some y17
  else
  (graph_Cycle.f k a0).bind fun y19 =>
  (graph_Topo.f k a0).bind fun y22 =>
  bif y22.2.1 then
    some (decide ((y19.length : Int) = 0))
  else
  (jacquardref02_Matrix.f k a0).bind fun y30 =>
  jacquardlaw02_GraphCycle.c9 k (y19.length : Int) 0 y19 y30
mutual
def slices_Max_int_int.c3 : Nat → (List Int) → Option (Int)
  | 0, _ => none
  | k + 1, x0 =>
    if 0 ≤ (0 : Int) ∧ 0 < (x0.length : Int) then
    slices_Max_int_int.c5 k x0 (rd x0 0) 1
    else none
def slices_Max_int_int.c5 : Nat → (List Int) → Int → Int → Option (Int)
  | 0, _, _, _ => none
  | k + 1, x0, x3, x4 =>
    bif (decide (x4 < (x0.length : Int))) then
      if 0 ≤ x4 ∧ x4 < (x0.length : Int) then
      slices_Max_int_int.c5 k x0 (mx x3 (rd x0 x4)) (w64 (x4 + 1))
      else none
    else
    some x3
end
def slices_Max_int_int.f (k : Nat) (a0 : (List Int)) : Option (Int) :=
  bif (decide ((a0.length : Int) < 1)) then
    none
  else
  slices_Max_int_int.c3 k a0
mutual
def slices_Reverse_int_int_i1.c1 : Nat → Int → Int → (List Int) → Option (Unit × (List Int) × Unit)
  | 0, _, _, _ => none
  | k + 1, x2, x3, o0 =>
    bif (decide (x2 < x3)) then
      if 0 ≤ x3 ∧ x3 < (o0.length : Int) then
      if 0 ≤ x2 ∧ x2 < (o0.length : Int) then
      if 0 ≤ x2 ∧ x2 < (o0.length : Int) then
      if 0 ≤ x3 ∧ x3 < ((List.set o0 x2.toNat (rd o0 x3)).length : Int) then
      slices_Reverse_int_int_i1.c1 k (w64 (x2 + 1)) (w64 (x3 - 1)) (List.set (List.set o0 x2.toNat (rd o0 x3)) x3.toNat (rd o0 x2))
      else none
      else none
      else none
      else none
    else
    some ((()), o0, ())
end
def slices_Reverse_int_int_i1.f (k : Nat) (o0 : (List Int)) : Option (Unit × (List Int) × Unit) :=
  slices_Reverse_int_int_i1.c1 k 0 (w64 ((o0.length : Int) - 1)) o0
mutual
def graph_Critical.c8 : Nat → Int → Int → (List Int) → (List Int) → Option (((List Int) × Int × Bool × Unit))
  | 0, _, _, _, _ => none
  | k + 1, x5, x9, o1, o3 =>
    bif (decide (0 ≤ x9)) then
      bif Nat.ble (List.length o1 + List.length [x9]) 1073741824 then
      if 0 ≤ x9 ∧ x9 < (o3.length : Int) then
      graph_Critical.c8 k x5 (rd o3 x9) (o1 ++ [x9]) o3
      else none
      else none
    else
    (slices_Reverse_int_int_i1.f k o1).bind fun y38 =>
    some (y38.2.1, x5, true, ())
end
def graph_Critical.f (k : Nat) (a0 : Graph) (a1 : (List Int)) : Option (((List Int) × Int × Bool × Unit)) :=
  (graph_longest.f k a0 a1).bind fun y13 =>
  bif (!y13.2.2.1) then
    some ([], 0, false, ())
  else
  bif (decide ((y13.1.length : Int) = 0)) then
    some ([], 0, true, ())
  else
  (slices_Max_int_int.f k y13.1).bind fun y23 =>
  (slices_Index_int_int.f k y13.1 y23).bind fun y26 =>
  graph_Critical.c8 k y23 y26 [] y13.2.1
mutual
def jacquardlaw02_GraphCritical.c9 : Nat → (List Int) → Int → Bool → Int → Int → Int → Graph → (List Int) → (List Int) → Option (Bool)
  | 0, _, _, _, _, _, _, _, _, _ => none
  | k + 1, x1, x6, x7, x10, x64, x65, o0, o1, o2 =>
    bif (decide (x65 < x64)) then
      if 0 ≤ x65 ∧ x65 < (o2.length : Int) then
      jacquardlaw02_GraphCritical.c9 k x1 x6 x7 (mx x10 (rd o2 x65)) x64 (w64 (x65 + 1)) o0 o1 o2
      else none
    else
    (jacquardref02_Matrix.f k o0).bind fun y76 =>
    jacquardlaw02_GraphCritical.c16 k x1 x6 x7 x10 0 (o1.length : Int) 0 o1 y76
def jacquardlaw02_GraphCritical.c16 : Nat → (List Int) → Int → Bool → Int → Int → Int → Int → (List Int) → (List (List Bool)) → Option (Bool)
  | 0, _, _, _, _, _, _, _, _, _ => none
  | k + 1, x1, x6, x7, x10, x13, x78, x79, o1, o3 =>
    bif (decide (x79 < x78)) then
      if 0 ≤ x79 ∧ x79 < (o1.length : Int) then
      bif (decide ((rd o1 x79) < 0)) then
        some false
      else
      if 0 ≤ x79 ∧ x79 < (o1.length : Int) then
      bif (decide ((o3.length : Int) ≤ (rd o1 x79))) then
        some false
      else
      bif (decide (0 < x79)) then
        if 0 ≤ (w64 (x79 - 1)) ∧ (w64 (x79 - 1)) < (o1.length : Int) then
        if 0 ≤ (rd o1 (w64 (x79 - 1))) ∧ (rd o1 (w64 (x79 - 1))) < (o3.length : Int) then
        if 0 ≤ x79 ∧ x79 < (o1.length : Int) then
        if 0 ≤ (rd o1 x79) ∧ (rd o1 x79) < ((rd o3 (rd o1 (w64 (x79 - 1)))).length : Int) then
        bif (!(rd (rd o3 (rd o1 (w64 (x79 - 1)))) (rd o1 x79))) then
          some false
        else
        if 0 ≤ x79 ∧ x79 < (o1.length : Int) then
        (jacquardref02_Weight.f x1 (rd o1 x79)).bind fun y123 =>
        jacquardlaw02_GraphCritical.c16 k x1 x6 x7 x10 (w64 (x13 + y123)) x78 (w64 (x79 + 1)) o1 o3
        else none
        else none
        else none
        else none
        else none
      else
      if 0 ≤ x79 ∧ x79 < (o1.length : Int) then
      (jacquardref02_Weight.f x1 (rd o1 x79)).bind fun y123 =>
      jacquardlaw02_GraphCritical.c16 k x1 x6 x7 x10 (w64 (x13 + y123)) x78 (w64 (x79 + 1)) o1 o3
      else none
      else none
      else none
    else
    bif x7 then
      bif (decide (0 < (o1.length : Int))) then
        bif (decide (x13 = x6)) then
          some (decide (x6 = x10))
        else
        some false
      else
      some false
    else
    some false
end
def jacquardlaw02_GraphCritical.f (k : Nat) (a0 : Graph) (a1 : (List Int)) : Option (Bool) :=
  (jacquardlaw02_awake.f k ).bind fun y15 =>
  bif (!y15) then
    (jacquardlaw02_awake.f k ).bind fun y27 =>
    some y27
  else
  (jacquardlaw02_few.f a0).bind fun y19 =>
  bif (!y19) then
    (jacquardlaw02_awake.f k ).bind fun y27 =>
    some y27
  else
  bif (decide (40 < (a1.length : Int))) then
    (jacquardlaw02_awake.f k ).bind fun y27 =>
    some y27
  else
  (graph_Critical.f k a0 a1).bind fun y31 =>
  (jacquardref02_Longest.f k a0 a1).bind fun y38 =>
  bif (!y38.2.1) then
    bif (y31.2.2.1 == y38.2.1) then
      bif (decide ((y31.1.length : Int) = 0)) then
        some (decide (y31.2.1 = 0))
      else
      some false
    else
    some false
  else
  bif (decide ((y38.1.length : Int) = 0)) then
    bif (y31.2.2.1 == y38.2.1) then
      bif (decide ((y31.1.length : Int) = 0)) then
        some (decide (y31.2.1 = 0))
      else
      some false
    else
    some false
  else
  if 0 ≤ (0 : Int) ∧ 0 < (y38.1.length : Int) then
  jacquardlaw02_GraphCritical.c9 k a1 y31.2.1 y31.2.2.1 (rd y38.1 0) (y38.1.length : Int) 0 a0 y31.1 y38.1
  else none
mutual
def jacquardref02_Next.c4 : Nat → Int → Int → (List (List Bool)) → (List (List Int)) → Option ((List (List Int)))
  | 0, _, _, _, _ => none
  | k + 1, x11, x12, o2, o3 =>
    bif (decide (x12 < x11)) then
      jacquardref02_Next.c8 k x12 x11 x12 (o2.length : Int) 0 o2 o3 []
    else
    some o3
def jacquardref02_Next.c8 : Nat → Int → Int → Int → Int → Int → (List (List Bool)) → (List (List Int)) → (List Int) → Option ((List (List Int)))
  | 0, _, _, _, _, _, _, _, _ => none
  | k + 1, x5, x11, x12, x16, x17, o2, o3, o4 =>
    bif (decide (x17 < x16)) then
      if 0 ≤ x5 ∧ x5 < (o2.length : Int) then
      if 0 ≤ x17 ∧ x17 < ((rd o2 x5).length : Int) then
      bif (rd (rd o2 x5) x17) then
        bif Nat.ble (List.length o4 + List.length [x17]) 1073741824 then
        jacquardref02_Next.c8 k x5 x11 x12 x16 (w64 (x17 + 1)) o2 o3 (o4 ++ [x17])
        else none
      else
      jacquardref02_Next.c8 k x5 x11 x12 x16 (w64 (x17 + 1)) o2 o3 o4
      else none
      else none
    else
    bif Nat.ble (List.length o3 + List.length [o4]) 1073741824 then
    jacquardref02_Next.c4 k x11 (w64 (x12 + 1)) o2 (o3 ++ [o4])
    else none
end
def jacquardref02_Next.f (k : Nat) (a0 : Graph) : Option ((List (List Int))) :=
  (jacquardref02_Matrix.f k a0).bind fun y9 =>
  jacquardref02_Next.c4 k (y9.length : Int) 0 y9 []
mutual
def graph_Turn.c3 : Nat → (List (List Int)) → Int → Int → Int → Int → (List Link) → Option (Graph)
  | 0, _, _, _, _, _, _ => none
  | k + 1, x12, x13, x14, o1_0, o2_0, o7 =>
    bif (decide (x14 < x13)) then
      if 0 ≤ x14 ∧ x14 < (x12.length : Int) then
      graph_Turn.c6 k x14 x12 x13 x14 (rd x12 x14) ((rd x12 x14).length : Int) 0 o1_0 o2_0 o7
      else none
    else
    bif Nat.ble (List.length o7) 1073741824 then
    some (o2_0, (sortgraph_Turn_1 o7), ())
    else none
def graph_Turn.c6 : Nat → Int → (List (List Int)) → Int → Int → (List Int) → Int → Int → Int → Int → (List Link) → Option (Graph)
  | 0, _, _, _, _, _, _, _, _, _, _ => none
  | k + 1, x4, x12, x13, x14, x19, x20, x21, o1_0, o2_0, o6 =>
    bif (decide (x21 < x20)) then
      if 0 ≤ x21 ∧ x21 < (x19.length : Int) then
      bif Nat.ble (List.length o6 + List.length [((rd x19 x21), x4, ())]) 1073741824 then
      graph_Turn.c6 k x4 x12 x13 x14 x19 x20 (w64 (x21 + 1)) o1_0 o2_0 (o6 ++ [((rd x19 x21), x4, ())])
      else none
      else none
    else
    graph_Turn.c3 k x12 x13 (w64 (x14 + 1)) o1_0 o2_0 o6
end
def graph_Turn.f (k : Nat) (a0 : Graph) : Option (Graph) :=
  (graph_size.f a0).bind fun y9 =>
  (graph_Next.f k a0).bind fun y12 =>
  graph_Turn.c3 k y12 (y12.length : Int) 0 0 y9 []
mutual
def jacquardlaw02_GraphNext.c9 : Nat → Int → Int → Int → (List (List Int)) → (List (List Int)) → Int → (List Link) → Option (Bool)
  | 0, _, _, _, _, _, _, _ => none
  | k + 1, x6, x37, x38, o1, o2, o4_0, o3 =>
    bif (decide (x38 < x37)) then
      if 0 ≤ x38 ∧ x38 < (o1.length : Int) then
      if 0 ≤ x38 ∧ x38 < (o2.length : Int) then
      (jacquardlaw02_same.f k (rd o1 x38) (rd o2 x38)).bind fun y49 =>
      bif (!y49) then
        some false
      else
      jacquardlaw02_GraphNext.c14 k x6 x38 x37 x38 (o2.length : Int) 0 o1 o2 o4_0 o3
      else none
      else none
    else
    some (decide (x6 = (o3.length : Int)))
def jacquardlaw02_GraphNext.c14 : Nat → Int → Int → Int → Int → Int → Int → (List (List Int)) → (List (List Int)) → Int → (List Link) → Option (Bool)
  | 0, _, _, _, _, _, _, _, _, _, _ => none
  | k + 1, x6, x7, x37, x38, x52, x53, o1, o2, o4_0, o3 =>
    bif (decide (x53 < x52)) then
      if 0 ≤ x53 ∧ x53 < (o2.length : Int) then
      jacquardlaw02_GraphNext.c17 k x6 x7 x53 x37 x38 x52 x53 ((rd o2 x53).length : Int) 0 o1 o2 o4_0 o3
      else none
    else
    jacquardlaw02_GraphNext.c9 k x6 x37 (w64 (x38 + 1)) o1 o2 o4_0 o3
def jacquardlaw02_GraphNext.c17 : Nat → Int → Int → Int → Int → Int → Int → Int → Int → Int → (List (List Int)) → (List (List Int)) → Int → (List Link) → Option (Bool)
  | 0, _, _, _, _, _, _, _, _, _, _, _, _, _ => none
  | k + 1, x6, x7, x8, x37, x38, x52, x53, x60, x61, o1, o2, o4_0, o3 =>
    bif (decide (x61 < x60)) then
      if 0 ≤ x8 ∧ x8 < (o2.length : Int) then
      if 0 ≤ x61 ∧ x61 < ((rd o2 x8).length : Int) then
      bif (decide ((rd (rd o2 x8) x61) = x7)) then
        bif (decide ((o3.length : Int) ≤ x6)) then
          some false
        else
        if 0 ≤ x6 ∧ x6 < (o3.length : Int) then
        bif (!decide ((Link.From (rd o3 x6)) = x7)) then
          some false
        else
        if 0 ≤ x6 ∧ x6 < (o3.length : Int) then
        bif (!decide ((Link.To (rd o3 x6)) = x8)) then
          some false
        else
        jacquardlaw02_GraphNext.c17 k (w64 (x6 + 1)) x7 x8 x37 x38 x52 x53 x60 (w64 (x61 + 1)) o1 o2 o4_0 o3
        else none
        else none
      else
      jacquardlaw02_GraphNext.c17 k x6 x7 x8 x37 x38 x52 x53 x60 (w64 (x61 + 1)) o1 o2 o4_0 o3
      else none
      else none
    else
    jacquardlaw02_GraphNext.c14 k x6 x7 x37 x38 x52 (w64 (x53 + 1)) o1 o2 o4_0 o3
end
def jacquardlaw02_GraphNext.f (k : Nat) (a0 : Graph) : Option (Bool) :=
  (jacquardlaw02_awake.f k ).bind fun y10 =>
  bif (!y10) then
    (jacquardlaw02_awake.f k ).bind fun y17 =>
    some y17
  else
  (jacquardlaw02_few.f a0).bind fun y14 =>
  bif (!y14) then
    (jacquardlaw02_awake.f k ).bind fun y17 =>
    some y17
  else
  (graph_Next.f k a0).bind fun y19 =>
  (jacquardref02_Next.f k a0).bind fun y21 =>
  (graph_Turn.f k a0).bind fun y23 =>
  bif (!decide ((y19.length : Int) = (y21.length : Int))) then
    some false
  else
  bif (!decide ((Graph.N y23) = (y21.length : Int))) then
    some false
  else
  jacquardlaw02_GraphNext.c9 k 0 (y21.length : Int) 0 y19 y21 (Graph.N y23) (Graph.Links y23)
mutual
def graph_finished.c5 : Nat → (List (List Int)) → Int → Int → (List Bool) → (List Int) → (List Int) → Option ((List Int))
  | 0, _, _, _, _, _, _ => none
  | k + 1, x0, x17, x18, o1, o2, o3 =>
    bif (decide (x18 < x17)) then
      if 0 ≤ x18 ∧ x18 < (o1.length : Int) then
      bif (rd o1 x18) then
        graph_finished.c5 k x0 x17 (w64 (x18 + 1)) o1 o2 o3
      else
      if 0 ≤ x18 ∧ x18 < (o1.length : Int) then
      graph_finished.c10 k x0 x17 x18 (List.set o1 x18.toNat true) o2 o3 [x18]
      else none
      else none
    else
    some o3
def graph_finished.c10 : Nat → (List (List Int)) → Int → Int → (List Bool) → (List Int) → (List Int) → (List Int) → Option ((List Int))
  | 0, _, _, _, _, _, _, _ => none
  | k + 1, x0, x17, x18, o1, o2, o3, o4 =>
    bif (decide (0 < (o4.length : Int))) then
      if 0 ≤ (w64 ((o4.length : Int) - 1)) ∧ (w64 ((o4.length : Int) - 1)) < (o4.length : Int) then
      if 0 ≤ (rd o4 (w64 ((o4.length : Int) - 1))) ∧ (rd o4 (w64 ((o4.length : Int) - 1))) < (o2.length : Int) then
      if 0 ≤ (rd o4 (w64 ((o4.length : Int) - 1))) ∧ (rd o4 (w64 ((o4.length : Int) - 1))) < (x0.length : Int) then
      bif (decide ((rd o2 (rd o4 (w64 ((o4.length : Int) - 1)))) = ((rd x0 (rd o4 (w64 ((o4.length : Int) - 1)))).length : Int))) then
        bif Nat.ble (List.length o3 + List.length [(rd o4 (w64 ((o4.length : Int) - 1)))]) 1073741824 then
        if 0 ≤ (w64 ((o4.length : Int) - 1)) ∧ (w64 ((o4.length : Int) - 1)) ≤ (o4.length : Int) then
        graph_finished.c10 k x0 x17 x18 o1 o2 (o3 ++ [(rd o4 (w64 ((o4.length : Int) - 1)))]) (List.take (w64 ((o4.length : Int) - 1)).toNat o4)
        else none
        else none
      else
      if 0 ≤ (rd o4 (w64 ((o4.length : Int) - 1))) ∧ (rd o4 (w64 ((o4.length : Int) - 1))) < (x0.length : Int) then
      if 0 ≤ (rd o4 (w64 ((o4.length : Int) - 1))) ∧ (rd o4 (w64 ((o4.length : Int) - 1))) < (o2.length : Int) then
      if 0 ≤ (rd o2 (rd o4 (w64 ((o4.length : Int) - 1)))) ∧ (rd o2 (rd o4 (w64 ((o4.length : Int) - 1)))) < ((rd x0 (rd o4 (w64 ((o4.length : Int) - 1)))).length : Int) then
      if 0 ≤ (rd o4 (w64 ((o4.length : Int) - 1))) ∧ (rd o4 (w64 ((o4.length : Int) - 1))) < (o2.length : Int) then
      if 0 ≤ (rd o4 (w64 ((o4.length : Int) - 1))) ∧ (rd o4 (w64 ((o4.length : Int) - 1))) < (o2.length : Int) then
      if 0 ≤ (rd (rd x0 (rd o4 (w64 ((o4.length : Int) - 1)))) (rd o2 (rd o4 (w64 ((o4.length : Int) - 1))))) ∧ (rd (rd x0 (rd o4 (w64 ((o4.length : Int) - 1)))) (rd o2 (rd o4 (w64 ((o4.length : Int) - 1))))) < (o1.length : Int) then
      bif (!(rd o1 (rd (rd x0 (rd o4 (w64 ((o4.length : Int) - 1)))) (rd o2 (rd o4 (w64 ((o4.length : Int) - 1))))))) then
        if 0 ≤ (rd (rd x0 (rd o4 (w64 ((o4.length : Int) - 1)))) (rd o2 (rd o4 (w64 ((o4.length : Int) - 1))))) ∧ (rd (rd x0 (rd o4 (w64 ((o4.length : Int) - 1)))) (rd o2 (rd o4 (w64 ((o4.length : Int) - 1))))) < (o1.length : Int) then
        bif Nat.ble (List.length o4 + List.length [(rd (rd x0 (rd o4 (w64 ((o4.length : Int) - 1)))) (rd o2 (rd o4 (w64 ((o4.length : Int) - 1)))))]) 1073741824 then
        graph_finished.c10 k x0 x17 x18 (List.set o1 (rd (rd x0 (rd o4 (w64 ((o4.length : Int) - 1)))) (rd o2 (rd o4 (w64 ((o4.length : Int) - 1))))).toNat true) (List.set o2 (rd o4 (w64 ((o4.length : Int) - 1))).toNat (w64 ((rd o2 (rd o4 (w64 ((o4.length : Int) - 1)))) + 1))) o3 (o4 ++ [(rd (rd x0 (rd o4 (w64 ((o4.length : Int) - 1)))) (rd o2 (rd o4 (w64 ((o4.length : Int) - 1)))))])
        else none
        else none
      else
      graph_finished.c10 k x0 x17 x18 o1 (List.set o2 (rd o4 (w64 ((o4.length : Int) - 1))).toNat (w64 ((rd o2 (rd o4 (w64 ((o4.length : Int) - 1)))) + 1))) o3 o4
      else none
      else none
      else none
      else none
      else none
      else none
      else none
      else none
      else none
    else
    graph_finished.c5 k x0 x17 (w64 (x18 + 1)) o1 o2 o3
end
def graph_finished.f (k : Nat) (a0 : (List (List Int))) : Option ((List Int)) :=
  if 0 ≤ (a0.length : Int) ∧ (a0.length : Int) ≤ (a0.length : Int) ∧ (a0.length : Int) ≤ 1073741824 then
  if 0 ≤ (a0.length : Int) ∧ (a0.length : Int) ≤ (a0.length : Int) ∧ (a0.length : Int) ≤ 1073741824 then
  graph_finished.c5 k a0 (a0.length : Int) 0 (List.replicate (a0.length : Int).toNat (false : Bool)) (List.replicate (a0.length : Int).toNat (0 : Int)) []
  else none
  else none
mutual
def slices_Min_int_int.c3 : Nat → (List Int) → Option (Int)
  | 0, _ => none
  | k + 1, x0 =>
    if 0 ≤ (0 : Int) ∧ 0 < (x0.length : Int) then
    slices_Min_int_int.c5 k x0 (rd x0 0) 1
    else none
def slices_Min_int_int.c5 : Nat → (List Int) → Int → Int → Option (Int)
  | 0, _, _, _ => none
  | k + 1, x0, x3, x4 =>
    bif (decide (x4 < (x0.length : Int))) then
      if 0 ≤ x4 ∧ x4 < (x0.length : Int) then
      slices_Min_int_int.c5 k x0 (mn x3 (rd x0 x4)) (w64 (x4 + 1))
      else none
    else
    some x3
end
def slices_Min_int_int.f (k : Nat) (a0 : (List Int)) : Option (Int) :=
  bif (decide ((a0.length : Int) < 1)) then
    none
  else
  slices_Min_int_int.c3 k a0
mutual
def graph_Components.b.c15 : Nat → Int → Int → (List (List Int)) → (List Int) → (List Int) → Option ((List (List Int)) × Unit × (List Int) × Unit)
  | 0, _, _, _, _, _ => none
  | k + 1, x8, x10, o6, o7, o9 =>
    bif (decide (x10 < (o9.length : Int))) then
      if 0 ≤ x10 ∧ x10 < (o9.length : Int) then
      if 0 ≤ (rd o9 x10) ∧ (rd o9 x10) < (o6.length : Int) then
      graph_Components.b.c18 k x8 x10 (rd o6 (rd o9 x10)) ((rd o6 (rd o9 x10)).length : Int) 0 o6 o7 o9
      else none
      else none
    else
    (slices_Min_int_int.f k o9).bind fun y82 =>
    graph_Components.b.c26 k y82 (o9.length : Int) 0 o6 o7 o9
def graph_Components.b.c18 : Nat → Int → Int → (List Int) → Int → Int → (List (List Int)) → (List Int) → (List Int) → Option ((List (List Int)) × Unit × (List Int) × Unit)
  | 0, _, _, _, _, _, _, _, _ => none
  | k + 1, x8, x10, x61, x62, x63, o6, o7, o9 =>
    bif (decide (x63 < x62)) then
      if 0 ≤ x63 ∧ x63 < (x61.length : Int) then
      if 0 ≤ (rd x61 x63) ∧ (rd x61 x63) < (o7.length : Int) then
      bif (decide ((rd o7 (rd x61 x63)) < 0)) then
        if 0 ≤ (rd x61 x63) ∧ (rd x61 x63) < (o7.length : Int) then
        bif Nat.ble (List.length o9 + List.length [(rd x61 x63)]) 1073741824 then
        graph_Components.b.c18 k x8 x10 x61 x62 (w64 (x63 + 1)) o6 (List.set o7 (rd x61 x63).toNat x8) (o9 ++ [(rd x61 x63)])
        else none
        else none
      else
      graph_Components.b.c18 k x8 x10 x61 x62 (w64 (x63 + 1)) o6 o7 o9
      else none
      else none
    else
    graph_Components.b.c15 k x8 (w64 (x10 + 1)) o6 o7 o9
def graph_Components.b.c26 : Nat → Int → Int → Int → (List (List Int)) → (List Int) → (List Int) → Option ((List (List Int)) × Unit × (List Int) × Unit)
  | 0, _, _, _, _, _, _ => none
  | k + 1, x13, x84, x85, o6, o7, o9 =>
    bif (decide (x85 < x84)) then
      if 0 ≤ x85 ∧ x85 < (o9.length : Int) then
      if 0 ≤ (rd o9 x85) ∧ (rd o9 x85) < (o7.length : Int) then
      graph_Components.b.c26 k x13 x84 (w64 (x85 + 1)) o6 (List.set o7 (rd o9 x85).toNat x13) o9
      else none
      else none
    else
    some (o6, (), o7, ())
end
def graph_Components.b.f (k : Nat) (x36 : Int) (x37 : Int) (x8 : Int) (o6 : (List (List Int))) (o7 : (List Int)) : Option ((List (List Int)) × Unit × (List Int) × Unit) :=
  if 0 ≤ x8 ∧ x8 < (o7.length : Int) then
  bif (decide (0 ≤ (rd o7 x8))) then
    some (o6, (), o7, ())
  else
  if 0 ≤ x8 ∧ x8 < (o7.length : Int) then
  graph_Components.b.c15 k x8 0 o6 (List.set o7 x8.toNat x8) [x8]
  else none
  else none
def graph_Components.t9 (o6 : (List (List Int))) (o7 : (List Int)) : Option ((List Int)) :=
  some o7
def graph_Components.rf (k : Nat) (d : (List (List Int)) × Unit × (List Int) × Unit) (i v : Int) : Option ((List (List Int)) × Unit × (List Int) × Unit) := graph_Components.b.f k i v v d.1 d.2.2.1
def graph_Components.c9 (k : Nat) (x3 : (List Int)) (o6 : (List (List Int))) (o7 : (List Int)) : Option ((List Int)) := bif Nat.ble x3.length 1073741824 then (Vm.rst (graph_Components.rf k) x3 x3.length (o6, (), o7, ())).bind fun d => graph_Components.t9 d.1 d.2.2.1 else none
mutual
def graph_Components.c5 : Nat → Int → Int → (List Int) → (List (List Int)) → (List Int) → Option ((List Int))
  | 0, _, _, _, _, _ => none
  | k + 1, x26, x27, o3, o5, o7 =>
    bif (decide (x27 < x26)) then
      if 0 ≤ x27 ∧ x27 < (o7.length : Int) then
      graph_Components.c5 k x26 (w64 (x27 + 1)) o3 o5 (List.set o7 x27.toNat (-1))
      else none
    else
    graph_Components.c9 k o3 o5 o7
end
def graph_Components.f (k : Nat) (a0 : Graph) : Option ((List Int)) :=
  (graph_Next.f k a0).bind fun y17 =>
  (graph_finished.f k y17).bind fun y18 =>
  (graph_Turn.f k a0).bind fun y20 =>
  (graph_Next.f k ((Graph.N y20), (Graph.Links y20), ())).bind fun y21 =>
  if 0 ≤ (y18.length : Int) ∧ (y18.length : Int) ≤ (y18.length : Int) ∧ (y18.length : Int) ≤ 1073741824 then
  graph_Components.c5 k ((List.replicate (y18.length : Int).toNat (0 : Int)).length : Int) 0 y18 y21 (List.replicate (y18.length : Int).toNat (0 : Int))
  else none
mutual
def jacquardref02_Components.c4 : Nat → Int → Int → (List (List Bool)) → (List Int) → Option ((List Int))
  | 0, _, _, _, _ => none
  | k + 1, x11, x12, o3, o4 =>
    bif (decide (x12 < x11)) then
      jacquardref02_Components.c7 k x12 0 x11 x12 o3 o4
    else
    some o4
def jacquardref02_Components.c7 : Nat → Int → Int → Int → Int → (List (List Bool)) → (List Int) → Option ((List Int))
  | 0, _, _, _, _, _, _ => none
  | k + 1, x5, x6, x11, x12, o3, o4 =>
    bif (!decide (x6 = x5)) then
      if 0 ≤ x5 ∧ x5 < (o3.length : Int) then
      if 0 ≤ x6 ∧ x6 < ((rd o3 x5).length : Int) then
      bif (rd (rd o3 x5) x6) then
        if 0 ≤ x6 ∧ x6 < (o3.length : Int) then
        if 0 ≤ x5 ∧ x5 < ((rd o3 x6).length : Int) then
        bif (!(rd (rd o3 x6) x5)) then
          jacquardref02_Components.c7 k x5 (w64 (x6 + 1)) x11 x12 o3 o4
        else
        bif Nat.ble (List.length o4 + List.length [x6]) 1073741824 then
        jacquardref02_Components.c4 k x11 (w64 (x12 + 1)) o3 (o4 ++ [x6])
        else none
        else none
        else none
      else
      jacquardref02_Components.c7 k x5 (w64 (x6 + 1)) x11 x12 o3 o4
      else none
      else none
    else
    bif Nat.ble (List.length o4 + List.length [x6]) 1073741824 then
    jacquardref02_Components.c4 k x11 (w64 (x12 + 1)) o3 (o4 ++ [x6])
    else none
end
def jacquardref02_Components.f (k : Nat) (a0 : Graph) : Option ((List Int)) :=
  (jacquardref02_Matrix.f k a0).bind fun y8 =>
  (jacquardref02_Closure.f k y8 (-1)).bind fun y9 =>
  jacquardref02_Components.c4 k (y9.length : Int) 0 y9 []
def jacquardlaw02_GraphComponents.f (k : Nat) (a0 : Graph) : Option (Bool) :=
  (jacquardlaw02_awake.f k ).bind fun y4 =>
  bif (!y4) then
    (jacquardlaw02_awake.f k ).bind fun y11 =>
    some y11
  else
  (jacquardlaw02_few.f a0).bind fun y8 =>
  bif (!y8) then
    (jacquardlaw02_awake.f k ).bind fun y11 =>
    some y11
  else
  (graph_Components.f k a0).bind fun y13 =>
  (jacquardref02_Components.f k a0).bind fun y16 =>
  (jacquardlaw02_same.f k y13 y16).bind fun y17 =>
  bif y17 then
    (graph_Turn.f k a0).bind fun y20 =>
    (graph_Components.f k ((Graph.N y20), (Graph.Links y20), ())).bind fun y21 =>
    (jacquardlaw02_same.f k y21 y13).bind fun y23 =>
    some y23
  else
  some false
mutual
def graph_Dominators_1_i3.c2 : Nat → (List Bool) → (List Int) → (List (List Int)) → (List Int) → (List Int) → Option (Unit × Unit × (List Bool) × (List Int) × (List Int) × Unit)
  | 0, _, _, _, _, _ => none
  | k + 1, o4, o5, o2, o6, o12 =>
    bif (decide (0 < (o6.length : Int))) then
      if 0 ≤ (w64 ((o6.length : Int) - 1)) ∧ (w64 ((o6.length : Int) - 1)) < (o6.length : Int) then
      if 0 ≤ (rd o6 (w64 ((o6.length : Int) - 1))) ∧ (rd o6 (w64 ((o6.length : Int) - 1))) < (o5.length : Int) then
      if 0 ≤ (rd o6 (w64 ((o6.length : Int) - 1))) ∧ (rd o6 (w64 ((o6.length : Int) - 1))) < (o2.length : Int) then
      bif (decide ((rd o5 (rd o6 (w64 ((o6.length : Int) - 1)))) = ((rd o2 (rd o6 (w64 ((o6.length : Int) - 1)))).length : Int))) then
        bif Nat.ble (List.length o12 + List.length [(rd o6 (w64 ((o6.length : Int) - 1)))]) 1073741824 then
        if 0 ≤ (w64 ((o6.length : Int) - 1)) ∧ (w64 ((o6.length : Int) - 1)) ≤ (o6.length : Int) then
        graph_Dominators_1_i3.c2 k o4 o5 o2 (List.take (w64 ((o6.length : Int) - 1)).toNat o6) (o12 ++ [(rd o6 (w64 ((o6.length : Int) - 1)))])
        else none
        else none
      else
      if 0 ≤ (rd o6 (w64 ((o6.length : Int) - 1))) ∧ (rd o6 (w64 ((o6.length : Int) - 1))) < (o2.length : Int) then
      if 0 ≤ (rd o6 (w64 ((o6.length : Int) - 1))) ∧ (rd o6 (w64 ((o6.length : Int) - 1))) < (o5.length : Int) then
      if 0 ≤ (rd o5 (rd o6 (w64 ((o6.length : Int) - 1)))) ∧ (rd o5 (rd o6 (w64 ((o6.length : Int) - 1)))) < ((rd o2 (rd o6 (w64 ((o6.length : Int) - 1)))).length : Int) then
      if 0 ≤ (rd o6 (w64 ((o6.length : Int) - 1))) ∧ (rd o6 (w64 ((o6.length : Int) - 1))) < (o5.length : Int) then
      if 0 ≤ (rd o6 (w64 ((o6.length : Int) - 1))) ∧ (rd o6 (w64 ((o6.length : Int) - 1))) < (o5.length : Int) then
      if 0 ≤ (rd (rd o2 (rd o6 (w64 ((o6.length : Int) - 1)))) (rd o5 (rd o6 (w64 ((o6.length : Int) - 1))))) ∧ (rd (rd o2 (rd o6 (w64 ((o6.length : Int) - 1)))) (rd o5 (rd o6 (w64 ((o6.length : Int) - 1))))) < (o4.length : Int) then
      bif (!(rd o4 (rd (rd o2 (rd o6 (w64 ((o6.length : Int) - 1)))) (rd o5 (rd o6 (w64 ((o6.length : Int) - 1))))))) then
        if 0 ≤ (rd (rd o2 (rd o6 (w64 ((o6.length : Int) - 1)))) (rd o5 (rd o6 (w64 ((o6.length : Int) - 1))))) ∧ (rd (rd o2 (rd o6 (w64 ((o6.length : Int) - 1)))) (rd o5 (rd o6 (w64 ((o6.length : Int) - 1))))) < (o4.length : Int) then
        bif Nat.ble (List.length o6 + List.length [(rd (rd o2 (rd o6 (w64 ((o6.length : Int) - 1)))) (rd o5 (rd o6 (w64 ((o6.length : Int) - 1)))))]) 1073741824 then
        graph_Dominators_1_i3.c2 k (List.set o4 (rd (rd o2 (rd o6 (w64 ((o6.length : Int) - 1)))) (rd o5 (rd o6 (w64 ((o6.length : Int) - 1))))).toNat true) (List.set o5 (rd o6 (w64 ((o6.length : Int) - 1))).toNat (w64 ((rd o5 (rd o6 (w64 ((o6.length : Int) - 1)))) + 1))) o2 (o6 ++ [(rd (rd o2 (rd o6 (w64 ((o6.length : Int) - 1)))) (rd o5 (rd o6 (w64 ((o6.length : Int) - 1)))))]) o12
        else none
        else none
      else
      graph_Dominators_1_i3.c2 k o4 (List.set o5 (rd o6 (w64 ((o6.length : Int) - 1))).toNat (w64 ((rd o5 (rd o6 (w64 ((o6.length : Int) - 1)))) + 1))) o2 o6 o12
      else none
      else none
      else none
      else none
      else none
      else none
      else none
      else none
      else none
    else
    some ((()), (), o4, o5, o12, ())
end
def graph_Dominators_1_i3.f (k : Nat) (x0 : Int) (o2 : (List (List Int))) (o4 : (List Bool)) (o5 : (List Int)) : Option (Unit × Unit × (List Bool) × (List Int) × (List Int) × Unit) :=
  if 0 ≤ x0 ∧ x0 < (o4.length : Int) then
  graph_Dominators_1_i3.c2 k (List.set o4 x0.toNat true) o5 o2 [x0] []
  else none
mutual
def graph_Dominators_2.c1 : Nat → Int → Int → (List Int) → (List Int) → Option (Int × Unit)
  | 0, _, _, _, _ => none
  | k + 1, x0, x1, o0, o1 =>
    bif (!decide (x0 = x1)) then
      graph_Dominators_2.c2 k x0 x1 o0 o1
    else
    some (x0, ())
def graph_Dominators_2.c2 : Nat → Int → Int → (List Int) → (List Int) → Option (Int × Unit)
  | 0, _, _, _, _ => none
  | k + 1, x0, x1, o0, o1 =>
    if 0 ≤ x0 ∧ x0 < (o0.length : Int) then
    if 0 ≤ x1 ∧ x1 < (o0.length : Int) then
    bif (decide ((rd o0 x1) < (rd o0 x0))) then
      if 0 ≤ x0 ∧ x0 < (o1.length : Int) then
      graph_Dominators_2.c2 k (rd o1 x0) x1 o0 o1
      else none
    else
    graph_Dominators_2.c4 k x0 x1 o0 o1
    else none
    else none
def graph_Dominators_2.c4 : Nat → Int → Int → (List Int) → (List Int) → Option (Int × Unit)
  | 0, _, _, _, _ => none
  | k + 1, x0, x1, o0, o1 =>
    if 0 ≤ x1 ∧ x1 < (o0.length : Int) then
    if 0 ≤ x0 ∧ x0 < (o0.length : Int) then
    bif (decide ((rd o0 x0) < (rd o0 x1))) then
      if 0 ≤ x1 ∧ x1 < (o1.length : Int) then
      graph_Dominators_2.c4 k x0 (rd o1 x1) o0 o1
      else none
    else
    graph_Dominators_2.c1 k x0 x1 o0 o1
    else none
    else none
end
def graph_Dominators_2.f (k : Nat) (x0 : Int) (x1 : Int) (o0 : (List Int)) (o1 : (List Int)) : Option (Int × Unit) :=
  graph_Dominators_2.c1 k x0 x1 o0 o1
mutual
def graph_Dominators.c4 : Nat → Int → Int → Int → Graph → (List (List Int)) → (List Int) → Option ((List Int))
  | 0, _, _, _, _, _, _ => none
  | k + 1, x1, x30, x31, o0, o2, o4 =>
    bif (decide (x31 < x30)) then
      if 0 ≤ x31 ∧ x31 < (o4.length : Int) then
      graph_Dominators.c4 k x1 x30 (w64 (x31 + 1)) o0 o2 (List.set o4 x31.toNat (-1))
      else none
    else
    bif (decide (x1 < 0)) then
      some o4
    else
    bif (decide ((o2.length : Int) ≤ x1)) then
      some o4
    else
    if 0 ≤ (o2.length : Int) ∧ (o2.length : Int) ≤ (o2.length : Int) ∧ (o2.length : Int) ≤ 1073741824 then
    (graph_reach.f k o2 x1 (-1)).bind fun y52 =>
    if 0 ≤ (o2.length : Int) ∧ (o2.length : Int) ≤ (o2.length : Int) ∧ (o2.length : Int) ≤ 1073741824 then
    if 0 ≤ (o2.length : Int) ∧ (o2.length : Int) ≤ (o2.length : Int) ∧ (o2.length : Int) ≤ 1073741824 then
    (graph_Dominators_1_i3.f k x1 o2 (List.replicate (o2.length : Int).toNat (false : Bool)) (List.replicate (o2.length : Int).toNat (0 : Int))).bind fun y62 =>
    (slices_Reverse_int_int_i1.f k y62.2.2.2.2.1).bind fun y64 =>
    graph_Dominators.c20 k x1 (y64.2.1.length : Int) 0 o0 y52 y64.2.1 o4 (List.replicate (o2.length : Int).toNat (0 : Int))
    else none
    else none
    else none
def graph_Dominators.c20 : Nat → Int → Int → Int → Graph → (List Bool) → (List Int) → (List Int) → (List Int) → Option ((List Int))
  | 0, _, _, _, _, _, _, _, _ => none
  | k + 1, x1, x66, x67, o0, o9, o14, o4, o6 =>
    bif (decide (x67 < x66)) then
      if 0 ≤ x67 ∧ x67 < (o14.length : Int) then
      if 0 ≤ (rd o14 x67) ∧ (rd o14 x67) < (o6.length : Int) then
      graph_Dominators.c20 k x1 x66 (w64 (x67 + 1)) o0 o9 o14 o4 (List.set o6 (rd o14 x67).toNat x67)
      else none
      else none
    else
    (graph_Turn.f k o0).bind fun y78 =>
    (graph_Next.f k ((Graph.N y78), (Graph.Links y78), ())).bind fun y79 =>
    if 0 ≤ x1 ∧ x1 < (o4.length : Int) then
    graph_Dominators.c28 k x1 y79 true o14 o9 (List.set o4 x1.toNat x1) o6
    else none
def graph_Dominators.c28 : Nat → Int → (List (List Int)) → Bool → (List Int) → (List Bool) → (List Int) → (List Int) → Option ((List Int))
  | 0, _, _, _, _, _, _, _ => none
  | k + 1, x1, x16, x18, o8, o9, o4, o6 =>
    bif x18 then
      if 0 ≤ (1 : Int) ∧ 1 ≤ (o8.length : Int) then
      graph_Dominators.c31 k x1 x16 false (List.drop (1 : Int).toNat o8) ((List.drop (1 : Int).toNat o8).length : Int) 0 o8 o9 o4 o6
      else none
    else
    if 0 ≤ x1 ∧ x1 < (o4.length : Int) then
    some (List.set o4 x1.toNat (-1))
    else none
def graph_Dominators.c31 : Nat → Int → (List (List Int)) → Bool → (List Int) → Int → Int → (List Int) → (List Bool) → (List Int) → (List Int) → Option ((List Int))
  | 0, _, _, _, _, _, _, _, _, _, _ => none
  | k + 1, x1, x16, x18, x87, x88, x89, o8, o9, o4, o6 =>
    bif (decide (x89 < x88)) then
      if 0 ≤ x89 ∧ x89 < (x87.length : Int) then
      if 0 ≤ (rd x87 x89) ∧ (rd x87 x89) < (x16.length : Int) then
      graph_Dominators.c35 k x1 x16 x18 (rd x87 x89) (-1) x87 x88 x89 (rd x16 (rd x87 x89)) ((rd x16 (rd x87 x89)).length : Int) 0 o8 o9 o4 o6
      else none
      else none
    else
    graph_Dominators.c28 k x1 x16 x18 o8 o9 o4 o6
def graph_Dominators.c35 : Nat → Int → (List (List Int)) → Bool → Int → Int → (List Int) → Int → Int → (List Int) → Int → Int → (List Int) → (List Bool) → (List Int) → (List Int) → Option ((List Int))
  | 0, _, _, _, _, _, _, _, _, _, _, _, _, _, _, _ => none
  | k + 1, x1, x16, x18, x20, x21, x87, x88, x89, x96, x97, x98, o8, o9, o4, o6 =>
    bif (decide (x98 < x97)) then
      if 0 ≤ x98 ∧ x98 < (x96.length : Int) then
      if 0 ≤ (rd x96 x98) ∧ (rd x96 x98) < (o9.length : Int) then
      bif (!(rd o9 (rd x96 x98))) then
        graph_Dominators.c35 k x1 x16 x18 x20 x21 x87 x88 x89 x96 x97 (w64 (x98 + 1)) o8 o9 o4 o6
      else
      if 0 ≤ (rd x96 x98) ∧ (rd x96 x98) < (o4.length : Int) then
      bif (decide ((rd o4 (rd x96 x98)) < 0)) then
        graph_Dominators.c35 k x1 x16 x18 x20 x21 x87 x88 x89 x96 x97 (w64 (x98 + 1)) o8 o9 o4 o6
      else
      bif (decide (x21 < 0)) then
        graph_Dominators.c35 k x1 x16 x18 x20 (rd x96 x98) x87 x88 x89 x96 x97 (w64 (x98 + 1)) o8 o9 o4 o6
      else
      (graph_Dominators_2.f k x21 (rd x96 x98) o6 o4).bind fun y105 =>
      graph_Dominators.c35 k x1 x16 x18 x20 y105.1 x87 x88 x89 x96 x97 (w64 (x98 + 1)) o8 o9 o4 o6
      else none
      else none
      else none
    else
    if 0 ≤ x20 ∧ x20 < (o4.length : Int) then
    bif (!decide ((rd o4 x20) = x21)) then
      if 0 ≤ x20 ∧ x20 < (o4.length : Int) then
      graph_Dominators.c31 k x1 x16 true x87 x88 (w64 (x89 + 1)) o8 o9 (List.set o4 x20.toNat x21) o6
      else none
    else
    graph_Dominators.c31 k x1 x16 x18 x87 x88 (w64 (x89 + 1)) o8 o9 o4 o6
    else none
end
def graph_Dominators.f (k : Nat) (a0 : Graph) (a1 : Int) : Option ((List Int)) :=
  (graph_Next.f k a0).bind fun y25 =>
  if 0 ≤ (y25.length : Int) ∧ (y25.length : Int) ≤ (y25.length : Int) ∧ (y25.length : Int) ≤ 1073741824 then
  graph_Dominators.c4 k a1 ((List.replicate (y25.length : Int).toNat (0 : Int)).length : Int) 0 a0 y25 (List.replicate (y25.length : Int).toNat (0 : Int))
  else none
mutual
def jacquardref02_Dominates.c5 : Nat → Int → Int → Int → (List (List Bool)) → (List Bool) → (List (List Bool)) → Option ((List (List Bool)))
  | 0, _, _, _, _, _, _ => none
  | k + 1, x1, x18, x19, o2, o3, o4 =>
    bif (decide (x19 < x18)) then
      if 0 ≤ (o2.length : Int) ∧ (o2.length : Int) ≤ (o2.length : Int) ∧ (o2.length : Int) ≤ 1073741824 then
      (jacquardref02_Closure.f k o2 x19).bind fun y27 =>
      jacquardref02_Dominates.c10 k x1 x19 x18 x19 (o2.length : Int) 0 o2 o3 o4 (List.replicate (o2.length : Int).toNat (false : Bool)) y27
      else none
    else
    some o4
def jacquardref02_Dominates.c10 : Nat → Int → Int → Int → Int → Int → Int → (List (List Bool)) → (List Bool) → (List (List Bool)) → (List Bool) → (List (List Bool)) → Option ((List (List Bool)))
  | 0, _, _, _, _, _, _, _, _, _, _, _ => none
  | k + 1, x1, x8, x18, x19, x29, x30, o2, o3, o4, o5, o6 =>
    bif (decide (x30 < x29)) then
      if 0 ≤ x30 ∧ x30 < (o3.length : Int) then
      bif (rd o3 x30) then
        if 0 ≤ x8 ∧ x8 < (o3.length : Int) then
        bif (rd o3 x8) then
          bif (decide (x8 = x30)) then
            if 0 ≤ x30 ∧ x30 < (o5.length : Int) then
            jacquardref02_Dominates.c10 k x1 x8 x18 x19 x29 (w64 (x30 + 1)) o2 o3 o4 (List.set o5 x30.toNat true) o6
            else none
          else
          bif (decide (x8 = x1)) then
            if 0 ≤ x30 ∧ x30 < (o5.length : Int) then
            jacquardref02_Dominates.c10 k x1 x8 x18 x19 x29 (w64 (x30 + 1)) o2 o3 o4 (List.set o5 x30.toNat true) o6
            else none
          else
          bif (!decide (x30 = x1)) then
            if 0 ≤ x1 ∧ x1 < (o6.length : Int) then
            if 0 ≤ x30 ∧ x30 < ((rd o6 x1).length : Int) then
            if 0 ≤ x30 ∧ x30 < (o5.length : Int) then
            jacquardref02_Dominates.c10 k x1 x8 x18 x19 x29 (w64 (x30 + 1)) o2 o3 o4 (List.set o5 x30.toNat (!(rd (rd o6 x1) x30))) o6
            else none
            else none
            else none
          else
          if 0 ≤ x30 ∧ x30 < (o5.length : Int) then
          jacquardref02_Dominates.c10 k x1 x8 x18 x19 x29 (w64 (x30 + 1)) o2 o3 o4 (List.set o5 x30.toNat false) o6
          else none
        else
        if 0 ≤ x30 ∧ x30 < (o5.length : Int) then
        jacquardref02_Dominates.c10 k x1 x8 x18 x19 x29 (w64 (x30 + 1)) o2 o3 o4 (List.set o5 x30.toNat false) o6
        else none
        else none
      else
      if 0 ≤ x30 ∧ x30 < (o5.length : Int) then
      jacquardref02_Dominates.c10 k x1 x8 x18 x19 x29 (w64 (x30 + 1)) o2 o3 o4 (List.set o5 x30.toNat false) o6
      else none
      else none
    else
    bif Nat.ble (List.length o4 + List.length [o5]) 1073741824 then
    jacquardref02_Dominates.c5 k x1 x18 (w64 (x19 + 1)) o2 o3 (o4 ++ [o5])
    else none
end
def jacquardref02_Dominates.f (k : Nat) (a0 : Graph) (a1 : Int) : Option ((List (List Bool))) :=
  (jacquardref02_Matrix.f k a0).bind fun y13 =>
  (jacquardref02_Reach.f k a0 a1).bind fun y16 =>
  jacquardref02_Dominates.c5 k a1 (y13.length : Int) 0 y13 y16 []
mutual
def jacquardref02_Dominators.c4 : Nat → Int → Int → Int → Int → Graph → (List Int) → Option ((List Int))
  | 0, _, _, _, _, _, _ => none
  | k + 1, x1, x5, x17, x18, o0, o2 =>
    bif (decide (x18 < x17)) then
      if 0 ≤ x18 ∧ x18 < (o2.length : Int) then
      jacquardref02_Dominators.c4 k x1 x5 x17 (w64 (x18 + 1)) o0 (List.set o2 x18.toNat (-1))
      else none
    else
    bif (decide (x1 < 0)) then
      some o2
    else
    bif (decide (x5 ≤ x1)) then
      some o2
    else
    (jacquardref02_Dominates.f k o0 x1).bind fun y35 =>
    jacquardref02_Dominators.c12 k x5 x5 0 o2 y35
def jacquardref02_Dominators.c12 : Nat → Int → Int → Int → (List Int) → (List (List Bool)) → Option ((List Int))
  | 0, _, _, _, _, _ => none
  | k + 1, x5, x36, x37, o2, o3 =>
    bif (decide (x37 < x36)) then
      jacquardref02_Dominators.c15 k x5 x37 x36 x37 x5 0 o2 o3
    else
    some o2
def jacquardref02_Dominators.c15 : Nat → Int → Int → Int → Int → Int → Int → (List Int) → (List (List Bool)) → Option ((List Int))
  | 0, _, _, _, _, _, _, _, _ => none
  | k + 1, x5, x9, x36, x37, x40, x41, o2, o3 =>
    bif (decide (x41 < x40)) then
      bif (decide (x41 = x9)) then
        jacquardref02_Dominators.c15 k x5 x9 x36 x37 x40 (w64 (x41 + 1)) o2 o3
      else
      if 0 ≤ x41 ∧ x41 < (o3.length : Int) then
      if 0 ≤ x9 ∧ x9 < ((rd o3 x41).length : Int) then
      bif (!(rd (rd o3 x41) x9)) then
        jacquardref02_Dominators.c15 k x5 x9 x36 x37 x40 (w64 (x41 + 1)) o2 o3
      else
      jacquardref02_Dominators.c20 k x5 x9 x41 true x36 x37 x40 x41 x5 0 o2 o3
      else none
      else none
    else
    jacquardref02_Dominators.c12 k x5 x36 (w64 (x37 + 1)) o2 o3
def jacquardref02_Dominators.c20 : Nat → Int → Int → Int → Bool → Int → Int → Int → Int → Int → Int → (List Int) → (List (List Bool)) → Option ((List Int))
  | 0, _, _, _, _, _, _, _, _, _, _, _, _ => none
  | k + 1, x5, x9, x10, x11, x36, x37, x40, x41, x57, x58, o2, o3 =>
    bif (decide (x58 < x57)) then
      bif (!decide (x58 = x9)) then
        if 0 ≤ x58 ∧ x58 < (o3.length : Int) then
        if 0 ≤ x9 ∧ x9 < ((rd o3 x58).length : Int) then
        bif (rd (rd o3 x58) x9) then
          if 0 ≤ x58 ∧ x58 < (o3.length : Int) then
          if 0 ≤ x10 ∧ x10 < ((rd o3 x58).length : Int) then
          bif (!(rd (rd o3 x58) x10)) then
            jacquardref02_Dominators.c20 k x5 x9 x10 false x36 x37 x40 x41 x57 (w64 (x58 + 1)) o2 o3
          else
          jacquardref02_Dominators.c20 k x5 x9 x10 x11 x36 x37 x40 x41 x57 (w64 (x58 + 1)) o2 o3
          else none
          else none
        else
        jacquardref02_Dominators.c20 k x5 x9 x10 x11 x36 x37 x40 x41 x57 (w64 (x58 + 1)) o2 o3
        else none
        else none
      else
      jacquardref02_Dominators.c20 k x5 x9 x10 x11 x36 x37 x40 x41 x57 (w64 (x58 + 1)) o2 o3
    else
    bif x11 then
      if 0 ≤ x9 ∧ x9 < (o2.length : Int) then
      jacquardref02_Dominators.c15 k x5 x9 x36 x37 x40 (w64 (x41 + 1)) (List.set o2 x9.toNat x10) o3
      else none
    else
    jacquardref02_Dominators.c15 k x5 x9 x36 x37 x40 (w64 (x41 + 1)) o2 o3
end
def jacquardref02_Dominators.f (k : Nat) (a0 : Graph) (a1 : Int) : Option ((List Int)) :=
  (jacquardref02_Nodes.f a0).bind fun y14 =>
  if 0 ≤ y14 ∧ y14 ≤ y14 ∧ y14 ≤ 1073741824 then
  jacquardref02_Dominators.c4 k a1 y14 y14 0 a0 (List.replicate y14.toNat (0 : Int))
  else none
def jacquardlaw02_GraphDominators.f (k : Nat) (a0 : Graph) (a1 : Int) : Option (Bool) :=
  (jacquardlaw02_awake.f k ).bind fun y5 =>
  bif (!y5) then
    (jacquardlaw02_awake.f k ).bind fun y12 =>
    some y12
  else
  (jacquardlaw02_few.f a0).bind fun y9 =>
  bif (!y9) then
    (jacquardlaw02_awake.f k ).bind fun y12 =>
    some y12
  else
  (graph_Dominators.f k a0 a1).bind fun y15 =>
  (jacquardref02_Dominators.f k a0 a1).bind fun y18 =>
  (jacquardlaw02_same.f k y15 y18).bind fun y19 =>
  some y19
end Go.Proofs.YtebekmcoeacdeaaV
