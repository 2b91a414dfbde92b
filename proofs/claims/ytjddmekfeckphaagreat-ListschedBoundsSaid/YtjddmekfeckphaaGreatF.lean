/- The functions, as plain functions: printed. -/
import Derived.Test.YtjddmekfeckphaaGreatVs
import Derived.Test.YtjddmekfeckphaaGreatVm7
import Derived.Test.YtjddmekfeckphaaGreatVm8
import Derived.Test.YtjddmekfeckphaaGreatPre02
set_option linter.unusedVariables false
set_option linter.unusedSimpArgs false
namespace Go.Proofs.YtjddmekfeckphaaGreatV
open Go Go.Vm
noncomputable section
def compactH.f (x : List Int) : Option (List Int × Unit) := bif Nat.ble (List.length x) 1073741824 then some (compactI x, ()) else none
namespace cmp_isNaN_int
def f (a0 : Int) : Option (Bool) :=
 some (!decide (a0 = a0))
end cmp_isNaN_int
namespace cmp_Compare_int
def f (a0 : Int) (a1 : Int) : Option (Int) :=
 (cmp_isNaN_int.f a0).bind fun y8 =>
 (cmp_isNaN_int.f a1).bind fun y10 =>
 bif y8 then
  bif y10 then
   some 0
  else
  some (-1)
 else
 bif y10 then
  some 1
 else
 bif (decide (a0 < a1)) then
  some (-1)
 else
 bif (decide (a1 < a0)) then
  some 1
 else
 some 0
end cmp_Compare_int
namespace cmp_Or_int
mutual
def c3 : Nat → Int → (List Int) → Int → Int → Option (Int)
  | 0, _, _, _, _ => none
  | k + 1, x3, x6, x7, x8 =>
  bif (decide (x8 < x7)) then
   if 0 ≤ x8 ∧ x8 < (x6.length : Int) then
   bif (!decide ((rd x6 x8) = x3)) then
    some (rd x6 x8)
   else
   c3 k x3 x6 x7 (w64 (x8 + 1))
   else none
  else
  some x3
end
def f (k : Nat) (a0 : (List Int)) : Option (Int) :=
 c3 k 0 a0 (a0.length : Int) 0
end cmp_Or_int
namespace graph_Turn_1
def f (k : Nat) (a0 : Link) (a1 : Link) : Option (Int) :=
 (cmp_Compare_int.f (Link.From a0) (Link.From a1)).bind fun y9 =>
 (cmp_Compare_int.f (Link.To a0) (Link.To a1)).bind fun y14 =>
 (cmp_Or_int.f k [y9, y14]).bind fun y16 =>
 some y16
end graph_Turn_1
namespace jacquardlaw32_triple
mutual
def c3 : Nat → Int → Int → Int → Bool → Int → Int → Bool → (List Arc) → (List Resource) → (List Need) → Option (Flow)
  | 0, _, _, _, _, _, _, _, _, _, _ => none
  | k + 1, x14, o0_0, o0_1, o0_2, o3_0, o3_1, o3_2, o1, o2, o8 =>
  bif (decide (x14 < 3)) then
   bif Nat.ble (List.length o1 + List.length [(x14, 4, 2, 0, ())]) 1073741824 then
   bif Nat.ble (List.length o8 + List.length [(0, 2, ())]) 1073741824 then
   c3 k (w64 (x14 + 1)) o0_0 o0_1 o0_2 o3_0 o3_1 o3_2 (o1 ++ [(x14, 4, 2, 0, ())]) o2 (o8 ++ [(0, 2, ())])
   else none
   else none
  else
  some (o3_0, o3_1, o3_2, o1, o2, o8, ())
end
def f (k : Nat) (a0 : Int) : Option (Flow) :=
 c3 k 0 0 0 false 3 0 false [(3, 0, 0, 0, ()), (3, 1, 0, 0, ()), (3, 2, 0, 0, ()), (3, 4, 0, 0, ())] [(1, 0, 0, a0, ())] []
end jacquardlaw32_triple
namespace dataflow_between
def f (a0 : Int) (a1 : Int) (a2 : Int) : Option (Bool) :=
 bif (decide (a1 ≤ a0)) then
  some (decide (a0 ≤ a2))
 else
 some false
end dataflow_between
namespace dataflow_Source
def f (a0 : Flow) : Option (Int) :=
 some (w64 ((Flow.Insts a0) + (Flow.Params a0)))
end dataflow_Source
namespace dataflow_End
def f (a0 : Flow) : Option (Int) :=
 some (w64 ((w64 ((Flow.Insts a0) + (Flow.Params a0))) + 1))
end dataflow_End
namespace dataflow_framed
mutual
def c5 : Nat → Int → Int → Int → Flow → Option (Bool)
  | 0, _, _, _, _ => none
  | k + 1, x3, x18, x19, o0 =>
  bif (decide (x19 < x18)) then
   bif (decide (x19 = x3)) then
    (dataflow_End.f o0).bind fun y27 =>
    c10 k x3 x19 y27 x18 x19 o0
   else
   c10 k x3 x19 x19 x18 x19 o0
  else
  c14 k x3 x3 0 o0
def c10 : Nat → Int → Int → Int → Int → Int → Flow → Option (Bool)
  | 0, _, _, _, _, _, _ => none
  | k + 1, x3, x4, x5, x18, x19, o0 =>
  if 0 ≤ x4 ∧ x4 < ((Flow.Arcs o0).length : Int) then
  bif (!eqB (Arc.T) (rd (Flow.Arcs o0) x4) (x3, x5, 0, 0, ())) then
   some false
  else
  c5 k x3 x18 (w64 (x19 + 1)) o0
  else none
def c14 : Nat → Int → Int → Int → Flow → Option (Bool)
  | 0, _, _, _, _ => none
  | k + 1, x3, x38, x39, o0 =>
  bif (decide (x39 < x38)) then
   if 0 ≤ (w64 ((w64 (x3 + 1)) + x39)) ∧ (w64 ((w64 (x3 + 1)) + x39)) < ((Flow.Arcs o0).length : Int) then
   bif (!decide ((Arc.From (rd (Flow.Arcs o0) (w64 ((w64 (x3 + 1)) + x39)))) = x39)) then
    some false
   else
   (dataflow_End.f o0).bind fun y58 =>
   bif (!decide ((Arc.To (rd (Flow.Arcs o0) (w64 ((w64 (x3 + 1)) + x39)))) = y58)) then
    some false
   else
   bif (!decide ((Arc.Dist (rd (Flow.Arcs o0) (w64 ((w64 (x3 + 1)) + x39)))) = 0)) then
    some false
   else
   bif (decide (x39 < (Flow.Insts o0))) then
    if 0 ≤ x39 ∧ x39 < ((Flow.Needs o0).length : Int) then
    bif (decide ((Arc.Lat (rd (Flow.Arcs o0) (w64 ((w64 (x3 + 1)) + x39)))) < (mx 1 (Need.Busy (rd (Flow.Needs o0) x39))))) then
     some false
    else
    c14 k x3 x38 (w64 (x39 + 1)) o0
    else none
   else
   c14 k x3 x38 (w64 (x39 + 1)) o0
   else none
  else
  some true
end
def f (k : Nat) (a0 : Flow) : Option (Bool) :=
 (dataflow_Source.f a0).bind fun y9 =>
 bif (decide (((Flow.Arcs a0).length : Int) < (w64 ((w64 (2 * y9)) + 1)))) then
  some false
 else
 c5 k y9 (w64 (y9 + 1)) 0 a0
end dataflow_framed
namespace dataflow_Valid
mutual
def c6 : Nat → Int → Flow → Option (Bool)
  | 0, _, _ => none
  | k + 1, x3, o0 =>
  c7 k x3 (Flow.Arcs o0) ((Flow.Arcs o0).length : Int) 0 o0
def c7 : Nat → Int → (List Arc) → Int → Int → Flow → Option (Bool)
  | 0, _, _, _, _, _ => none
  | k + 1, x3, x31, x32, x33, o0 =>
  bif (decide (x33 < x32)) then
   if 0 ≤ x33 ∧ x33 < (x31.length : Int) then
   (dataflow_Source.f o0).bind fun y40 =>
   (dataflow_between.f (Arc.From (rd x31 x33)) 0 y40).bind fun y41 =>
   bif (!y41) then
    some false
   else
   (dataflow_End.f o0).bind fun y47 =>
   (dataflow_between.f (Arc.To (rd x31 x33)) 0 y47).bind fun y48 =>
   bif (!y48) then
    some false
   else
   (dataflow_between.f (Arc.Lat (rd x31 x33)) 0 4096).bind fun y54 =>
   bif (!y54) then
    some false
   else
   (dataflow_between.f (Arc.Dist (rd x31 x33)) 0 x3).bind fun y61 =>
   bif (!y61) then
    some false
   else
   c7 k x3 x31 x32 (w64 (x33 + 1)) o0
   else none
  else
  c13 k (Flow.Res o0) ((Flow.Res o0).length : Int) 0 o0
def c13 : Nat → (List Resource) → Int → Int → Flow → Option (Bool)
  | 0, _, _, _, _ => none
  | k + 1, x66, x67, x68, o0 =>
  bif (decide (x68 < x67)) then
   if 0 ≤ x68 ∧ x68 < (x66.length : Int) then
   (dataflow_between.f (Resource.Kind (rd x66 x68)) 1 4).bind fun y74 =>
   bif (!y74) then
    some false
   else
   (dataflow_between.f (Resource.Count (rd x66 x68)) 1 1024).bind fun y79 =>
   bif (!y79) then
    some false
   else
   c13 k x66 x67 (w64 (x68 + 1)) o0
   else none
  else
  c19 k (Flow.Needs o0) ((Flow.Needs o0).length : Int) 0 o0
def c19 : Nat → (List Need) → Int → Int → Flow → Option (Bool)
  | 0, _, _, _, _ => none
  | k + 1, x84, x85, x86, o0 =>
  bif (decide (x86 < x85)) then
   if 0 ≤ x86 ∧ x86 < (x84.length : Int) then
   bif (decide ((Need.Res (rd x84 x86)) = (-1))) then
    bif (decide ((Need.Busy (rd x84 x86)) = 0)) then
     c19 k x84 x85 (w64 (x86 + 1)) o0
    else
    (dataflow_between.f (Need.Res (rd x84 x86)) 0 (w64 (((Flow.Res o0).length : Int) - 1))).bind fun y104 =>
    bif (!y104) then
     some false
    else
    (dataflow_between.f (Need.Busy (rd x84 x86)) 1 256).bind fun y109 =>
    bif (!y109) then
     some false
    else
    c19 k x84 x85 (w64 (x86 + 1)) o0
   else
   (dataflow_between.f (Need.Res (rd x84 x86)) 0 (w64 (((Flow.Res o0).length : Int) - 1))).bind fun y104 =>
   bif (!y104) then
    some false
   else
   (dataflow_between.f (Need.Busy (rd x84 x86)) 1 256).bind fun y109 =>
   bif (!y109) then
    some false
   else
   c19 k x84 x85 (w64 (x86 + 1)) o0
   else none
  else
  (dataflow_framed.f k o0).bind fun y114 =>
  some y114
end
def f (k : Nat) (a0 : Flow) : Option (Bool) :=
 (dataflow_between.f (Flow.Insts a0) 0 4096).bind fun y12 =>
 bif (!y12) then
  some false
 else
 (dataflow_between.f (Flow.Params a0) 0 4094).bind fun y17 =>
 bif (!y17) then
  some false
 else
 bif (!decide (((Flow.Needs a0).length : Int) = (Flow.Insts a0))) then
  some false
 else
 bif (Flow.Loop a0) then
  c6 k 256 a0
 else
 c6 k 0 a0
end dataflow_Valid
namespace dataflow_Nodes
def f (a0 : Flow) : Option (Int) :=
 some (w64 ((w64 ((Flow.Insts a0) + (Flow.Params a0))) + 2))
end dataflow_Nodes
namespace diffcons_limit
def f (a0 : Int) (a1 : Int) (a2 : Int) : Option (Int) :=
 some (mn (mx a0 a1) a2)
end diffcons_limit
namespace diffcons_nodes
def f (a0 : Int) : Option (Int) :=
 (diffcons_limit.f a0 0 8192).bind fun y4 =>
 some y4
end diffcons_nodes
namespace diffcons_bound
def f (a0 : (List Int)) (a1 : Int) : Option (Int) :=
 bif (decide ((a0.length : Int) ≤ a1)) then
  some 0
 else
 if 0 ≤ a1 ∧ a1 < (a0.length : Int) then
 (diffcons_limit.f (rd a0 a1) (-1073741824) 1073741824).bind fun y13 =>
 some y13
 else none
end diffcons_bound
namespace diffcons_within
def f (a0 : Arc) (a1 : Int) : Option (Bool) :=
 bif (decide (0 ≤ (Arc.From a0))) then
  bif (decide ((Arc.From a0) < a1)) then
   bif (decide (0 ≤ (Arc.To a0))) then
    some (decide ((Arc.To a0) < a1))
   else
   some false
  else
  some false
 else
 some false
end diffcons_within
namespace diffcons_Weight
def f (a0 : Arc) (a1 : Int) : Option (Int) :=
 (diffcons_limit.f (Arc.Lat a0) (-1048576) 1048576).bind fun y7 =>
 (diffcons_limit.f a1 0 256).bind fun y9 =>
 (diffcons_limit.f (Arc.Dist a0) (-1048576) 1048576).bind fun y12 =>
 some (w64 (y7 - (w64 (y9 * y12))))
end diffcons_Weight
namespace slices_Reverse_int_int
mutual
def c1 : Nat → Int → Int → (List Int) → Option (Unit × (List Int) × Unit)
  | 0, _, _, _ => none
  | k + 1, x2, x3, o0 =>
  bif (decide (x2 < x3)) then
   if 0 ≤ x3 ∧ x3 < (o0.length : Int) then
   if 0 ≤ x2 ∧ x2 < (o0.length : Int) then
   if 0 ≤ x2 ∧ x2 < (o0.length : Int) then
   if 0 ≤ x3 ∧ x3 < ((List.set o0 x2.toNat (rd o0 x3)).length : Int) then
   c1 k (w64 (x2 + 1)) (w64 (x3 - 1)) (List.set (List.set o0 x2.toNat (rd o0 x3)) x3.toNat (rd o0 x2))
   else none
   else none
   else none
   else none
  else
  some ((()), o0, ())
end
def f (k : Nat) (o0 : (List Int)) : Option (Unit × (List Int) × Unit) :=
 c1 k 0 (w64 ((o0.length : Int) - 1)) o0
end slices_Reverse_int_int
namespace diffcons_around
mutual
def c2 : Nat → (List Arc) → (List Int) → Int → Int → Int → Option ((Option (List Int)))
  | 0, _, _, _, _, _ => none
  | k + 1, x0, x1, x2, x11, x12 =>
  bif (decide (x12 < x11)) then
   if 0 ≤ x2 ∧ x2 < (x1.length : Int) then
   bif (decide ((rd x1 x2) < 0)) then
    c6 k x0 x1 x2
   else
   if 0 ≤ x2 ∧ x2 < (x1.length : Int) then
   if 0 ≤ (rd x1 x2) ∧ (rd x1 x2) < (x0.length : Int) then
   c2 k x0 x1 (Arc.From (rd x0 (rd x1 x2))) x11 (w64 (x12 + 1))
   else none
   else none
   else none
  else
  c6 k x0 x1 x2
def c6 : Nat → (List Arc) → (List Int) → Int → Option ((Option (List Int)))
  | 0, _, _, _ => none
  | k + 1, x0, x1, x2 =>
  c8 k x0 x1 x2 x2 []
def c8 : Nat → (List Arc) → (List Int) → Int → Int → (List Int) → Option ((Option (List Int)))
  | 0, _, _, _, _, _ => none
  | k + 1, x0, x1, x2, x10, o0 =>
  if 0 ≤ x10 ∧ x10 < (x1.length : Int) then
  bif Nat.ble (List.length o0 + List.length [(rd x1 x10)]) 1073741824 then
  if 0 ≤ x10 ∧ x10 < (x1.length : Int) then
  if 0 ≤ (rd x1 x10) ∧ (rd x1 x10) < (x0.length : Int) then
  bif (decide ((Arc.From (rd x0 (rd x1 x10))) = x2)) then
   (slices_Reverse_int_int.f k (o0 ++ [(rd x1 x10)])).bind fun y48 =>
   some (some y48.2.1)
  else
  c8 k x0 x1 x2 (Arc.From (rd x0 (rd x1 x10))) (o0 ++ [(rd x1 x10)])
  else none
  else none
  else none
  else none
end
def f (k : Nat) (a0 : (List Arc)) (a1 : (List Int)) (a2 : Int) (a3 : Int) : Option ((Option (List Int))) :=
 c2 k a0 a1 a2 a3 0
end diffcons_around
namespace diffcons_After
mutual
def c5 : Nat → Int → (List Arc) → Int → (List Int) → Int → Int → (List Int) → (List Int) → Option (((List Int) × (Option (List Int)) × Unit))
  | 0, _, _, _, _, _, _, _, _ => none
  | k + 1, x0, x1, x2, x3, x24, x25, o1, o2 =>
  bif (decide (x25 < x24)) then
   (diffcons_bound.f x3 x25).bind fun y32 =>
   if 0 ≤ x25 ∧ x25 < (o1.length : Int) then
   if 0 ≤ x25 ∧ x25 < (o2.length : Int) then
   c5 k x0 x1 x2 x3 x24 (w64 (x25 + 1)) (List.set o1 x25.toNat y32) (List.set o2 x25.toNat (-1))
   else none
   else none
  else
  c12 k x0 x1 x2 0 o1 o2
def c12 : Nat → Int → (List Arc) → Int → Int → (List Int) → (List Int) → Option (((List Int) × (Option (List Int)) × Unit))
  | 0, _, _, _, _, _, _ => none
  | k + 1, x0, x1, x2, x12, o1, o2 =>
  c14 k x0 x1 x2 x12 (-1) x1 (x1.length : Int) 0 o1 o2
def c14 : Nat → Int → (List Arc) → Int → Int → Int → (List Arc) → Int → Int → (List Int) → (List Int) → Option (((List Int) × (Option (List Int)) × Unit))
  | 0, _, _, _, _, _, _, _, _, _, _ => none
  | k + 1, x0, x1, x2, x12, x13, x40, x41, x42, o1, o2 =>
  bif (decide (x42 < x41)) then
   if 0 ≤ x42 ∧ x42 < (x40.length : Int) then
   (diffcons_within.f (rd x40 x42) x0).bind fun y49 =>
   bif (!y49) then
    c14 k x0 x1 x2 x12 x13 x40 x41 (w64 (x42 + 1)) o1 o2
   else
   if 0 ≤ (Arc.From (rd x40 x42)) ∧ (Arc.From (rd x40 x42)) < (o1.length : Int) then
   (diffcons_Weight.f (rd x40 x42) x2).bind fun y58 =>
   if 0 ≤ (Arc.To (rd x40 x42)) ∧ (Arc.To (rd x40 x42)) < (o1.length : Int) then
   bif (decide ((rd o1 (Arc.To (rd x40 x42))) < (w64 ((rd o1 (Arc.From (rd x40 x42))) + y58)))) then
    if 0 ≤ (Arc.To (rd x40 x42)) ∧ (Arc.To (rd x40 x42)) < (o1.length : Int) then
    if 0 ≤ (Arc.To (rd x40 x42)) ∧ (Arc.To (rd x40 x42)) < (o2.length : Int) then
    c14 k x0 x1 x2 x12 (Arc.To (rd x40 x42)) x40 x41 (w64 (x42 + 1)) (List.set o1 (Arc.To (rd x40 x42)).toNat (w64 ((rd o1 (Arc.From (rd x40 x42))) + y58))) (List.set o2 (Arc.To (rd x40 x42)).toNat x42)
    else none
    else none
   else
   c14 k x0 x1 x2 x12 x13 x40 x41 (w64 (x42 + 1)) o1 o2
   else none
   else none
   else none
  else
  bif (decide (x13 < 0)) then
   some (o1, none, ())
  else
  bif (decide (x0 ≤ x12)) then
   (diffcons_around.f k x1 o2 x13 x0).bind fun y90 =>
   bif (Option.isSome y90) then
    some ([], (some (Option.getD y90 [])), ())
   else
   some ([], none, ())
  else
  c12 k x0 x1 x2 (w64 (x12 + 1)) o1 o2
end
def f (k : Nat) (a0 : Int) (a1 : (List Arc)) (a2 : Int) (a3 : (List Int)) : Option (((List Int) × (Option (List Int)) × Unit)) :=
 (diffcons_nodes.f a0).bind fun y18 =>
 if 0 ≤ y18 ∧ y18 ≤ y18 ∧ y18 ≤ 1073741824 then
 if 0 ≤ y18 ∧ y18 ≤ y18 ∧ y18 ≤ 1073741824 then
 c5 k y18 a1 a2 a3 ((List.replicate y18.toNat (0 : Int)).length : Int) 0 (List.replicate y18.toNat (0 : Int)) (List.replicate y18.toNat (0 : Int))
 else none
 else none
end diffcons_After
namespace diffcons_Earliest
def f (k : Nat) (a0 : Int) (a1 : (List Arc)) (a2 : Int) : Option (((List Int) × (Option (List Int)) × Unit)) :=
 (diffcons_After.f k a0 a1 a2 []).bind fun y11 =>
 bif (Option.isSome y11.2.1) then
  some (y11.1, (some (Option.getD y11.2.1 [])), ())
 else
 some (y11.1, none, ())
end diffcons_Earliest
namespace graph_size
def f (a0 : Graph) : Option (Int) :=
 some (mn (mx (Graph.N a0) 0) 20000)
end graph_size
namespace graph_Next
mutual
def c4 : Nat → Int → (List Link) → Int → Int → (List (List Int)) → Option ((List (List Int)))
  | 0, _, _, _, _, _ => none
  | k + 1, x3, x13, x14, x15, o2 =>
  bif (decide (x15 < x14)) then
   if 0 ≤ x15 ∧ x15 < (x13.length : Int) then
   bif (decide (0 ≤ (Link.From (rd x13 x15)))) then
    bif (decide ((Link.From (rd x13 x15)) < x3)) then
     bif (decide (0 ≤ (Link.To (rd x13 x15)))) then
      bif (decide ((Link.To (rd x13 x15)) < x3)) then
       if 0 ≤ (Link.From (rd x13 x15)) ∧ (Link.From (rd x13 x15)) < (o2.length : Int) then
       bif Nat.ble (List.length (rd o2 (Link.From (rd x13 x15))) + List.length [(Link.To (rd x13 x15))]) 1073741824 then
       if 0 ≤ (Link.From (rd x13 x15)) ∧ (Link.From (rd x13 x15)) < (o2.length : Int) then
       if (Link.From (rd x13 x15)).toNat = (Link.From (rd x13 x15)).toNat then
       c4 k x3 x13 x14 (w64 (x15 + 1)) (List.set o2 (Link.From (rd x13 x15)).toNat ((rd o2 (Link.From (rd x13 x15))) ++ [(Link.To (rd x13 x15))]))
       else none
       else none
       else none
       else none
      else
      c4 k x3 x13 x14 (w64 (x15 + 1)) o2
     else
     c4 k x3 x13 x14 (w64 (x15 + 1)) o2
    else
    c4 k x3 x13 x14 (w64 (x15 + 1)) o2
   else
   c4 k x3 x13 x14 (w64 (x15 + 1)) o2
   else none
  else
  c10 k (o2.length : Int) 0 o2
def c10 : Nat → Int → Int → (List (List Int)) → Option ((List (List Int)))
  | 0, _, _, _ => none
  | k + 1, x54, x55, o2 =>
  bif (decide (x55 < x54)) then
   if 0 ≤ x55 ∧ x55 < (o2.length : Int) then
   bif Nat.ble (List.length (rd o2 x55)) 1073741824 then
   if 0 ≤ x55 ∧ x55 < ((List.set o2 x55.toNat (sortI (rd o2 x55))).length : Int) then
   (compactH.f (rd (List.set o2 x55.toNat (sortI (rd o2 x55))) x55)).bind fun y69 =>
   if 0 ≤ x55 ∧ x55 < ((List.set o2 x55.toNat (sortI (rd o2 x55))).length : Int) then
   if x55.toNat = x55.toNat then
   c10 k x54 (w64 (x55 + 1)) (List.set (List.set o2 x55.toNat (sortI (rd o2 x55))) x55.toNat y69.1)
   else none
   else none
   else none
   else none
   else none
  else
  some o2
end
def f (k : Nat) (a0 : Graph) : Option ((List (List Int))) :=
 (graph_size.f a0).bind fun y9 =>
 if 0 ≤ y9 ∧ y9 ≤ y9 ∧ y9 ≤ 1073741824 then
 c4 k y9 (Graph.Links a0) ((Graph.Links a0).length : Int) 0 (List.replicate y9.toNat ([] : (List Int)))
 else none
end graph_Next
namespace graph_finished
mutual
def c5 : Nat → (List (List Int)) → Int → Int → (List Bool) → (List Int) → (List Int) → Option ((List Int))
  | 0, _, _, _, _, _, _ => none
  | k + 1, x0, x17, x18, o1, o2, o3 =>
  bif (decide (x18 < x17)) then
   if 0 ≤ x18 ∧ x18 < (o1.length : Int) then
   bif (rd o1 x18) then
    c5 k x0 x17 (w64 (x18 + 1)) o1 o2 o3
   else
   if 0 ≤ x18 ∧ x18 < (o1.length : Int) then
   c10 k x0 x17 x18 (List.set o1 x18.toNat true) o2 o3 [x18]
   else none
   else none
  else
  some o3
def c10 : Nat → (List (List Int)) → Int → Int → (List Bool) → (List Int) → (List Int) → (List Int) → Option ((List Int))
  | 0, _, _, _, _, _, _, _ => none
  | k + 1, x0, x17, x18, o1, o2, o3, o4 =>
  bif (decide (0 < (o4.length : Int))) then
   if 0 ≤ (w64 ((o4.length : Int) - 1)) ∧ (w64 ((o4.length : Int) - 1)) < (o4.length : Int) then
   if 0 ≤ (rd o4 (w64 ((o4.length : Int) - 1))) ∧ (rd o4 (w64 ((o4.length : Int) - 1))) < (o2.length : Int) then
   if 0 ≤ (rd o4 (w64 ((o4.length : Int) - 1))) ∧ (rd o4 (w64 ((o4.length : Int) - 1))) < (x0.length : Int) then
   bif (decide ((rd o2 (rd o4 (w64 ((o4.length : Int) - 1)))) = ((rd x0 (rd o4 (w64 ((o4.length : Int) - 1)))).length : Int))) then
    bif Nat.ble (List.length o3 + List.length [(rd o4 (w64 ((o4.length : Int) - 1)))]) 1073741824 then
    if 0 ≤ (w64 ((o4.length : Int) - 1)) ∧ (w64 ((o4.length : Int) - 1)) ≤ (o4.length : Int) then
    c10 k x0 x17 x18 o1 o2 (o3 ++ [(rd o4 (w64 ((o4.length : Int) - 1)))]) (List.take (w64 ((o4.length : Int) - 1)).toNat o4)
    else none
    else none
   else
   if 0 ≤ (rd o4 (w64 ((o4.length : Int) - 1))) ∧ (rd o4 (w64 ((o4.length : Int) - 1))) < (x0.length : Int) then
   if 0 ≤ (rd o4 (w64 ((o4.length : Int) - 1))) ∧ (rd o4 (w64 ((o4.length : Int) - 1))) < (o2.length : Int) then
   if 0 ≤ (rd o2 (rd o4 (w64 ((o4.length : Int) - 1)))) ∧ (rd o2 (rd o4 (w64 ((o4.length : Int) - 1)))) < ((rd x0 (rd o4 (w64 ((o4.length : Int) - 1)))).length : Int) then
   if 0 ≤ (rd o4 (w64 ((o4.length : Int) - 1))) ∧ (rd o4 (w64 ((o4.length : Int) - 1))) < (o2.length : Int) then
   if 0 ≤ (rd o4 (w64 ((o4.length : Int) - 1))) ∧ (rd o4 (w64 ((o4.length : Int) - 1))) < (o2.length : Int) then
   if 0 ≤ (rd (rd x0 (rd o4 (w64 ((o4.length : Int) - 1)))) (rd o2 (rd o4 (w64 ((o4.length : Int) - 1))))) ∧ (rd (rd x0 (rd o4 (w64 ((o4.length : Int) - 1)))) (rd o2 (rd o4 (w64 ((o4.length : Int) - 1))))) < (o1.length : Int) then
   bif (!(rd o1 (rd (rd x0 (rd o4 (w64 ((o4.length : Int) - 1)))) (rd o2 (rd o4 (w64 ((o4.length : Int) - 1))))))) then
    if 0 ≤ (rd (rd x0 (rd o4 (w64 ((o4.length : Int) - 1)))) (rd o2 (rd o4 (w64 ((o4.length : Int) - 1))))) ∧ (rd (rd x0 (rd o4 (w64 ((o4.length : Int) - 1)))) (rd o2 (rd o4 (w64 ((o4.length : Int) - 1))))) < (o1.length : Int) then
    bif Nat.ble (List.length o4 + List.length [(rd (rd x0 (rd o4 (w64 ((o4.length : Int) - 1)))) (rd o2 (rd o4 (w64 ((o4.length : Int) - 1)))))]) 1073741824 then
    c10 k x0 x17 x18 (List.set o1 (rd (rd x0 (rd o4 (w64 ((o4.length : Int) - 1)))) (rd o2 (rd o4 (w64 ((o4.length : Int) - 1))))).toNat true) (List.set o2 (rd o4 (w64 ((o4.length : Int) - 1))).toNat (w64 ((rd o2 (rd o4 (w64 ((o4.length : Int) - 1)))) + 1))) o3 (o4 ++ [(rd (rd x0 (rd o4 (w64 ((o4.length : Int) - 1)))) (rd o2 (rd o4 (w64 ((o4.length : Int) - 1)))))])
    else none
    else none
   else
   c10 k x0 x17 x18 o1 (List.set o2 (rd o4 (w64 ((o4.length : Int) - 1))).toNat (w64 ((rd o2 (rd o4 (w64 ((o4.length : Int) - 1)))) + 1))) o3 o4
   else none
   else none
   else none
   else none
   else none
   else none
   else none
   else none
   else none
  else
  c5 k x0 x17 (w64 (x18 + 1)) o1 o2 o3
end
def f (k : Nat) (a0 : (List (List Int))) : Option ((List Int)) :=
 if 0 ≤ (a0.length : Int) ∧ (a0.length : Int) ≤ (a0.length : Int) ∧ (a0.length : Int) ≤ 1073741824 then
 if 0 ≤ (a0.length : Int) ∧ (a0.length : Int) ≤ (a0.length : Int) ∧ (a0.length : Int) ≤ 1073741824 then
 c5 k a0 (a0.length : Int) 0 (List.replicate (a0.length : Int).toNat (false : Bool)) (List.replicate (a0.length : Int).toNat (0 : Int)) []
 else none
 else none
end graph_finished
namespace graph_Turn
mutual
def c3 : Nat → (List (List Int)) → Int → Int → Int → Int → (List Link) → Option (Graph)
  | 0, _, _, _, _, _, _ => none
  | k + 1, x12, x13, x14, o1_0, o2_0, o7 =>
  bif (decide (x14 < x13)) then
   if 0 ≤ x14 ∧ x14 < (x12.length : Int) then
   c6 k x14 x12 x13 x14 (rd x12 x14) ((rd x12 x14).length : Int) 0 o1_0 o2_0 o7
   else none
  else
  bif Nat.ble (List.length o7) 1073741824 then
  some (o2_0, (sortgraph_Turn_1 o7), ())
  else none
def c6 : Nat → Int → (List (List Int)) → Int → Int → (List Int) → Int → Int → Int → Int → (List Link) → Option (Graph)
  | 0, _, _, _, _, _, _, _, _, _, _ => none
  | k + 1, x4, x12, x13, x14, x19, x20, x21, o1_0, o2_0, o6 =>
  bif (decide (x21 < x20)) then
   if 0 ≤ x21 ∧ x21 < (x19.length : Int) then
   bif Nat.ble (List.length o6 + List.length [((rd x19 x21), x4, ())]) 1073741824 then
   c6 k x4 x12 x13 x14 x19 x20 (w64 (x21 + 1)) o1_0 o2_0 (o6 ++ [((rd x19 x21), x4, ())])
   else none
   else none
  else
  c3 k x12 x13 (w64 (x14 + 1)) o1_0 o2_0 o6
end
def f (k : Nat) (a0 : Graph) : Option (Graph) :=
 (graph_size.f a0).bind fun y9 =>
 (graph_Next.f k a0).bind fun y12 =>
 c3 k y12 (y12.length : Int) 0 0 y9 []
end graph_Turn
namespace slices_Min_int_int
mutual
def c3 : Nat → (List Int) → Option (Int)
  | 0, _ => none
  | k + 1, x0 =>
  if 0 ≤ (0 : Int) ∧ 0 < (x0.length : Int) then
  c5 k x0 (rd x0 0) 1
  else none
def c5 : Nat → (List Int) → Int → Int → Option (Int)
  | 0, _, _, _ => none
  | k + 1, x0, x3, x4 =>
  bif (decide (x4 < (x0.length : Int))) then
   if 0 ≤ x4 ∧ x4 < (x0.length : Int) then
   c5 k x0 (mn x3 (rd x0 x4)) (w64 (x4 + 1))
   else none
  else
  some x3
end
def f (k : Nat) (a0 : (List Int)) : Option (Int) :=
 bif (decide ((a0.length : Int) < 1)) then
  none
 else
 c3 k a0
end slices_Min_int_int
namespace graph_Components
mutual
def b.c15 : Nat → Int → Int → (List (List Int)) → (List Int) → (List Int) → Option ((List (List Int)) × Unit × (List Int) × Unit)
  | 0, _, _, _, _, _ => none
  | k + 1, x8, x10, o6, o7, o9 =>
  bif (decide (x10 < (o9.length : Int))) then
   if 0 ≤ x10 ∧ x10 < (o9.length : Int) then
   if 0 ≤ (rd o9 x10) ∧ (rd o9 x10) < (o6.length : Int) then
   b.c18 k x8 x10 (rd o6 (rd o9 x10)) ((rd o6 (rd o9 x10)).length : Int) 0 o6 o7 o9
   else none
   else none
  else
  (slices_Min_int_int.f k o9).bind fun y82 =>
  b.c26 k y82 (o9.length : Int) 0 o6 o7 o9
def b.c18 : Nat → Int → Int → (List Int) → Int → Int → (List (List Int)) → (List Int) → (List Int) → Option ((List (List Int)) × Unit × (List Int) × Unit)
  | 0, _, _, _, _, _, _, _, _ => none
  | k + 1, x8, x10, x61, x62, x63, o6, o7, o9 =>
  bif (decide (x63 < x62)) then
   if 0 ≤ x63 ∧ x63 < (x61.length : Int) then
   if 0 ≤ (rd x61 x63) ∧ (rd x61 x63) < (o7.length : Int) then
   bif (decide ((rd o7 (rd x61 x63)) < 0)) then
    if 0 ≤ (rd x61 x63) ∧ (rd x61 x63) < (o7.length : Int) then
    bif Nat.ble (List.length o9 + List.length [(rd x61 x63)]) 1073741824 then
    b.c18 k x8 x10 x61 x62 (w64 (x63 + 1)) o6 (List.set o7 (rd x61 x63).toNat x8) (o9 ++ [(rd x61 x63)])
    else none
    else none
   else
   b.c18 k x8 x10 x61 x62 (w64 (x63 + 1)) o6 o7 o9
   else none
   else none
  else
  b.c15 k x8 (w64 (x10 + 1)) o6 o7 o9
def b.c26 : Nat → Int → Int → Int → (List (List Int)) → (List Int) → (List Int) → Option ((List (List Int)) × Unit × (List Int) × Unit)
  | 0, _, _, _, _, _, _ => none
  | k + 1, x13, x84, x85, o6, o7, o9 =>
  bif (decide (x85 < x84)) then
   if 0 ≤ x85 ∧ x85 < (o9.length : Int) then
   if 0 ≤ (rd o9 x85) ∧ (rd o9 x85) < (o7.length : Int) then
   b.c26 k x13 x84 (w64 (x85 + 1)) o6 (List.set o7 (rd o9 x85).toNat x13) o9
   else none
   else none
  else
  some (o6, (), o7, ())
end
def b.f (k : Nat) (x36 : Int) (x37 : Int) (x8 : Int) (o6 : (List (List Int))) (o7 : (List Int)) : Option ((List (List Int)) × Unit × (List Int) × Unit) :=
 if 0 ≤ x8 ∧ x8 < (o7.length : Int) then
 bif (decide (0 ≤ (rd o7 x8))) then
  some (o6, (), o7, ())
 else
 if 0 ≤ x8 ∧ x8 < (o7.length : Int) then
 b.c15 k x8 0 o6 (List.set o7 x8.toNat x8) [x8]
 else none
 else none
def t9 (o6 : (List (List Int))) (o7 : (List Int)) : Option ((List Int)) :=
 some o7
def rf (k : Nat) (d : (List (List Int)) × Unit × (List Int) × Unit) (i v : Int) : Option ((List (List Int)) × Unit × (List Int) × Unit) := b.f k i v v d.1 d.2.2.1
def c9 (k : Nat) (x3 : (List Int)) (o6 : (List (List Int))) (o7 : (List Int)) : Option ((List Int)) := bif Nat.ble x3.length 1073741824 then (Vm.rst (rf k) x3 x3.length (o6, (), o7, ())).bind fun d => t9 d.1 d.2.2.1 else none
mutual
def c5 : Nat → Int → Int → (List Int) → (List (List Int)) → (List Int) → Option ((List Int))
  | 0, _, _, _, _, _ => none
  | k + 1, x26, x27, o3, o5, o7 =>
  bif (decide (x27 < x26)) then
   if 0 ≤ x27 ∧ x27 < (o7.length : Int) then
   c5 k x26 (w64 (x27 + 1)) o3 o5 (List.set o7 x27.toNat (-1))
   else none
  else
  c9 k o3 o5 o7
end
def f (k : Nat) (a0 : Graph) : Option ((List Int)) :=
 (graph_Next.f k a0).bind fun y17 =>
 (graph_finished.f k y17).bind fun y18 =>
 (graph_Turn.f k a0).bind fun y20 =>
 (graph_Next.f k ((Graph.N y20), (Graph.Links y20), ())).bind fun y21 =>
 if 0 ≤ (y18.length : Int) ∧ (y18.length : Int) ≤ (y18.length : Int) ∧ (y18.length : Int) ≤ 1073741824 then
 c5 k ((List.replicate (y18.length : Int).toNat (0 : Int)).length : Int) 0 y18 y21 (List.replicate (y18.length : Int).toNat (0 : Int))
 else none
end graph_Components
namespace listsched_tangled_1
def f (x0 : Int) (o1 : (List (Int × Int))) : Option (Bool × (List (Int × Int)) × Unit) :=
 some ((decide (1 < (Option.getD (mpGet o1 x0) (0 : Int)))), o1, ())
end listsched_tangled_1
namespace slices_IndexFunc_int_int
mutual
def c2 : Nat → (List Int) → Int → Int → (List (Int × Int)) → Option (Int × (List (Int × Int)) × Unit)
  | 0, _, _, _, _ => none
  | k + 1, x0, x7, x8, o1 =>
  bif (decide (x8 < x7)) then
   if 0 ≤ x8 ∧ x8 < (x0.length : Int) then
   (listsched_tangled_1.f (rd x0 x8) o1).bind fun y16 =>
   bif y16.1 then
    some (x8, y16.2.1, ())
   else
   c2 k x0 x7 (w64 (x8 + 1)) y16.2.1
   else none
  else
  some ((-1), o1, ())
end
def f (k : Nat) (x0 : (List Int)) (o1 : (List (Int × Int))) : Option (Int × (List (Int × Int)) × Unit) :=
 c2 k x0 (x0.length : Int) 0 o1
end slices_IndexFunc_int_int
namespace slices_ContainsFunc_int_int
def f (k : Nat) (x0 : (List Int)) (o1 : (List (Int × Int))) : Option (Bool × (List (Int × Int)) × Unit) :=
 (slices_IndexFunc_int_int.f k x0 o1).bind fun y7 =>
 some ((decide (0 ≤ y7.1)), y7.2.1, ())
end slices_ContainsFunc_int_int
namespace listsched_tangled
mutual
def c3 : Nat → (List Arc) → Int → Int → Flow → Int → (List Link) → Option (Bool)
  | 0, _, _, _, _, _, _ => none
  | k + 1, x14, x15, x16, o0, o1_0, o8 =>
  bif (decide (x16 < x15)) then
   if 0 ≤ x16 ∧ x16 < (x14.length : Int) then
   bif (decide ((Arc.From (rd x14 x16)) < (Flow.Insts o0))) then
    bif (decide ((Flow.Insts o0) ≤ (Arc.To (rd x14 x16)))) then
     (dataflow_Source.f o0).bind fun y36 =>
     bif (decide ((Arc.To (rd x14 x16)) ≤ y36)) then
      some true
     else
     bif (decide ((Arc.From (rd x14 x16)) = (Arc.To (rd x14 x16)))) then
      bif (decide ((Arc.From (rd x14 x16)) < (Flow.Insts o0))) then
       some true
      else
      bif Nat.ble (List.length o8 + List.length [((Arc.From (rd x14 x16)), (Arc.To (rd x14 x16)), ())]) 1073741824 then
      c3 k x14 x15 (w64 (x16 + 1)) o0 o1_0 (o8 ++ [((Arc.From (rd x14 x16)), (Arc.To (rd x14 x16)), ())])
      else none
     else
     bif Nat.ble (List.length o8 + List.length [((Arc.From (rd x14 x16)), (Arc.To (rd x14 x16)), ())]) 1073741824 then
     c3 k x14 x15 (w64 (x16 + 1)) o0 o1_0 (o8 ++ [((Arc.From (rd x14 x16)), (Arc.To (rd x14 x16)), ())])
     else none
    else
    bif (decide ((Arc.From (rd x14 x16)) = (Arc.To (rd x14 x16)))) then
     bif (decide ((Arc.From (rd x14 x16)) < (Flow.Insts o0))) then
      some true
     else
     bif Nat.ble (List.length o8 + List.length [((Arc.From (rd x14 x16)), (Arc.To (rd x14 x16)), ())]) 1073741824 then
     c3 k x14 x15 (w64 (x16 + 1)) o0 o1_0 (o8 ++ [((Arc.From (rd x14 x16)), (Arc.To (rd x14 x16)), ())])
     else none
    else
    bif Nat.ble (List.length o8 + List.length [((Arc.From (rd x14 x16)), (Arc.To (rd x14 x16)), ())]) 1073741824 then
    c3 k x14 x15 (w64 (x16 + 1)) o0 o1_0 (o8 ++ [((Arc.From (rd x14 x16)), (Arc.To (rd x14 x16)), ())])
    else none
   else
   bif (decide ((Arc.From (rd x14 x16)) = (Arc.To (rd x14 x16)))) then
    bif (decide ((Arc.From (rd x14 x16)) < (Flow.Insts o0))) then
     some true
    else
    bif Nat.ble (List.length o8 + List.length [((Arc.From (rd x14 x16)), (Arc.To (rd x14 x16)), ())]) 1073741824 then
    c3 k x14 x15 (w64 (x16 + 1)) o0 o1_0 (o8 ++ [((Arc.From (rd x14 x16)), (Arc.To (rd x14 x16)), ())])
    else none
   else
   bif Nat.ble (List.length o8 + List.length [((Arc.From (rd x14 x16)), (Arc.To (rd x14 x16)), ())]) 1073741824 then
   c3 k x14 x15 (w64 (x16 + 1)) o0 o1_0 (o8 ++ [((Arc.From (rd x14 x16)), (Arc.To (rd x14 x16)), ())])
   else none
   else none
  else
  (graph_Components.f k (o1_0, o8, ())).bind fun y65 =>
  c12 k (y65.length : Int) 0 o0 y65 ([] : List (Int × Int))
def c12 : Nat → Int → Int → Flow → (List Int) → (List (Int × Int)) → Option (Bool)
  | 0, _, _, _, _, _ => none
  | k + 1, x68, x69, o0, o5, o6 =>
  bif (decide (x69 < x68)) then
   if 0 ≤ x69 ∧ x69 < (o5.length : Int) then
   c12 k x68 (w64 (x69 + 1)) o0 o5 (mpPut o6 (rd o5 x69) (w64 ((Option.getD (mpGet o6 (rd o5 x69)) (0 : Int)) + 1)))
   else none
  else
  if 0 ≤ (Flow.Insts o0) ∧ (Flow.Insts o0) ≤ (o5.length : Int) then
  (slices_ContainsFunc_int_int.f k (List.take ((Flow.Insts o0).toNat) (List.drop 0 o5)) o6).bind fun y83 =>
  some y83.1
  else none
end
def f (k : Nat) (a0 : Flow) : Option (Bool) :=
 (dataflow_Nodes.f a0).bind fun y11 =>
 c3 k (Flow.Arcs a0) ((Flow.Arcs a0).length : Int) 0 a0 y11 []
end listsched_tangled
namespace listsched_Schedule_1
def f (x0 : Int) : Option (Bool × Unit) :=
 some ((decide (0 < x0)), ())
end listsched_Schedule_1
namespace slices_IndexFunc_int_int_i1
mutual
def c2 : Nat → (List Int) → Int → Int → Option (Int × Unit)
  | 0, _, _, _ => none
  | k + 1, x0, x7, x8 =>
  bif (decide (x8 < x7)) then
   if 0 ≤ x8 ∧ x8 < (x0.length : Int) then
   (listsched_Schedule_1.f (rd x0 x8)).bind fun y16 =>
   bif y16.1 then
    some (x8, ())
   else
   c2 k x0 x7 (w64 (x8 + 1))
   else none
  else
  some ((-1), ())
end
def f (k : Nat) (x0 : (List Int)) : Option (Int × Unit) :=
 c2 k x0 (x0.length : Int) 0
end slices_IndexFunc_int_int_i1
namespace slices_ContainsFunc_int_int_i1
def f (k : Nat) (x0 : (List Int)) : Option (Bool × Unit) :=
 (slices_IndexFunc_int_int_i1.f k x0).bind fun y7 =>
 some ((decide (0 ≤ y7.1)), ())
end slices_ContainsFunc_int_int_i1
namespace bits_Mul64
def f (a0 : Int) (a1 : Int) : Option ((Int × Int × Unit)) :=
 some ((IntKind.wrap .u64 ((IntKind.wrap .u64 ((IntKind.wrap .u64 ((shrW .u64 a0 32) * (shrW .u64 a1 32))) + (shrW .u64 (IntKind.wrap .u64 ((IntKind.wrap .u64 ((shrW .u64 a0 32) * (andW .u64 a1 4294967295))) + (shrW .u64 (IntKind.wrap .u64 ((andW .u64 a0 4294967295) * (andW .u64 a1 4294967295))) 32))) 32))) + (shrW .u64 (IntKind.wrap .u64 ((andW .u64 (IntKind.wrap .u64 ((IntKind.wrap .u64 ((shrW .u64 a0 32) * (andW .u64 a1 4294967295))) + (shrW .u64 (IntKind.wrap .u64 ((andW .u64 a0 4294967295) * (andW .u64 a1 4294967295))) 32))) 4294967295) + (IntKind.wrap .u64 ((andW .u64 a0 4294967295) * (shrW .u64 a1 32))))) 32))), (IntKind.wrap .u64 (a0 * a1)), ())
end bits_Mul64
namespace bits_Mul
def f (a0 : Int) (a1 : Int) : Option ((Int × Int × Unit)) :=
 (bits_Mul64.f a0 a1).bind fun y25 =>
 some (y25.1, y25.2.1, ())
end bits_Mul
namespace slices_Repeat_int_int
mutual
def c3 : Nat → (List Int) → Int → Option ((List Int))
  | 0, _, _ => none
  | k + 1, x0, x1 =>
  (bits_Mul.f (IntKind.wrap .u64 ((x0.length : Int))) (IntKind.wrap .u64 (x1))).bind fun y18 =>
  bif (decide (0 < y18.1)) then
   none
  else
  bif (decide (9223372036854775807 < y18.2.1)) then
   none
  else
  c6 k x0 y18.2.1
def c6 : Nat → (List Int) → Int → Option ((List Int))
  | 0, _, _ => none
  | k + 1, x0, x6 =>
  if 0 ≤ (w64 (x6)) ∧ (w64 (x6)) ≤ (w64 (x6)) ∧ (w64 (x6)) ≤ 1073741824 then
  c8 k ((min (List.length x0) (List.length (List.replicate (w64 (x6)).toNat (0 : Int))) : Nat) : Int) (splice (List.replicate (w64 (x6)).toNat (0 : Int)) 0 (List.length (List.replicate (w64 (x6)).toNat (0 : Int))) x0)
  else none
def c8 : Nat → Int → (List Int) → Option ((List Int))
  | 0, _, _ => none
  | k + 1, x8, o1 =>
  bif (decide (x8 < (o1.length : Int))) then
   if 0 ≤ x8 ∧ x8 ≤ (o1.length : Int) then
   if 0 ≤ x8 ∧ x8 ≤ (o1.length : Int) then
   c8 k (w64 (x8 + ((min (List.length (List.take x8.toNat (List.drop 0 o1))) (o1.length - x8.toNat) : Nat) : Int))) (splice o1 x8.toNat (o1.length - x8.toNat) (List.take x8.toNat (List.drop 0 o1)))
   else none
   else none
  else
  some o1
end
def f (k : Nat) (a0 : (List Int)) (a1 : Int) : Option ((List Int)) :=
 bif (decide (a1 < 0)) then
  none
 else
 c3 k a0 a1
end slices_Repeat_int_int
namespace listsched_lister_soon
mutual
def c3 : Nat → (List Bool) → Int → Int → Int → Int → Flow → Int → Int → (List Int) → (List Int) → (List Int) → (List Int) → (List Int) → (List (List Int)) → (List (List Arc)) → Option (Int × Unit)
  | 0, _, _, _, _, _, _, _, _, _, _, _, _, _, _, _ => none
  | k + 1, x1, x2, x7, x12, x13, o0_0, o0_1_0, o0_1_1, o0_1_2, o0_1_3, o0_1_4, o0_2, o0_3, o0_4, o0_5 =>
  bif (decide (x13 < x12)) then
   if 0 ≤ x13 ∧ x13 < (x1.length : Int) then
   bif (!(rd x1 x13)) then
    c3 k x1 x2 x7 x12 (w64 (x13 + 1)) o0_0 o0_1_0 o0_1_1 o0_1_2 o0_1_3 o0_1_4 o0_2 o0_3 o0_4 o0_5
   else
   if 0 ≤ x13 ∧ x13 < (o0_2.length : Int) then
   bif (decide (0 < (rd o0_2 x13))) then
    c3 k x1 x2 x7 x12 (w64 (x13 + 1)) o0_0 o0_1_0 o0_1_1 o0_1_2 o0_1_3 o0_1_4 o0_2 o0_3 o0_4 o0_5
   else
   if 0 ≤ x13 ∧ x13 < (o0_3.length : Int) then
   if 0 ≤ x13 ∧ x13 < ((Flow.Needs o0_0).length : Int) then
   bif (decide (0 ≤ (Need.Res (rd (Flow.Needs o0_0) x13)))) then
    if 0 ≤ (Need.Res (rd (Flow.Needs o0_0) x13)) ∧ (Need.Res (rd (Flow.Needs o0_0) x13)) < (o0_4.length : Int) then
    (slices_Min_int_int.f k (rd o0_4 (Need.Res (rd (Flow.Needs o0_0) x13)))).bind fun y61 =>
    c3 k x1 x2 (mn x7 (mx (mx (w64 (x2 + 1)) (rd o0_3 x13)) y61)) x12 (w64 (x13 + 1)) o0_0 o0_1_0 o0_1_1 o0_1_2 o0_1_3 o0_1_4 o0_2 o0_3 o0_4 o0_5
    else none
   else
   c3 k x1 x2 (mn x7 (mx (w64 (x2 + 1)) (rd o0_3 x13))) x12 (w64 (x13 + 1)) o0_0 o0_1_0 o0_1_1 o0_1_2 o0_1_3 o0_1_4 o0_2 o0_3 o0_4 o0_5
   else none
   else none
   else none
   else none
  else
  some (x7, ())
end
def f (k : Nat) (x1 : (List Bool)) (x2 : Int) (o0_0 : Flow) (o0_1_0 : Int) (o0_1_1 : Int) (o0_1_2 : (List Int)) (o0_1_3 : (List Int)) (o0_1_4 : (List Int)) (o0_2 : (List Int)) (o0_3 : (List Int)) (o0_4 : (List (List Int))) (o0_5 : (List (List Arc))) : Option (Int × Unit) :=
 c3 k x1 x2 4097 (x1.length : Int) 0 o0_0 o0_1_0 o0_1_1 o0_1_2 o0_1_3 o0_1_4 o0_2 o0_3 o0_4 o0_5
end listsched_lister_soon
namespace listsched_queue_Push_i4
def f (x1_0 : Int) (o1 : (List Int)) (o2 : (List Int)) : Option (Unit × (Unit × Unit × Unit) × (List Int) × (List Int) × Unit) :=
 bif Nat.ble (List.length o1 + List.length [x1_0]) 1073741824 then
 some ((()), ((), (), ()), o2, (o1 ++ [x1_0]), ())
 else none
end listsched_queue_Push_i4
namespace listsched_queue_Len
def f (o0_0 : (List Int)) (o0_1 : (List Int)) : Option (Int × Unit) :=
 some ((o0_0.length : Int), ())
end listsched_queue_Len
namespace listsched_queue_Less
def f (x1 : Int) (x2 : Int) (o0_0 : (List Int)) (o0_1 : (List Int)) : Option (Bool × Unit) :=
 if 0 ≤ x1 ∧ x1 < (o0_0.length : Int) then
 if 0 ≤ x2 ∧ x2 < (o0_0.length : Int) then
 if 0 ≤ (rd o0_0 x1) ∧ (rd o0_0 x1) < (o0_1.length : Int) then
 if 0 ≤ (rd o0_0 x2) ∧ (rd o0_0 x2) < (o0_1.length : Int) then
 bif (!decide ((rd o0_1 (rd o0_0 x1)) = (rd o0_1 (rd o0_0 x2)))) then
  if 0 ≤ (rd o0_0 x1) ∧ (rd o0_0 x1) < (o0_1.length : Int) then
  if 0 ≤ (rd o0_0 x2) ∧ (rd o0_0 x2) < (o0_1.length : Int) then
  some ((decide ((rd o0_1 (rd o0_0 x2)) < (rd o0_1 (rd o0_0 x1)))), ())
  else none
  else none
 else
 some ((decide ((rd o0_0 x1) < (rd o0_0 x2))), ())
 else none
 else none
 else none
 else none
end listsched_queue_Less
namespace listsched_queue_Swap_i1
def f (x1 : Int) (x2 : Int) (o0_1 : (List Int)) (o1 : (List Int)) : Option (Unit × (List Int) × Unit) :=
 if 0 ≤ x2 ∧ x2 < (o1.length : Int) then
 if 0 ≤ x1 ∧ x1 < (o1.length : Int) then
 if 0 ≤ x1 ∧ x1 < (o1.length : Int) then
 if 0 ≤ x2 ∧ x2 < ((List.set o1 x1.toNat (rd o1 x2)).length : Int) then
 some ((()), (List.set (List.set o1 x1.toNat (rd o1 x2)) x2.toNat (rd o1 x1)), ())
 else none
 else none
 else none
 else none
end listsched_queue_Swap_i1
namespace heap_up_i1
mutual
def c0 : Nat → Int → (List Int) → (List Int) → Option (Unit × (List Int) × Unit)
  | 0, _, _, _ => none
  | k + 1, x1, o1, o0_1 =>
  bif (decide ((w64 (Int.tdiv (w64 (x1 - 1)) 2)) = x1)) then
   some ((()), o1, ())
  else
  (listsched_queue_Less.f x1 (w64 (Int.tdiv (w64 (x1 - 1)) 2)) o1 o0_1).bind fun y15 =>
  bif (!y15.1) then
   some ((()), o1, ())
  else
  (listsched_queue_Swap_i1.f (w64 (Int.tdiv (w64 (x1 - 1)) 2)) x1 o0_1 o1).bind fun y21 =>
  c0 k (w64 (Int.tdiv (w64 (x1 - 1)) 2)) y21.2.1 o0_1
end
def f (k : Nat) (x1 : Int) (o0_1 : (List Int)) (o1 : (List Int)) : Option (Unit × (List Int) × Unit) :=
 c0 k x1 o1 o0_1
end heap_up_i1
namespace heap_Push_i4
def f (k : Nat) (x1_0 : Int) (o1 : (List Int)) (o2 : (List Int)) : Option (Unit × (Unit × Unit × Unit) × (List Int) × (List Int) × Unit) :=
 (listsched_queue_Push_i4.f x1_0 o1 o2).bind fun y6 =>
 (listsched_queue_Len.f y6.2.2.2.1 y6.2.2.1).bind fun y9 =>
 (heap_up_i1.f k (w64 (y9.1 - 1)) y6.2.2.1 y6.2.2.2.1).bind fun y11 =>
 some ((()), ((), (), ()), y6.2.2.1, y11.2.1, ())
end heap_Push_i4
namespace listsched_queue_Swap_i2
def f (x1 : Int) (x2 : Int) (o0_1 : (List Int)) (o1 : (List Int)) : Option (Unit × (List Int) × Unit) :=
 if 0 ≤ x2 ∧ x2 < (o1.length : Int) then
 if 0 ≤ x1 ∧ x1 < (o1.length : Int) then
 if 0 ≤ x1 ∧ x1 < (o1.length : Int) then
 if 0 ≤ x2 ∧ x2 < ((List.set o1 x1.toNat (rd o1 x2)).length : Int) then
 some ((()), (List.set (List.set o1 x1.toNat (rd o1 x2)) x2.toNat (rd o1 x1)), ())
 else none
 else none
 else none
 else none
end listsched_queue_Swap_i2
namespace heap_down_i1
mutual
def c2 : Nat → Int → Int → Int → (List Int) → (List Int) → Option (Bool × (List Int) × Unit)
  | 0, _, _, _, _, _ => none
  | k + 1, x1, x2, x7, o1, o0_1 =>
  bif (decide (x2 ≤ (w64 ((w64 (2 * x7)) + 1)))) then
   some ((decide (x1 < x7)), o1, ())
  else
  bif (decide ((w64 ((w64 (2 * x7)) + 1)) < 0)) then
   some ((decide (x1 < x7)), o1, ())
  else
  bif (decide ((w64 ((w64 ((w64 (2 * x7)) + 1)) + 1)) < x2)) then
   (listsched_queue_Less.f (w64 ((w64 ((w64 (2 * x7)) + 1)) + 1)) (w64 ((w64 (2 * x7)) + 1)) o1 o0_1).bind fun y32 =>
   bif y32.1 then
    c8 k x1 x2 x7 (w64 ((w64 ((w64 (2 * x7)) + 1)) + 1)) o1 o0_1
   else
   c8 k x1 x2 x7 (w64 ((w64 (2 * x7)) + 1)) o1 o0_1
  else
  c8 k x1 x2 x7 (w64 ((w64 (2 * x7)) + 1)) o1 o0_1
def c8 : Nat → Int → Int → Int → Int → (List Int) → (List Int) → Option (Bool × (List Int) × Unit)
  | 0, _, _, _, _, _, _ => none
  | k + 1, x1, x2, x7, x9, o1, o0_1 =>
  (listsched_queue_Less.f x9 x7 o1 o0_1).bind fun y38 =>
  bif (!y38.1) then
   some ((decide (x1 < x7)), o1, ())
  else
  (listsched_queue_Swap_i2.f x7 x9 o0_1 o1).bind fun y43 =>
  c2 k x1 x2 x9 y43.2.1 o0_1
end
def f (k : Nat) (x1 : Int) (x2 : Int) (o0_1 : (List Int)) (o1 : (List Int)) : Option (Bool × (List Int) × Unit) :=
 c2 k x1 x2 x1 o1 o0_1
end heap_down_i1
namespace listsched_queue_Pop_i3
def f (o1 : (List Int)) (o2 : (List Int)) : Option (Int × (Unit × Unit × Unit) × (List Int) × (List Int) × Unit) :=
 if 0 ≤ (w64 ((o1.length : Int) - 1)) ∧ (w64 ((o1.length : Int) - 1)) < (o1.length : Int) then
 if 0 ≤ (w64 ((o1.length : Int) - 1)) ∧ (w64 ((o1.length : Int) - 1)) ≤ (o1.length : Int) then
 some ((rd o1 (w64 ((o1.length : Int) - 1))), ((), (), ()), o2, (List.take (w64 ((o1.length : Int) - 1)).toNat o1), ())
 else none
 else none
end listsched_queue_Pop_i3
namespace heap_Pop_i3
def f (k : Nat) (o1 : (List Int)) (o2 : (List Int)) : Option (Int × (Unit × Unit × Unit) × (List Int) × (List Int) × Unit) :=
 (listsched_queue_Len.f o1 o2).bind fun y5 =>
 (listsched_queue_Swap_i2.f 0 (w64 (y5.1 - 1)) o2 o1).bind fun y9 =>
 (heap_down_i1.f k 0 (w64 (y5.1 - 1)) o2 y9.2.1).bind fun y12 =>
 (listsched_queue_Pop_i3.f y12.2.1 o2).bind fun y14 =>
 some (y14.1, ((), (), ()), y14.2.2.1, y14.2.2.2.1, ())
end heap_Pop_i3
namespace listsched_lister_unit_1
def f (x0 : Int) (o0 : Int) : Option (Bool × Unit) :=
 some ((decide (x0 ≤ o0)), ())
end listsched_lister_unit_1
namespace slices_IndexFunc_int_int_i2
mutual
def c2 : Nat → (List Int) → Int → Int → Int → Option (Int × Unit)
  | 0, _, _, _, _ => none
  | k + 1, x0, x7, x8, o0 =>
  bif (decide (x8 < x7)) then
   if 0 ≤ x8 ∧ x8 < (x0.length : Int) then
   (listsched_lister_unit_1.f (rd x0 x8) o0).bind fun y16 =>
   bif y16.1 then
    some (x8, ())
   else
   c2 k x0 x7 (w64 (x8 + 1)) o0
   else none
  else
  some ((-1), ())
end
def f (k : Nat) (x0 : (List Int)) (o0 : Int) : Option (Int × Unit) :=
 c2 k x0 (x0.length : Int) 0 o0
end slices_IndexFunc_int_int_i2
namespace listsched_lister_unit
def f (k : Nat) (x1 : Int) (x2 : Int) (o0_0 : Flow) (o0_1_0 : Int) (o0_1_1 : Int) (o0_1_2 : (List Int)) (o0_1_3 : (List Int)) (o0_1_4 : (List Int)) (o0_2 : (List Int)) (o0_3 : (List Int)) (o0_4 : (List (List Int))) (o0_5 : (List (List Arc))) : Option (Int × Unit) :=
 if 0 ≤ x1 ∧ x1 < (o0_4.length : Int) then
 (slices_IndexFunc_int_int_i2.f k (rd o0_4 x1) x2).bind fun y15 =>
 some (y15.1, ())
 else none
end listsched_lister_unit
namespace listsched_lister_place_i3
mutual
def c2 : Nat → Int → (List Arc) → Int → Int → (List Int) → (List Int) → (List Int) → Flow → Int → Int → (List Int) → (List Int) → (List (List Int)) → (List (List Arc)) → Option (Unit × (List Int) × (List Int) × (List Int) × Unit)
  | 0, _, _, _, _, _, _, _, _, _, _, _, _, _, _ => none
  | k + 1, x2, x22, x23, x24, o1, o2, o3, o0_0, o0_1_0, o0_1_1, o0_1_3, o0_1_4, o0_4, o0_5 =>
  bif (decide (x24 < x23)) then
   if 0 ≤ x24 ∧ x24 < (x22.length : Int) then
   if 0 ≤ (Arc.To (rd x22 x24)) ∧ (Arc.To (rd x22 x24)) < (o2.length : Int) then
   if 0 ≤ (Arc.To (rd x22 x24)) ∧ (Arc.To (rd x22 x24)) < (o2.length : Int) then
   if 0 ≤ (Arc.To (rd x22 x24)) ∧ (Arc.To (rd x22 x24)) < (o3.length : Int) then
   if 0 ≤ (Arc.To (rd x22 x24)) ∧ (Arc.To (rd x22 x24)) < (o3.length : Int) then
   c2 k x2 x22 x23 (w64 (x24 + 1)) o1 (List.set o2 (Arc.To (rd x22 x24)).toNat (w64 ((rd o2 (Arc.To (rd x22 x24))) - 1))) (List.set o3 (Arc.To (rd x22 x24)).toNat (mx (rd o3 (Arc.To (rd x22 x24))) (w64 (x2 + (Arc.Lat (rd x22 x24)))))) o0_0 o0_1_0 o0_1_1 o0_1_3 o0_1_4 o0_4 o0_5
   else none
   else none
   else none
   else none
   else none
  else
  some ((()), o1, o2, o3, ())
end
def f (k : Nat) (x1 : Int) (x2 : Int) (o0_0 : Flow) (o0_1_0 : Int) (o0_1_1 : Int) (o0_1_3 : (List Int)) (o0_1_4 : (List Int)) (o0_4 : (List (List Int))) (o0_5 : (List (List Arc))) (o1 : (List Int)) (o2 : (List Int)) (o3 : (List Int)) : Option (Unit × (List Int) × (List Int) × (List Int) × Unit) :=
 if 0 ≤ x1 ∧ x1 < (o1.length : Int) then
 if 0 ≤ x1 ∧ x1 < (o0_5.length : Int) then
 c2 k x2 (rd o0_5 x1) ((rd o0_5 x1).length : Int) 0 (List.set o1 x1.toNat x2) o2 o3 o0_0 o0_1_0 o0_1_1 o0_1_3 o0_1_4 o0_4 o0_5
 else none
 else none
end listsched_lister_place_i3
namespace listsched_lister_run_i6
mutual
def c3 : Nat → Int → Int → (List Int) → (List Int) → (List Int) → (List Int) → (List Int) → (List (List Int)) → Flow → Int → Int → (List Int) → (List (List Arc)) → (List Bool) → Option (Bool × (List Int) × (List Int) × (List Int) × (List Int) × (List Int) × (List (List Int)) × Unit)
  | 0, _, _, _, _, _, _, _, _, _, _, _, _, _, _ => none
  | k + 1, x22, x23, o1, o2, o3, o4, o5, o6, o0_0, o0_1_0, o0_1_1, o0_1_3, o0_5, o7 =>
  bif (decide (x23 < x22)) then
   if 0 ≤ x23 ∧ x23 < (o7.length : Int) then
   c3 k x22 (w64 (x23 + 1)) o1 o2 o3 o4 o5 o6 o0_0 o0_1_0 o0_1_1 o0_1_3 o0_5 (List.set o7 x23.toNat true)
   else none
  else
  c9 k (Flow.Insts o0_0) 0 o1 o2 o3 o4 o5 o6 o0_0 o0_1_0 o0_1_1 o0_1_3 o0_5 o7
def c9 : Nat → Int → Int → (List Int) → (List Int) → (List Int) → (List Int) → (List Int) → (List (List Int)) → Flow → Int → Int → (List Int) → (List (List Arc)) → (List Bool) → Option (Bool × (List Int) × (List Int) × (List Int) × (List Int) × (List Int) × (List (List Int)) × Unit)
  | 0, _, _, _, _, _, _, _, _, _, _, _, _, _, _ => none
  | k + 1, x7, x8, o1, o2, o3, o4, o5, o6, o0_0, o0_1_0, o0_1_1, o0_1_3, o0_5, o7 =>
  bif (decide (0 < x7)) then
   bif (decide (4096 < x8)) then
    some (false, o1, o2, o3, o4, o5, o6, ())
   else
   c14 k x7 x8 true o1 o2 o3 o4 o5 o6 o0_0 o0_1_0 o0_1_1 o0_1_3 o0_5 o7
  else
  some (true, o1, o2, o3, o4, o5, o6, ())
def c14 : Nat → Int → Int → Bool → (List Int) → (List Int) → (List Int) → (List Int) → (List Int) → (List (List Int)) → Flow → Int → Int → (List Int) → (List (List Arc)) → (List Bool) → Option (Bool × (List Int) × (List Int) × (List Int) × (List Int) × (List Int) × (List (List Int)) × Unit)
  | 0, _, _, _, _, _, _, _, _, _, _, _, _, _, _, _ => none
  | k + 1, x7, x8, x9, o1, o2, o3, o4, o5, o6, o0_0, o0_1_0, o0_1_1, o0_1_3, o0_5, o7 =>
  bif x9 then
   c18 k x7 x8 false (o7.length : Int) 0 o1 o2 o3 o4 o5 o6 o0_0 o0_1_0 o0_1_1 o0_1_3 o0_5 o7 []
  else
  (listsched_lister_soon.f k o7 x8 o0_0 o0_1_0 o0_1_1 o2 o0_1_3 o3 o4 o5 o6 o0_5).bind fun y40 =>
  c9 k x7 y40.1 o1 o2 o3 o4 o5 o6 o0_0 o0_1_0 o0_1_1 o0_1_3 o0_5 o7
def c18 : Nat → Int → Int → Bool → Int → Int → (List Int) → (List Int) → (List Int) → (List Int) → (List Int) → (List (List Int)) → Flow → Int → Int → (List Int) → (List (List Arc)) → (List Bool) → (List Int) → Option (Bool × (List Int) × (List Int) × (List Int) × (List Int) × (List Int) × (List (List Int)) × Unit)
  | 0, _, _, _, _, _, _, _, _, _, _, _, _, _, _, _, _, _, _ => none
  | k + 1, x7, x8, x9, x48, x49, o1, o2, o3, o4, o5, o6, o0_0, o0_1_0, o0_1_1, o0_1_3, o0_5, o7, o14 =>
  bif (decide (x49 < x48)) then
   if 0 ≤ x49 ∧ x49 < (o7.length : Int) then
   bif (rd o7 x49) then
    if 0 ≤ x49 ∧ x49 < (o4.length : Int) then
    bif (decide ((rd o4 x49) = 0)) then
     if 0 ≤ x49 ∧ x49 < (o5.length : Int) then
     bif (decide ((rd o5 x49) ≤ x8)) then
      (heap_Push_i4.f k x49 o14 o1).bind fun y81 =>
      c18 k x7 x8 x9 x48 (w64 (x49 + 1)) y81.2.2.1 o2 o3 o4 o5 o6 o0_0 o0_1_0 o0_1_1 o0_1_3 o0_5 o7 y81.2.2.2.1
     else
     c18 k x7 x8 x9 x48 (w64 (x49 + 1)) o1 o2 o3 o4 o5 o6 o0_0 o0_1_0 o0_1_1 o0_1_3 o0_5 o7 o14
     else none
    else
    c18 k x7 x8 x9 x48 (w64 (x49 + 1)) o1 o2 o3 o4 o5 o6 o0_0 o0_1_0 o0_1_1 o0_1_3 o0_5 o7 o14
    else none
   else
   c18 k x7 x8 x9 x48 (w64 (x49 + 1)) o1 o2 o3 o4 o5 o6 o0_0 o0_1_0 o0_1_1 o0_1_3 o0_5 o7 o14
   else none
  else
  c23 k x7 x8 x9 o1 o2 o3 o4 o5 o6 o0_0 o0_1_0 o0_1_1 o0_1_3 o0_5 o7 o14
def c23 : Nat → Int → Int → Bool → (List Int) → (List Int) → (List Int) → (List Int) → (List Int) → (List (List Int)) → Flow → Int → Int → (List Int) → (List (List Arc)) → (List Bool) → (List Int) → Option (Bool × (List Int) × (List Int) × (List Int) × (List Int) × (List Int) × (List (List Int)) × Unit)
  | 0, _, _, _, _, _, _, _, _, _, _, _, _, _, _, _, _ => none
  | k + 1, x7, x8, x9, o1, o2, o3, o4, o5, o6, o0_0, o0_1_0, o0_1_1, o0_1_3, o0_5, o7, o14 =>
  (listsched_queue_Len.f o14 o1).bind fun y84 =>
  bif (decide (0 < y84.1)) then
   (heap_Pop_i3.f k o14 o1).bind fun y88 =>
   if 0 ≤ y88.1 ∧ y88.1 < ((Flow.Needs o0_0).length : Int) then
   bif (decide (0 ≤ (Need.Res (rd (Flow.Needs o0_0) y88.1)))) then
    (listsched_lister_unit.f k (Need.Res (rd (Flow.Needs o0_0) y88.1)) x8 o0_0 o0_1_0 o0_1_1 o2 o0_1_3 o3 o4 o5 o6 o0_5).bind fun y105 =>
    bif (decide (y105.1 < 0)) then
     c23 k x7 x8 x9 y88.2.2.1 o2 o3 o4 o5 o6 o0_0 o0_1_0 o0_1_1 o0_1_3 o0_5 o7 y88.2.2.2.1
    else
    if 0 ≤ y88.1 ∧ y88.1 < (o3.length : Int) then
    if 0 ≤ (Need.Res (rd (Flow.Needs o0_0) y88.1)) ∧ (Need.Res (rd (Flow.Needs o0_0) y88.1)) < (o6.length : Int) then
    if 0 ≤ y105.1 ∧ y105.1 < ((rd o6 (Need.Res (rd (Flow.Needs o0_0) y88.1))).length : Int) then
    c31 k x7 x8 y88.1 y88.2.2.1 o2 (List.set o3 y88.1.toNat y105.1) o4 o5 (List.set o6 (Need.Res (rd (Flow.Needs o0_0) y88.1)).toNat (List.set (rd o6 (Need.Res (rd (Flow.Needs o0_0) y88.1))) y105.1.toNat (w64 (x8 + (Need.Busy (rd (Flow.Needs o0_0) y88.1)))))) o0_0 o0_1_0 o0_1_1 o0_1_3 o0_5 o7 y88.2.2.2.1
    else none
    else none
    else none
   else
   c31 k x7 x8 y88.1 y88.2.2.1 o2 o3 o4 o5 o6 o0_0 o0_1_0 o0_1_1 o0_1_3 o0_5 o7 y88.2.2.2.1
   else none
  else
  c14 k x7 x8 x9 o1 o2 o3 o4 o5 o6 o0_0 o0_1_0 o0_1_1 o0_1_3 o0_5 o7
def c31 : Nat → Int → Int → Int → (List Int) → (List Int) → (List Int) → (List Int) → (List Int) → (List (List Int)) → Flow → Int → Int → (List Int) → (List (List Arc)) → (List Bool) → (List Int) → Option (Bool × (List Int) × (List Int) × (List Int) × (List Int) × (List Int) × (List (List Int)) × Unit)
  | 0, _, _, _, _, _, _, _, _, _, _, _, _, _, _, _, _ => none
  | k + 1, x7, x8, x12, o1, o2, o3, o4, o5, o6, o0_0, o0_1_0, o0_1_1, o0_1_3, o0_5, o7, o11 =>
  (listsched_lister_place_i3.f k x12 x8 o0_0 o0_1_0 o0_1_1 o0_1_3 o3 o6 o0_5 o2 o4 o5).bind fun y133 =>
  if 0 ≤ x12 ∧ x12 < (o7.length : Int) then
  c23 k (w64 (x7 - 1)) x8 true o1 y133.2.1 o3 y133.2.2.1 y133.2.2.2.1 o6 o0_0 o0_1_0 o0_1_1 o0_1_3 o0_5 (List.set o7 x12.toNat false) o11
  else none
end
def f (k : Nat) (o0_0 : Flow) (o0_1_0 : Int) (o0_1_1 : Int) (o0_1_3 : (List Int)) (o0_5 : (List (List Arc))) (o1 : (List Int)) (o2 : (List Int)) (o3 : (List Int)) (o4 : (List Int)) (o5 : (List Int)) (o6 : (List (List Int))) : Option (Bool × (List Int) × (List Int) × (List Int) × (List Int) × (List Int) × (List (List Int)) × Unit) :=
 if 0 ≤ (Flow.Insts o0_0) ∧ (Flow.Insts o0_0) ≤ (Flow.Insts o0_0) ∧ (Flow.Insts o0_0) ≤ 1073741824 then
 c3 k ((List.replicate (Flow.Insts o0_0).toNat (false : Bool)).length : Int) 0 o1 o2 o3 o4 o5 o6 o0_0 o0_1_0 o0_1_1 o0_1_3 o0_5 (List.replicate (Flow.Insts o0_0).toNat (false : Bool))
 else none
end listsched_lister_run_i6
namespace listsched_Schedule
mutual
def c14 : Nat → Int → (List Arc) → Int → Int → Flow → Int → Int → Flow → Int → Int → (List Int) → (List Arc) → (List Int) → (List Int) → (List Int) → (List Int) → (List Int) → (List (List Arc)) → Option ((Sched × Int × Unit))
  | 0, _, _, _, _, _, _, _, _, _, _, _, _, _, _, _, _, _, _ => none
  | k + 1, x4, x80, x81, x82, o0, o1_0, o1_1, o7_0, o7_1_0, o7_1_1, o12, o13, o8, o9, o11, o5, o4, o6 =>
  bif (decide (x82 < x81)) then
   if 0 ≤ x82 ∧ x82 < (x80.length : Int) then
   bif (decide ((Arc.From (rd x80 x82)) < (Flow.Insts o0))) then
    if 0 ≤ (Arc.From (rd x80 x82)) ∧ (Arc.From (rd x80 x82)) < (o6.length : Int) then
    bif Nat.ble (List.length (rd o6 (Arc.From (rd x80 x82))) + List.length [(rd x80 x82)]) 1073741824 then
    if 0 ≤ (Arc.From (rd x80 x82)) ∧ (Arc.From (rd x80 x82)) < (o6.length : Int) then
    if (Arc.From (rd x80 x82)).toNat = (Arc.From (rd x80 x82)).toNat then
    if 0 ≤ (Arc.To (rd x80 x82)) ∧ (Arc.To (rd x80 x82)) < (o5.length : Int) then
    if 0 ≤ (Arc.To (rd x80 x82)) ∧ (Arc.To (rd x80 x82)) < (o5.length : Int) then
    c21 k x4 x80 x81 x82 o0 o1_0 o1_1 o7_0 o7_1_0 o7_1_1 o12 o13 (rd x80 x82) o8 o9 o11 (List.set o5 (Arc.To (rd x80 x82)).toNat (w64 ((rd o5 (Arc.To (rd x80 x82))) + 1))) o4 (List.set o6 (Arc.From (rd x80 x82)).toNat ((rd o6 (Arc.From (rd x80 x82))) ++ [(rd x80 x82)]))
    else none
    else none
    else none
    else none
    else none
    else none
   else
   (dataflow_Source.f o0).bind fun y122 =>
   bif (decide ((Arc.From (rd x80 x82)) ≤ y122)) then
    if 0 ≤ (Arc.To (rd x80 x82)) ∧ (Arc.To (rd x80 x82)) < (o4.length : Int) then
    if 0 ≤ (Arc.To (rd x80 x82)) ∧ (Arc.To (rd x80 x82)) < (o4.length : Int) then
    c21 k x4 x80 x81 x82 o0 o1_0 o1_1 o7_0 o7_1_0 o7_1_1 o12 o13 (rd x80 x82) o8 o9 o11 o5 (List.set o4 (Arc.To (rd x80 x82)).toNat (mx (rd o4 (Arc.To (rd x80 x82))) (Arc.Lat (rd x80 x82)))) o6
    else none
    else none
   else
   c21 k x4 x80 x81 x82 o0 o1_0 o1_1 o7_0 o7_1_0 o7_1_1 o12 o13 (rd x80 x82) o8 o9 o11 o5 o4 o6
   else none
  else
  (diffcons_Earliest.f k x4 o13 0).bind fun y156 =>
  bif (Option.isSome y156.2.1) then
   c26 k o0 o1_0 o1_1 o7_0 o7_1_0 o7_1_1 o12 o8 o9 o11 o5 o4 o6
  else
  c26 k o0 o1_0 o1_1 o7_0 o7_1_0 o7_1_1 y156.1 o8 o9 o11 o5 o4 o6
def c21 : Nat → Int → (List Arc) → Int → Int → Flow → Int → Int → Flow → Int → Int → (List Int) → (List Arc) → Arc → (List Int) → (List Int) → (List Int) → (List Int) → (List Int) → (List (List Arc)) → Option ((Sched × Int × Unit))
  | 0, _, _, _, _, _, _, _, _, _, _, _, _, _, _, _, _, _, _, _ => none
  | k + 1, x4, x80, x81, x82, o0, o1_0, o1_1, o7_0, o7_1_0, o7_1_1, o12, o13, o14, o8, o9, o11, o5, o4, o6 =>
  bif Nat.ble (List.length o13 + List.length [((Arc.To o14), (Arc.From o14), (Arc.Lat o14), 0, ())]) 1073741824 then
  c14 k x4 x80 x81 (w64 (x82 + 1)) o0 o1_0 o1_1 o7_0 o7_1_0 o7_1_1 o12 (o13 ++ [((Arc.To o14), (Arc.From o14), (Arc.Lat o14), 0, ())]) o8 o9 o11 o5 o4 o6
  else none
def c26 : Nat → Flow → Int → Int → Flow → Int → Int → (List Int) → (List Int) → (List Int) → (List Int) → (List Int) → (List Int) → (List (List Arc)) → Option ((Sched × Int × Unit))
  | 0, _, _, _, _, _, _, _, _, _, _, _, _, _ => none
  | k + 1, o0, o1_0, o1_1, o7_0, o7_1_0, o7_1_1, o12, o8, o9, o11, o5, o4, o6 =>
  c27 k (Flow.Res o0) ((Flow.Res o0).length : Int) 0 o0 o1_0 o1_1 o7_0 o7_1_0 o7_1_1 o12 o8 o9 o11 o5 o4 o6 []
def c27 : Nat → (List Resource) → Int → Int → Flow → Int → Int → Flow → Int → Int → (List Int) → (List Int) → (List Int) → (List Int) → (List Int) → (List Int) → (List (List Arc)) → (List (List Int)) → Option ((Sched × Int × Unit))
  | 0, _, _, _, _, _, _, _, _, _, _, _, _, _, _, _, _, _ => none
  | k + 1, x163, x164, x165, o0, o1_0, o1_1, o7_0, o7_1_0, o7_1_1, o12, o8, o9, o11, o5, o4, o6, o27 =>
  bif (decide (x165 < x164)) then
   if 0 ≤ x165 ∧ x165 < (x163.length : Int) then
   if 0 ≤ (Resource.Count (rd x163 x165)) ∧ (Resource.Count (rd x163 x165)) ≤ (Resource.Count (rd x163 x165)) ∧ (Resource.Count (rd x163 x165)) ≤ 1073741824 then
   bif Nat.ble (List.length o27 + List.length [(List.replicate (Resource.Count (rd x163 x165)).toNat (0 : Int))]) 1073741824 then
   c27 k x163 x164 (w64 (x165 + 1)) o0 o1_0 o1_1 o7_0 o7_1_0 o7_1_1 o12 o8 o9 o11 o5 o4 o6 (o27 ++ [(List.replicate (Resource.Count (rd x163 x165)).toNat (0 : Int))])
   else none
   else none
   else none
  else
  (listsched_lister_run_i6.f k o7_0 o7_1_0 o7_1_1 o9 o6 o12 o8 o11 o5 o4 o27).bind fun y184 =>
  (dataflow_End.f o0).bind fun y191 =>
  if 0 ≤ y191 ∧ y191 < (y184.2.2.2.2.2.1.length : Int) then
  bif (!y184.1) then
   some ((0, 0, [], [], [], ()), 5, ())
  else
  bif (decide (4096 < (mx 1 (rd y184.2.2.2.2.2.1 y191)))) then
   some ((0, 0, [], [], [], ()), 5, ())
  else
  some ((o7_1_0, (mx 1 (rd y184.2.2.2.2.2.1 y191)), y184.2.2.1, o9, y184.2.2.2.1, ()), 0, ())
  else none
end
def f (k : Nat) (a0 : Flow) : Option ((Sched × Int × Unit)) :=
 (dataflow_Valid.f k a0).bind fun y19 =>
 bif (!y19) then
  some ((0, 0, [], [], [], ()), 3, ())
 else
 bif (Flow.Loop a0) then
  some ((0, 0, [], [], [], ()), 1, ())
 else
 (dataflow_Nodes.f a0).bind fun y27 =>
 (diffcons_Earliest.f k y27 (Flow.Arcs a0) 0).bind fun y32 =>
 bif (Option.isSome y32.2.1) then
  some ((0, 0, [], [], [], ()), 14, ())
 else
 (listsched_tangled.f k a0).bind fun y39 =>
 bif y39 then
  some ((0, 0, [], [], [], ()), 14, ())
 else
 if 0 ≤ (Flow.Insts a0) ∧ (Flow.Insts a0) ≤ (w64 ((Flow.Insts a0) + (Flow.Params a0))) ∧ (w64 ((Flow.Insts a0) + (Flow.Params a0))) ≤ (y32.1.length : Int) then
 (slices_ContainsFunc_int_int_i1.f k (List.take ((w64 ((Flow.Insts a0) + (Flow.Params a0))).toNat - (Flow.Insts a0).toNat) (List.drop ((Flow.Insts a0).toNat) y32.1))).bind fun y51 =>
 bif y51.1 then
  some ((0, 0, [], [], [], ()), 14, ())
 else
 if 0 ≤ y27 ∧ y27 ≤ y27 ∧ y27 ≤ 1073741824 then
 if 0 ≤ y27 ∧ y27 ≤ y27 ∧ y27 ≤ 1073741824 then
 if 0 ≤ y27 ∧ y27 ≤ y27 ∧ y27 ≤ 1073741824 then
 if 0 ≤ (Flow.Insts a0) ∧ (Flow.Insts a0) ≤ (Flow.Insts a0) ∧ (Flow.Insts a0) ≤ 1073741824 then
 if 0 ≤ (Flow.Params a0) ∧ (Flow.Params a0) ≤ (Flow.Params a0) ∧ (Flow.Params a0) ≤ 1073741824 then
 (slices_Repeat_int_int.f k [(-1)] (Flow.Insts a0)).bind fun y73 =>
 if 0 ≤ y27 ∧ y27 ≤ y27 ∧ y27 ≤ 1073741824 then
 c14 k y27 (Flow.Arcs a0) ((Flow.Arcs a0).length : Int) 0 a0 0 0 a0 0 0 (List.replicate y27.toNat (0 : Int)) [] (List.replicate (Flow.Insts a0).toNat (0 : Int)) (List.replicate (Flow.Params a0).toNat (0 : Int)) y73 (List.replicate y27.toNat (0 : Int)) (List.replicate y27.toNat (0 : Int)) (List.replicate y27.toNat ([] : (List Arc)))
 else none
 else none
 else none
 else none
 else none
 else none
 else none
end listsched_Schedule
namespace jacquardlaw32_awake
def f (k : Nat) : Option (Bool) :=
 (jacquardlaw32_triple.f k 1).bind fun y4 =>
 (listsched_Schedule.f k ((Flow.Insts y4), (Flow.Params y4), (Flow.Loop y4), (Flow.Arcs y4), (Flow.Res y4), (Flow.Needs y4), ())).bind fun y5 =>
 bif (decide (y5.2.1 = 0)) then
  bif (decide (6 ≤ (Sched.Depth y5.1))) then
   some (decide (((Sched.Start y5.1).length : Int) = 3))
  else
  some false
 else
 some false
end jacquardlaw32_awake
namespace jacquardref28_Small
mutual
def c2 : Nat → Int → Int → Int → Int → Flow → Option (Bool)
  | 0, _, _, _, _, _ => none
  | k + 1, x1, x2, x11, x12, o0 =>
  bif (decide (x12 < x11)) then
   if 0 ≤ x12 ∧ x12 < ((Flow.Arcs o0).length : Int) then
   bif (decide (60 < (Arc.Lat (rd (Flow.Arcs o0) x12)))) then
    some false
   else
   if 0 ≤ x12 ∧ x12 < ((Flow.Arcs o0).length : Int) then
   bif (decide (20 < (Arc.Dist (rd (Flow.Arcs o0) x12)))) then
    some false
   else
   c2 k x1 x2 x11 (w64 (x12 + 1)) o0
   else none
   else none
  else
  c8 k x1 x2 ((Flow.Needs o0).length : Int) 0 o0
def c8 : Nat → Int → Int → Int → Int → Flow → Option (Bool)
  | 0, _, _, _, _, _ => none
  | k + 1, x1, x2, x34, x35, o0 =>
  bif (decide (x35 < x34)) then
   if 0 ≤ x35 ∧ x35 < ((Flow.Needs o0).length : Int) then
   bif (decide (20 < (Need.Busy (rd (Flow.Needs o0) x35)))) then
    some false
   else
   c8 k x1 x2 x34 (w64 (x35 + 1)) o0
   else none
  else
  bif (decide ((Flow.Insts o0) ≤ x1)) then
   bif (decide ((Flow.Params o0) ≤ x2)) then
    bif (decide (((Flow.Arcs o0).length : Int) ≤ 90)) then
     some (decide (((Flow.Res o0).length : Int) ≤ 6))
    else
    some false
   else
   some false
  else
  some false
end
def f (k : Nat) (a0 : Flow) (a1 : Int) (a2 : Int) : Option (Bool) :=
 c2 k a1 a2 ((Flow.Arcs a0).length : Int) 0 a0
end jacquardref28_Small
namespace jacquardlaw32_few
def f (k : Nat) (a0 : Flow) : Option (Bool) :=
 (jacquardref28_Small.f k a0 14 6).bind fun y4 =>
 bif y4 then
  some (decide (((Flow.Needs a0).length : Int) ≤ 20))
 else
 some false
end jacquardlaw32_few
namespace jacquardref28_Source
def f (a0 : Flow) : Option (Int) :=
 some (w64 ((Flow.Insts a0) + (Flow.Params a0)))
end jacquardref28_Source
namespace jacquardref28_End
def f (a0 : Flow) : Option (Int) :=
 some (w64 ((w64 ((Flow.Insts a0) + (Flow.Params a0))) + 1))
end jacquardref28_End
namespace jacquardref28_Valid
mutual
def c5 : Nat → Int → Int → Int → Flow → Option (Bool)
  | 0, _, _, _, _ => none
  | k + 1, x3, x47, x48, o0 =>
  bif (decide (x48 < x47)) then
   if 0 ≤ x48 ∧ x48 < ((Flow.Arcs o0).length : Int) then
   bif (decide ((Arc.From (rd (Flow.Arcs o0) x48)) < 0)) then
    some false
   else
   bif (decide ((w64 (x3 - 1)) ≤ (Arc.From (rd (Flow.Arcs o0) x48)))) then
    some false
   else
   bif (decide ((Arc.To (rd (Flow.Arcs o0) x48)) < 0)) then
    some false
   else
   bif (decide (x3 ≤ (Arc.To (rd (Flow.Arcs o0) x48)))) then
    some false
   else
   bif (decide ((Arc.Lat (rd (Flow.Arcs o0) x48)) < 0)) then
    some false
   else
   bif (decide (4096 < (Arc.Lat (rd (Flow.Arcs o0) x48)))) then
    some false
   else
   bif (decide ((Arc.Dist (rd (Flow.Arcs o0) x48)) < 0)) then
    some false
   else
   bif (decide (256 < (Arc.Dist (rd (Flow.Arcs o0) x48)))) then
    some false
   else
   bif (decide (0 < (Arc.Dist (rd (Flow.Arcs o0) x48)))) then
    bif (!(Flow.Loop o0)) then
     some false
    else
    c5 k x3 x47 (w64 (x48 + 1)) o0
   else
   c5 k x3 x47 (w64 (x48 + 1)) o0
   else none
  else
  bif (decide (((Flow.Arcs o0).length : Int) < (w64 ((w64 (2 * x3)) - 3)))) then
   some false
  else
  c14 k x3 (w64 (x3 - 1)) 0 o0
def c14 : Nat → Int → Int → Int → Flow → Option (Bool)
  | 0, _, _, _, _ => none
  | k + 1, x3, x116, x117, o0 =>
  bif (decide (x117 < x116)) then
   (jacquardref28_Source.f o0).bind fun y123 =>
   bif (decide (y123 ≤ x117)) then
    c19 k x3 x117 (w64 (x117 + 1)) x116 x117 o0
   else
   c19 k x3 x117 x117 x116 x117 o0
  else
  c23 k x3 ((Flow.Res o0).length : Int) 0 o0
def c19 : Nat → Int → Int → Int → Int → Int → Flow → Option (Bool)
  | 0, _, _, _, _, _, _ => none
  | k + 1, x3, x6, x7, x116, x117, o0 =>
  if 0 ≤ x6 ∧ x6 < ((Flow.Arcs o0).length : Int) then
  (jacquardref28_Source.f o0).bind fun y133 =>
  bif (!eqB (Arc.T) (rd (Flow.Arcs o0) x6) (y133, x7, 0, 0, ())) then
   some false
  else
  c14 k x3 x116 (w64 (x117 + 1)) o0
  else none
def c23 : Nat → Int → Int → Int → Flow → Option (Bool)
  | 0, _, _, _, _ => none
  | k + 1, x3, x140, x141, o0 =>
  bif (decide (x141 < x140)) then
   if 0 ≤ x141 ∧ x141 < ((Flow.Res o0).length : Int) then
   bif (decide ((Resource.Kind (rd (Flow.Res o0) x141)) < 1)) then
    some false
   else
   if 0 ≤ x141 ∧ x141 < ((Flow.Res o0).length : Int) then
   bif (decide (4 < (Resource.Kind (rd (Flow.Res o0) x141)))) then
    some false
   else
   if 0 ≤ x141 ∧ x141 < ((Flow.Res o0).length : Int) then
   bif (decide ((Resource.Count (rd (Flow.Res o0) x141)) < 1)) then
    some false
   else
   if 0 ≤ x141 ∧ x141 < ((Flow.Res o0).length : Int) then
   bif (decide (1024 < (Resource.Count (rd (Flow.Res o0) x141)))) then
    some false
   else
   c23 k x3 x140 (w64 (x141 + 1)) o0
   else none
   else none
   else none
   else none
  else
  c29 k x3 (w64 (x3 - 2)) 0 o0
def c29 : Nat → Int → Int → Int → Flow → Option (Bool)
  | 0, _, _, _, _ => none
  | k + 1, x3, x180, x181, o0 =>
  bif (decide (x181 < x180)) then
   if 0 ≤ (w64 ((w64 (x3 - 1)) + x181)) ∧ (w64 ((w64 (x3 - 1)) + x181)) < ((Flow.Arcs o0).length : Int) then
   bif (!decide ((Arc.From (rd (Flow.Arcs o0) (w64 ((w64 (x3 - 1)) + x181)))) = x181)) then
    some false
   else
   (jacquardref28_End.f o0).bind fun y200 =>
   bif (!decide ((Arc.To (rd (Flow.Arcs o0) (w64 ((w64 (x3 - 1)) + x181)))) = y200)) then
    some false
   else
   bif (!decide ((Arc.Dist (rd (Flow.Arcs o0) (w64 ((w64 (x3 - 1)) + x181)))) = 0)) then
    some false
   else
   bif (decide (x181 < (Flow.Insts o0))) then
    if 0 ≤ x181 ∧ x181 < ((Flow.Needs o0).length : Int) then
    bif (decide ((Arc.Lat (rd (Flow.Arcs o0) (w64 ((w64 (x3 - 1)) + x181)))) < (mx 1 (Need.Busy (rd (Flow.Needs o0) x181))))) then
     some false
    else
    c29 k x3 x180 (w64 (x181 + 1)) o0
    else none
   else
   c29 k x3 x180 (w64 (x181 + 1)) o0
   else none
  else
  c36 k ((Flow.Needs o0).length : Int) 0 o0
def c36 : Nat → Int → Int → Flow → Option (Bool)
  | 0, _, _, _ => none
  | k + 1, x229, x230, o0 =>
  bif (decide (x230 < x229)) then
   if 0 ≤ x230 ∧ x230 < ((Flow.Needs o0).length : Int) then
   bif (decide ((Need.Res (rd (Flow.Needs o0) x230)) < (-1))) then
    some false
   else
   bif (decide (((Flow.Res o0).length : Int) ≤ (Need.Res (rd (Flow.Needs o0) x230)))) then
    some false
   else
   bif (decide ((Need.Res (rd (Flow.Needs o0) x230)) = (-1))) then
    bif (!decide ((Need.Busy (rd (Flow.Needs o0) x230)) = 0)) then
     some false
    else
    bif (decide (0 ≤ (Need.Res (rd (Flow.Needs o0) x230)))) then
     bif (decide ((Need.Busy (rd (Flow.Needs o0) x230)) < 1)) then
      some false
     else
     bif (decide (256 < (Need.Busy (rd (Flow.Needs o0) x230)))) then
      some false
     else
     c36 k x229 (w64 (x230 + 1)) o0
    else
    c36 k x229 (w64 (x230 + 1)) o0
   else
   bif (decide (0 ≤ (Need.Res (rd (Flow.Needs o0) x230)))) then
    bif (decide ((Need.Busy (rd (Flow.Needs o0) x230)) < 1)) then
     some false
    else
    bif (decide (256 < (Need.Busy (rd (Flow.Needs o0) x230)))) then
     some false
    else
    c36 k x229 (w64 (x230 + 1)) o0
   else
   c36 k x229 (w64 (x230 + 1)) o0
   else none
  else
  some true
end
def f (k : Nat) (a0 : Flow) : Option (Bool) :=
 bif (decide ((Flow.Insts a0) < 0)) then
  some false
 else
 bif (decide (4096 < (Flow.Insts a0))) then
  some false
 else
 bif (decide ((Flow.Params a0) < 0)) then
  some false
 else
 bif (decide (4094 < (Flow.Params a0))) then
  some false
 else
 bif (!decide (((Flow.Needs a0).length : Int) = (Flow.Insts a0))) then
  some false
 else
 c5 k (w64 ((w64 ((Flow.Insts a0) + (Flow.Params a0))) + 2)) ((Flow.Arcs a0).length : Int) 0 a0
end jacquardref28_Valid
namespace jacquardlaw32_plain
def f (k : Nat) (a0 : Flow) : Option (Bool) :=
 (jacquardref28_Valid.f k a0).bind fun y4 =>
 bif y4 then
  some (!(Flow.Loop a0))
 else
 some false
end jacquardlaw32_plain
namespace jacquardref30_Nodes
def f (a0 : Int) : Option (Int) :=
 some (mn (mx a0 0) 8192)
end jacquardref30_Nodes
namespace jacquardref30_Counts
def f (a0 : Int) (a1 : Arc) : Option (Bool) :=
 bif (decide (0 ≤ (Arc.From a1))) then
  (jacquardref30_Nodes.f a0).bind fun y12 =>
  bif (decide ((Arc.From a1) < y12)) then
   bif (decide (0 ≤ (Arc.To a1))) then
    (jacquardref30_Nodes.f a0).bind fun y24 =>
    some (decide ((Arc.To a1) < y24))
   else
   some false
  else
  some false
 else
 some false
end jacquardref30_Counts
namespace jacquardref30_Weight
def f (a0 : Arc) (a1 : Int) : Option (Int) :=
 some (w64 ((mn (mx (Arc.Lat a0) (w64 (0 - 1048576))) 1048576) - (w64 ((mn (mx a1 0) 256) * (mn (mx (Arc.Dist a0) (w64 (0 - 1048576))) 1048576)))))
end jacquardref30_Weight
namespace jacquardref30_Walks
mutual
def c4 : Nat → Int → (List Arc) → Int → Int → Int → (List (List Int)) → Option (((List (List Int)) × Bool × Unit))
  | 0, _, _, _, _, _, _ => none
  | k + 1, x0, x1, x2, x19, x20, o1 =>
  bif (decide (x20 < x19)) then
   if 0 ≤ x0 ∧ x0 ≤ x0 ∧ x0 ≤ 1073741824 then
   c8 k x0 x1 x2 x20 x19 x20 x0 0 o1 (List.replicate x0.toNat (0 : Int))
   else none
  else
  c16 k x0 x1 x2 (x1.length : Int) 0 o1
def c8 : Nat → Int → (List Arc) → Int → Int → Int → Int → Int → Int → (List (List Int)) → (List Int) → Option (((List (List Int)) × Bool × Unit))
  | 0, _, _, _, _, _, _, _, _, _, _ => none
  | k + 1, x0, x1, x2, x9, x19, x20, x25, x26, o1, o2 =>
  bif (decide (x26 < x25)) then
   if 0 ≤ x26 ∧ x26 < (o2.length : Int) then
   c8 k x0 x1 x2 x9 x19 x20 x25 (w64 (x26 + 1)) o1 (List.set o2 x26.toNat (-1152921504606846976))
   else none
  else
  if 0 ≤ x9 ∧ x9 < (o2.length : Int) then
  bif Nat.ble (List.length o1 + List.length [(List.set o2 x9.toNat 0)]) 1073741824 then
  c4 k x0 x1 x2 x19 (w64 (x20 + 1)) (o1 ++ [(List.set o2 x9.toNat 0)])
  else none
  else none
def c16 : Nat → Int → (List Arc) → Int → Int → Int → (List (List Int)) → Option (((List (List Int)) × Bool × Unit))
  | 0, _, _, _, _, _, _ => none
  | k + 1, x0, x1, x2, x42, x43, o1 =>
  bif (decide (x43 < x42)) then
   if 0 ≤ x43 ∧ x43 < (x1.length : Int) then
   (jacquardref30_Counts.f x0 (rd x1 x43)).bind fun y51 =>
   bif y51 then
    if 0 ≤ x43 ∧ x43 < (x1.length : Int) then
    if 0 ≤ (Arc.From (rd x1 x43)) ∧ (Arc.From (rd x1 x43)) < (o1.length : Int) then
    if 0 ≤ x43 ∧ x43 < (x1.length : Int) then
    if 0 ≤ x43 ∧ x43 < (x1.length : Int) then
    if 0 ≤ (Arc.From (rd x1 x43)) ∧ (Arc.From (rd x1 x43)) < (o1.length : Int) then
    if 0 ≤ x43 ∧ x43 < (x1.length : Int) then
    if 0 ≤ (Arc.To (rd x1 x43)) ∧ (Arc.To (rd x1 x43)) < ((rd o1 (Arc.From (rd x1 x43))).length : Int) then
    if 0 ≤ x43 ∧ x43 < (x1.length : Int) then
    (jacquardref30_Weight.f (rd x1 x43) x2).bind fun y85 =>
    if 0 ≤ (Arc.To (rd x1 x43)) ∧ (Arc.To (rd x1 x43)) < ((rd o1 (Arc.From (rd x1 x43))).length : Int) then
    c16 k x0 x1 x2 x42 (w64 (x43 + 1)) (List.set o1 (Arc.From (rd x1 x43)).toNat (List.set (rd o1 (Arc.From (rd x1 x43))) (Arc.To (rd x1 x43)).toNat (mx (rd (rd o1 (Arc.From (rd x1 x43))) (Arc.To (rd x1 x43))) y85)))
    else none
    else none
    else none
    else none
    else none
    else none
    else none
    else none
    else none
   else
   c16 k x0 x1 x2 x42 (w64 (x43 + 1)) o1
   else none
  else
  c22 k x0 x0 0 o1
def c22 : Nat → Int → Int → Int → (List (List Int)) → Option (((List (List Int)) × Bool × Unit))
  | 0, _, _, _, _ => none
  | k + 1, x0, x89, x90, o1 =>
  bif (decide (x90 < x89)) then
   if 0 ≤ x90 ∧ x90 < (o1.length : Int) then
   if 0 ≤ x90 ∧ x90 < ((rd o1 x90).length : Int) then
   bif (decide (0 < (rd (rd o1 x90) x90))) then
    some ([], false, ())
   else
   c27 k x0 x90 x89 x90 x0 0 o1
   else none
   else none
  else
  some (o1, true, ())
def c27 : Nat → Int → Int → Int → Int → Int → Int → (List (List Int)) → Option (((List (List Int)) × Bool × Unit))
  | 0, _, _, _, _, _, _, _ => none
  | k + 1, x0, x13, x89, x90, x101, x102, o1 =>
  bif (decide (x102 < x101)) then
   c30 k x0 x13 x102 x89 x90 x101 x102 x0 0 o1
  else
  c37 k x0 x89 x90 x0 0 o1
def c30 : Nat → Int → Int → Int → Int → Int → Int → Int → Int → Int → (List (List Int)) → Option (((List (List Int)) × Bool × Unit))
  | 0, _, _, _, _, _, _, _, _, _, _ => none
  | k + 1, x0, x13, x14, x89, x90, x101, x102, x105, x106, o1 =>
  bif (decide (x106 < x105)) then
   if 0 ≤ x14 ∧ x14 < (o1.length : Int) then
   if 0 ≤ x13 ∧ x13 < ((rd o1 x14).length : Int) then
   bif (decide ((-1152921504606846976) < (rd (rd o1 x14) x13))) then
    if 0 ≤ x13 ∧ x13 < (o1.length : Int) then
    if 0 ≤ x106 ∧ x106 < ((rd o1 x13).length : Int) then
    bif (decide ((-1152921504606846976) < (rd (rd o1 x13) x106))) then
     if 0 ≤ x14 ∧ x14 < (o1.length : Int) then
     if 0 ≤ x14 ∧ x14 < (o1.length : Int) then
     if 0 ≤ x106 ∧ x106 < ((rd o1 x14).length : Int) then
     if 0 ≤ x14 ∧ x14 < (o1.length : Int) then
     if 0 ≤ x13 ∧ x13 < ((rd o1 x14).length : Int) then
     if 0 ≤ x13 ∧ x13 < (o1.length : Int) then
     if 0 ≤ x106 ∧ x106 < ((rd o1 x13).length : Int) then
     if 0 ≤ x106 ∧ x106 < ((rd o1 x14).length : Int) then
     c30 k x0 x13 x14 x89 x90 x101 x102 x105 (w64 (x106 + 1)) (List.set o1 x14.toNat (List.set (rd o1 x14) x106.toNat (mx (rd (rd o1 x14) x106) (w64 ((rd (rd o1 x14) x13) + (rd (rd o1 x13) x106))))))
     else none
     else none
     else none
     else none
     else none
     else none
     else none
     else none
    else
    c30 k x0 x13 x14 x89 x90 x101 x102 x105 (w64 (x106 + 1)) o1
    else none
    else none
   else
   c30 k x0 x13 x14 x89 x90 x101 x102 x105 (w64 (x106 + 1)) o1
   else none
   else none
  else
  c27 k x0 x13 x89 x90 x101 (w64 (x102 + 1)) o1
def c37 : Nat → Int → Int → Int → Int → Int → (List (List Int)) → Option (((List (List Int)) × Bool × Unit))
  | 0, _, _, _, _, _, _ => none
  | k + 1, x0, x89, x90, x158, x159, o1 =>
  bif (decide (x159 < x158)) then
   if 0 ≤ x159 ∧ x159 < (o1.length : Int) then
   if 0 ≤ x159 ∧ x159 < ((rd o1 x159).length : Int) then
   bif (decide (0 < (rd (rd o1 x159) x159))) then
    some ([], false, ())
   else
   c37 k x0 x89 x90 x158 (w64 (x159 + 1)) o1
   else none
   else none
  else
  c22 k x0 x89 (w64 (x90 + 1)) o1
end
def f (k : Nat) (a0 : Int) (a1 : (List Arc)) (a2 : Int) : Option (((List (List Int)) × Bool × Unit)) :=
 (jacquardref30_Nodes.f a0).bind fun y18 =>
 c4 k y18 a1 a2 y18 0 []
end jacquardref30_Walks
namespace jacquardref30_Bound
def f (a0 : (List Int)) (a1 : Int) : Option (Int) :=
 bif (decide ((a0.length : Int) ≤ a1)) then
  some 0
 else
 if 0 ≤ a1 ∧ a1 < (a0.length : Int) then
 some (mn (mx (rd a0 a1) (-1073741824)) 1073741824)
 else none
end jacquardref30_Bound
namespace jacquardref30_After
mutual
def c6 : Nat → (List Int) → Int → Int → (List (List Int)) → (List Int) → Option (((List Int) × Bool × Unit))
  | 0, _, _, _, _, _ => none
  | k + 1, x3, x26, x27, o1, o2 =>
  bif (decide (x27 < x26)) then
   (jacquardref30_Bound.f x3 x27).bind fun y32 =>
   c10 k x3 x27 y32 x26 x27 (o1.length : Int) 0 o1 o2
  else
  some (o2, true, ())
def c10 : Nat → (List Int) → Int → Int → Int → Int → Int → Int → (List (List Int)) → (List Int) → Option (((List Int) × Bool × Unit))
  | 0, _, _, _, _, _, _, _, _, _ => none
  | k + 1, x3, x13, x14, x26, x27, x34, x35, o1, o2 =>
  bif (decide (x35 < x34)) then
   if 0 ≤ x35 ∧ x35 < (o1.length : Int) then
   if 0 ≤ x13 ∧ x13 < ((rd o1 x35).length : Int) then
   bif (decide ((-1152921504606846976) < (rd (rd o1 x35) x13))) then
    (jacquardref30_Bound.f x3 x35).bind fun y49 =>
    if 0 ≤ x35 ∧ x35 < (o1.length : Int) then
    if 0 ≤ x13 ∧ x13 < ((rd o1 x35).length : Int) then
    c10 k x3 x13 (mx x14 (w64 (y49 + (rd (rd o1 x35) x13)))) x26 x27 x34 (w64 (x35 + 1)) o1 o2
    else none
    else none
   else
   c10 k x3 x13 x14 x26 x27 x34 (w64 (x35 + 1)) o1 o2
   else none
   else none
  else
  bif Nat.ble (List.length o2 + List.length [x14]) 1073741824 then
  c6 k x3 x26 (w64 (x27 + 1)) o1 (o2 ++ [x14])
  else none
end
def f (k : Nat) (a0 : Int) (a1 : (List Arc)) (a2 : Int) (a3 : (List Int)) : Option (((List Int) × Bool × Unit)) :=
 (jacquardref30_Walks.f k a0 a1 a2).bind fun y20 =>
 bif (!y20.2.1) then
  some ([], false, ())
 else
 c6 k a3 (y20.1.length : Int) 0 y20.1 []
end jacquardref30_After
namespace jacquardref32_Settled
mutual
def c6 : Nat → (List Arc) → Int → Int → Int → Flow → (List (List Int)) → Option (((List Int) × Bool × Unit))
  | 0, _, _, _, _, _, _ => none
  | k + 1, x1, x6, x23, x24, o0, o2 =>
  bif (decide (x24 < x23)) then
   if 0 ≤ x24 ∧ x24 < (x1.length : Int) then
   bif (decide ((Arc.From (rd x1 x24)) < (Flow.Insts o0))) then
    if 0 ≤ (Arc.To (rd x1 x24)) ∧ (Arc.To (rd x1 x24)) < (o2.length : Int) then
    if 0 ≤ (Arc.From (rd x1 x24)) ∧ (Arc.From (rd x1 x24)) < ((rd o2 (Arc.To (rd x1 x24))).length : Int) then
    bif (decide ((-1152921504606846976) < (rd (rd o2 (Arc.To (rd x1 x24))) (Arc.From (rd x1 x24))))) then
     some ([], false, ())
    else
    c6 k x1 x6 x23 (w64 (x24 + 1)) o0 o2
    else none
    else none
   else
   bif (decide ((Arc.To (rd x1 x24)) < (Flow.Insts o0))) then
    if 0 ≤ (Arc.To (rd x1 x24)) ∧ (Arc.To (rd x1 x24)) < (o2.length : Int) then
    if 0 ≤ (Arc.From (rd x1 x24)) ∧ (Arc.From (rd x1 x24)) < ((rd o2 (Arc.To (rd x1 x24))).length : Int) then
    bif (decide ((-1152921504606846976) < (rd (rd o2 (Arc.To (rd x1 x24))) (Arc.From (rd x1 x24))))) then
     some ([], false, ())
    else
    c6 k x1 x6 x23 (w64 (x24 + 1)) o0 o2
    else none
    else none
   else
   c6 k x1 x6 x23 (w64 (x24 + 1)) o0 o2
   else none
  else
  (jacquardref30_After.f k x6 x1 0 []).bind fun y58 =>
  some (y58.1, y58.2.1, ())
end
def f (k : Nat) (a0 : Flow) (a1 : (List Arc)) : Option (((List Int) × Bool × Unit)) :=
 (jacquardref28_End.f a0).bind fun y12 =>
 (jacquardref30_Walks.f k (w64 (y12 + 1)) a1 0).bind fun y17 =>
 bif (!y17.2.1) then
  some ([], false, ())
 else
 c6 k a1 (w64 (y12 + 1)) (a1.length : Int) 0 a0 y17.1
end jacquardref32_Settled
namespace jacquardref32_Earliest
mutual
def c2 : Nat → Int → Int → Flow → Option (((List Int) × Bool × Unit))
  | 0, _, _, _ => none
  | k + 1, x11, x12, o0 =>
  bif (decide (x12 < x11)) then
   if 0 ≤ x12 ∧ x12 < ((Flow.Arcs o0).length : Int) then
   bif (decide ((Arc.From (rd (Flow.Arcs o0) x12)) < (Flow.Insts o0))) then
    bif (decide ((Flow.Insts o0) ≤ (Arc.To (rd (Flow.Arcs o0) x12)))) then
     (jacquardref28_Source.f o0).bind fun y36 =>
     bif (decide ((Arc.To (rd (Flow.Arcs o0) x12)) ≤ y36)) then
      some ([], false, ())
     else
     c2 k x11 (w64 (x12 + 1)) o0
    else
    c2 k x11 (w64 (x12 + 1)) o0
   else
   c2 k x11 (w64 (x12 + 1)) o0
   else none
  else
  (jacquardref32_Settled.f k o0 (Flow.Arcs o0)).bind fun y44 =>
  bif (!y44.2.1) then
   some ([], false, ())
  else
  c12 k (Flow.Params o0) 0 o0 y44.1
def c12 : Nat → Int → Int → Flow → (List Int) → Option (((List Int) × Bool × Unit))
  | 0, _, _, _, _ => none
  | k + 1, x50, x51, o0, o3 =>
  bif (decide (x51 < x50)) then
   if 0 ≤ (w64 ((Flow.Insts o0) + x51)) ∧ (w64 ((Flow.Insts o0) + x51)) < (o3.length : Int) then
   bif (decide (0 < (rd o3 (w64 ((Flow.Insts o0) + x51))))) then
    some ([], false, ())
   else
   c12 k x50 (w64 (x51 + 1)) o0 o3
   else none
  else
  some (o3, true, ())
end
def f (k : Nat) (a0 : Flow) : Option (((List Int) × Bool × Unit)) :=
 c2 k ((Flow.Arcs a0).length : Int) 0 a0
end jacquardref32_Earliest
namespace bounds_usage
mutual
def c3 : Nat → (List Need) → Int → Int → (List Int) → (List Int) → Option (((List Int) × (List Int) × Unit))
  | 0, _, _, _, _, _ => none
  | k + 1, x15, x16, x17, o3, o4 =>
  bif (decide (x17 < x16)) then
   if 0 ≤ x17 ∧ x17 < (x15.length : Int) then
   bif (decide (0 ≤ (Need.Res (rd x15 x17)))) then
    if 0 ≤ (Need.Res (rd x15 x17)) ∧ (Need.Res (rd x15 x17)) < (o3.length : Int) then
    if 0 ≤ (Need.Res (rd x15 x17)) ∧ (Need.Res (rd x15 x17)) < (o3.length : Int) then
    if 0 ≤ (Need.Res (rd x15 x17)) ∧ (Need.Res (rd x15 x17)) < (o4.length : Int) then
    if 0 ≤ (Need.Res (rd x15 x17)) ∧ (Need.Res (rd x15 x17)) < (o4.length : Int) then
    c3 k x15 x16 (w64 (x17 + 1)) (List.set o3 (Need.Res (rd x15 x17)).toNat (w64 ((rd o3 (Need.Res (rd x15 x17))) + (Need.Busy (rd x15 x17))))) (List.set o4 (Need.Res (rd x15 x17)).toNat (mx (rd o4 (Need.Res (rd x15 x17))) (Need.Busy (rd x15 x17))))
    else none
    else none
    else none
    else none
   else
   c3 k x15 x16 (w64 (x17 + 1)) o3 o4
   else none
  else
  some (o3, o4, ())
end
def f (k : Nat) (a0 : Flow) : Option (((List Int) × (List Int) × Unit)) :=
 if 0 ≤ ((Flow.Res a0).length : Int) ∧ ((Flow.Res a0).length : Int) ≤ ((Flow.Res a0).length : Int) ∧ ((Flow.Res a0).length : Int) ≤ 1073741824 then
 if 0 ≤ ((Flow.Res a0).length : Int) ∧ ((Flow.Res a0).length : Int) ≤ ((Flow.Res a0).length : Int) ∧ ((Flow.Res a0).length : Int) ≤ 1073741824 then
 c3 k (Flow.Needs a0) ((Flow.Needs a0).length : Int) 0 (List.replicate ((Flow.Res a0).length : Int).toNat (0 : Int)) (List.replicate ((Flow.Res a0).length : Int).toNat (0 : Int))
 else none
 else none
end bounds_usage
namespace bounds_share
def f (a0 : Int) (a1 : Int) : Option (Int) :=
 if ¬ a1 = 0 then
 some (w64 (Int.tdiv (w64 ((w64 (a0 + a1)) - 1)) a1))
 else none
end bounds_share
namespace bounds_Depth
mutual
def c11 : Nat → Int → (List Resource) → Int → Int → (List Int) → Option ((Int × Int × Unit))
  | 0, _, _, _, _, _ => none
  | k + 1, x6, x38, x39, x40, o3 =>
  bif (decide (x40 < x39)) then
   if 0 ≤ x40 ∧ x40 < (x38.length : Int) then
   if 0 ≤ x40 ∧ x40 < (o3.length : Int) then
   (bounds_share.f (rd o3 x40) (Resource.Count (rd x38 x40))).bind fun y52 =>
   c11 k (mx x6 y52) x38 x39 (w64 (x40 + 1)) o3
   else none
   else none
  else
  some (x6, 0, ())
end
def f (k : Nat) (a0 : Flow) : Option ((Int × Int × Unit)) :=
 (dataflow_Valid.f k a0).bind fun y12 =>
 bif (!y12) then
  some (0, 3, ())
 else
 bif (Flow.Loop a0) then
  some (0, 1, ())
 else
 (dataflow_Nodes.f a0).bind fun y18 =>
 (diffcons_Earliest.f k y18 (Flow.Arcs a0) 0).bind fun y21 =>
 bif (Option.isSome y21.2.1) then
  some (0, 14, ())
 else
 (dataflow_End.f a0).bind fun y28 =>
 if 0 ≤ y28 ∧ y28 < (y21.1.length : Int) then
 (bounds_usage.f k a0).bind fun y34 =>
 c11 k (mx 1 (rd y21.1 y28)) (Flow.Res a0) ((Flow.Res a0).length : Int) 0 y34.1
 else none
end bounds_Depth
namespace jacquardref32_Contested
mutual
def c3 : Nat → Int → Int → Flow → (List Int) → Option ((List Int))
  | 0, _, _, _, _ => none
  | k + 1, x9, x10, o0, o2 =>
  bif (decide (x10 < x9)) then
   c7 k x10 0 x9 x10 ((Flow.Needs o0).length : Int) 0 o0 o2
  else
  some o2
def c7 : Nat → Int → Int → Int → Int → Int → Int → Flow → (List Int) → Option ((List Int))
  | 0, _, _, _, _, _, _, _, _ => none
  | k + 1, x4, x5, x9, x10, x15, x16, o0, o2 =>
  bif (decide (x16 < x15)) then
   if 0 ≤ x16 ∧ x16 < ((Flow.Needs o0).length : Int) then
   if 0 ≤ x4 ∧ x4 < ((Flow.Needs o0).length : Int) then
   bif (decide ((Need.Res (rd (Flow.Needs o0) x16)) = (Need.Res (rd (Flow.Needs o0) x4)))) then
    c7 k x4 (w64 (x5 + 1)) x9 x10 x15 (w64 (x16 + 1)) o0 o2
   else
   c7 k x4 x5 x9 x10 x15 (w64 (x16 + 1)) o0 o2
   else none
   else none
  else
  if 0 ≤ x4 ∧ x4 < ((Flow.Needs o0).length : Int) then
  bif (decide (0 ≤ (Need.Res (rd (Flow.Needs o0) x4)))) then
   if 0 ≤ x4 ∧ x4 < ((Flow.Needs o0).length : Int) then
   if 0 ≤ (Need.Res (rd (Flow.Needs o0) x4)) ∧ (Need.Res (rd (Flow.Needs o0) x4)) < ((Flow.Res o0).length : Int) then
   bif (decide ((Resource.Count (rd (Flow.Res o0) (Need.Res (rd (Flow.Needs o0) x4)))) < x5)) then
    bif Nat.ble (List.length o2 + List.length [x4]) 1073741824 then
    c3 k x9 (w64 (x10 + 1)) o0 (o2 ++ [x4])
    else none
   else
   c3 k x9 (w64 (x10 + 1)) o0 o2
   else none
   else none
  else
  c3 k x9 (w64 (x10 + 1)) o0 o2
  else none
end
def f (k : Nat) (a0 : Flow) : Option ((List Int)) :=
 c3 k ((Flow.Needs a0).length : Int) 0 a0 []
end jacquardref32_Contested
namespace jacquardref32_Most
mutual
def c4 : Nat → Int → Int → Int → Flow → (List Int) → Option (Int)
  | 0, _, _, _, _, _ => none
  | k + 1, x5, x17, x18, o0, o1 =>
  bif (decide (x18 < x17)) then
   if 0 ≤ x18 ∧ x18 < (o1.length : Int) then
   if 0 ≤ (rd o1 x18) ∧ (rd o1 x18) < ((Flow.Needs o0).length : Int) then
   c4 k (w64 (x5 + (Need.Busy (rd (Flow.Needs o0) (rd o1 x18))))) x17 (w64 (x18 + 1)) o0 o1
   else none
   else none
  else
  some x5
end
def f (k : Nat) (a0 : Flow) (a1 : (List Int)) : Option (Int) :=
 (jacquardref28_End.f a0).bind fun y10 =>
 if 0 ≤ y10 ∧ y10 < (a1.length : Int) then
 (jacquardref32_Contested.f k a0).bind fun y15 =>
 c4 k (mx 1 (rd a1 y10)) (y15.length : Int) 0 a0 y15
 else none
end jacquardref32_Most
namespace jacquardlaw32_ListschedBounds
def f (k : Nat) (a0 : Flow) : Option (Bool) :=
 (jacquardlaw32_awake.f k ).bind fun y9 =>
 bif (!y9) then
  (jacquardlaw32_awake.f k ).bind fun y21 =>
  some y21
 else
 (jacquardlaw32_few.f k a0).bind fun y13 =>
 bif (!y13) then
  (jacquardlaw32_awake.f k ).bind fun y21 =>
  some y21
 else
 (jacquardlaw32_plain.f k a0).bind fun y18 =>
 bif (!y18) then
  (jacquardlaw32_awake.f k ).bind fun y21 =>
  some y21
 else
 (listsched_Schedule.f k a0).bind fun y24 =>
 bif (!decide (y24.2.1 = 0)) then
  some true
 else
 (jacquardref32_Earliest.f k a0).bind fun y31 =>
 (bounds_Depth.f k a0).bind fun y36 =>
 bif y31.2.1 then
  bif (decide (y36.2.1 = 0)) then
   bif (decide (y36.1 ≤ (Sched.Depth y24.1))) then
    (jacquardref32_Most.f k a0 y31.1).bind fun y55 =>
    some (decide ((Sched.Depth y24.1) ≤ y55))
   else
   some false
  else
  some false
 else
 some false
end jacquardlaw32_ListschedBounds
end
end Go.Proofs.YtjddmekfeckphaaGreatV
