/- The functions, as plain functions: printed. -/
import Derived.Test.YtklfakmpfinlaaaVs
set_option linter.unusedVariables false
set_option linter.unusedSimpArgs false
namespace Go.Proofs.YtklfakmpfinlaaaV
open Go Go.Vm
def jacquardlaw35_one.f : Option (Flow) :=
  some (1, 0, true, [(1, 0, 0, 0, ()), (1, 2, 0, 0, ()), (0, 2, 2, 0, ())], [(1, 0, 0, 1, ())], [(0, 2, ())], ())
def dataflow_between.f (a0 : Int) (a1 : Int) (a2 : Int) : Option (Bool) :=
  bif (decide (a1 ≤ a0)) then
    some (decide (a0 ≤ a2))
  else
  some false
def dataflow_Source.f (a0 : Flow) : Option (Int) :=
  some (w64 ((Flow.Insts a0) + (Flow.Params a0)))
def dataflow_End.f (a0 : Flow) : Option (Int) :=
  some (w64 ((w64 ((Flow.Insts a0) + (Flow.Params a0))) + 1))
mutual
def dataflow_framed.c5 : Nat → Int → Int → Int → Flow → Option (Bool)
  | 0, _, _, _, _ => none
  | k + 1, x3, x18, x19, o0 =>
    bif (decide (x19 < x18)) then
      bif (decide (x19 = x3)) then
        (dataflow_End.f o0).bind fun y27 =>
        dataflow_framed.c10 k x3 x19 y27 x18 x19 o0
      else
      dataflow_framed.c10 k x3 x19 x19 x18 x19 o0
    else
    dataflow_framed.c14 k x3 x3 0 o0
def dataflow_framed.c10 : Nat → Int → Int → Int → Int → Int → Flow → Option (Bool)
  | 0, _, _, _, _, _, _ => none
  | k + 1, x3, x4, x5, x18, x19, o0 =>
    if 0 ≤ x4 ∧ x4 < ((Flow.Arcs o0).length : Int) then
    bif (!eqB (Arc.T) (rd (Flow.Arcs o0) x4) (x3, x5, 0, 0, ())) then
      some false
    else
    dataflow_framed.c5 k x3 x18 (w64 (x19 + 1)) o0
    else none
def dataflow_framed.c14 : Nat → Int → Int → Int → Flow → Option (Bool)
  | 0, _, _, _, _ => none
  | k + 1, x3, x38, x39, o0 =>
    bif (decide (x39 < x38)) then
      if 0 ≤ (w64 ((w64 (x3 + 1)) + x39)) ∧ (w64 ((w64 (x3 + 1)) + x39)) < ((Flow.Arcs o0).length : Int) then
      bif (!decide ((Arc.From (rd (Flow.Arcs o0) (w64 ((w64 (x3 + 1)) + x39)))) = x39)) then
        some false
      else
      (dataflow_End.f o0).bind fun y58 =>
      bif (!decide ((Arc.To (rd (Flow.Arcs o0) (w64 ((w64 (x3 + 1)) + x39)))) = y58)) then
        some false
      else
      bif (!decide ((Arc.Dist (rd (Flow.Arcs o0) (w64 ((w64 (x3 + 1)) + x39)))) = 0)) then
        some false
      else
      bif (decide (x39 < (Flow.Insts o0))) then
        if 0 ≤ x39 ∧ x39 < ((Flow.Needs o0).length : Int) then
        bif (decide ((Arc.Lat (rd (Flow.Arcs o0) (w64 ((w64 (x3 + 1)) + x39)))) < (mx 1 (Need.Busy (rd (Flow.Needs o0) x39))))) then
          some false
        else
        dataflow_framed.c14 k x3 x38 (w64 (x39 + 1)) o0
        else none
      else
      dataflow_framed.c14 k x3 x38 (w64 (x39 + 1)) o0
      else none
    else
    some true
end
def dataflow_framed.f (k : Nat) (a0 : Flow) : Option (Bool) :=
  (dataflow_Source.f a0).bind fun y9 =>
  bif (decide (((Flow.Arcs a0).length : Int) < (w64 ((w64 (2 * y9)) + 1)))) then
    some false
  else
  dataflow_framed.c5 k y9 (w64 (y9 + 1)) 0 a0
mutual
def dataflow_Valid.c6 : Nat → Int → Flow → Option (Bool)
  | 0, _, _ => none
  | k + 1, x3, o0 =>
    dataflow_Valid.c7 k x3 (Flow.Arcs o0) ((Flow.Arcs o0).length : Int) 0 o0
def dataflow_Valid.c7 : Nat → Int → (List Arc) → Int → Int → Flow → Option (Bool)
  | 0, _, _, _, _, _ => none
  | k + 1, x3, x31, x32, x33, o0 =>
    bif (decide (x33 < x32)) then
      if 0 ≤ x33 ∧ x33 < (x31.length : Int) then
      (dataflow_Source.f o0).bind fun y40 =>
      (dataflow_between.f (Arc.From (rd x31 x33)) 0 y40).bind fun y41 =>
      bif (!y41) then
        some false
      else
      (dataflow_End.f o0).bind fun y47 =>
      (dataflow_between.f (Arc.To (rd x31 x33)) 0 y47).bind fun y48 =>
      bif (!y48) then
        some false
      else
      (dataflow_between.f (Arc.Lat (rd x31 x33)) 0 4096).bind fun y54 =>
      bif (!y54) then
        some false
      else
      (dataflow_between.f (Arc.Dist (rd x31 x33)) 0 x3).bind fun y61 =>
      bif (!y61) then
        some false
      else
      dataflow_Valid.c7 k x3 x31 x32 (w64 (x33 + 1)) o0
      else none
    else
    dataflow_Valid.c13 k (Flow.Res o0) ((Flow.Res o0).length : Int) 0 o0
def dataflow_Valid.c13 : Nat → (List Resource) → Int → Int → Flow → Option (Bool)
  | 0, _, _, _, _ => none
  | k + 1, x66, x67, x68, o0 =>
    bif (decide (x68 < x67)) then
      if 0 ≤ x68 ∧ x68 < (x66.length : Int) then
      (dataflow_between.f (Resource.Kind (rd x66 x68)) 1 4).bind fun y74 =>
      bif (!y74) then
        some false
      else
      (dataflow_between.f (Resource.Count (rd x66 x68)) 1 1024).bind fun y79 =>
      bif (!y79) then
        some false
      else
      dataflow_Valid.c13 k x66 x67 (w64 (x68 + 1)) o0
      else none
    else
    dataflow_Valid.c19 k (Flow.Needs o0) ((Flow.Needs o0).length : Int) 0 o0
def dataflow_Valid.c19 : Nat → (List Need) → Int → Int → Flow → Option (Bool)
  | 0, _, _, _, _ => none
  | k + 1, x84, x85, x86, o0 =>
    bif (decide (x86 < x85)) then
      if 0 ≤ x86 ∧ x86 < (x84.length : Int) then
      bif (decide ((Need.Res (rd x84 x86)) = (-1))) then
        bif (decide ((Need.Busy (rd x84 x86)) = 0)) then
          dataflow_Valid.c19 k x84 x85 (w64 (x86 + 1)) o0
        else
        (dataflow_between.f (Need.Res (rd x84 x86)) 0 (w64 (((Flow.Res o0).length : Int) - 1))).bind fun y104 =>
        bif (!y104) then
          some false
        else
        (dataflow_between.f (Need.Busy (rd x84 x86)) 1 256).bind fun y109 =>
        bif (!y109) then
          some false
        else
        dataflow_Valid.c19 k x84 x85 (w64 (x86 + 1)) o0
      else
      (dataflow_between.f (Need.Res (rd x84 x86)) 0 (w64 (((Flow.Res o0).length : Int) - 1))).bind fun y104 =>
      bif (!y104) then
        some false
      else
      (dataflow_between.f (Need.Busy (rd x84 x86)) 1 256).bind fun y109 =>
      bif (!y109) then
        some false
      else
      dataflow_Valid.c19 k x84 x85 (w64 (x86 + 1)) o0
      else none
    else
    (dataflow_framed.f k o0).bind fun y114 =>
    some y114
end
def dataflow_Valid.f (k : Nat) (a0 : Flow) : Option (Bool) :=
  (dataflow_between.f (Flow.Insts a0) 0 4096).bind fun y12 =>
  bif (!y12) then
    some false
  else
  (dataflow_between.f (Flow.Params a0) 0 4094).bind fun y17 =>
  bif (!y17) then
    some false
  else
  bif (!decide (((Flow.Needs a0).length : Int) = (Flow.Insts a0))) then
    some false
  else
  bif (Flow.Loop a0) then
    dataflow_Valid.c6 k 256 a0
  else
  dataflow_Valid.c6 k 0 a0
def schedcheck_between.f (a0 : Int) (a1 : Int) (a2 : Int) : Option (Bool) :=
  bif (decide (a1 ≤ a0)) then
    some (decide (a0 ≤ a2))
  else
  some false
mutual
def schedcheck_Fits.c6 : Nat → (List (List Int)) → Int → Int → Flow → Sched → Option (Bool)
  | 0, _, _, _, _, _ => none
  | k + 1, x61, x62, x63, o0, o1 =>
    bif (decide (x63 < x62)) then
      if 0 ≤ x63 ∧ x63 < (x61.length : Int) then
      schedcheck_Fits.c9 k x61 x62 x63 (rd x61 x63) ((rd x61 x63).length : Int) 0 o0 o1
      else none
    else
    schedcheck_Fits.c16 k (Sched.Unit o1) ((Sched.Unit o1).length : Int) 0 o0
def schedcheck_Fits.c9 : Nat → (List (List Int)) → Int → Int → (List Int) → Int → Int → Flow → Sched → Option (Bool)
  | 0, _, _, _, _, _, _, _, _ => none
  | k + 1, x61, x62, x63, x67, x68, x69, o0, o1 =>
    bif (decide (x69 < x68)) then
      if 0 ≤ x69 ∧ x69 < (x67.length : Int) then
      (schedcheck_between.f (rd x67 x69) 0 4096).bind fun y74 =>
      bif (!y74) then
        some false
      else
      schedcheck_Fits.c9 k x61 x62 x63 x67 x68 (w64 (x69 + 1)) o0 o1
      else none
    else
    schedcheck_Fits.c6 k x61 x62 (w64 (x63 + 1)) o0 o1
def schedcheck_Fits.c16 : Nat → (List Int) → Int → Int → Flow → Option (Bool)
  | 0, _, _, _, _ => none
  | k + 1, x79, x80, x81, o0 =>
    bif (decide (x81 < x80)) then
      if 0 ≤ x81 ∧ x81 < (x79.length : Int) then
      if 0 ≤ x81 ∧ x81 < ((Flow.Needs o0).length : Int) then
      bif (decide ((Need.Res (rd (Flow.Needs o0) x81)) < 0)) then
        bif (!decide ((rd x79 x81) = (-1))) then
          some false
        else
        bif (decide (0 ≤ (Need.Res (rd (Flow.Needs o0) x81)))) then
          if 0 ≤ (Need.Res (rd (Flow.Needs o0) x81)) ∧ (Need.Res (rd (Flow.Needs o0) x81)) < ((Flow.Res o0).length : Int) then
          (schedcheck_between.f (rd x79 x81) 0 (w64 ((Resource.Count (rd (Flow.Res o0) (Need.Res (rd (Flow.Needs o0) x81)))) - 1))).bind fun y110 =>
          bif (!y110) then
            some false
          else
          schedcheck_Fits.c16 k x79 x80 (w64 (x81 + 1)) o0
          else none
        else
        schedcheck_Fits.c16 k x79 x80 (w64 (x81 + 1)) o0
      else
      bif (decide (0 ≤ (Need.Res (rd (Flow.Needs o0) x81)))) then
        if 0 ≤ (Need.Res (rd (Flow.Needs o0) x81)) ∧ (Need.Res (rd (Flow.Needs o0) x81)) < ((Flow.Res o0).length : Int) then
        (schedcheck_between.f (rd x79 x81) 0 (w64 ((Resource.Count (rd (Flow.Res o0) (Need.Res (rd (Flow.Needs o0) x81)))) - 1))).bind fun y110 =>
        bif (!y110) then
          some false
        else
        schedcheck_Fits.c16 k x79 x80 (w64 (x81 + 1)) o0
        else none
      else
      schedcheck_Fits.c16 k x79 x80 (w64 (x81 + 1)) o0
      else none
      else none
    else
    some true
end
def schedcheck_Fits.f (k : Nat) (a0 : Flow) (a1 : Sched) : Option (Bool) :=
  (dataflow_Valid.f k a0).bind fun y13 =>
  bif (!y13) then
    some false
  else
  bif (!decide (((Sched.Start a1).length : Int) = (Flow.Insts a0))) then
    some false
  else
  bif (!decide (((Sched.Unit a1).length : Int) = (Flow.Insts a0))) then
    some false
  else
  bif (!decide (((Sched.Params a1).length : Int) = (Flow.Params a0))) then
    some false
  else
  (schedcheck_between.f (Sched.II a1) 0 256).bind fun y41 =>
  bif (!y41) then
    some false
  else
  bif (!((decide (0 < (Sched.II a1))) == (Flow.Loop a0))) then
    some false
  else
  (schedcheck_between.f (Sched.Depth a1) 1 4096).bind fun y54 =>
  bif (!y54) then
    some false
  else
  schedcheck_Fits.c6 k [(Sched.Start a1), (Sched.Params a1)] ([(Sched.Start a1), (Sched.Params a1)].length : Int) 0 a0 a1
def dataflow_Nodes.f (a0 : Flow) : Option (Int) :=
  some (w64 ((w64 ((Flow.Insts a0) + (Flow.Params a0))) + 2))
def schedcheck_times.f (a0 : Flow) (a1 : Sched) : Option ((List Int)) :=
  (dataflow_Nodes.f a0).bind fun y7 =>
  if 0 ≤ y7 ∧ y7 ≤ y7 ∧ y7 ≤ 1073741824 then
  if 0 ≤ (Flow.Insts a0) ∧ (Flow.Insts a0) ≤ ((splice (List.replicate y7.toNat (0 : Int)) 0 (List.length (List.replicate y7.toNat (0 : Int))) (Sched.Start a1)).length : Int) then
  (dataflow_Source.f a0).bind fun y22 =>
  if 0 ≤ y22 ∧ y22 < ((splice (splice (List.replicate y7.toNat (0 : Int)) 0 (List.length (List.replicate y7.toNat (0 : Int))) (Sched.Start a1)) ((Flow.Insts a0).toNat) ((splice (List.replicate y7.toNat (0 : Int)) 0 (List.length (List.replicate y7.toNat (0 : Int))) (Sched.Start a1)).length - (Flow.Insts a0).toNat) (Sched.Params a1)).length : Int) then
  (dataflow_End.f a0).bind fun y26 =>
  if 0 ≤ y26 ∧ y26 < ((List.set (splice (splice (List.replicate y7.toNat (0 : Int)) 0 (List.length (List.replicate y7.toNat (0 : Int))) (Sched.Start a1)) ((Flow.Insts a0).toNat) ((splice (List.replicate y7.toNat (0 : Int)) 0 (List.length (List.replicate y7.toNat (0 : Int))) (Sched.Start a1)).length - (Flow.Insts a0).toNat) (Sched.Params a1)) y22.toNat 0).length : Int) then
  some (List.set (List.set (splice (splice (List.replicate y7.toNat (0 : Int)) 0 (List.length (List.replicate y7.toNat (0 : Int))) (Sched.Start a1)) ((Flow.Insts a0).toNat) ((splice (List.replicate y7.toNat (0 : Int)) 0 (List.length (List.replicate y7.toNat (0 : Int))) (Sched.Start a1)).length - (Flow.Insts a0).toNat) (Sched.Params a1)) y22.toNat 0) y26.toNat (Sched.Depth a1))
  else none
  else none
  else none
  else none
mutual
def schedcheck_Slack.c6 : Nat → (List Arc) → Int → Int → Sched → (List Int) → (List Int) → Option ((List Int))
  | 0, _, _, _, _, _, _ => none
  | k + 1, x17, x18, x19, o1, o3, o4 =>
    bif (decide (x19 < x18)) then
      if 0 ≤ x19 ∧ x19 < (x17.length : Int) then
      if 0 ≤ (Arc.To (rd x17 x19)) ∧ (Arc.To (rd x17 x19)) < (o3.length : Int) then
      if 0 ≤ (Arc.From (rd x17 x19)) ∧ (Arc.From (rd x17 x19)) < (o3.length : Int) then
      bif Nat.ble (List.length o4 + List.length [(w64 ((w64 ((rd o3 (Arc.To (rd x17 x19))) - (rd o3 (Arc.From (rd x17 x19))))) - (w64 ((Arc.Lat (rd x17 x19)) - (w64 ((Sched.II o1) * (Arc.Dist (rd x17 x19))))))))]) 1073741824 then
      schedcheck_Slack.c6 k x17 x18 (w64 (x19 + 1)) o1 o3 (o4 ++ [(w64 ((w64 ((rd o3 (Arc.To (rd x17 x19))) - (rd o3 (Arc.From (rd x17 x19))))) - (w64 ((Arc.Lat (rd x17 x19)) - (w64 ((Sched.II o1) * (Arc.Dist (rd x17 x19))))))))])
      else none
      else none
      else none
      else none
    else
    some o4
end
def schedcheck_Slack.f (k : Nat) (a0 : Flow) (a1 : Sched) : Option ((List Int)) :=
  (schedcheck_Fits.f k a0 a1).bind fun y11 =>
  bif (!y11) then
    some []
  else
  (schedcheck_times.f a0 a1).bind fun y15 =>
  schedcheck_Slack.c6 k (Flow.Arcs a0) ((Flow.Arcs a0).length : Int) 0 a1 y15 []
mutual
def schedcheck_Late.c3 : Nat → Int → Int → (List Int) → (List Int) → Option ((List Int))
  | 0, _, _, _, _ => none
  | k + 1, x11, x12, o3, o4 =>
    bif (decide (x12 < x11)) then
      if 0 ≤ x12 ∧ x12 < (o4.length : Int) then
      bif (decide ((rd o4 x12) < 0)) then
        bif Nat.ble (List.length o3 + List.length [x12]) 1073741824 then
        schedcheck_Late.c3 k x11 (w64 (x12 + 1)) (o3 ++ [x12]) o4
        else none
      else
      schedcheck_Late.c3 k x11 (w64 (x12 + 1)) o3 o4
      else none
    else
    some o3
end
def schedcheck_Late.f (k : Nat) (a0 : Flow) (a1 : Sched) : Option ((List Int)) :=
  (schedcheck_Slack.f k a0 a1).bind fun y10 =>
  schedcheck_Late.c3 k (y10.length : Int) 0 [] y10
def schedcheck_clash.f (a0 : Flow) (a1 : Sched) (a2 : Int) (a3 : Int) : Option (Bool) :=
  if 0 ≤ a2 ∧ a2 < ((Flow.Needs a0).length : Int) then
  if 0 ≤ a3 ∧ a3 < ((Flow.Needs a0).length : Int) then
  bif (decide ((Need.Res (rd (Flow.Needs a0) a2)) < 0)) then
    some false
  else
  bif (!decide ((Need.Res (rd (Flow.Needs a0) a2)) = (Need.Res (rd (Flow.Needs a0) a3)))) then
    some false
  else
  if 0 ≤ a2 ∧ a2 < ((Sched.Unit a1).length : Int) then
  if 0 ≤ a3 ∧ a3 < ((Sched.Unit a1).length : Int) then
  bif (!decide ((rd (Sched.Unit a1) a2) = (rd (Sched.Unit a1) a3))) then
    some false
  else
  bif (decide ((Need.Busy (rd (Flow.Needs a0) a2)) ≤ 0)) then
    some false
  else
  bif (decide ((Need.Busy (rd (Flow.Needs a0) a3)) ≤ 0)) then
    some false
  else
  if 0 ≤ a3 ∧ a3 < ((Sched.Start a1).length : Int) then
  if 0 ≤ a2 ∧ a2 < ((Sched.Start a1).length : Int) then
  bif (decide ((Sched.II a1) = 0)) then
    bif (decide ((w64 ((rd (Sched.Start a1) a3) - (rd (Sched.Start a1) a2))) < (Need.Busy (rd (Flow.Needs a0) a2)))) then
      some (decide ((w64 (0 - (w64 ((rd (Sched.Start a1) a3) - (rd (Sched.Start a1) a2))))) < (Need.Busy (rd (Flow.Needs a0) a3))))
    else
    some false
  else
  if ¬ (Sched.II a1) = 0 then
  if ¬ (Sched.II a1) = 0 then
  bif (decide ((Int.tmod (w64 ((Int.tmod (w64 ((rd (Sched.Start a1) a3) - (rd (Sched.Start a1) a2))) (Sched.II a1)) + (Sched.II a1))) (Sched.II a1)) < (Need.Busy (rd (Flow.Needs a0) a2)))) then
    some true
  else
  if ¬ (Sched.II a1) = 0 then
  some (decide ((Int.tmod (w64 ((Sched.II a1) - (Int.tmod (w64 ((Int.tmod (w64 ((rd (Sched.Start a1) a3) - (rd (Sched.Start a1) a2))) (Sched.II a1)) + (Sched.II a1))) (Sched.II a1)))) (Sched.II a1)) < (Need.Busy (rd (Flow.Needs a0) a3))))
  else none
  else none
  else none
  else none
  else none
  else none
  else none
  else none
  else none
mutual
def schedcheck_Clashes.c5 : Nat → Int → Int → Flow → Sched → (List Arr2_3) → Option ((List Arr2_3))
  | 0, _, _, _, _, _ => none
  | k + 1, x13, x14, o0, o1, o3 =>
    bif (decide (x14 < x13)) then
      bif (Flow.Loop o0) then
        if 0 ≤ x14 ∧ x14 < ((Flow.Needs o0).length : Int) then
        bif (decide (0 ≤ (Need.Res (rd (Flow.Needs o0) x14)))) then
          if 0 ≤ x14 ∧ x14 < ((Flow.Needs o0).length : Int) then
          bif (decide ((Sched.II o1) < (Need.Busy (rd (Flow.Needs o0) x14)))) then
            bif Nat.ble (List.length o3 + List.length [(x14, x14, ())]) 1073741824 then
            schedcheck_Clashes.c9 k x14 x13 x14 o0 o1 (o3 ++ [(x14, x14, ())])
            else none
          else
          schedcheck_Clashes.c9 k x14 x13 x14 o0 o1 o3
          else none
        else
        schedcheck_Clashes.c9 k x14 x13 x14 o0 o1 o3
        else none
      else
      schedcheck_Clashes.c9 k x14 x13 x14 o0 o1 o3
    else
    some o3
def schedcheck_Clashes.c9 : Nat → Int → Int → Int → Flow → Sched → (List Arr2_3) → Option ((List Arr2_3))
  | 0, _, _, _, _, _, _ => none
  | k + 1, x6, x13, x14, o0, o1, o5 =>
    schedcheck_Clashes.c10 k x6 (w64 (x6 + 1)) x13 x14 o0 o1 o5
def schedcheck_Clashes.c10 : Nat → Int → Int → Int → Int → Flow → Sched → (List Arr2_3) → Option ((List Arr2_3))
  | 0, _, _, _, _, _, _, _ => none
  | k + 1, x6, x7, x13, x14, o0, o1, o5 =>
    bif (decide (x7 < (Flow.Insts o0))) then
      (schedcheck_clash.f o0 o1 x6 x7).bind fun y57 =>
      bif y57 then
        bif Nat.ble (List.length o5 + List.length [(x6, x7, ())]) 1073741824 then
        schedcheck_Clashes.c10 k x6 (w64 (x7 + 1)) x13 x14 o0 o1 (o5 ++ [(x6, x7, ())])
        else none
      else
      schedcheck_Clashes.c10 k x6 (w64 (x7 + 1)) x13 x14 o0 o1 o5
    else
    schedcheck_Clashes.c5 k x13 (w64 (x14 + 1)) o0 o1 o5
end
def schedcheck_Clashes.f (k : Nat) (a0 : Flow) (a1 : Sched) : Option ((List Arr2_3)) :=
  (schedcheck_Fits.f k a0 a1).bind fun y10 =>
  bif (!y10) then
    some []
  else
  schedcheck_Clashes.c5 k (Flow.Insts a0) 0 a0 a1 []
mutual
def schedcheck_Check.c6 : Nat → (List Int) → Int → Int → Flow → Option (Int)
  | 0, _, _, _, _ => none
  | k + 1, x31, x32, x33, o0 =>
    bif (decide (x33 < x32)) then
      if 0 ≤ x33 ∧ x33 < (x31.length : Int) then
      bif (!decide ((rd x31 x33) = 0)) then
        bif (!(Flow.Loop o0)) then
          some 20
        else
        schedcheck_Check.c6 k x31 x32 (w64 (x33 + 1)) o0
      else
      schedcheck_Check.c6 k x31 x32 (w64 (x33 + 1)) o0
      else none
    else
    some 0
end
def schedcheck_Check.f (k : Nat) (a0 : Flow) (a1 : Sched) : Option (Int) :=
  (schedcheck_Fits.f k a0 a1).bind fun y9 =>
  bif (!y9) then
    some 3
  else
  bif (decide ((Sched.Depth a1) < (Sched.II a1))) then
    some 20
  else
  (schedcheck_Late.f k a0 a1).bind fun y19 =>
  bif (decide (0 < (y19.length : Int))) then
    some 20
  else
  (schedcheck_Clashes.f k a0 a1).bind fun y26 =>
  bif (decide (0 < (y26.length : Int))) then
    some 20
  else
  schedcheck_Check.c6 k (Sched.Params a1) ((Sched.Params a1).length : Int) 0 a0
def jacquardlaw35_awake.f (k : Nat) : Option (Bool) :=
  (jacquardlaw35_one.f ).bind fun y2 =>
  (schedcheck_Check.f k ((Flow.Insts y2), (Flow.Params y2), (Flow.Loop y2), (Flow.Arcs y2), (Flow.Res y2), (Flow.Needs y2), ()) (2, 2, [0], [], [0], ())).bind fun y7 =>
  bif (decide (y7 = 0)) then
    (schedcheck_Check.f k ((Flow.Insts y2), (Flow.Params y2), (Flow.Loop y2), (Flow.Arcs y2), (Flow.Res y2), (Flow.Needs y2), ()) (1, 2, [0], [], [0], ())).bind fun y14 =>
    some (decide (y14 = 20))
  else
  some false
mutual
def jacquardref28_Small.c2 : Nat → Int → Int → Int → Int → Flow → Option (Bool)
  | 0, _, _, _, _, _ => none
  | k + 1, x1, x2, x11, x12, o0 =>
    bif (decide (x12 < x11)) then
      if 0 ≤ x12 ∧ x12 < ((Flow.Arcs o0).length : Int) then
      bif (decide (60 < (Arc.Lat (rd (Flow.Arcs o0) x12)))) then
        some false
      else
      if 0 ≤ x12 ∧ x12 < ((Flow.Arcs o0).length : Int) then
      bif (decide (20 < (Arc.Dist (rd (Flow.Arcs o0) x12)))) then
        some false
      else
      jacquardref28_Small.c2 k x1 x2 x11 (w64 (x12 + 1)) o0
      else none
      else none
    else
    jacquardref28_Small.c8 k x1 x2 ((Flow.Needs o0).length : Int) 0 o0
def jacquardref28_Small.c8 : Nat → Int → Int → Int → Int → Flow → Option (Bool)
  | 0, _, _, _, _, _ => none
  | k + 1, x1, x2, x34, x35, o0 =>
    bif (decide (x35 < x34)) then
      if 0 ≤ x35 ∧ x35 < ((Flow.Needs o0).length : Int) then
      bif (decide (20 < (Need.Busy (rd (Flow.Needs o0) x35)))) then
        some false
      else
      jacquardref28_Small.c8 k x1 x2 x34 (w64 (x35 + 1)) o0
      else none
    else
    bif (decide ((Flow.Insts o0) ≤ x1)) then
      bif (decide ((Flow.Params o0) ≤ x2)) then
        bif (decide (((Flow.Arcs o0).length : Int) ≤ 90)) then
          some (decide (((Flow.Res o0).length : Int) ≤ 6))
        else
        some false
      else
      some false
    else
    some false
end
def jacquardref28_Small.f (k : Nat) (a0 : Flow) (a1 : Int) (a2 : Int) : Option (Bool) :=
  jacquardref28_Small.c2 k a1 a2 ((Flow.Arcs a0).length : Int) 0 a0
def jacquardlaw35_few.f (k : Nat) (a0 : Flow) (a1 : Sched) : Option (Bool) :=
  (jacquardref28_Small.f k a0 20 8).bind fun y6 =>
  bif y6 then
    bif (decide (((Sched.Start a1).length : Int) ≤ 30)) then
      bif (decide (((Sched.Unit a1).length : Int) ≤ 30)) then
        bif (decide (((Sched.Params a1).length : Int) ≤ 30)) then
          some (decide (((Flow.Needs a0).length : Int) ≤ 30))
        else
        some false
      else
      some false
    else
    some false
  else
  some false
def jacquardref28_Source.f (a0 : Flow) : Option (Int) :=
  some (w64 ((Flow.Insts a0) + (Flow.Params a0)))
def jacquardref28_End.f (a0 : Flow) : Option (Int) :=
  some (w64 ((w64 ((Flow.Insts a0) + (Flow.Params a0))) + 1))
mutual
def jacquardref28_Valid.c5 : Nat → Int → Int → Int → Flow → Option (Bool)
  | 0, _, _, _, _ => none
  | k + 1, x3, x47, x48, o0 =>
    bif (decide (x48 < x47)) then
      if 0 ≤ x48 ∧ x48 < ((Flow.Arcs o0).length : Int) then
      bif (decide ((Arc.From (rd (Flow.Arcs o0) x48)) < 0)) then
        some false
      else
      bif (decide ((w64 (x3 - 1)) ≤ (Arc.From (rd (Flow.Arcs o0) x48)))) then
        some false
      else
      bif (decide ((Arc.To (rd (Flow.Arcs o0) x48)) < 0)) then
        some false
      else
      bif (decide (x3 ≤ (Arc.To (rd (Flow.Arcs o0) x48)))) then
        some false
      else
      bif (decide ((Arc.Lat (rd (Flow.Arcs o0) x48)) < 0)) then
        some false
      else
      bif (decide (4096 < (Arc.Lat (rd (Flow.Arcs o0) x48)))) then
        some false
      else
      bif (decide ((Arc.Dist (rd (Flow.Arcs o0) x48)) < 0)) then
        some false
      else
      bif (decide (256 < (Arc.Dist (rd (Flow.Arcs o0) x48)))) then
        some false
      else
      bif (decide (0 < (Arc.Dist (rd (Flow.Arcs o0) x48)))) then
        bif (!(Flow.Loop o0)) then
          some false
        else
        jacquardref28_Valid.c5 k x3 x47 (w64 (x48 + 1)) o0
      else
      jacquardref28_Valid.c5 k x3 x47 (w64 (x48 + 1)) o0
      else none
    else
    bif (decide (((Flow.Arcs o0).length : Int) < (w64 ((w64 (2 * x3)) - 3)))) then
      some false
    else
    jacquardref28_Valid.c14 k x3 (w64 (x3 - 1)) 0 o0
def jacquardref28_Valid.c14 : Nat → Int → Int → Int → Flow → Option (Bool)
  | 0, _, _, _, _ => none
  | k + 1, x3, x116, x117, o0 =>
    bif (decide (x117 < x116)) then
      (jacquardref28_Source.f o0).bind fun y123 =>
      bif (decide (y123 ≤ x117)) then
        jacquardref28_Valid.c19 k x3 x117 (w64 (x117 + 1)) x116 x117 o0
      else
      jacquardref28_Valid.c19 k x3 x117 x117 x116 x117 o0
    else
    jacquardref28_Valid.c23 k x3 ((Flow.Res o0).length : Int) 0 o0
def jacquardref28_Valid.c19 : Nat → Int → Int → Int → Int → Int → Flow → Option (Bool)
  | 0, _, _, _, _, _, _ => none
  | k + 1, x3, x6, x7, x116, x117, o0 =>
    if 0 ≤ x6 ∧ x6 < ((Flow.Arcs o0).length : Int) then
    (jacquardref28_Source.f o0).bind fun y133 =>
    bif (!eqB (Arc.T) (rd (Flow.Arcs o0) x6) (y133, x7, 0, 0, ())) then
      some false
    else
    jacquardref28_Valid.c14 k x3 x116 (w64 (x117 + 1)) o0
    else none
def jacquardref28_Valid.c23 : Nat → Int → Int → Int → Flow → Option (Bool)
  | 0, _, _, _, _ => none
  | k + 1, x3, x140, x141, o0 =>
    bif (decide (x141 < x140)) then
      if 0 ≤ x141 ∧ x141 < ((Flow.Res o0).length : Int) then
      bif (decide ((Resource.Kind (rd (Flow.Res o0) x141)) < 1)) then
        some false
      else
      if 0 ≤ x141 ∧ x141 < ((Flow.Res o0).length : Int) then
      bif (decide (4 < (Resource.Kind (rd (Flow.Res o0) x141)))) then
        some false
      else
      if 0 ≤ x141 ∧ x141 < ((Flow.Res o0).length : Int) then
      bif (decide ((Resource.Count (rd (Flow.Res o0) x141)) < 1)) then
        some false
      else
      if 0 ≤ x141 ∧ x141 < ((Flow.Res o0).length : Int) then
      bif (decide (1024 < (Resource.Count (rd (Flow.Res o0) x141)))) then
        some false
      else
      jacquardref28_Valid.c23 k x3 x140 (w64 (x141 + 1)) o0
      else none
      else none
      else none
      else none
    else
    jacquardref28_Valid.c29 k x3 (w64 (x3 - 2)) 0 o0
def jacquardref28_Valid.c29 : Nat → Int → Int → Int → Flow → Option (Bool)
  | 0, _, _, _, _ => none
  | k + 1, x3, x180, x181, o0 =>
    bif (decide (x181 < x180)) then
      if 0 ≤ (w64 ((w64 (x3 - 1)) + x181)) ∧ (w64 ((w64 (x3 - 1)) + x181)) < ((Flow.Arcs o0).length : Int) then
      bif (!decide ((Arc.From (rd (Flow.Arcs o0) (w64 ((w64 (x3 - 1)) + x181)))) = x181)) then
        some false
      else
      (jacquardref28_End.f o0).bind fun y200 =>
      bif (!decide ((Arc.To (rd (Flow.Arcs o0) (w64 ((w64 (x3 - 1)) + x181)))) = y200)) then
        some false
      else
      bif (!decide ((Arc.Dist (rd (Flow.Arcs o0) (w64 ((w64 (x3 - 1)) + x181)))) = 0)) then
        some false
      else
      bif (decide (x181 < (Flow.Insts o0))) then
        if 0 ≤ x181 ∧ x181 < ((Flow.Needs o0).length : Int) then
        bif (decide ((Arc.Lat (rd (Flow.Arcs o0) (w64 ((w64 (x3 - 1)) + x181)))) < (mx 1 (Need.Busy (rd (Flow.Needs o0) x181))))) then
          some false
        else
        jacquardref28_Valid.c29 k x3 x180 (w64 (x181 + 1)) o0
        else none
      else
      jacquardref28_Valid.c29 k x3 x180 (w64 (x181 + 1)) o0
      else none
    else
    jacquardref28_Valid.c36 k ((Flow.Needs o0).length : Int) 0 o0
def jacquardref28_Valid.c36 : Nat → Int → Int → Flow → Option (Bool)
  | 0, _, _, _ => none
  | k + 1, x229, x230, o0 =>
    bif (decide (x230 < x229)) then
      if 0 ≤ x230 ∧ x230 < ((Flow.Needs o0).length : Int) then
      bif (decide ((Need.Res (rd (Flow.Needs o0) x230)) < (-1))) then
        some false
      else
      bif (decide (((Flow.Res o0).length : Int) ≤ (Need.Res (rd (Flow.Needs o0) x230)))) then
        some false
      else
      bif (decide ((Need.Res (rd (Flow.Needs o0) x230)) = (-1))) then
        bif (!decide ((Need.Busy (rd (Flow.Needs o0) x230)) = 0)) then
          some false
        else
        bif (decide (0 ≤ (Need.Res (rd (Flow.Needs o0) x230)))) then
          bif (decide ((Need.Busy (rd (Flow.Needs o0) x230)) < 1)) then
            some false
          else
          bif (decide (256 < (Need.Busy (rd (Flow.Needs o0) x230)))) then
            some false
          else
          jacquardref28_Valid.c36 k x229 (w64 (x230 + 1)) o0
        else
        jacquardref28_Valid.c36 k x229 (w64 (x230 + 1)) o0
      else
      bif (decide (0 ≤ (Need.Res (rd (Flow.Needs o0) x230)))) then
        bif (decide ((Need.Busy (rd (Flow.Needs o0) x230)) < 1)) then
          some false
        else
        bif (decide (256 < (Need.Busy (rd (Flow.Needs o0) x230)))) then
          some false
        else
        jacquardref28_Valid.c36 k x229 (w64 (x230 + 1)) o0
      else
      jacquardref28_Valid.c36 k x229 (w64 (x230 + 1)) o0
      else none
    else
    some true
end
def jacquardref28_Valid.f (k : Nat) (a0 : Flow) : Option (Bool) :=
  bif (decide ((Flow.Insts a0) < 0)) then
    some false
  else
  bif (decide (4096 < (Flow.Insts a0))) then
    some false
  else
  bif (decide ((Flow.Params a0) < 0)) then
    some false
  else
  bif (decide (4094 < (Flow.Params a0))) then
    some false
  else
  bif (!decide (((Flow.Needs a0).length : Int) = (Flow.Insts a0))) then
    some false
  else
  jacquardref28_Valid.c5 k (w64 ((w64 ((Flow.Insts a0) + (Flow.Params a0))) + 2)) ((Flow.Arcs a0).length : Int) 0 a0
mutual
def jacquardref28_Fits.c4 : Nat → Int → Int → Flow → Sched → Option (Bool)
  | 0, _, _, _, _ => none
  | k + 1, x60, x61, o0, o1 =>
    bif (decide (x61 < x60)) then
      if 0 ≤ x61 ∧ x61 < ((Flow.Needs o0).length : Int) then
      if 0 ≤ x61 ∧ x61 < ((Sched.Start o1).length : Int) then
      bif (decide ((rd (Sched.Start o1) x61) < 0)) then
        some false
      else
      if 0 ≤ x61 ∧ x61 < ((Sched.Start o1).length : Int) then
      bif (decide (4096 < (rd (Sched.Start o1) x61))) then
        some false
      else
      bif (decide ((Need.Res (rd (Flow.Needs o0) x61)) < 0)) then
        if 0 ≤ x61 ∧ x61 < ((Sched.Unit o1).length : Int) then
        bif (!decide ((rd (Sched.Unit o1) x61) = (-1))) then
          some false
        else
        bif (decide (0 ≤ (Need.Res (rd (Flow.Needs o0) x61)))) then
          if 0 ≤ x61 ∧ x61 < ((Sched.Unit o1).length : Int) then
          bif (decide ((rd (Sched.Unit o1) x61) < 0)) then
            some false
          else
          if 0 ≤ x61 ∧ x61 < ((Sched.Unit o1).length : Int) then
          if 0 ≤ (Need.Res (rd (Flow.Needs o0) x61)) ∧ (Need.Res (rd (Flow.Needs o0) x61)) < ((Flow.Res o0).length : Int) then
          bif (decide ((Resource.Count (rd (Flow.Res o0) (Need.Res (rd (Flow.Needs o0) x61)))) ≤ (rd (Sched.Unit o1) x61))) then
            some false
          else
          jacquardref28_Fits.c4 k x60 (w64 (x61 + 1)) o0 o1
          else none
          else none
          else none
        else
        jacquardref28_Fits.c4 k x60 (w64 (x61 + 1)) o0 o1
        else none
      else
      bif (decide (0 ≤ (Need.Res (rd (Flow.Needs o0) x61)))) then
        if 0 ≤ x61 ∧ x61 < ((Sched.Unit o1).length : Int) then
        bif (decide ((rd (Sched.Unit o1) x61) < 0)) then
          some false
        else
        if 0 ≤ x61 ∧ x61 < ((Sched.Unit o1).length : Int) then
        if 0 ≤ (Need.Res (rd (Flow.Needs o0) x61)) ∧ (Need.Res (rd (Flow.Needs o0) x61)) < ((Flow.Res o0).length : Int) then
        bif (decide ((Resource.Count (rd (Flow.Res o0) (Need.Res (rd (Flow.Needs o0) x61)))) ≤ (rd (Sched.Unit o1) x61))) then
          some false
        else
        jacquardref28_Fits.c4 k x60 (w64 (x61 + 1)) o0 o1
        else none
        else none
        else none
      else
      jacquardref28_Fits.c4 k x60 (w64 (x61 + 1)) o0 o1
      else none
      else none
      else none
    else
    jacquardref28_Fits.c11 k ((Sched.Params o1).length : Int) 0 o1
def jacquardref28_Fits.c11 : Nat → Int → Int → Sched → Option (Bool)
  | 0, _, _, _ => none
  | k + 1, x127, x128, o1 =>
    bif (decide (x128 < x127)) then
      if 0 ≤ x128 ∧ x128 < ((Sched.Params o1).length : Int) then
      bif (decide ((rd (Sched.Params o1) x128) < 0)) then
        some false
      else
      if 0 ≤ x128 ∧ x128 < ((Sched.Params o1).length : Int) then
      bif (decide (4096 < (rd (Sched.Params o1) x128))) then
        some false
      else
      jacquardref28_Fits.c11 k x127 (w64 (x128 + 1)) o1
      else none
      else none
    else
    some true
end
def jacquardref28_Fits.f (k : Nat) (a0 : Flow) (a1 : Sched) : Option (Bool) :=
  bif (!decide (((Sched.Start a1).length : Int) = (Flow.Insts a0))) then
    some false
  else
  bif (!decide (((Sched.Unit a1).length : Int) = (Flow.Insts a0))) then
    some false
  else
  bif (!decide (((Sched.Params a1).length : Int) = (Flow.Params a0))) then
    some false
  else
  bif (decide ((Sched.II a1) < 0)) then
    some false
  else
  bif (decide (256 < (Sched.II a1))) then
    some false
  else
  bif (!((decide (0 < (Sched.II a1))) == (Flow.Loop a0))) then
    some false
  else
  bif (decide ((Sched.Depth a1) < 1)) then
    some false
  else
  bif (decide (4096 < (Sched.Depth a1))) then
    some false
  else
  jacquardref28_Fits.c4 k ((Sched.Start a1).length : Int) 0 a0 a1
def jacquardlaw35_fits.f (k : Nat) (a0 : Flow) (a1 : Sched) : Option (Bool) :=
  (jacquardref28_Valid.f k a0).bind fun y6 =>
  bif y6 then
    (jacquardref28_Fits.f k a0 a1).bind fun y10 =>
    some y10
  else
  some false
def jacquardref28_Time.f (a0 : Flow) (a1 : Sched) (a2 : Int) : Option (Int) :=
  bif (decide (a2 < (Flow.Insts a0))) then
    if 0 ≤ a2 ∧ a2 < ((Sched.Start a1).length : Int) then
    some (rd (Sched.Start a1) a2)
    else none
  else
  (jacquardref28_Source.f a0).bind fun y20 =>
  bif (decide (a2 < y20)) then
    if 0 ≤ (w64 (a2 - (Flow.Insts a0))) ∧ (w64 (a2 - (Flow.Insts a0))) < ((Sched.Params a1).length : Int) then
    some (rd (Sched.Params a1) (w64 (a2 - (Flow.Insts a0))))
    else none
  else
  (jacquardref28_Source.f a0).bind fun y33 =>
  bif (decide (a2 = y33)) then
    some 0
  else
  some (Sched.Depth a1)
def jacquardref28_Weight.f (a0 : Arc) (a1 : Int) : Option (Int) :=
  some (w64 ((Arc.Lat a0) - (w64 (a1 * (Arc.Dist a0)))))
mutual
def jacquardref28_Late.c3 : Nat → Int → Int → Flow → Sched → (List Int) → Option ((List Int))
  | 0, _, _, _, _, _ => none
  | k + 1, x10, x11, o0, o1, o3 =>
    bif (decide (x11 < x10)) then
      if 0 ≤ x11 ∧ x11 < ((Flow.Arcs o0).length : Int) then
      (jacquardref28_Time.f o0 o1 (Arc.To (rd (Flow.Arcs o0) x11))).bind fun y23 =>
      (jacquardref28_Time.f o0 o1 (Arc.From (rd (Flow.Arcs o0) x11))).bind fun y28 =>
      (jacquardref28_Weight.f (rd (Flow.Arcs o0) x11) (Sched.II o1)).bind fun y33 =>
      bif (decide ((w64 (y23 - y28)) < y33)) then
        bif Nat.ble (List.length o3 + List.length [x11]) 1073741824 then
        jacquardref28_Late.c3 k x10 (w64 (x11 + 1)) o0 o1 (o3 ++ [x11])
        else none
      else
      jacquardref28_Late.c3 k x10 (w64 (x11 + 1)) o0 o1 o3
      else none
    else
    some o3
end
def jacquardref28_Late.f (k : Nat) (a0 : Flow) (a1 : Sched) : Option ((List Int)) :=
  jacquardref28_Late.c3 k ((Flow.Arcs a0).length : Int) 0 a0 a1 []
mutual
def jacquardref28_Occupies.c6 : Nat → Int → Int → Flow → Option (Bool)
  | 0, _, _, _ => none
  | k + 1, x2, x9, o0 =>
    bif (decide (0 ≤ x9)) then
      if 0 ≤ x2 ∧ x2 < ((Flow.Needs o0).length : Int) then
      some (decide (x9 < (Need.Busy (rd (Flow.Needs o0) x2))))
      else none
    else
    some false
end
def jacquardref28_Occupies.f (k : Nat) (a0 : Flow) (a1 : Sched) (a2 : Int) (a3 : Int) : Option (Bool) :=
  if 0 ≤ a2 ∧ a2 < ((Sched.Start a1).length : Int) then
  bif (decide (0 < (Sched.II a1))) then
    if ¬ (Sched.II a1) = 0 then
    bif (decide ((Int.tmod (w64 (a3 - (rd (Sched.Start a1) a2))) (Sched.II a1)) < 0)) then
      jacquardref28_Occupies.c6 k a2 (w64 ((Int.tmod (w64 (a3 - (rd (Sched.Start a1) a2))) (Sched.II a1)) + (Sched.II a1))) a0
    else
    jacquardref28_Occupies.c6 k a2 (Int.tmod (w64 (a3 - (rd (Sched.Start a1) a2))) (Sched.II a1)) a0
    else none
  else
  jacquardref28_Occupies.c6 k a2 (w64 (a3 - (rd (Sched.Start a1) a2))) a0
  else none
mutual
def jacquardref28_Clash.c9 : Nat → Int → Int → Int → Int → Flow → Sched → Option (Bool)
  | 0, _, _, _, _, _, _ => none
  | k + 1, x2, x3, x9, x10, o0, o1 =>
    jacquardref28_Clash.c10 k x2 x3 x10 x9 o0 o1
def jacquardref28_Clash.c10 : Nat → Int → Int → Int → Int → Flow → Sched → Option (Bool)
  | 0, _, _, _, _, _, _ => none
  | k + 1, x2, x3, x10, x11, o0, o1 =>
    bif (decide (x11 ≤ x10)) then
      (jacquardref28_Occupies.f k o0 o1 x2 x11).bind fun y103 =>
      bif y103 then
        (jacquardref28_Occupies.f k o0 o1 x3 x11).bind fun y109 =>
        bif y109 then
          some true
        else
        jacquardref28_Clash.c10 k x2 x3 x10 (w64 (x11 + 1)) o0 o1
      else
      jacquardref28_Clash.c10 k x2 x3 x10 (w64 (x11 + 1)) o0 o1
    else
    some false
end
def jacquardref28_Clash.f (k : Nat) (a0 : Flow) (a1 : Sched) (a2 : Int) (a3 : Int) : Option (Bool) :=
  if 0 ≤ a2 ∧ a2 < ((Flow.Needs a0).length : Int) then
  bif (decide ((Need.Res (rd (Flow.Needs a0) a2)) < 0)) then
    some false
  else
  if 0 ≤ a2 ∧ a2 < ((Flow.Needs a0).length : Int) then
  if 0 ≤ a3 ∧ a3 < ((Flow.Needs a0).length : Int) then
  bif (!decide ((Need.Res (rd (Flow.Needs a0) a2)) = (Need.Res (rd (Flow.Needs a0) a3)))) then
    some false
  else
  if 0 ≤ a2 ∧ a2 < ((Sched.Unit a1).length : Int) then
  if 0 ≤ a3 ∧ a3 < ((Sched.Unit a1).length : Int) then
  bif (!decide ((rd (Sched.Unit a1) a2) = (rd (Sched.Unit a1) a3))) then
    some false
  else
  bif (decide (a2 = a3)) then
    bif (decide (0 < (Sched.II a1))) then
      if 0 ≤ a2 ∧ a2 < ((Flow.Needs a0).length : Int) then
      some (decide ((Sched.II a1) < (Need.Busy (rd (Flow.Needs a0) a2))))
      else none
    else
    some false
  else
  if 0 ≤ a2 ∧ a2 < ((Sched.Start a1).length : Int) then
  if 0 ≤ a3 ∧ a3 < ((Sched.Start a1).length : Int) then
  if 0 ≤ a2 ∧ a2 < ((Sched.Start a1).length : Int) then
  if 0 ≤ a3 ∧ a3 < ((Sched.Start a1).length : Int) then
  bif (decide (0 < (Sched.II a1))) then
    jacquardref28_Clash.c9 k a2 a3 0 (w64 ((Sched.II a1) - 1)) a0 a1
  else
  jacquardref28_Clash.c9 k a2 a3 (mn (rd (Sched.Start a1) a2) (rd (Sched.Start a1) a3)) (w64 ((mx (rd (Sched.Start a1) a2) (rd (Sched.Start a1) a3)) + 256)) a0 a1
  else none
  else none
  else none
  else none
  else none
  else none
  else none
  else none
  else none
mutual
def jacquardref28_Clashes.c3 : Nat → Int → Int → Flow → Sched → (List Arr2_3) → Option ((List Arr2_3))
  | 0, _, _, _, _, _ => none
  | k + 1, x9, x10, o0, o1, o3 =>
    bif (decide (x10 < x9)) then
      jacquardref28_Clashes.c6 k x10 x10 x9 x10 o0 o1 o3
    else
    some o3
def jacquardref28_Clashes.c6 : Nat → Int → Int → Int → Int → Flow → Sched → (List Arr2_3) → Option ((List Arr2_3))
  | 0, _, _, _, _, _, _, _ => none
  | k + 1, x6, x7, x9, x10, o0, o1, o3 =>
    bif (decide (x7 < (Flow.Insts o0))) then
      (jacquardref28_Clash.f k o0 o1 x6 x7).bind fun y24 =>
      bif y24 then
        bif Nat.ble (List.length o3 + List.length [(x6, x7, ())]) 1073741824 then
        jacquardref28_Clashes.c6 k x6 (w64 (x7 + 1)) x9 x10 o0 o1 (o3 ++ [(x6, x7, ())])
        else none
      else
      jacquardref28_Clashes.c6 k x6 (w64 (x7 + 1)) x9 x10 o0 o1 o3
    else
    jacquardref28_Clashes.c3 k x9 (w64 (x10 + 1)) o0 o1 o3
end
def jacquardref28_Clashes.f (k : Nat) (a0 : Flow) (a1 : Sched) : Option ((List Arr2_3)) :=
  jacquardref28_Clashes.c3 k (Flow.Insts a0) 0 a0 a1 []
mutual
def jacquardref28_Legal.c4 : Nat → Int → Int → Flow → Sched → Option (Bool)
  | 0, _, _, _, _ => none
  | k + 1, x19, x20, o0, o1 =>
    bif (decide (x20 < x19)) then
      bif (!(Flow.Loop o0)) then
        if 0 ≤ x20 ∧ x20 < ((Sched.Params o1).length : Int) then
        bif (!decide ((rd (Sched.Params o1) x20) = 0)) then
          some false
        else
        jacquardref28_Legal.c4 k x19 (w64 (x20 + 1)) o0 o1
        else none
      else
      jacquardref28_Legal.c4 k x19 (w64 (x20 + 1)) o0 o1
    else
    (jacquardref28_Late.f k o0 o1).bind fun y37 =>
    bif (decide ((y37.length : Int) = 0)) then
      (jacquardref28_Clashes.f k o0 o1).bind fun y43 =>
      some (decide ((y43.length : Int) = 0))
    else
    some false
end
def jacquardref28_Legal.f (k : Nat) (a0 : Flow) (a1 : Sched) : Option (Bool) :=
  (jacquardref28_Fits.f k a0 a1).bind fun y8 =>
  bif (!y8) then
    some false
  else
  bif (decide ((Sched.Depth a1) < (Sched.II a1))) then
    some false
  else
  jacquardref28_Legal.c4 k ((Sched.Params a1).length : Int) 0 a0 a1
mutual
def jacquardlaw35_SchedcheckLegal.c8 : Nat → Int → Flow → Sched → Option (Bool)
  | 0, _, _, _ => none
  | k + 1, x5, o0, o1 =>
    (schedcheck_Check.f k o0 o1).bind fun y27 =>
    bif (decide (y27 = x5)) then
      (schedcheck_Fits.f k o0 o1).bind fun y33 =>
      some (y33 == (!decide (x5 = 3)))
    else
    some false
end
def jacquardlaw35_SchedcheckLegal.f (k : Nat) (a0 : Flow) (a1 : Sched) : Option (Bool) :=
  (jacquardlaw35_awake.f k ).bind fun y6 =>
  bif (!y6) then
    (jacquardlaw35_awake.f k ).bind fun y14 =>
    some y14
  else
  (jacquardlaw35_few.f k a0 a1).bind fun y11 =>
  bif (!y11) then
    (jacquardlaw35_awake.f k ).bind fun y14 =>
    some y14
  else
  (jacquardlaw35_fits.f k a0 a1).bind fun y18 =>
  bif (!y18) then
    jacquardlaw35_SchedcheckLegal.c8 k 3 a0 a1
  else
  (jacquardref28_Legal.f k a0 a1).bind fun y23 =>
  bif (!y23) then
    jacquardlaw35_SchedcheckLegal.c8 k 20 a0 a1
  else
  jacquardlaw35_SchedcheckLegal.c8 k 0 a0 a1
mutual
def jacquardlaw35_SchedcheckClashes.c10 : Nat → Int → Int → (List Arr2_3) → (List Arr2_3) → Option (Bool)
  | 0, _, _, _, _ => none
  | k + 1, x36, x37, o2, o3 =>
    bif (decide (x37 < x36)) then
      if 0 ≤ x37 ∧ x37 < (o2.length : Int) then
      if 0 ≤ x37 ∧ x37 < (o3.length : Int) then
      bif (!eqB (Arr2_3.T) ((Arr2_3.e0 (rd o2 x37)), (Arr2_3.e1 (rd o2 x37)), ()) ((Arr2_3.e0 (rd o3 x37)), (Arr2_3.e1 (rd o3 x37)), ())) then
        some false
      else
      jacquardlaw35_SchedcheckClashes.c10 k x36 (w64 (x37 + 1)) o2 o3
      else none
      else none
    else
    some true
end
def jacquardlaw35_SchedcheckClashes.f (k : Nat) (a0 : Flow) (a1 : Sched) : Option (Bool) :=
  (jacquardlaw35_awake.f k ).bind fun y8 =>
  bif (!y8) then
    (jacquardlaw35_awake.f k ).bind fun y16 =>
    some y16
  else
  (jacquardlaw35_few.f k a0 a1).bind fun y13 =>
  bif (!y13) then
    (jacquardlaw35_awake.f k ).bind fun y16 =>
    some y16
  else
  (schedcheck_Clashes.f k a0 a1).bind fun y19 =>
  (jacquardlaw35_fits.f k a0 a1).bind fun y22 =>
  bif (!y22) then
    some (decide ((y19.length : Int) = 0))
  else
  (jacquardref28_Clashes.f k a0 a1).bind fun y29 =>
  bif (!decide ((y19.length : Int) = (y29.length : Int))) then
    some false
  else
  jacquardlaw35_SchedcheckClashes.c10 k (y19.length : Int) 0 y19 y29
mutual
def jacquardlaw35_SchedcheckAgrees.c5 : Nat → Bool → Int → Int → Flow → Sched → Option (Bool)
  | 0, _, _, _, _, _ => none
  | k + 1, x5, x43, x44, o0, o1 =>
    bif (decide (x44 < x43)) then
      bif x5 then
        bif (Flow.Loop o0) then
          jacquardlaw35_SchedcheckAgrees.c5 k true x43 (w64 (x44 + 1)) o0 o1
        else
        if 0 ≤ x44 ∧ x44 < ((Sched.Params o1).length : Int) then
        jacquardlaw35_SchedcheckAgrees.c5 k (decide ((rd (Sched.Params o1) x44) = 0)) x43 (w64 (x44 + 1)) o0 o1
        else none
      else
      jacquardlaw35_SchedcheckAgrees.c5 k false x43 (w64 (x44 + 1)) o0 o1
    else
    (schedcheck_Check.f k o0 o1).bind fun y64 =>
    some (x5 == (decide (y64 = 0)))
end
def jacquardlaw35_SchedcheckAgrees.f (k : Nat) (a0 : Flow) (a1 : Sched) : Option (Bool) :=
  (jacquardlaw35_awake.f k ).bind fun y7 =>
  bif (!y7) then
    (jacquardlaw35_awake.f k ).bind fun y21 =>
    some y21
  else
  (jacquardlaw35_few.f k a0 a1).bind fun y12 =>
  bif (!y12) then
    (jacquardlaw35_awake.f k ).bind fun y21 =>
    some y21
  else
  (schedcheck_Fits.f k a0 a1).bind fun y18 =>
  bif (!y18) then
    (jacquardlaw35_awake.f k ).bind fun y21 =>
    some y21
  else
  (schedcheck_Late.f k a0 a1).bind fun y24 =>
  bif (decide ((y24.length : Int) = 0)) then
    (schedcheck_Clashes.f k a0 a1).bind fun y30 =>
    bif (decide ((y30.length : Int) = 0)) then
      jacquardlaw35_SchedcheckAgrees.c5 k (decide ((Sched.II a1) ≤ (Sched.Depth a1))) ((Sched.Params a1).length : Int) 0 a0 a1
    else
    jacquardlaw35_SchedcheckAgrees.c5 k false ((Sched.Params a1).length : Int) 0 a0 a1
  else
  jacquardlaw35_SchedcheckAgrees.c5 k false ((Sched.Params a1).length : Int) 0 a0 a1
mutual
def jacquardlaw35_SchedcheckMoves.c5 : Nat → Int → Int → Int → Flow → Sched → Int → Int → (List Int) → (List Int) → Option (Bool)
  | 0, _, _, _, _, _, _, _, _, _ => none
  | k + 1, x2, x46, x47, o0, o1, o2_0, o2_1, o2_4, o11 =>
    bif (decide (x47 < x46)) then
      if 0 ≤ x47 ∧ x47 < ((Sched.Start o1).length : Int) then
      bif Nat.ble (List.length o11 + List.length [(w64 ((rd (Sched.Start o1) x47) + (w64 (x2))))]) 1073741824 then
      jacquardlaw35_SchedcheckMoves.c5 k x2 x46 (w64 (x47 + 1)) o0 o1 o2_0 o2_1 o2_4 (o11 ++ [(w64 ((rd (Sched.Start o1) x47) + (w64 (x2))))])
      else none
      else none
    else
    jacquardlaw35_SchedcheckMoves.c10 k x2 ((Sched.Params o1).length : Int) 0 o0 o1 o2_0 o2_1 o2_4 o11 []
def jacquardlaw35_SchedcheckMoves.c10 : Nat → Int → Int → Int → Flow → Sched → Int → Int → (List Int) → (List Int) → (List Int) → Option (Bool)
  | 0, _, _, _, _, _, _, _, _, _, _ => none
  | k + 1, x2, x66, x67, o0, o1, o2_0, o2_1, o2_4, o11, o12 =>
    bif (decide (x67 < x66)) then
      if 0 ≤ x67 ∧ x67 < ((Sched.Params o1).length : Int) then
      bif Nat.ble (List.length o12 + List.length [(w64 ((rd (Sched.Params o1) x67) + (w64 (x2))))]) 1073741824 then
      jacquardlaw35_SchedcheckMoves.c10 k x2 x66 (w64 (x67 + 1)) o0 o1 o2_0 o2_1 o2_4 o11 (o12 ++ [(w64 ((rd (Sched.Params o1) x67) + (w64 (x2))))])
      else none
      else none
    else
    (schedcheck_Fits.f k o0 (o2_0, o2_1, o11, o12, o2_4, ())).bind fun y86 =>
    bif (!y86) then
      some true
    else
    (schedcheck_Clashes.f k o0 o1).bind fun y90 =>
    (schedcheck_Clashes.f k o0 (o2_0, o2_1, o11, o12, o2_4, ())).bind fun y93 =>
    bif (!decide ((y90.length : Int) = (y93.length : Int))) then
      some false
    else
    jacquardlaw35_SchedcheckMoves.c20 k x2 (y90.length : Int) 0 o0 o1 o2_0 o2_1 o2_4 y90 y93 o11 o12
def jacquardlaw35_SchedcheckMoves.c20 : Nat → Int → Int → Int → Flow → Sched → Int → Int → (List Int) → (List Arr2_3) → (List Arr2_3) → (List Int) → (List Int) → Option (Bool)
  | 0, _, _, _, _, _, _, _, _, _, _, _, _ => none
  | k + 1, x2, x100, x101, o0, o1, o2_0, o2_1, o2_4, o7, o8, o11, o12 =>
    bif (decide (x101 < x100)) then
      if 0 ≤ x101 ∧ x101 < (o7.length : Int) then
      if 0 ≤ x101 ∧ x101 < (o8.length : Int) then
      bif (!eqB (Arr2_3.T) ((Arr2_3.e0 (rd o7 x101)), (Arr2_3.e1 (rd o7 x101)), ()) ((Arr2_3.e0 (rd o8 x101)), (Arr2_3.e1 (rd o8 x101)), ())) then
        some false
      else
      jacquardlaw35_SchedcheckMoves.c20 k x2 x100 (w64 (x101 + 1)) o0 o1 o2_0 o2_1 o2_4 o7 o8 o11 o12
      else none
      else none
    else
    (schedcheck_Slack.f k o0 o1).bind fun y116 =>
    (schedcheck_Slack.f k o0 (o2_0, o2_1, o11, o12, o2_4, ())).bind fun y119 =>
    jacquardlaw35_SchedcheckMoves.c27 k x2 (y116.length : Int) 0 o0 y116 y119
def jacquardlaw35_SchedcheckMoves.c27 : Nat → Int → Int → Int → Flow → (List Int) → (List Int) → Option (Bool)
  | 0, _, _, _, _, _, _ => none
  | k + 1, x2, x121, x122, o0, o9, o10 =>
    bif (decide (x122 < x121)) then
      if 0 ≤ x122 ∧ x122 < ((Flow.Arcs o0).length : Int) then
      bif (decide ((w64 ((Flow.Insts o0) + (Flow.Params o0))) ≤ (Arc.From (rd (Flow.Arcs o0) x122)))) then
        jacquardlaw35_SchedcheckMoves.c32 k x2 x122 (w64 (0 + (w64 (x2)))) x121 x122 o0 o9 o10
      else
      jacquardlaw35_SchedcheckMoves.c32 k x2 x122 0 x121 x122 o0 o9 o10
      else none
    else
    some (decide ((o9.length : Int) = (o10.length : Int)))
def jacquardlaw35_SchedcheckMoves.c32 : Nat → Int → Int → Int → Int → Int → Flow → (List Int) → (List Int) → Option (Bool)
  | 0, _, _, _, _, _, _, _, _ => none
  | k + 1, x2, x15, x16, x121, x122, o0, o9, o10 =>
    if 0 ≤ x15 ∧ x15 < ((Flow.Arcs o0).length : Int) then
    bif (decide ((w64 ((Flow.Insts o0) + (Flow.Params o0))) ≤ (Arc.To (rd (Flow.Arcs o0) x15)))) then
      jacquardlaw35_SchedcheckMoves.c34 k x2 x15 (w64 (x16 - (w64 (x2)))) x121 x122 o0 o9 o10
    else
    jacquardlaw35_SchedcheckMoves.c34 k x2 x15 x16 x121 x122 o0 o9 o10
    else none
def jacquardlaw35_SchedcheckMoves.c34 : Nat → Int → Int → Int → Int → Int → Flow → (List Int) → (List Int) → Option (Bool)
  | 0, _, _, _, _, _, _, _, _ => none
  | k + 1, x2, x15, x16, x121, x122, o0, o9, o10 =>
    if 0 ≤ x15 ∧ x15 < (o10.length : Int) then
    if 0 ≤ x15 ∧ x15 < (o9.length : Int) then
    bif (!decide ((rd o10 x15) = (w64 ((rd o9 x15) + x16)))) then
      some false
    else
    jacquardlaw35_SchedcheckMoves.c27 k x2 x121 (w64 (x122 + 1)) o0 o9 o10
    else none
    else none
end
def jacquardlaw35_SchedcheckMoves.f (k : Nat) (a0 : Flow) (a1 : Sched) (a2 : Int) : Option (Bool) :=
  (jacquardlaw35_awake.f k ).bind fun y17 =>
  bif (!y17) then
    (jacquardlaw35_awake.f k ).bind fun y36 =>
    some y36
  else
  (jacquardlaw35_few.f k a0 a1).bind fun y22 =>
  bif (!y22) then
    (jacquardlaw35_awake.f k ).bind fun y36 =>
    some y36
  else
  (schedcheck_Fits.f k a0 a1).bind fun y28 =>
  bif (!y28) then
    (jacquardlaw35_awake.f k ).bind fun y36 =>
    some y36
  else
  bif (!(Flow.Loop a0)) then
    (jacquardlaw35_awake.f k ).bind fun y36 =>
    some y36
  else
  jacquardlaw35_SchedcheckMoves.c5 k a2 ((Sched.Start a1).length : Int) 0 a0 a1 (Sched.II a1) (Sched.Depth a1) (Sched.Unit a1) []
mutual
def jacquardlaw35_SchedcheckFewer.c8 : Nat → Flow → Sched → Int → Int → Bool → (List Arc) → (List Resource) → (List Need) → Option (Bool)
  | 0, _, _, _, _, _, _, _, _ => none
  | k + 1, o0, o1, o2_0, o2_1, o2_2, o2_3, o2_4, o2_5 =>
    jacquardlaw35_SchedcheckFewer.c10 k ((Flow.Res o0).length : Int) 0 o0 o1 o2_0 o2_1 o2_2 o2_3 o2_5 []
def jacquardlaw35_SchedcheckFewer.c10 : Nat → Int → Int → Flow → Sched → Int → Int → Bool → (List Arc) → (List Need) → (List Resource) → Option (Bool)
  | 0, _, _, _, _, _, _, _, _, _, _ => none
  | k + 1, x66, x67, o0, o1, o2_0, o2_1, o2_2, o2_3, o2_5, o9 =>
    bif (decide (x67 < x66)) then
      if 0 ≤ x67 ∧ x67 < ((Flow.Res o0).length : Int) then
      bif Nat.ble (List.length o9 + List.length [((Resource.Kind (rd (Flow.Res o0) x67)), (Resource.Index (rd (Flow.Res o0) x67)), (Resource.Width (rd (Flow.Res o0) x67)), (mn (w64 ((Resource.Count (rd (Flow.Res o0) x67)) + 1)) 1024), ())]) 1073741824 then
      jacquardlaw35_SchedcheckFewer.c10 k x66 (w64 (x67 + 1)) o0 o1 o2_0 o2_1 o2_2 o2_3 o2_5 (o9 ++ [((Resource.Kind (rd (Flow.Res o0) x67)), (Resource.Index (rd (Flow.Res o0) x67)), (Resource.Width (rd (Flow.Res o0) x67)), (mn (w64 ((Resource.Count (rd (Flow.Res o0) x67)) + 1)) 1024), ())])
      else none
      else none
    else
    (schedcheck_Check.f k (o2_0, o2_1, o2_2, o2_3, o9, o2_5, ()) o1).bind fun y89 =>
    some (decide (y89 = 0))
end
def jacquardlaw35_SchedcheckFewer.f (k : Nat) (a0 : Flow) (a1 : Sched) (a2 : Int) : Option (Bool) :=
  (jacquardlaw35_awake.f k ).bind fun y12 =>
  bif (!y12) then
    (jacquardlaw35_awake.f k ).bind fun y26 =>
    some y26
  else
  (jacquardlaw35_few.f k a0 a1).bind fun y17 =>
  bif (!y17) then
    (jacquardlaw35_awake.f k ).bind fun y26 =>
    some y26
  else
  (schedcheck_Check.f k a0 a1).bind fun y23 =>
  bif (!decide (y23 = 0)) then
    (jacquardlaw35_awake.f k ).bind fun y26 =>
    some y26
  else
  bif (decide ((w64 ((w64 (2 * (w64 ((Flow.Insts a0) + (Flow.Params a0))))) + 1)) < ((Flow.Arcs a0).length : Int))) then
    if ¬ (w64 (((Flow.Arcs a0).length : Int) - (w64 ((w64 (2 * (w64 ((Flow.Insts a0) + (Flow.Params a0))))) + 1)))) = 0 then
    if 0 ≤ (w64 ((w64 ((w64 (2 * (w64 ((Flow.Insts a0) + (Flow.Params a0))))) + 1)) + (Int.tmod (w64 (a2)) (w64 (((Flow.Arcs a0).length : Int) - (w64 ((w64 (2 * (w64 ((Flow.Insts a0) + (Flow.Params a0))))) + 1))))))) ∧ (w64 ((w64 ((w64 (2 * (w64 ((Flow.Insts a0) + (Flow.Params a0))))) + 1)) + (Int.tmod (w64 (a2)) (w64 (((Flow.Arcs a0).length : Int) - (w64 ((w64 (2 * (w64 ((Flow.Insts a0) + (Flow.Params a0))))) + 1))))))) ≤ ((Flow.Arcs a0).length : Int) then
    bif Nat.ble (List.length ([] : List Arc) + List.length (List.take (w64 ((w64 ((w64 (2 * (w64 ((Flow.Insts a0) + (Flow.Params a0))))) + 1)) + (Int.tmod (w64 (a2)) (w64 (((Flow.Arcs a0).length : Int) - (w64 ((w64 (2 * (w64 ((Flow.Insts a0) + (Flow.Params a0))))) + 1))))))).toNat (Flow.Arcs a0))) 1073741824 then
    if 0 ≤ (w64 ((w64 ((w64 ((w64 (2 * (w64 ((Flow.Insts a0) + (Flow.Params a0))))) + 1)) + (Int.tmod (w64 (a2)) (w64 (((Flow.Arcs a0).length : Int) - (w64 ((w64 (2 * (w64 ((Flow.Insts a0) + (Flow.Params a0))))) + 1))))))) + 1)) ∧ (w64 ((w64 ((w64 ((w64 (2 * (w64 ((Flow.Insts a0) + (Flow.Params a0))))) + 1)) + (Int.tmod (w64 (a2)) (w64 (((Flow.Arcs a0).length : Int) - (w64 ((w64 (2 * (w64 ((Flow.Insts a0) + (Flow.Params a0))))) + 1))))))) + 1)) ≤ ((Flow.Arcs a0).length : Int) then
    bif Nat.ble (List.length (([] : List Arc) ++ (List.take (w64 ((w64 ((w64 (2 * (w64 ((Flow.Insts a0) + (Flow.Params a0))))) + 1)) + (Int.tmod (w64 (a2)) (w64 (((Flow.Arcs a0).length : Int) - (w64 ((w64 (2 * (w64 ((Flow.Insts a0) + (Flow.Params a0))))) + 1))))))).toNat (Flow.Arcs a0))) + List.length (List.drop (w64 ((w64 ((w64 ((w64 (2 * (w64 ((Flow.Insts a0) + (Flow.Params a0))))) + 1)) + (Int.tmod (w64 (a2)) (w64 (((Flow.Arcs a0).length : Int) - (w64 ((w64 (2 * (w64 ((Flow.Insts a0) + (Flow.Params a0))))) + 1))))))) + 1)).toNat (Flow.Arcs a0))) 1073741824 then
    jacquardlaw35_SchedcheckFewer.c8 k a0 a1 (Flow.Insts a0) (Flow.Params a0) (Flow.Loop a0) ((([] : List Arc) ++ (List.take (w64 ((w64 ((w64 (2 * (w64 ((Flow.Insts a0) + (Flow.Params a0))))) + 1)) + (Int.tmod (w64 (a2)) (w64 (((Flow.Arcs a0).length : Int) - (w64 ((w64 (2 * (w64 ((Flow.Insts a0) + (Flow.Params a0))))) + 1))))))).toNat (Flow.Arcs a0))) ++ (List.drop (w64 ((w64 ((w64 ((w64 (2 * (w64 ((Flow.Insts a0) + (Flow.Params a0))))) + 1)) + (Int.tmod (w64 (a2)) (w64 (((Flow.Arcs a0).length : Int) - (w64 ((w64 (2 * (w64 ((Flow.Insts a0) + (Flow.Params a0))))) + 1))))))) + 1)).toNat (Flow.Arcs a0))) (Flow.Res a0) (Flow.Needs a0)
    else none
    else none
    else none
    else none
    else none
  else
  jacquardlaw35_SchedcheckFewer.c8 k a0 a1 (Flow.Insts a0) (Flow.Params a0) (Flow.Loop a0) (Flow.Arcs a0) (Flow.Res a0) (Flow.Needs a0)
mutual
def jacquardlaw35_SchedcheckBusy.c14 : Nat → Int → Int → (List Arr2_3) → (List Arr2_3) → Option (Bool)
  | 0, _, _, _, _ => none
  | k + 1, x109, x110, o7, o8 =>
    bif (decide (x110 < x109)) then
      jacquardlaw35_SchedcheckBusy.c18 k x110 false x109 x110 (o8.length : Int) 0 o7 o8
    else
    some (decide ((o7.length : Int) ≤ (o8.length : Int)))
def jacquardlaw35_SchedcheckBusy.c18 : Nat → Int → Bool → Int → Int → Int → Int → (List Arr2_3) → (List Arr2_3) → Option (Bool)
  | 0, _, _, _, _, _, _, _, _ => none
  | k + 1, x12, x13, x109, x110, x114, x115, o7, o8 =>
    bif (decide (x115 < x114)) then
      bif x13 then
        jacquardlaw35_SchedcheckBusy.c18 k x12 true x109 x110 x114 (w64 (x115 + 1)) o7 o8
      else
      if 0 ≤ x12 ∧ x12 < (o7.length : Int) then
      if 0 ≤ x115 ∧ x115 < (o8.length : Int) then
      jacquardlaw35_SchedcheckBusy.c18 k x12 (eqB (Arr2_3.T) ((Arr2_3.e0 (rd o7 x12)), (Arr2_3.e1 (rd o7 x12)), ()) ((Arr2_3.e0 (rd o8 x115)), (Arr2_3.e1 (rd o8 x115)), ())) x109 x110 x114 (w64 (x115 + 1)) o7 o8
      else none
      else none
    else
    bif (!x13) then
      some false
    else
    jacquardlaw35_SchedcheckBusy.c14 k x109 (w64 (x110 + 1)) o7 o8
end
def jacquardlaw35_SchedcheckBusy.f (k : Nat) (a0 : Flow) (a1 : Sched) (a2 : Int) : Option (Bool) :=
  (jacquardlaw35_awake.f k ).bind fun y15 =>
  bif (!y15) then
    (jacquardlaw35_awake.f k ).bind fun y34 =>
    some y34
  else
  (jacquardlaw35_few.f k a0 a1).bind fun y20 =>
  bif (!y20) then
    (jacquardlaw35_awake.f k ).bind fun y34 =>
    some y34
  else
  (schedcheck_Fits.f k a0 a1).bind fun y26 =>
  bif (!y26) then
    (jacquardlaw35_awake.f k ).bind fun y34 =>
    some y34
  else
  bif (decide ((Flow.Insts a0) = 0)) then
    (jacquardlaw35_awake.f k ).bind fun y34 =>
    some y34
  else
  if ¬ (Flow.Insts a0) = 0 then
  if 0 ≤ (Int.tmod (w64 (a2)) (Flow.Insts a0)) ∧ (Int.tmod (w64 (a2)) (Flow.Insts a0)) < ((Flow.Needs a0).length : Int) then
  bif (decide ((Need.Res (rd (Flow.Needs a0) (Int.tmod (w64 (a2)) (Flow.Insts a0)))) < 0)) then
    some true
  else
  if 0 ≤ (Int.tmod (w64 (a2)) (Flow.Insts a0)) ∧ (Int.tmod (w64 (a2)) (Flow.Insts a0)) < ((Flow.Needs a0).length : Int) then
  bif (decide (256 ≤ (Need.Busy (rd (Flow.Needs a0) (Int.tmod (w64 (a2)) (Flow.Insts a0)))))) then
    some true
  else
  bif Nat.ble (List.length ([] : List Need) + List.length (Flow.Needs a0)) 1073741824 then
  if 0 ≤ (Int.tmod (w64 (a2)) (Flow.Insts a0)) ∧ (Int.tmod (w64 (a2)) (Flow.Insts a0)) < ((([] : List Need) ++ (Flow.Needs a0)).length : Int) then
  if 0 ≤ (Int.tmod (w64 (a2)) (Flow.Insts a0)) ∧ (Int.tmod (w64 (a2)) (Flow.Insts a0)) < ((([] : List Need) ++ (Flow.Needs a0)).length : Int) then
  bif Nat.ble (List.length ([] : List Arc) + List.length (Flow.Arcs a0)) 1073741824 then
  if 0 ≤ (w64 ((w64 ((w64 ((Flow.Insts a0) + (Flow.Params a0))) + 1)) + (Int.tmod (w64 (a2)) (Flow.Insts a0)))) ∧ (w64 ((w64 ((w64 ((Flow.Insts a0) + (Flow.Params a0))) + 1)) + (Int.tmod (w64 (a2)) (Flow.Insts a0)))) < ((([] : List Arc) ++ (Flow.Arcs a0)).length : Int) then
  if 0 ≤ (Int.tmod (w64 (a2)) (Flow.Insts a0)) ∧ (Int.tmod (w64 (a2)) (Flow.Insts a0)) < ((List.set (([] : List Need) ++ (Flow.Needs a0)) (Int.tmod (w64 (a2)) (Flow.Insts a0)).toNat ((Need.Res (rd (([] : List Need) ++ (Flow.Needs a0)) (Int.tmod (w64 (a2)) (Flow.Insts a0)))), (w64 ((Need.Busy (rd (([] : List Need) ++ (Flow.Needs a0)) (Int.tmod (w64 (a2)) (Flow.Insts a0)))) + 1)), ())).length : Int) then
  if 0 ≤ (w64 ((w64 ((w64 ((Flow.Insts a0) + (Flow.Params a0))) + 1)) + (Int.tmod (w64 (a2)) (Flow.Insts a0)))) ∧ (w64 ((w64 ((w64 ((Flow.Insts a0) + (Flow.Params a0))) + 1)) + (Int.tmod (w64 (a2)) (Flow.Insts a0)))) < ((([] : List Arc) ++ (Flow.Arcs a0)).length : Int) then
  (schedcheck_Clashes.f k a0 a1).bind fun y104 =>
  (schedcheck_Clashes.f k ((Flow.Insts a0), (Flow.Params a0), (Flow.Loop a0), (List.set (([] : List Arc) ++ (Flow.Arcs a0)) (w64 ((w64 ((w64 ((Flow.Insts a0) + (Flow.Params a0))) + 1)) + (Int.tmod (w64 (a2)) (Flow.Insts a0)))).toNat ((Arc.From (rd (([] : List Arc) ++ (Flow.Arcs a0)) (w64 ((w64 ((w64 ((Flow.Insts a0) + (Flow.Params a0))) + 1)) + (Int.tmod (w64 (a2)) (Flow.Insts a0)))))), (Arc.To (rd (([] : List Arc) ++ (Flow.Arcs a0)) (w64 ((w64 ((w64 ((Flow.Insts a0) + (Flow.Params a0))) + 1)) + (Int.tmod (w64 (a2)) (Flow.Insts a0)))))), (mx (Arc.Lat (rd (([] : List Arc) ++ (Flow.Arcs a0)) (w64 ((w64 ((w64 ((Flow.Insts a0) + (Flow.Params a0))) + 1)) + (Int.tmod (w64 (a2)) (Flow.Insts a0)))))) (Need.Busy (rd (List.set (([] : List Need) ++ (Flow.Needs a0)) (Int.tmod (w64 (a2)) (Flow.Insts a0)).toNat ((Need.Res (rd (([] : List Need) ++ (Flow.Needs a0)) (Int.tmod (w64 (a2)) (Flow.Insts a0)))), (w64 ((Need.Busy (rd (([] : List Need) ++ (Flow.Needs a0)) (Int.tmod (w64 (a2)) (Flow.Insts a0)))) + 1)), ())) (Int.tmod (w64 (a2)) (Flow.Insts a0))))), (Arc.Dist (rd (([] : List Arc) ++ (Flow.Arcs a0)) (w64 ((w64 ((w64 ((Flow.Insts a0) + (Flow.Params a0))) + 1)) + (Int.tmod (w64 (a2)) (Flow.Insts a0)))))), ())), (Flow.Res a0), (List.set (([] : List Need) ++ (Flow.Needs a0)) (Int.tmod (w64 (a2)) (Flow.Insts a0)).toNat ((Need.Res (rd (([] : List Need) ++ (Flow.Needs a0)) (Int.tmod (w64 (a2)) (Flow.Insts a0)))), (w64 ((Need.Busy (rd (([] : List Need) ++ (Flow.Needs a0)) (Int.tmod (w64 (a2)) (Flow.Insts a0)))) + 1)), ())), ()) a1).bind fun y107 =>
  jacquardlaw35_SchedcheckBusy.c14 k (y104.length : Int) 0 y104 y107
  else none
  else none
  else none
  else none
  else none
  else none
  else none
  else none
  else none
  else none
def schedcheck_Times.f (k : Nat) (a0 : Flow) (a1 : Sched) : Option ((List Int)) :=
  (schedcheck_Fits.f k a0 a1).bind fun y7 =>
  bif (!y7) then
    some []
  else
  (schedcheck_times.f a0 a1).bind fun y11 =>
  some y11
mutual
def jacquardlaw35_same.c4 : Nat → (List Int) → (List Int) → Int → Int → Option (Bool)
  | 0, _, _, _, _ => none
  | k + 1, x0, x1, x12, x13 =>
    bif (decide (x13 < x12)) then
      if 0 ≤ x13 ∧ x13 < (x0.length : Int) then
      if 0 ≤ x13 ∧ x13 < (x1.length : Int) then
      bif (!decide ((rd x0 x13) = (rd x1 x13))) then
        some false
      else
      jacquardlaw35_same.c4 k x0 x1 x12 (w64 (x13 + 1))
      else none
      else none
    else
    some true
end
def jacquardlaw35_same.f (k : Nat) (a0 : (List Int)) (a1 : (List Int)) : Option (Bool) :=
  bif (!decide ((a0.length : Int) = (a1.length : Int))) then
    some false
  else
  jacquardlaw35_same.c4 k a0 a1 (a0.length : Int) 0
mutual
def jacquardlaw35_SchedcheckArcs.c9 : Nat → Int → Int → Flow → Sched → (List Int) → (List Int) → Option (Bool)
  | 0, _, _, _, _, _, _ => none
  | k + 1, x65, x66, o0, o1, o2, o4 =>
    bif (decide (x66 < x65)) then
      if 0 ≤ x66 ∧ x66 < (o2.length : Int) then
      (jacquardref28_Time.f o0 o1 x66).bind fun y76 =>
      bif (!decide ((rd o2 x66) = y76)) then
        some false
      else
      jacquardlaw35_SchedcheckArcs.c9 k x65 (w64 (x66 + 1)) o0 o1 o2 o4
      else none
    else
    jacquardlaw35_SchedcheckArcs.c15 k ((Flow.Arcs o0).length : Int) 0 o0 o1 o2 o4
def jacquardlaw35_SchedcheckArcs.c15 : Nat → Int → Int → Flow → Sched → (List Int) → (List Int) → Option (Bool)
  | 0, _, _, _, _, _, _ => none
  | k + 1, x81, x82, o0, o1, o2, o4 =>
    bif (decide (x82 < x81)) then
      if 0 ≤ x82 ∧ x82 < ((Flow.Arcs o0).length : Int) then
      if 0 ≤ x82 ∧ x82 < (o4.length : Int) then
      if 0 ≤ (Arc.To (rd (Flow.Arcs o0) x82)) ∧ (Arc.To (rd (Flow.Arcs o0) x82)) < (o2.length : Int) then
      if 0 ≤ (Arc.From (rd (Flow.Arcs o0) x82)) ∧ (Arc.From (rd (Flow.Arcs o0) x82)) < (o2.length : Int) then
      (jacquardref28_Weight.f (rd (Flow.Arcs o0) x82) (Sched.II o1)).bind fun y108 =>
      bif (!decide ((rd o4 x82) = (w64 ((w64 ((rd o2 (Arc.To (rd (Flow.Arcs o0) x82))) - (rd o2 (Arc.From (rd (Flow.Arcs o0) x82))))) - y108)))) then
        some false
      else
      jacquardlaw35_SchedcheckArcs.c15 k x81 (w64 (x82 + 1)) o0 o1 o2 o4
      else none
      else none
      else none
      else none
    else
    some true
end
def jacquardlaw35_SchedcheckArcs.f (k : Nat) (a0 : Flow) (a1 : Sched) : Option (Bool) :=
  (jacquardlaw35_awake.f k ).bind fun y11 =>
  bif (!y11) then
    (jacquardlaw35_awake.f k ).bind fun y19 =>
    some y19
  else
  (jacquardlaw35_few.f k a0 a1).bind fun y16 =>
  bif (!y16) then
    (jacquardlaw35_awake.f k ).bind fun y19 =>
    some y19
  else
  (schedcheck_Times.f k a0 a1).bind fun y22 =>
  (schedcheck_Late.f k a0 a1).bind fun y25 =>
  (schedcheck_Slack.f k a0 a1).bind fun y28 =>
  (jacquardlaw35_fits.f k a0 a1).bind fun y31 =>
  bif (!y31) then
    some (decide ((w64 ((w64 ((y22.length : Int) + (y25.length : Int))) + (y28.length : Int))) = 0))
  else
  (jacquardref28_End.f a0).bind fun y45 =>
  bif (!decide ((y22.length : Int) = (w64 (y45 + 1)))) then
    some false
  else
  bif (!decide ((y28.length : Int) = ((Flow.Arcs a0).length : Int))) then
    some false
  else
  (jacquardref28_Late.f k a0 a1).bind fun y60 =>
  (jacquardlaw35_same.f k y25 y60).bind fun y61 =>
  bif (!y61) then
    some false
  else
  jacquardlaw35_SchedcheckArcs.c9 k (y22.length : Int) 0 a0 a1 y22 y28
mutual
def schedcheck_Usage.c6 : Nat → Int → Flow → Sched → Option ((List (List Int)))
  | 0, _, _, _ => none
  | k + 1, x5, o0, o1 =>
    if 0 ≤ ((Flow.Res o0).length : Int) ∧ ((Flow.Res o0).length : Int) ≤ ((Flow.Res o0).length : Int) ∧ ((Flow.Res o0).length : Int) ≤ 1073741824 then
    schedcheck_Usage.c8 k x5 ((List.replicate ((Flow.Res o0).length : Int).toNat ([] : (List Int))).length : Int) 0 o0 o1 (List.replicate ((Flow.Res o0).length : Int).toNat ([] : (List Int)))
    else none
def schedcheck_Usage.c8 : Nat → Int → Int → Int → Flow → Sched → (List (List Int)) → Option ((List (List Int)))
  | 0, _, _, _, _, _, _ => none
  | k + 1, x5, x27, x28, o0, o1, o3 =>
    bif (decide (x28 < x27)) then
      if 0 ≤ x5 ∧ x5 ≤ x5 ∧ x5 ≤ 1073741824 then
      if 0 ≤ x28 ∧ x28 < (o3.length : Int) then
      schedcheck_Usage.c8 k x5 x27 (w64 (x28 + 1)) o0 o1 (List.set o3 x28.toNat (List.replicate x5.toNat (0 : Int)))
      else none
      else none
    else
    schedcheck_Usage.c13 k x5 (Flow.Needs o0) ((Flow.Needs o0).length : Int) 0 o0 o1 o3
def schedcheck_Usage.c13 : Nat → Int → (List Need) → Int → Int → Flow → Sched → (List (List Int)) → Option ((List (List Int)))
  | 0, _, _, _, _, _, _, _ => none
  | k + 1, x5, x38, x39, x40, o0, o1, o3 =>
    bif (decide (x40 < x39)) then
      if 0 ≤ x40 ∧ x40 < (x38.length : Int) then
      schedcheck_Usage.c16 k x5 x40 0 x38 x39 x40 o0 o1 o3 (rd x38 x40)
      else none
    else
    some o3
def schedcheck_Usage.c16 : Nat → Int → Int → Int → (List Need) → Int → Int → Flow → Sched → (List (List Int)) → Need → Option ((List (List Int)))
  | 0, _, _, _, _, _, _, _, _, _, _ => none
  | k + 1, x5, x8, x10, x38, x39, x40, o0, o1, o3, o5 =>
    bif (decide (0 ≤ (Need.Res o5))) then
      bif (decide (x10 < (Need.Busy o5))) then
        if 0 ≤ x8 ∧ x8 < ((Sched.Start o1).length : Int) then
        bif (Flow.Loop o0) then
          if 0 ≤ (Need.Res o5) ∧ (Need.Res o5) < (o3.length : Int) then
          if ¬ x5 = 0 then
          if 0 ≤ (Int.tmod (w64 ((rd (Sched.Start o1) x8) + x10)) x5) ∧ (Int.tmod (w64 ((rd (Sched.Start o1) x8) + x10)) x5) < ((rd o3 (Need.Res o5)).length : Int) then
          if 0 ≤ (Int.tmod (w64 ((rd (Sched.Start o1) x8) + x10)) x5) ∧ (Int.tmod (w64 ((rd (Sched.Start o1) x8) + x10)) x5) < ((rd o3 (Need.Res o5)).length : Int) then
          schedcheck_Usage.c16 k x5 x8 (w64 (x10 + 1)) x38 x39 x40 o0 o1 (List.set o3 (Need.Res o5).toNat (List.set (rd o3 (Need.Res o5)) (Int.tmod (w64 ((rd (Sched.Start o1) x8) + x10)) x5).toNat (w64 ((rd (rd o3 (Need.Res o5)) (Int.tmod (w64 ((rd (Sched.Start o1) x8) + x10)) x5)) + 1)))) o5
          else none
          else none
          else none
          else none
        else
        bif (decide ((w64 ((rd (Sched.Start o1) x8) + x10)) < x5)) then
          if 0 ≤ (Need.Res o5) ∧ (Need.Res o5) < (o3.length : Int) then
          if 0 ≤ (w64 ((rd (Sched.Start o1) x8) + x10)) ∧ (w64 ((rd (Sched.Start o1) x8) + x10)) < ((rd o3 (Need.Res o5)).length : Int) then
          if 0 ≤ (w64 ((rd (Sched.Start o1) x8) + x10)) ∧ (w64 ((rd (Sched.Start o1) x8) + x10)) < ((rd o3 (Need.Res o5)).length : Int) then
          schedcheck_Usage.c16 k x5 x8 (w64 (x10 + 1)) x38 x39 x40 o0 o1 (List.set o3 (Need.Res o5).toNat (List.set (rd o3 (Need.Res o5)) (w64 ((rd (Sched.Start o1) x8) + x10)).toNat (w64 ((rd (rd o3 (Need.Res o5)) (w64 ((rd (Sched.Start o1) x8) + x10))) + 1)))) o5
          else none
          else none
          else none
        else
        schedcheck_Usage.c16 k x5 x8 (w64 (x10 + 1)) x38 x39 x40 o0 o1 o3 o5
        else none
      else
      schedcheck_Usage.c13 k x5 x38 x39 (w64 (x40 + 1)) o0 o1 o3
    else
    schedcheck_Usage.c13 k x5 x38 x39 (w64 (x40 + 1)) o0 o1 o3
end
def schedcheck_Usage.f (k : Nat) (a0 : Flow) (a1 : Sched) : Option ((List (List Int))) :=
  (schedcheck_Fits.f k a0 a1).bind fun y14 =>
  bif (!y14) then
    some []
  else
  bif (Flow.Loop a0) then
    schedcheck_Usage.c6 k (Sched.II a1) a0 a1
  else
  schedcheck_Usage.c6 k (Sched.Depth a1) a0 a1
mutual
def jacquardlaw35_SchedcheckUsage.c9 : Nat → Int → Flow → Sched → (List (List Int)) → Option (Bool)
  | 0, _, _, _, _ => none
  | k + 1, x6, o0, o1, o2 =>
    bif (!decide ((o2.length : Int) = ((Flow.Res o0).length : Int))) then
      some false
    else
    jacquardlaw35_SchedcheckUsage.c12 k x6 (o2.length : Int) 0 o0 o1 o2
def jacquardlaw35_SchedcheckUsage.c12 : Nat → Int → Int → Int → Flow → Sched → (List (List Int)) → Option (Bool)
  | 0, _, _, _, _, _, _ => none
  | k + 1, x6, x50, x51, o0, o1, o2 =>
    bif (decide (x51 < x50)) then
      if 0 ≤ x6 ∧ x6 ≤ x6 ∧ x6 ≤ 1073741824 then
      jacquardlaw35_SchedcheckUsage.c16 k x6 x51 x50 x51 ((Flow.Needs o0).length : Int) 0 o0 o1 o2 (List.replicate x6.toNat (0 : Int))
      else none
    else
    some true
def jacquardlaw35_SchedcheckUsage.c16 : Nat → Int → Int → Int → Int → Int → Int → Flow → Sched → (List (List Int)) → (List Int) → Option (Bool)
  | 0, _, _, _, _, _, _, _, _, _, _ => none
  | k + 1, x6, x7, x50, x51, x58, x59, o0, o1, o2, o3 =>
    bif (decide (x59 < x58)) then
      if 0 ≤ x59 ∧ x59 < ((Flow.Needs o0).length : Int) then
      jacquardlaw35_SchedcheckUsage.c19 k x6 x7 x59 x50 x51 x58 x59 (Need.Busy (rd (Flow.Needs o0) x59)) 0 o0 o1 o2 o3
      else none
    else
    if 0 ≤ x7 ∧ x7 < (o2.length : Int) then
    (jacquardlaw35_same.f k (rd o2 x7) o3).bind fun y109 =>
    bif (!y109) then
      some false
    else
    jacquardlaw35_SchedcheckUsage.c31 k x6 x7 x50 x51 (o3.length : Int) 0 o0 o1 o2 o3
    else none
def jacquardlaw35_SchedcheckUsage.c19 : Nat → Int → Int → Int → Int → Int → Int → Int → Int → Int → Flow → Sched → (List (List Int)) → (List Int) → Option (Bool)
  | 0, _, _, _, _, _, _, _, _, _, _, _, _, _ => none
  | k + 1, x6, x7, x9, x50, x51, x58, x59, x67, x68, o0, o1, o2, o3 =>
    bif (decide (x68 < x67)) then
      if 0 ≤ x9 ∧ x9 < ((Sched.Start o1).length : Int) then
      bif (Flow.Loop o0) then
        if ¬ x6 = 0 then
        jacquardlaw35_SchedcheckUsage.c24 k x6 x7 x9 (Int.tmod (w64 ((rd (Sched.Start o1) x9) + x68)) x6) x50 x51 x58 x59 x67 x68 o0 o1 o2 o3
        else none
      else
      jacquardlaw35_SchedcheckUsage.c24 k x6 x7 x9 (w64 ((rd (Sched.Start o1) x9) + x68)) x50 x51 x58 x59 x67 x68 o0 o1 o2 o3
      else none
    else
    jacquardlaw35_SchedcheckUsage.c16 k x6 x7 x50 x51 x58 (w64 (x59 + 1)) o0 o1 o2 o3
def jacquardlaw35_SchedcheckUsage.c31 : Nat → Int → Int → Int → Int → Int → Int → Flow → Sched → (List (List Int)) → (List Int) → Option (Bool)
  | 0, _, _, _, _, _, _, _, _, _, _ => none
  | k + 1, x6, x7, x50, x51, x112, x113, o0, o1, o2, o3 =>
    bif (decide (x113 < x112)) then
      if 0 ≤ x113 ∧ x113 < (o3.length : Int) then
      if 0 ≤ x7 ∧ x7 < ((Flow.Res o0).length : Int) then
      bif (decide ((Resource.Count (rd (Flow.Res o0) x7)) < (rd o3 x113))) then
        (schedcheck_Check.f k o0 o1).bind fun y130 =>
        bif (decide (y130 = 0)) then
          some false
        else
        jacquardlaw35_SchedcheckUsage.c31 k x6 x7 x50 x51 x112 (w64 (x113 + 1)) o0 o1 o2 o3
      else
      jacquardlaw35_SchedcheckUsage.c31 k x6 x7 x50 x51 x112 (w64 (x113 + 1)) o0 o1 o2 o3
      else none
      else none
    else
    jacquardlaw35_SchedcheckUsage.c12 k x6 x50 (w64 (x51 + 1)) o0 o1 o2
def jacquardlaw35_SchedcheckUsage.c24 : Nat → Int → Int → Int → Int → Int → Int → Int → Int → Int → Int → Flow → Sched → (List (List Int)) → (List Int) → Option (Bool)
  | 0, _, _, _, _, _, _, _, _, _, _, _, _, _, _ => none
  | k + 1, x6, x7, x9, x11, x50, x51, x58, x59, x67, x68, o0, o1, o2, o3 =>
    if 0 ≤ x9 ∧ x9 < ((Flow.Needs o0).length : Int) then
    bif (decide ((Need.Res (rd (Flow.Needs o0) x9)) = x7)) then
      bif (decide (x11 < x6)) then
        if 0 ≤ x11 ∧ x11 < (o3.length : Int) then
        if 0 ≤ x11 ∧ x11 < (o3.length : Int) then
        jacquardlaw35_SchedcheckUsage.c19 k x6 x7 x9 x50 x51 x58 x59 x67 (w64 (x68 + 1)) o0 o1 o2 (List.set o3 x11.toNat (w64 ((rd o3 x11) + 1)))
        else none
        else none
      else
      jacquardlaw35_SchedcheckUsage.c19 k x6 x7 x9 x50 x51 x58 x59 x67 (w64 (x68 + 1)) o0 o1 o2 o3
    else
    jacquardlaw35_SchedcheckUsage.c19 k x6 x7 x9 x50 x51 x58 x59 x67 (w64 (x68 + 1)) o0 o1 o2 o3
    else none
end
def jacquardlaw35_SchedcheckUsage.f (k : Nat) (a0 : Flow) (a1 : Sched) : Option (Bool) :=
  (jacquardlaw35_awake.f k ).bind fun y13 =>
  bif (!y13) then
    (jacquardlaw35_awake.f k ).bind fun y26 =>
    some y26
  else
  (jacquardlaw35_few.f k a0 a1).bind fun y18 =>
  bif (!y18) then
    (jacquardlaw35_awake.f k ).bind fun y26 =>
    some y26
  else
  bif (decide (500 < (Sched.Depth a1))) then
    (jacquardlaw35_awake.f k ).bind fun y26 =>
    some y26
  else
  (schedcheck_Usage.f k a0 a1).bind fun y29 =>
  (jacquardlaw35_fits.f k a0 a1).bind fun y32 =>
  bif (!y32) then
    some (decide ((y29.length : Int) = 0))
  else
  bif (Flow.Loop a0) then
    jacquardlaw35_SchedcheckUsage.c9 k (Sched.II a1) a0 a1 y29
  else
  jacquardlaw35_SchedcheckUsage.c9 k (Sched.Depth a1) a0 a1 y29
end Go.Proofs.YtklfakmpfinlaaaV
