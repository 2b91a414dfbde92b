/-
  No cell of these rows narrows 'for every input' (looked for: loops, veiled, ifaces, maps, wideKeys, modest, calm, conditions, laid).
  DERIVED. THE GIVEN ROWS OF THIS SEAT. 8 by the template 'for every input the law returns true; each argument reads behind the call as it read before'; 0 by the template 'total and deterministic' (their statements: YtflefelgdcblgaaTotals.lean).
  GIVEN WITH THE SEED: the statements are not yours to turn. If you find one false, say at which input.
  Laid BY PROGRAM, IN A SANDBOX (cutbox-rows.mjs): the forced cells as the released guide's own fill.sh prints them over the translation 544a3e27aeb7831b… (all of the seat's roots in one cut). By AI agents, Wed Nov 11 2026. No macro, syntax, notation, axiom, sorry.
-/
import Derived.Test.YtflefelgdcblgaaChecked
import GoSem.Claim
import GoSem.ClaimJoined
import GoSem.ClaimMapViews
import Derived.JoinedTies
import Derived.KernelRfl
namespace Go.Proofs.Ytflefelgdcblgaa
/- THE CELL 'sum', in the pinned program and in every row, IS THE sha256 OF THE DUMP (.gsa) THAT YtflefelgdcblgaaProg.lean LOADS. Nothing in Lean hashes anything: it is a label: what it is worth is what the hold of that sum in a sandbox is worth. -/
noncomputable def Try.pinned : Pinned := { name := "ytflefelgdcblgaa", sum := "544a3e27aeb7831bacc3c08ac2b97ce84b80005a2ca59672b2c5c72e83b66dca", checked := Try.checked }
namespace Rows
def none {H : Type} : Left H := { results := [], args := [] }

/-- 'jacquardlaw30.DiffconsIntervals': WHATEVER THE INPUT: true; the input reads as it did. -/
def diffconsIntervalsSpec : ChangeSpec := { name := "diffconsIntervals", fn := fun _ => fun
  | [d1, d2] => { results := [.lit (.bool true)], args := [d1, d2] }
  | _ => none }
def diffconsIntervalsRow : OpenClaim := { program := "ytflefelgdcblgaa", sum := "544a3e27aeb7831bacc3c08ac2b97ce84b80005a2ca59672b2c5c72e83b66dca", func := "jacquard/jacquardlaw30.DiffconsIntervals", spec := "diffconsIntervals", apart := false }
def DiffconsIntervalsSaid : Prop := diffconsIntervalsRow.holds Try.pinned (OpenSpec.ofChange diffconsIntervalsSpec)

/-- ITS FALSE NEIGHBOUR: 'it returns false'. Refute it at one input. -/
def diffconsIntervalsWrong : ChangeSpec := { name := "diffconsIntervals", fn := fun _ => fun
  | [d1, d2] => { results := [.lit (.bool false)], args := [d1, d2] }
  | _ => none }
def DiffconsIntervalsWrongFalsely : Prop := diffconsIntervalsRow.holds Try.pinned (OpenSpec.ofChange diffconsIntervalsWrong)

/-- 'jacquardlaw30.DiffconsEarliest': WHATEVER THE INPUT: true; the input reads as it did. -/
def diffconsEarliestSpec : ChangeSpec := { name := "diffconsEarliest", fn := fun _ => fun
  | [d] => { results := [.lit (.bool true)], args := [d] }
  | _ => none }
def diffconsEarliestRow : OpenClaim := { program := "ytflefelgdcblgaa", sum := "544a3e27aeb7831bacc3c08ac2b97ce84b80005a2ca59672b2c5c72e83b66dca", func := "jacquard/jacquardlaw30.DiffconsEarliest", spec := "diffconsEarliest", apart := false }
def DiffconsEarliestSaid : Prop := diffconsEarliestRow.holds Try.pinned (OpenSpec.ofChange diffconsEarliestSpec)

/-- ITS FALSE NEIGHBOUR: 'it returns false'. Refute it at one input. -/
def diffconsEarliestWrong : ChangeSpec := { name := "diffconsEarliest", fn := fun _ => fun
  | [d] => { results := [.lit (.bool false)], args := [d] }
  | _ => none }
def DiffconsEarliestWrongFalsely : Prop := diffconsEarliestRow.holds Try.pinned (OpenSpec.ofChange diffconsEarliestWrong)

/-- 'jacquardlaw30.DiffconsAfter': WHATEVER THE INPUT: true; the input reads as it did. -/
def diffconsAfterSpec : ChangeSpec := { name := "diffconsAfter", fn := fun _ => fun
  | [d1, d2] => { results := [.lit (.bool true)], args := [d1, d2] }
  | _ => none }
def diffconsAfterRow : OpenClaim := { program := "ytflefelgdcblgaa", sum := "544a3e27aeb7831bacc3c08ac2b97ce84b80005a2ca59672b2c5c72e83b66dca", func := "jacquard/jacquardlaw30.DiffconsAfter", spec := "diffconsAfter", apart := false }
def DiffconsAfterSaid : Prop := diffconsAfterRow.holds Try.pinned (OpenSpec.ofChange diffconsAfterSpec)

/-- ITS FALSE NEIGHBOUR: 'it returns false'. Refute it at one input. -/
def diffconsAfterWrong : ChangeSpec := { name := "diffconsAfter", fn := fun _ => fun
  | [d1, d2] => { results := [.lit (.bool false)], args := [d1, d2] }
  | _ => none }
def DiffconsAfterWrongFalsely : Prop := diffconsAfterRow.holds Try.pinned (OpenSpec.ofChange diffconsAfterWrong)

/-- 'jacquardlaw30.DiffconsTurns': WHATEVER THE INPUT: true; the input reads as it did. -/
def diffconsTurnsSpec : ChangeSpec := { name := "diffconsTurns", fn := fun _ => fun
  | [d1, d2] => { results := [.lit (.bool true)], args := [d1, d2] }
  | _ => none }
def diffconsTurnsRow : OpenClaim := { program := "ytflefelgdcblgaa", sum := "544a3e27aeb7831bacc3c08ac2b97ce84b80005a2ca59672b2c5c72e83b66dca", func := "jacquard/jacquardlaw30.DiffconsTurns", spec := "diffconsTurns", apart := false }
def DiffconsTurnsSaid : Prop := diffconsTurnsRow.holds Try.pinned (OpenSpec.ofChange diffconsTurnsSpec)

/-- ITS FALSE NEIGHBOUR: 'it returns false'. Refute it at one input. -/
def diffconsTurnsWrong : ChangeSpec := { name := "diffconsTurns", fn := fun _ => fun
  | [d1, d2] => { results := [.lit (.bool false)], args := [d1, d2] }
  | _ => none }
def DiffconsTurnsWrongFalsely : Prop := diffconsTurnsRow.holds Try.pinned (OpenSpec.ofChange diffconsTurnsWrong)

/-- 'jacquardlaw30.DiffconsHolds': WHATEVER THE INPUT: true; the input reads as it did. -/
def diffconsHoldsSpec : ChangeSpec := { name := "diffconsHolds", fn := fun _ => fun
  | [d1, d2, d3] => { results := [.lit (.bool true)], args := [d1, d2, d3] }
  | _ => none }
def diffconsHoldsRow : OpenClaim := { program := "ytflefelgdcblgaa", sum := "544a3e27aeb7831bacc3c08ac2b97ce84b80005a2ca59672b2c5c72e83b66dca", func := "jacquard/jacquardlaw30.DiffconsHolds", spec := "diffconsHolds", unfollowed := true, recurses := true, apart := false }
def DiffconsHoldsSaid : Prop := diffconsHoldsRow.holds Try.pinned (OpenSpec.ofChange diffconsHoldsSpec)

/-- ITS FALSE NEIGHBOUR: 'it returns false'. Refute it at one input. -/
def diffconsHoldsWrong : ChangeSpec := { name := "diffconsHolds", fn := fun _ => fun
  | [d1, d2, d3] => { results := [.lit (.bool false)], args := [d1, d2, d3] }
  | _ => none }
def DiffconsHoldsWrongFalsely : Prop := diffconsHoldsRow.holds Try.pinned (OpenSpec.ofChange diffconsHoldsWrong)

/-- 'jacquardlaw30.DiffconsLatest': WHATEVER THE INPUT: true; the input reads as it did. -/
def diffconsLatestSpec : ChangeSpec := { name := "diffconsLatest", fn := fun _ => fun
  | [d1, d2] => { results := [.lit (.bool true)], args := [d1, d2] }
  | _ => none }
def diffconsLatestRow : OpenClaim := { program := "ytflefelgdcblgaa", sum := "544a3e27aeb7831bacc3c08ac2b97ce84b80005a2ca59672b2c5c72e83b66dca", func := "jacquard/jacquardlaw30.DiffconsLatest", spec := "diffconsLatest", apart := false }
def DiffconsLatestSaid : Prop := diffconsLatestRow.holds Try.pinned (OpenSpec.ofChange diffconsLatestSpec)

/-- ITS FALSE NEIGHBOUR: 'it returns false'. Refute it at one input. -/
def diffconsLatestWrong : ChangeSpec := { name := "diffconsLatest", fn := fun _ => fun
  | [d1, d2] => { results := [.lit (.bool false)], args := [d1, d2] }
  | _ => none }
def DiffconsLatestWrongFalsely : Prop := diffconsLatestRow.holds Try.pinned (OpenSpec.ofChange diffconsLatestWrong)

/-- 'jacquardlaw30.DiffconsChecks': WHATEVER THE INPUT: true; the input reads as it did. -/
def diffconsChecksSpec : ChangeSpec := { name := "diffconsChecks", fn := fun _ => fun
  | [d1, d2, d3] => { results := [.lit (.bool true)], args := [d1, d2, d3] }
  | _ => none }
def diffconsChecksRow : OpenClaim := { program := "ytflefelgdcblgaa", sum := "544a3e27aeb7831bacc3c08ac2b97ce84b80005a2ca59672b2c5c72e83b66dca", func := "jacquard/jacquardlaw30.DiffconsChecks", spec := "diffconsChecks", unfollowed := true, recurses := true, apart := false }
def DiffconsChecksSaid : Prop := diffconsChecksRow.holds Try.pinned (OpenSpec.ofChange diffconsChecksSpec)

/-- ITS FALSE NEIGHBOUR: 'it returns false'. Refute it at one input. -/
def diffconsChecksWrong : ChangeSpec := { name := "diffconsChecks", fn := fun _ => fun
  | [d1, d2, d3] => { results := [.lit (.bool false)], args := [d1, d2, d3] }
  | _ => none }
def DiffconsChecksWrongFalsely : Prop := diffconsChecksRow.holds Try.pinned (OpenSpec.ofChange diffconsChecksWrong)

/-- 'jacquardlaw30.DiffconsSound': WHATEVER THE INPUT: true; the input reads as it did. -/
def diffconsSoundSpec : ChangeSpec := { name := "diffconsSound", fn := fun _ => fun
  | [d1, d2, d3] => { results := [.lit (.bool true)], args := [d1, d2, d3] }
  | _ => none }
def diffconsSoundRow : OpenClaim := { program := "ytflefelgdcblgaa", sum := "544a3e27aeb7831bacc3c08ac2b97ce84b80005a2ca59672b2c5c72e83b66dca", func := "jacquard/jacquardlaw30.DiffconsSound", spec := "diffconsSound", unfollowed := true, recurses := true, apart := false }
def DiffconsSoundSaid : Prop := diffconsSoundRow.holds Try.pinned (OpenSpec.ofChange diffconsSoundSpec)

/-- ITS FALSE NEIGHBOUR: 'it returns false'. Refute it at one input. -/
def diffconsSoundWrong : ChangeSpec := { name := "diffconsSound", fn := fun _ => fun
  | [d1, d2, d3] => { results := [.lit (.bool false)], args := [d1, d2, d3] }
  | _ => none }
def DiffconsSoundWrongFalsely : Prop := diffconsSoundRow.holds Try.pinned (OpenSpec.ofChange diffconsSoundWrong)

/- THE SECOND FORM. 'bulk': how many values and letters a reading holds, each counted each time it is reached (what is shared counts as often as it is met; a slice's spare places count too). A statement '..UptoSaid' is the law's where the arguments, and the package variables that the reading takes, are together of bulk at most 1048576: NARROWER than '..Said'. Prove '..Said' where nothing that the law and all that it calls make is longer than what came in: it says more and counts as full. Else prove '..UptoSaid'. A law counts once. -/
mutual
def uptoBulk {H : Type} : DataW H → Nat
  | .lit (.string bytes) => bytes.length + 1
  | .lit _ => 1
  | .nil => 1
  | .ptr d => uptoBulk d + 1
  | .slice elems spare => uptoBulkAll elems + uptoBulkAll spare + 1
  | .agg parts => uptoBulkAll parts + 1
  | .iface _ d => uptoBulk d + 1
  | .map entries => uptoBulkEntries entries + 1
  | .held _ => 1
def uptoBulkAll {H : Type} : List (DataW H) → Nat
  | [] => 0
  | d :: r => uptoBulk d + uptoBulkAll r
def uptoBulkEntries {H : Type} : List (Lit × DataW H) → Nat
  | [] => 0
  | x :: r => uptoBulkEntry x + uptoBulkEntries r
def uptoBulkEntry {H : Type} : Lit × DataW H → Nat
  | (.string bytes, d) => bytes.length + uptoBulk d + 1
  | (_, d) => uptoBulk d + 1
 end
def uptoSmall : (H : Type) → List (DataW H) → Bool := fun _ ds => decide (uptoBulkAll ds ≤ 1048576)
def OpenSpec.upto (s : _root_.Go.ChangeSpec) : _root_.Go.OpenSpec := { _root_.Go.OpenSpec.ofChange s with cond := some uptoSmall }

/-- 'jacquardlaw30.DiffconsIntervals', WHERE WHAT IT READS IS OF BULK AT MOST 1048576: true; the input reads as it did. -/
def diffconsIntervalsUptoRow : OpenClaim := { program := "ytflefelgdcblgaa", sum := "544a3e27aeb7831bacc3c08ac2b97ce84b80005a2ca59672b2c5c72e83b66dca", func := "jacquard/jacquardlaw30.DiffconsIntervals", spec := "diffconsIntervals", apart := false, narrowed := true }
def DiffconsIntervalsUptoSaid : Prop := diffconsIntervalsUptoRow.holds Try.pinned (OpenSpec.upto diffconsIntervalsSpec)

/-- 'jacquardlaw30.DiffconsEarliest', WHERE WHAT IT READS IS OF BULK AT MOST 1048576: true; the input reads as it did. -/
def diffconsEarliestUptoRow : OpenClaim := { program := "ytflefelgdcblgaa", sum := "544a3e27aeb7831bacc3c08ac2b97ce84b80005a2ca59672b2c5c72e83b66dca", func := "jacquard/jacquardlaw30.DiffconsEarliest", spec := "diffconsEarliest", apart := false, narrowed := true }
def DiffconsEarliestUptoSaid : Prop := diffconsEarliestUptoRow.holds Try.pinned (OpenSpec.upto diffconsEarliestSpec)

/-- 'jacquardlaw30.DiffconsAfter', WHERE WHAT IT READS IS OF BULK AT MOST 1048576: true; the input reads as it did. -/
def diffconsAfterUptoRow : OpenClaim := { program := "ytflefelgdcblgaa", sum := "544a3e27aeb7831bacc3c08ac2b97ce84b80005a2ca59672b2c5c72e83b66dca", func := "jacquard/jacquardlaw30.DiffconsAfter", spec := "diffconsAfter", apart := false, narrowed := true }
def DiffconsAfterUptoSaid : Prop := diffconsAfterUptoRow.holds Try.pinned (OpenSpec.upto diffconsAfterSpec)

/-- 'jacquardlaw30.DiffconsTurns', WHERE WHAT IT READS IS OF BULK AT MOST 1048576: true; the input reads as it did. -/
def diffconsTurnsUptoRow : OpenClaim := { program := "ytflefelgdcblgaa", sum := "544a3e27aeb7831bacc3c08ac2b97ce84b80005a2ca59672b2c5c72e83b66dca", func := "jacquard/jacquardlaw30.DiffconsTurns", spec := "diffconsTurns", apart := false, narrowed := true }
def DiffconsTurnsUptoSaid : Prop := diffconsTurnsUptoRow.holds Try.pinned (OpenSpec.upto diffconsTurnsSpec)

/-- 'jacquardlaw30.DiffconsHolds', WHERE WHAT IT READS IS OF BULK AT MOST 1048576: true; the input reads as it did. -/
def diffconsHoldsUptoRow : OpenClaim := { program := "ytflefelgdcblgaa", sum := "544a3e27aeb7831bacc3c08ac2b97ce84b80005a2ca59672b2c5c72e83b66dca", func := "jacquard/jacquardlaw30.DiffconsHolds", spec := "diffconsHolds", unfollowed := true, recurses := true, apart := false, narrowed := true }
def DiffconsHoldsUptoSaid : Prop := diffconsHoldsUptoRow.holds Try.pinned (OpenSpec.upto diffconsHoldsSpec)

/-- 'jacquardlaw30.DiffconsLatest', WHERE WHAT IT READS IS OF BULK AT MOST 1048576: true; the input reads as it did. -/
def diffconsLatestUptoRow : OpenClaim := { program := "ytflefelgdcblgaa", sum := "544a3e27aeb7831bacc3c08ac2b97ce84b80005a2ca59672b2c5c72e83b66dca", func := "jacquard/jacquardlaw30.DiffconsLatest", spec := "diffconsLatest", apart := false, narrowed := true }
def DiffconsLatestUptoSaid : Prop := diffconsLatestUptoRow.holds Try.pinned (OpenSpec.upto diffconsLatestSpec)

/-- 'jacquardlaw30.DiffconsChecks', WHERE WHAT IT READS IS OF BULK AT MOST 1048576: true; the input reads as it did. -/
def diffconsChecksUptoRow : OpenClaim := { program := "ytflefelgdcblgaa", sum := "544a3e27aeb7831bacc3c08ac2b97ce84b80005a2ca59672b2c5c72e83b66dca", func := "jacquard/jacquardlaw30.DiffconsChecks", spec := "diffconsChecks", unfollowed := true, recurses := true, apart := false, narrowed := true }
def DiffconsChecksUptoSaid : Prop := diffconsChecksUptoRow.holds Try.pinned (OpenSpec.upto diffconsChecksSpec)

/-- 'jacquardlaw30.DiffconsSound', WHERE WHAT IT READS IS OF BULK AT MOST 1048576: true; the input reads as it did. -/
def diffconsSoundUptoRow : OpenClaim := { program := "ytflefelgdcblgaa", sum := "544a3e27aeb7831bacc3c08ac2b97ce84b80005a2ca59672b2c5c72e83b66dca", func := "jacquard/jacquardlaw30.DiffconsSound", spec := "diffconsSound", unfollowed := true, recurses := true, apart := false, narrowed := true }
def DiffconsSoundUptoSaid : Prop := diffconsSoundUptoRow.holds Try.pinned (OpenSpec.upto diffconsSoundSpec)

end Rows
end Go.Proofs.Ytflefelgdcblgaa
