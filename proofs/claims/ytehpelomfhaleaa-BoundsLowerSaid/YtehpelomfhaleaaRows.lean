/-
  No cell of these rows narrows 'for every input' (looked for: loops, veiled, ifaces, maps, wideKeys, modest, calm, conditions, laid).
  DERIVED. THE GIVEN ROWS OF THIS SEAT. 8 by the template 'for every input the law returns true; each argument reads behind the call as it read before'; 0 by the template 'total and deterministic' (their statements: YtehpelomfhaleaaTotals.lean).
  GIVEN WITH THE SEED: the statements are not yours to turn. If you find one false, say at which input.
  Laid BY PROGRAM, IN A SANDBOX (cutbox-rows.mjs): the forced cells as the released guide's own fill.sh prints them over the translation 393228a0b6339272… (all of the seat's roots in one cut). By AI agents, Wed Nov 11 2026. No macro, syntax, notation, axiom, sorry.
-/
import Derived.Test.YtehpelomfhaleaaChecked
import GoSem.Claim
import GoSem.ClaimJoined
import GoSem.ClaimMapViews
import Derived.JoinedTies
import Derived.KernelRfl
namespace Go.Proofs.Ytehpelomfhaleaa
/- THE CELL 'sum', in the pinned program and in every row, IS THE sha256 OF THE DUMP (.gsa) THAT YtehpelomfhaleaaProg.lean LOADS. Nothing in Lean hashes anything: it is a label: what it is worth is what the hold of that sum in a sandbox is worth. -/
noncomputable def Try.pinned : Pinned := { name := "ytehpelomfhaleaa", sum := "393228a0b6339272f0c39c6a3355025145184e0ac477e1f84667a8f8ada3a911", checked := Try.checked }
namespace Rows
def none {H : Type} : Left H := { results := [], args := [] }

/-- 'jacquardlaw31.BoundsDepth': WHATEVER THE INPUT: true; the input reads as it did. -/
def boundsDepthSpec : ChangeSpec := { name := "boundsDepth", fn := fun _ => fun
  | [d] => { results := [.lit (.bool true)], args := [d] }
  | _ => none }
def boundsDepthRow : OpenClaim := { program := "ytehpelomfhaleaa", sum := "393228a0b6339272f0c39c6a3355025145184e0ac477e1f84667a8f8ada3a911", func := "jacquard/jacquardlaw31.BoundsDepth", spec := "boundsDepth", unfollowed := true, recurses := true, apart := false }
def BoundsDepthSaid : Prop := boundsDepthRow.holds Try.pinned (OpenSpec.ofChange boundsDepthSpec)

/-- ITS FALSE NEIGHBOUR: 'it returns false'. Refute it at one input. -/
def boundsDepthWrong : ChangeSpec := { name := "boundsDepth", fn := fun _ => fun
  | [d] => { results := [.lit (.bool false)], args := [d] }
  | _ => none }
def BoundsDepthWrongFalsely : Prop := boundsDepthRow.holds Try.pinned (OpenSpec.ofChange boundsDepthWrong)

/-- 'jacquardlaw31.BoundsRecurrence': WHATEVER THE INPUT: true; the input reads as it did. -/
def boundsRecurrenceSpec : ChangeSpec := { name := "boundsRecurrence", fn := fun _ => fun
  | [d] => { results := [.lit (.bool true)], args := [d] }
  | _ => none }
def boundsRecurrenceRow : OpenClaim := { program := "ytehpelomfhaleaa", sum := "393228a0b6339272f0c39c6a3355025145184e0ac477e1f84667a8f8ada3a911", func := "jacquard/jacquardlaw31.BoundsRecurrence", spec := "boundsRecurrence", unfollowed := true, recurses := true, apart := false }
def BoundsRecurrenceSaid : Prop := boundsRecurrenceRow.holds Try.pinned (OpenSpec.ofChange boundsRecurrenceSpec)

/-- ITS FALSE NEIGHBOUR: 'it returns false'. Refute it at one input. -/
def boundsRecurrenceWrong : ChangeSpec := { name := "boundsRecurrence", fn := fun _ => fun
  | [d] => { results := [.lit (.bool false)], args := [d] }
  | _ => none }
def BoundsRecurrenceWrongFalsely : Prop := boundsRecurrenceRow.holds Try.pinned (OpenSpec.ofChange boundsRecurrenceWrong)

/-- 'jacquardlaw31.BoundsResources': WHATEVER THE INPUT: true; the input reads as it did. -/
def boundsResourcesSpec : ChangeSpec := { name := "boundsResources", fn := fun _ => fun
  | [d] => { results := [.lit (.bool true)], args := [d] }
  | _ => none }
def boundsResourcesRow : OpenClaim := { program := "ytehpelomfhaleaa", sum := "393228a0b6339272f0c39c6a3355025145184e0ac477e1f84667a8f8ada3a911", func := "jacquard/jacquardlaw31.BoundsResources", spec := "boundsResources", unfollowed := true, recurses := true, apart := false }
def BoundsResourcesSaid : Prop := boundsResourcesRow.holds Try.pinned (OpenSpec.ofChange boundsResourcesSpec)

/-- ITS FALSE NEIGHBOUR: 'it returns false'. Refute it at one input. -/
def boundsResourcesWrong : ChangeSpec := { name := "boundsResources", fn := fun _ => fun
  | [d] => { results := [.lit (.bool false)], args := [d] }
  | _ => none }
def BoundsResourcesWrongFalsely : Prop := boundsResourcesRow.holds Try.pinned (OpenSpec.ofChange boundsResourcesWrong)

/-- 'jacquardlaw31.BoundsLower': WHATEVER THE INPUT: true; the input reads as it did. -/
def boundsLowerSpec : ChangeSpec := { name := "boundsLower", fn := fun _ => fun
  | [d] => { results := [.lit (.bool true)], args := [d] }
  | _ => none }
def boundsLowerRow : OpenClaim := { program := "ytehpelomfhaleaa", sum := "393228a0b6339272f0c39c6a3355025145184e0ac477e1f84667a8f8ada3a911", func := "jacquard/jacquardlaw31.BoundsLower", spec := "boundsLower", unfollowed := true, recurses := true, apart := false }
def BoundsLowerSaid : Prop := boundsLowerRow.holds Try.pinned (OpenSpec.ofChange boundsLowerSpec)

/-- ITS FALSE NEIGHBOUR: 'it returns false'. Refute it at one input. -/
def boundsLowerWrong : ChangeSpec := { name := "boundsLower", fn := fun _ => fun
  | [d] => { results := [.lit (.bool false)], args := [d] }
  | _ => none }
def BoundsLowerWrongFalsely : Prop := boundsLowerRow.holds Try.pinned (OpenSpec.ofChange boundsLowerWrong)

/-- 'jacquardlaw31.BoundsAccepts': WHATEVER THE INPUT: true; the input reads as it did. -/
def boundsAcceptsSpec : ChangeSpec := { name := "boundsAccepts", fn := fun _ => fun
  | [d1, d2] => { results := [.lit (.bool true)], args := [d1, d2] }
  | _ => none }
def boundsAcceptsRow : OpenClaim := { program := "ytehpelomfhaleaa", sum := "393228a0b6339272f0c39c6a3355025145184e0ac477e1f84667a8f8ada3a911", func := "jacquard/jacquardlaw31.BoundsAccepts", spec := "boundsAccepts", unfollowed := true, recurses := true, apart := false }
def BoundsAcceptsSaid : Prop := boundsAcceptsRow.holds Try.pinned (OpenSpec.ofChange boundsAcceptsSpec)

/-- ITS FALSE NEIGHBOUR: 'it returns false'. Refute it at one input. -/
def boundsAcceptsWrong : ChangeSpec := { name := "boundsAccepts", fn := fun _ => fun
  | [d1, d2] => { results := [.lit (.bool false)], args := [d1, d2] }
  | _ => none }
def BoundsAcceptsWrongFalsely : Prop := boundsAcceptsRow.holds Try.pinned (OpenSpec.ofChange boundsAcceptsWrong)

/-- 'jacquardlaw31.BoundsSound': WHATEVER THE INPUT: true; the input reads as it did. -/
def boundsSoundSpec : ChangeSpec := { name := "boundsSound", fn := fun _ => fun
  | [d1, d2, d3] => { results := [.lit (.bool true)], args := [d1, d2, d3] }
  | _ => none }
def boundsSoundRow : OpenClaim := { program := "ytehpelomfhaleaa", sum := "393228a0b6339272f0c39c6a3355025145184e0ac477e1f84667a8f8ada3a911", func := "jacquard/jacquardlaw31.BoundsSound", spec := "boundsSound", unfollowed := true, recurses := true, apart := false }
def BoundsSoundSaid : Prop := boundsSoundRow.holds Try.pinned (OpenSpec.ofChange boundsSoundSpec)

/-- ITS FALSE NEIGHBOUR: 'it returns false'. Refute it at one input. -/
def boundsSoundWrong : ChangeSpec := { name := "boundsSound", fn := fun _ => fun
  | [d1, d2, d3] => { results := [.lit (.bool false)], args := [d1, d2, d3] }
  | _ => none }
def BoundsSoundWrongFalsely : Prop := boundsSoundRow.holds Try.pinned (OpenSpec.ofChange boundsSoundWrong)

/-- 'jacquardlaw31.BoundsWindow': WHATEVER THE INPUT: true; the input reads as it did. -/
def boundsWindowSpec : ChangeSpec := { name := "boundsWindow", fn := fun _ => fun
  | [d1, d2, d3] => { results := [.lit (.bool true)], args := [d1, d2, d3] }
  | _ => none }
def boundsWindowRow : OpenClaim := { program := "ytehpelomfhaleaa", sum := "393228a0b6339272f0c39c6a3355025145184e0ac477e1f84667a8f8ada3a911", func := "jacquard/jacquardlaw31.BoundsWindow", spec := "boundsWindow", unfollowed := true, recurses := true, apart := false }
def BoundsWindowSaid : Prop := boundsWindowRow.holds Try.pinned (OpenSpec.ofChange boundsWindowSpec)

/-- ITS FALSE NEIGHBOUR: 'it returns false'. Refute it at one input. -/
def boundsWindowWrong : ChangeSpec := { name := "boundsWindow", fn := fun _ => fun
  | [d1, d2, d3] => { results := [.lit (.bool false)], args := [d1, d2, d3] }
  | _ => none }
def BoundsWindowWrongFalsely : Prop := boundsWindowRow.holds Try.pinned (OpenSpec.ofChange boundsWindowWrong)

/-- 'jacquardlaw31.BoundsWithin': WHATEVER THE INPUT: true; the input reads as it did. -/
def boundsWithinSpec : ChangeSpec := { name := "boundsWithin", fn := fun _ => fun
  | [d1, d2] => { results := [.lit (.bool true)], args := [d1, d2] }
  | _ => none }
def boundsWithinRow : OpenClaim := { program := "ytehpelomfhaleaa", sum := "393228a0b6339272f0c39c6a3355025145184e0ac477e1f84667a8f8ada3a911", func := "jacquard/jacquardlaw31.BoundsWithin", spec := "boundsWithin", unfollowed := true, recurses := true, apart := false }
def BoundsWithinSaid : Prop := boundsWithinRow.holds Try.pinned (OpenSpec.ofChange boundsWithinSpec)

/-- ITS FALSE NEIGHBOUR: 'it returns false'. Refute it at one input. -/
def boundsWithinWrong : ChangeSpec := { name := "boundsWithin", fn := fun _ => fun
  | [d1, d2] => { results := [.lit (.bool false)], args := [d1, d2] }
  | _ => none }
def BoundsWithinWrongFalsely : Prop := boundsWithinRow.holds Try.pinned (OpenSpec.ofChange boundsWithinWrong)

/- THE SECOND FORM. 'bulk': how many values and letters a reading holds, each counted each time it is reached (what is shared counts as often as it is met; a slice's spare places count too). A statement '..UptoSaid' is the law's where the arguments, and the package variables that the reading takes, are together of bulk at most 1048576: NARROWER than '..Said'. Prove '..Said' where nothing that the law and all that it calls make is longer than what came in: it says more and counts as full. Else prove '..UptoSaid'. A law counts once. -/
mutual
def uptoBulk {H : Type} : DataW H → Nat
  | .lit (.string bytes) => bytes.length + 1
  | .lit _ => 1
  | .nil => 1
  | .ptr d => uptoBulk d + 1
  | .slice elems spare => uptoBulkAll elems + uptoBulkAll spare + 1
  | .agg parts => uptoBulkAll parts + 1
  | .iface _ d => uptoBulk d + 1
  | .map entries => uptoBulkEntries entries + 1
  | .held _ => 1
def uptoBulkAll {H : Type} : List (DataW H) → Nat
  | [] => 0
  | d :: r => uptoBulk d + uptoBulkAll r
def uptoBulkEntries {H : Type} : List (Lit × DataW H) → Nat
  | [] => 0
  | x :: r => uptoBulkEntry x + uptoBulkEntries r
def uptoBulkEntry {H : Type} : Lit × DataW H → Nat
  | (.string bytes, d) => bytes.length + uptoBulk d + 1
  | (_, d) => uptoBulk d + 1
 end
def uptoSmall : (H : Type) → List (DataW H) → Bool := fun _ ds => decide (uptoBulkAll ds ≤ 1048576)
def OpenSpec.upto (s : _root_.Go.ChangeSpec) : _root_.Go.OpenSpec := { _root_.Go.OpenSpec.ofChange s with cond := some uptoSmall }

/-- 'jacquardlaw31.BoundsDepth', WHERE WHAT IT READS IS OF BULK AT MOST 1048576: true; the input reads as it did. -/
def boundsDepthUptoRow : OpenClaim := { program := "ytehpelomfhaleaa", sum := "393228a0b6339272f0c39c6a3355025145184e0ac477e1f84667a8f8ada3a911", func := "jacquard/jacquardlaw31.BoundsDepth", spec := "boundsDepth", unfollowed := true, recurses := true, apart := false, narrowed := true }
def BoundsDepthUptoSaid : Prop := boundsDepthUptoRow.holds Try.pinned (OpenSpec.upto boundsDepthSpec)

/-- 'jacquardlaw31.BoundsRecurrence', WHERE WHAT IT READS IS OF BULK AT MOST 1048576: true; the input reads as it did. -/
def boundsRecurrenceUptoRow : OpenClaim := { program := "ytehpelomfhaleaa", sum := "393228a0b6339272f0c39c6a3355025145184e0ac477e1f84667a8f8ada3a911", func := "jacquard/jacquardlaw31.BoundsRecurrence", spec := "boundsRecurrence", unfollowed := true, recurses := true, apart := false, narrowed := true }
def BoundsRecurrenceUptoSaid : Prop := boundsRecurrenceUptoRow.holds Try.pinned (OpenSpec.upto boundsRecurrenceSpec)

/-- 'jacquardlaw31.BoundsResources', WHERE WHAT IT READS IS OF BULK AT MOST 1048576: true; the input reads as it did. -/
def boundsResourcesUptoRow : OpenClaim := { program := "ytehpelomfhaleaa", sum := "393228a0b6339272f0c39c6a3355025145184e0ac477e1f84667a8f8ada3a911", func := "jacquard/jacquardlaw31.BoundsResources", spec := "boundsResources", unfollowed := true, recurses := true, apart := false, narrowed := true }
def BoundsResourcesUptoSaid : Prop := boundsResourcesUptoRow.holds Try.pinned (OpenSpec.upto boundsResourcesSpec)

/-- 'jacquardlaw31.BoundsLower', WHERE WHAT IT READS IS OF BULK AT MOST 1048576: true; the input reads as it did. -/
def boundsLowerUptoRow : OpenClaim := { program := "ytehpelomfhaleaa", sum := "393228a0b6339272f0c39c6a3355025145184e0ac477e1f84667a8f8ada3a911", func := "jacquard/jacquardlaw31.BoundsLower", spec := "boundsLower", unfollowed := true, recurses := true, apart := false, narrowed := true }
def BoundsLowerUptoSaid : Prop := boundsLowerUptoRow.holds Try.pinned (OpenSpec.upto boundsLowerSpec)

/-- 'jacquardlaw31.BoundsAccepts', WHERE WHAT IT READS IS OF BULK AT MOST 1048576: true; the input reads as it did. -/
def boundsAcceptsUptoRow : OpenClaim := { program := "ytehpelomfhaleaa", sum := "393228a0b6339272f0c39c6a3355025145184e0ac477e1f84667a8f8ada3a911", func := "jacquard/jacquardlaw31.BoundsAccepts", spec := "boundsAccepts", unfollowed := true, recurses := true, apart := false, narrowed := true }
def BoundsAcceptsUptoSaid : Prop := boundsAcceptsUptoRow.holds Try.pinned (OpenSpec.upto boundsAcceptsSpec)

/-- 'jacquardlaw31.BoundsSound', WHERE WHAT IT READS IS OF BULK AT MOST 1048576: true; the input reads as it did. -/
def boundsSoundUptoRow : OpenClaim := { program := "ytehpelomfhaleaa", sum := "393228a0b6339272f0c39c6a3355025145184e0ac477e1f84667a8f8ada3a911", func := "jacquard/jacquardlaw31.BoundsSound", spec := "boundsSound", unfollowed := true, recurses := true, apart := false, narrowed := true }
def BoundsSoundUptoSaid : Prop := boundsSoundUptoRow.holds Try.pinned (OpenSpec.upto boundsSoundSpec)

/-- 'jacquardlaw31.BoundsWindow', WHERE WHAT IT READS IS OF BULK AT MOST 1048576: true; the input reads as it did. -/
def boundsWindowUptoRow : OpenClaim := { program := "ytehpelomfhaleaa", sum := "393228a0b6339272f0c39c6a3355025145184e0ac477e1f84667a8f8ada3a911", func := "jacquard/jacquardlaw31.BoundsWindow", spec := "boundsWindow", unfollowed := true, recurses := true, apart := false, narrowed := true }
def BoundsWindowUptoSaid : Prop := boundsWindowUptoRow.holds Try.pinned (OpenSpec.upto boundsWindowSpec)

/-- 'jacquardlaw31.BoundsWithin', WHERE WHAT IT READS IS OF BULK AT MOST 1048576: true; the input reads as it did. -/
def boundsWithinUptoRow : OpenClaim := { program := "ytehpelomfhaleaa", sum := "393228a0b6339272f0c39c6a3355025145184e0ac477e1f84667a8f8ada3a911", func := "jacquard/jacquardlaw31.BoundsWithin", spec := "boundsWithin", unfollowed := true, recurses := true, apart := false, narrowed := true }
def BoundsWithinUptoSaid : Prop := boundsWithinUptoRow.holds Try.pinned (OpenSpec.upto boundsWithinSpec)

end Rows
end Go.Proofs.Ytehpelomfhaleaa
