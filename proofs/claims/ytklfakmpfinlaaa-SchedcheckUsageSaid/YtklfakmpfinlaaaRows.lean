/-
  No cell of these rows narrows 'for every input' (looked for: loops, veiled, ifaces, maps, wideKeys, modest, calm, conditions, laid).
  DERIVED. THE GIVEN ROWS OF THIS SEAT. 8 by the template 'for every input the law returns true; each argument reads behind the call as it read before'; 0 by the template 'total and deterministic' (their statements: YtklfakmpfinlaaaTotals.lean).
  GIVEN WITH THE SEED: the statements are not yours to turn. If you find one false, say at which input.
  Laid BY PROGRAM, IN A SANDBOX (cutbox-rows.mjs): the forced cells as the released guide's own fill.sh prints them over the translation ef88d8f08ef8a4cc… (all of the seat's roots in one cut). By AI agents, Wed Nov 11 2026. No macro, syntax, notation, axiom, sorry.
-/
import Derived.Test.YtklfakmpfinlaaaChecked
import GoSem.Claim
import GoSem.ClaimJoined
import GoSem.ClaimMapViews
import Derived.JoinedTies
import Derived.KernelRfl
namespace Go.Proofs.Ytklfakmpfinlaaa
/- THE CELL 'sum', in the pinned program and in every row, IS THE sha256 OF THE DUMP (.gsa) THAT YtklfakmpfinlaaaProg.lean LOADS. Nothing in Lean hashes anything: it is a label: what it is worth is what the hold of that sum in a sandbox is worth. -/
noncomputable def Try.pinned : Pinned := { name := "ytklfakmpfinlaaa", sum := "ef88d8f08ef8a4cc3412ad7856d7836908ef40766d14e822f9ea3bb1b75cac7a", checked := Try.checked }
namespace Rows
def none {H : Type} : Left H := { results := [], args := [] }

/-- 'jacquardlaw35.SchedcheckLegal': WHATEVER THE INPUT: true; the input reads as it did. -/
def schedcheckLegalSpec : ChangeSpec := { name := "schedcheckLegal", fn := fun _ => fun
  | [d1, d2] => { results := [.lit (.bool true)], args := [d1, d2] }
  | _ => none }
def schedcheckLegalRow : OpenClaim := { program := "ytklfakmpfinlaaa", sum := "ef88d8f08ef8a4cc3412ad7856d7836908ef40766d14e822f9ea3bb1b75cac7a", func := "jacquard/jacquardlaw35.SchedcheckLegal", spec := "schedcheckLegal", apart := false }
def SchedcheckLegalSaid : Prop := schedcheckLegalRow.holds Try.pinned (OpenSpec.ofChange schedcheckLegalSpec)

/-- ITS FALSE NEIGHBOUR: 'it returns false'. Refute it at one input. -/
def schedcheckLegalWrong : ChangeSpec := { name := "schedcheckLegal", fn := fun _ => fun
  | [d1, d2] => { results := [.lit (.bool false)], args := [d1, d2] }
  | _ => none }
def SchedcheckLegalWrongFalsely : Prop := schedcheckLegalRow.holds Try.pinned (OpenSpec.ofChange schedcheckLegalWrong)

/-- 'jacquardlaw35.SchedcheckClashes': WHATEVER THE INPUT: true; the input reads as it did. -/
def schedcheckClashesSpec : ChangeSpec := { name := "schedcheckClashes", fn := fun _ => fun
  | [d1, d2] => { results := [.lit (.bool true)], args := [d1, d2] }
  | _ => none }
def schedcheckClashesRow : OpenClaim := { program := "ytklfakmpfinlaaa", sum := "ef88d8f08ef8a4cc3412ad7856d7836908ef40766d14e822f9ea3bb1b75cac7a", func := "jacquard/jacquardlaw35.SchedcheckClashes", spec := "schedcheckClashes", apart := false }
def SchedcheckClashesSaid : Prop := schedcheckClashesRow.holds Try.pinned (OpenSpec.ofChange schedcheckClashesSpec)

/-- ITS FALSE NEIGHBOUR: 'it returns false'. Refute it at one input. -/
def schedcheckClashesWrong : ChangeSpec := { name := "schedcheckClashes", fn := fun _ => fun
  | [d1, d2] => { results := [.lit (.bool false)], args := [d1, d2] }
  | _ => none }
def SchedcheckClashesWrongFalsely : Prop := schedcheckClashesRow.holds Try.pinned (OpenSpec.ofChange schedcheckClashesWrong)

/-- 'jacquardlaw35.SchedcheckAgrees': WHATEVER THE INPUT: true; the input reads as it did. -/
def schedcheckAgreesSpec : ChangeSpec := { name := "schedcheckAgrees", fn := fun _ => fun
  | [d1, d2] => { results := [.lit (.bool true)], args := [d1, d2] }
  | _ => none }
def schedcheckAgreesRow : OpenClaim := { program := "ytklfakmpfinlaaa", sum := "ef88d8f08ef8a4cc3412ad7856d7836908ef40766d14e822f9ea3bb1b75cac7a", func := "jacquard/jacquardlaw35.SchedcheckAgrees", spec := "schedcheckAgrees", apart := false }
def SchedcheckAgreesSaid : Prop := schedcheckAgreesRow.holds Try.pinned (OpenSpec.ofChange schedcheckAgreesSpec)

/-- ITS FALSE NEIGHBOUR: 'it returns false'. Refute it at one input. -/
def schedcheckAgreesWrong : ChangeSpec := { name := "schedcheckAgrees", fn := fun _ => fun
  | [d1, d2] => { results := [.lit (.bool false)], args := [d1, d2] }
  | _ => none }
def SchedcheckAgreesWrongFalsely : Prop := schedcheckAgreesRow.holds Try.pinned (OpenSpec.ofChange schedcheckAgreesWrong)

/-- 'jacquardlaw35.SchedcheckMoves': WHATEVER THE INPUT: true; the input reads as it did. -/
def schedcheckMovesSpec : ChangeSpec := { name := "schedcheckMoves", fn := fun _ => fun
  | [d1, d2, d3] => { results := [.lit (.bool true)], args := [d1, d2, d3] }
  | _ => none }
def schedcheckMovesRow : OpenClaim := { program := "ytklfakmpfinlaaa", sum := "ef88d8f08ef8a4cc3412ad7856d7836908ef40766d14e822f9ea3bb1b75cac7a", func := "jacquard/jacquardlaw35.SchedcheckMoves", spec := "schedcheckMoves", apart := false }
def SchedcheckMovesSaid : Prop := schedcheckMovesRow.holds Try.pinned (OpenSpec.ofChange schedcheckMovesSpec)

/-- ITS FALSE NEIGHBOUR: 'it returns false'. Refute it at one input. -/
def schedcheckMovesWrong : ChangeSpec := { name := "schedcheckMoves", fn := fun _ => fun
  | [d1, d2, d3] => { results := [.lit (.bool false)], args := [d1, d2, d3] }
  | _ => none }
def SchedcheckMovesWrongFalsely : Prop := schedcheckMovesRow.holds Try.pinned (OpenSpec.ofChange schedcheckMovesWrong)

/-- 'jacquardlaw35.SchedcheckFewer': WHATEVER THE INPUT: true; the input reads as it did. -/
def schedcheckFewerSpec : ChangeSpec := { name := "schedcheckFewer", fn := fun _ => fun
  | [d1, d2, d3] => { results := [.lit (.bool true)], args := [d1, d2, d3] }
  | _ => none }
def schedcheckFewerRow : OpenClaim := { program := "ytklfakmpfinlaaa", sum := "ef88d8f08ef8a4cc3412ad7856d7836908ef40766d14e822f9ea3bb1b75cac7a", func := "jacquard/jacquardlaw35.SchedcheckFewer", spec := "schedcheckFewer", apart := false }
def SchedcheckFewerSaid : Prop := schedcheckFewerRow.holds Try.pinned (OpenSpec.ofChange schedcheckFewerSpec)

/-- ITS FALSE NEIGHBOUR: 'it returns false'. Refute it at one input. -/
def schedcheckFewerWrong : ChangeSpec := { name := "schedcheckFewer", fn := fun _ => fun
  | [d1, d2, d3] => { results := [.lit (.bool false)], args := [d1, d2, d3] }
  | _ => none }
def SchedcheckFewerWrongFalsely : Prop := schedcheckFewerRow.holds Try.pinned (OpenSpec.ofChange schedcheckFewerWrong)

/-- 'jacquardlaw35.SchedcheckBusy': WHATEVER THE INPUT: true; the input reads as it did. -/
def schedcheckBusySpec : ChangeSpec := { name := "schedcheckBusy", fn := fun _ => fun
  | [d1, d2, d3] => { results := [.lit (.bool true)], args := [d1, d2, d3] }
  | _ => none }
def schedcheckBusyRow : OpenClaim := { program := "ytklfakmpfinlaaa", sum := "ef88d8f08ef8a4cc3412ad7856d7836908ef40766d14e822f9ea3bb1b75cac7a", func := "jacquard/jacquardlaw35.SchedcheckBusy", spec := "schedcheckBusy", apart := false }
def SchedcheckBusySaid : Prop := schedcheckBusyRow.holds Try.pinned (OpenSpec.ofChange schedcheckBusySpec)

/-- ITS FALSE NEIGHBOUR: 'it returns false'. Refute it at one input. -/
def schedcheckBusyWrong : ChangeSpec := { name := "schedcheckBusy", fn := fun _ => fun
  | [d1, d2, d3] => { results := [.lit (.bool false)], args := [d1, d2, d3] }
  | _ => none }
def SchedcheckBusyWrongFalsely : Prop := schedcheckBusyRow.holds Try.pinned (OpenSpec.ofChange schedcheckBusyWrong)

/-- 'jacquardlaw35.SchedcheckArcs': WHATEVER THE INPUT: true; the input reads as it did. -/
def schedcheckArcsSpec : ChangeSpec := { name := "schedcheckArcs", fn := fun _ => fun
  | [d1, d2] => { results := [.lit (.bool true)], args := [d1, d2] }
  | _ => none }
def schedcheckArcsRow : OpenClaim := { program := "ytklfakmpfinlaaa", sum := "ef88d8f08ef8a4cc3412ad7856d7836908ef40766d14e822f9ea3bb1b75cac7a", func := "jacquard/jacquardlaw35.SchedcheckArcs", spec := "schedcheckArcs", apart := false }
def SchedcheckArcsSaid : Prop := schedcheckArcsRow.holds Try.pinned (OpenSpec.ofChange schedcheckArcsSpec)

/-- ITS FALSE NEIGHBOUR: 'it returns false'. Refute it at one input. -/
def schedcheckArcsWrong : ChangeSpec := { name := "schedcheckArcs", fn := fun _ => fun
  | [d1, d2] => { results := [.lit (.bool false)], args := [d1, d2] }
  | _ => none }
def SchedcheckArcsWrongFalsely : Prop := schedcheckArcsRow.holds Try.pinned (OpenSpec.ofChange schedcheckArcsWrong)

/-- 'jacquardlaw35.SchedcheckUsage': WHATEVER THE INPUT: true; the input reads as it did. -/
def schedcheckUsageSpec : ChangeSpec := { name := "schedcheckUsage", fn := fun _ => fun
  | [d1, d2] => { results := [.lit (.bool true)], args := [d1, d2] }
  | _ => none }
def schedcheckUsageRow : OpenClaim := { program := "ytklfakmpfinlaaa", sum := "ef88d8f08ef8a4cc3412ad7856d7836908ef40766d14e822f9ea3bb1b75cac7a", func := "jacquard/jacquardlaw35.SchedcheckUsage", spec := "schedcheckUsage", apart := false }
def SchedcheckUsageSaid : Prop := schedcheckUsageRow.holds Try.pinned (OpenSpec.ofChange schedcheckUsageSpec)

/-- ITS FALSE NEIGHBOUR: 'it returns false'. Refute it at one input. -/
def schedcheckUsageWrong : ChangeSpec := { name := "schedcheckUsage", fn := fun _ => fun
  | [d1, d2] => { results := [.lit (.bool false)], args := [d1, d2] }
  | _ => none }
def SchedcheckUsageWrongFalsely : Prop := schedcheckUsageRow.holds Try.pinned (OpenSpec.ofChange schedcheckUsageWrong)

/- THE SECOND FORM. 'bulk': how many values and letters a reading holds, each counted each time it is reached (what is shared counts as often as it is met; a slice's spare places count too). A statement '..UptoSaid' is the law's where the arguments, and the package variables that the reading takes, are together of bulk at most 1048576: NARROWER than '..Said'. Prove '..Said' where nothing that the law and all that it calls make is longer than what came in: it says more and counts as full. Else prove '..UptoSaid'. A law counts once. -/
mutual
def uptoBulk {H : Type} : DataW H → Nat
  | .lit (.string bytes) => bytes.length + 1
  | .lit _ => 1
  | .nil => 1
  | .ptr d => uptoBulk d + 1
  | .slice elems spare => uptoBulkAll elems + uptoBulkAll spare + 1
  | .agg parts => uptoBulkAll parts + 1
  | .iface _ d => uptoBulk d + 1
  | .map entries => uptoBulkEntries entries + 1
  | .held _ => 1
def uptoBulkAll {H : Type} : List (DataW H) → Nat
  | [] => 0
  | d :: r => uptoBulk d + uptoBulkAll r
def uptoBulkEntries {H : Type} : List (Lit × DataW H) → Nat
  | [] => 0
  | x :: r => uptoBulkEntry x + uptoBulkEntries r
def uptoBulkEntry {H : Type} : Lit × DataW H → Nat
  | (.string bytes, d) => bytes.length + uptoBulk d + 1
  | (_, d) => uptoBulk d + 1
 end
def uptoSmall : (H : Type) → List (DataW H) → Bool := fun _ ds => decide (uptoBulkAll ds ≤ 1048576)
def OpenSpec.upto (s : _root_.Go.ChangeSpec) : _root_.Go.OpenSpec := { _root_.Go.OpenSpec.ofChange s with cond := some uptoSmall }

/-- 'jacquardlaw35.SchedcheckLegal', WHERE WHAT IT READS IS OF BULK AT MOST 1048576: true; the input reads as it did. -/
def schedcheckLegalUptoRow : OpenClaim := { program := "ytklfakmpfinlaaa", sum := "ef88d8f08ef8a4cc3412ad7856d7836908ef40766d14e822f9ea3bb1b75cac7a", func := "jacquard/jacquardlaw35.SchedcheckLegal", spec := "schedcheckLegal", apart := false, narrowed := true }
def SchedcheckLegalUptoSaid : Prop := schedcheckLegalUptoRow.holds Try.pinned (OpenSpec.upto schedcheckLegalSpec)

/-- 'jacquardlaw35.SchedcheckClashes', WHERE WHAT IT READS IS OF BULK AT MOST 1048576: true; the input reads as it did. -/
def schedcheckClashesUptoRow : OpenClaim := { program := "ytklfakmpfinlaaa", sum := "ef88d8f08ef8a4cc3412ad7856d7836908ef40766d14e822f9ea3bb1b75cac7a", func := "jacquard/jacquardlaw35.SchedcheckClashes", spec := "schedcheckClashes", apart := false, narrowed := true }
def SchedcheckClashesUptoSaid : Prop := schedcheckClashesUptoRow.holds Try.pinned (OpenSpec.upto schedcheckClashesSpec)

/-- 'jacquardlaw35.SchedcheckAgrees', WHERE WHAT IT READS IS OF BULK AT MOST 1048576: true; the input reads as it did. -/
def schedcheckAgreesUptoRow : OpenClaim := { program := "ytklfakmpfinlaaa", sum := "ef88d8f08ef8a4cc3412ad7856d7836908ef40766d14e822f9ea3bb1b75cac7a", func := "jacquard/jacquardlaw35.SchedcheckAgrees", spec := "schedcheckAgrees", apart := false, narrowed := true }
def SchedcheckAgreesUptoSaid : Prop := schedcheckAgreesUptoRow.holds Try.pinned (OpenSpec.upto schedcheckAgreesSpec)

/-- 'jacquardlaw35.SchedcheckMoves', WHERE WHAT IT READS IS OF BULK AT MOST 1048576: true; the input reads as it did. -/
def schedcheckMovesUptoRow : OpenClaim := { program := "ytklfakmpfinlaaa", sum := "ef88d8f08ef8a4cc3412ad7856d7836908ef40766d14e822f9ea3bb1b75cac7a", func := "jacquard/jacquardlaw35.SchedcheckMoves", spec := "schedcheckMoves", apart := false, narrowed := true }
def SchedcheckMovesUptoSaid : Prop := schedcheckMovesUptoRow.holds Try.pinned (OpenSpec.upto schedcheckMovesSpec)

/-- 'jacquardlaw35.SchedcheckFewer', WHERE WHAT IT READS IS OF BULK AT MOST 1048576: true; the input reads as it did. -/
def schedcheckFewerUptoRow : OpenClaim := { program := "ytklfakmpfinlaaa", sum := "ef88d8f08ef8a4cc3412ad7856d7836908ef40766d14e822f9ea3bb1b75cac7a", func := "jacquard/jacquardlaw35.SchedcheckFewer", spec := "schedcheckFewer", apart := false, narrowed := true }
def SchedcheckFewerUptoSaid : Prop := schedcheckFewerUptoRow.holds Try.pinned (OpenSpec.upto schedcheckFewerSpec)

/-- 'jacquardlaw35.SchedcheckBusy', WHERE WHAT IT READS IS OF BULK AT MOST 1048576: true; the input reads as it did. -/
def schedcheckBusyUptoRow : OpenClaim := { program := "ytklfakmpfinlaaa", sum := "ef88d8f08ef8a4cc3412ad7856d7836908ef40766d14e822f9ea3bb1b75cac7a", func := "jacquard/jacquardlaw35.SchedcheckBusy", spec := "schedcheckBusy", apart := false, narrowed := true }
def SchedcheckBusyUptoSaid : Prop := schedcheckBusyUptoRow.holds Try.pinned (OpenSpec.upto schedcheckBusySpec)

/-- 'jacquardlaw35.SchedcheckArcs', WHERE WHAT IT READS IS OF BULK AT MOST 1048576: true; the input reads as it did. -/
def schedcheckArcsUptoRow : OpenClaim := { program := "ytklfakmpfinlaaa", sum := "ef88d8f08ef8a4cc3412ad7856d7836908ef40766d14e822f9ea3bb1b75cac7a", func := "jacquard/jacquardlaw35.SchedcheckArcs", spec := "schedcheckArcs", apart := false, narrowed := true }
def SchedcheckArcsUptoSaid : Prop := schedcheckArcsUptoRow.holds Try.pinned (OpenSpec.upto schedcheckArcsSpec)

/-- 'jacquardlaw35.SchedcheckUsage', WHERE WHAT IT READS IS OF BULK AT MOST 1048576: true; the input reads as it did. -/
def schedcheckUsageUptoRow : OpenClaim := { program := "ytklfakmpfinlaaa", sum := "ef88d8f08ef8a4cc3412ad7856d7836908ef40766d14e822f9ea3bb1b75cac7a", func := "jacquard/jacquardlaw35.SchedcheckUsage", spec := "schedcheckUsage", apart := false, narrowed := true }
def SchedcheckUsageUptoSaid : Prop := schedcheckUsageUptoRow.holds Try.pinned (OpenSpec.upto schedcheckUsageSpec)

end Rows
end Go.Proofs.Ytklfakmpfinlaaa
