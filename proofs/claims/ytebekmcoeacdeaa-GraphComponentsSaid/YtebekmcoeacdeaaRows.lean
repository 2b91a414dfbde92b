/-
  No cell of these rows narrows 'for every input' (looked for: loops, veiled, ifaces, maps, wideKeys, modest, calm, conditions, laid).
  DERIVED. THE GIVEN ROWS OF THIS SEAT. 8 by the template 'for every input the law returns true; each argument reads behind the call as it read before'; 0 by the template 'total and deterministic' (their statements: YtebekmcoeacdeaaTotals.lean).
  GIVEN WITH THE SEED: the statements are not yours to turn. If you find one false, say at which input.
  Laid BY PROGRAM, IN A SANDBOX (cutbox-rows.mjs): the forced cells as the released guide's own fill.sh prints them over the translation 6a463b8832166949… (all of the seat's roots in one cut). By AI agents, Wed Nov 11 2026. No macro, syntax, notation, axiom, sorry.
-/
import Derived.Test.YtebekmcoeacdeaaChecked
import GoSem.Claim
import GoSem.ClaimJoined
import GoSem.ClaimMapViews
import Derived.JoinedTies
import Derived.KernelRfl
namespace Go.Proofs.Ytebekmcoeacdeaa
/- THE CELL 'sum', in the pinned program and in every row, IS THE sha256 OF THE DUMP (.gsa) THAT YtebekmcoeacdeaaProg.lean LOADS. Nothing in Lean hashes anything: it is a label: what it is worth is what the hold of that sum in a sandbox is worth. -/
noncomputable def Try.pinned : Pinned := { name := "ytebekmcoeacdeaa", sum := "6a463b88321669496d8eee1858993abfe0428af7b3451e2ac55d24d5a87464bb", checked := Try.checked }
namespace Rows
def none {H : Type} : Left H := { results := [], args := [] }

/-- 'jacquardlaw02.GraphTopo': WHATEVER THE INPUT: true; the input reads as it did. -/
def graphTopoSpec : ChangeSpec := { name := "graphTopo", fn := fun _ => fun
  | [d] => { results := [.lit (.bool true)], args := [d] }
  | _ => none }
def graphTopoRow : OpenClaim := { program := "ytebekmcoeacdeaa", sum := "6a463b88321669496d8eee1858993abfe0428af7b3451e2ac55d24d5a87464bb", func := "jacquard/jacquardlaw02.GraphTopo", spec := "graphTopo", recurses := true, apart := false }
def GraphTopoSaid : Prop := graphTopoRow.holds Try.pinned (OpenSpec.ofChange graphTopoSpec)

/-- ITS FALSE NEIGHBOUR: 'it returns false'. Refute it at one input. -/
def graphTopoWrong : ChangeSpec := { name := "graphTopo", fn := fun _ => fun
  | [d] => { results := [.lit (.bool false)], args := [d] }
  | _ => none }
def GraphTopoWrongFalsely : Prop := graphTopoRow.holds Try.pinned (OpenSpec.ofChange graphTopoWrong)

/-- 'jacquardlaw02.GraphReach': WHATEVER THE INPUT: true; the input reads as it did. -/
def graphReachSpec : ChangeSpec := { name := "graphReach", fn := fun _ => fun
  | [d1, d2] => { results := [.lit (.bool true)], args := [d1, d2] }
  | _ => none }
def graphReachRow : OpenClaim := { program := "ytebekmcoeacdeaa", sum := "6a463b88321669496d8eee1858993abfe0428af7b3451e2ac55d24d5a87464bb", func := "jacquard/jacquardlaw02.GraphReach", spec := "graphReach", recurses := true, apart := false }
def GraphReachSaid : Prop := graphReachRow.holds Try.pinned (OpenSpec.ofChange graphReachSpec)

/-- ITS FALSE NEIGHBOUR: 'it returns false'. Refute it at one input. -/
def graphReachWrong : ChangeSpec := { name := "graphReach", fn := fun _ => fun
  | [d1, d2] => { results := [.lit (.bool false)], args := [d1, d2] }
  | _ => none }
def GraphReachWrongFalsely : Prop := graphReachRow.holds Try.pinned (OpenSpec.ofChange graphReachWrong)

/-- 'jacquardlaw02.GraphLongest': WHATEVER THE INPUT: true; the input reads as it did. -/
def graphLongestSpec : ChangeSpec := { name := "graphLongest", fn := fun _ => fun
  | [d1, d2] => { results := [.lit (.bool true)], args := [d1, d2] }
  | _ => none }
def graphLongestRow : OpenClaim := { program := "ytebekmcoeacdeaa", sum := "6a463b88321669496d8eee1858993abfe0428af7b3451e2ac55d24d5a87464bb", func := "jacquard/jacquardlaw02.GraphLongest", spec := "graphLongest", recurses := true, apart := false }
def GraphLongestSaid : Prop := graphLongestRow.holds Try.pinned (OpenSpec.ofChange graphLongestSpec)

/-- ITS FALSE NEIGHBOUR: 'it returns false'. Refute it at one input. -/
def graphLongestWrong : ChangeSpec := { name := "graphLongest", fn := fun _ => fun
  | [d1, d2] => { results := [.lit (.bool false)], args := [d1, d2] }
  | _ => none }
def GraphLongestWrongFalsely : Prop := graphLongestRow.holds Try.pinned (OpenSpec.ofChange graphLongestWrong)

/-- 'jacquardlaw02.GraphCycle': WHATEVER THE INPUT: true; the input reads as it did. -/
def graphCycleSpec : ChangeSpec := { name := "graphCycle", fn := fun _ => fun
  | [d] => { results := [.lit (.bool true)], args := [d] }
  | _ => none }
def graphCycleRow : OpenClaim := { program := "ytebekmcoeacdeaa", sum := "6a463b88321669496d8eee1858993abfe0428af7b3451e2ac55d24d5a87464bb", func := "jacquard/jacquardlaw02.GraphCycle", spec := "graphCycle", recurses := true, apart := false }
def GraphCycleSaid : Prop := graphCycleRow.holds Try.pinned (OpenSpec.ofChange graphCycleSpec)

/-- ITS FALSE NEIGHBOUR: 'it returns false'. Refute it at one input. -/
def graphCycleWrong : ChangeSpec := { name := "graphCycle", fn := fun _ => fun
  | [d] => { results := [.lit (.bool false)], args := [d] }
  | _ => none }
def GraphCycleWrongFalsely : Prop := graphCycleRow.holds Try.pinned (OpenSpec.ofChange graphCycleWrong)

/-- 'jacquardlaw02.GraphCritical': WHATEVER THE INPUT: true; the input reads as it did. -/
def graphCriticalSpec : ChangeSpec := { name := "graphCritical", fn := fun _ => fun
  | [d1, d2] => { results := [.lit (.bool true)], args := [d1, d2] }
  | _ => none }
def graphCriticalRow : OpenClaim := { program := "ytebekmcoeacdeaa", sum := "6a463b88321669496d8eee1858993abfe0428af7b3451e2ac55d24d5a87464bb", func := "jacquard/jacquardlaw02.GraphCritical", spec := "graphCritical", recurses := true, apart := false }
def GraphCriticalSaid : Prop := graphCriticalRow.holds Try.pinned (OpenSpec.ofChange graphCriticalSpec)

/-- ITS FALSE NEIGHBOUR: 'it returns false'. Refute it at one input. -/
def graphCriticalWrong : ChangeSpec := { name := "graphCritical", fn := fun _ => fun
  | [d1, d2] => { results := [.lit (.bool false)], args := [d1, d2] }
  | _ => none }
def GraphCriticalWrongFalsely : Prop := graphCriticalRow.holds Try.pinned (OpenSpec.ofChange graphCriticalWrong)

/-- 'jacquardlaw02.GraphNext': WHATEVER THE INPUT: true; the input reads as it did. -/
def graphNextSpec : ChangeSpec := { name := "graphNext", fn := fun _ => fun
  | [d] => { results := [.lit (.bool true)], args := [d] }
  | _ => none }
def graphNextRow : OpenClaim := { program := "ytebekmcoeacdeaa", sum := "6a463b88321669496d8eee1858993abfe0428af7b3451e2ac55d24d5a87464bb", func := "jacquard/jacquardlaw02.GraphNext", spec := "graphNext", unfollowed := true, recurses := true, apart := false }
def GraphNextSaid : Prop := graphNextRow.holds Try.pinned (OpenSpec.ofChange graphNextSpec)

/-- ITS FALSE NEIGHBOUR: 'it returns false'. Refute it at one input. -/
def graphNextWrong : ChangeSpec := { name := "graphNext", fn := fun _ => fun
  | [d] => { results := [.lit (.bool false)], args := [d] }
  | _ => none }
def GraphNextWrongFalsely : Prop := graphNextRow.holds Try.pinned (OpenSpec.ofChange graphNextWrong)

/-- 'jacquardlaw02.GraphComponents': WHATEVER THE INPUT: true; the input reads as it did. -/
def graphComponentsSpec : ChangeSpec := { name := "graphComponents", fn := fun _ => fun
  | [d] => { results := [.lit (.bool true)], args := [d] }
  | _ => none }
def graphComponentsRow : OpenClaim := { program := "ytebekmcoeacdeaa", sum := "6a463b88321669496d8eee1858993abfe0428af7b3451e2ac55d24d5a87464bb", func := "jacquard/jacquardlaw02.GraphComponents", spec := "graphComponents", unfollowed := true, recurses := true, apart := false }
def GraphComponentsSaid : Prop := graphComponentsRow.holds Try.pinned (OpenSpec.ofChange graphComponentsSpec)

/-- ITS FALSE NEIGHBOUR: 'it returns false'. Refute it at one input. -/
def graphComponentsWrong : ChangeSpec := { name := "graphComponents", fn := fun _ => fun
  | [d] => { results := [.lit (.bool false)], args := [d] }
  | _ => none }
def GraphComponentsWrongFalsely : Prop := graphComponentsRow.holds Try.pinned (OpenSpec.ofChange graphComponentsWrong)

/-- 'jacquardlaw02.GraphDominators': WHATEVER THE INPUT: true; the input reads as it did. -/
def graphDominatorsSpec : ChangeSpec := { name := "graphDominators", fn := fun _ => fun
  | [d1, d2] => { results := [.lit (.bool true)], args := [d1, d2] }
  | _ => none }
def graphDominatorsRow : OpenClaim := { program := "ytebekmcoeacdeaa", sum := "6a463b88321669496d8eee1858993abfe0428af7b3451e2ac55d24d5a87464bb", func := "jacquard/jacquardlaw02.GraphDominators", spec := "graphDominators", unfollowed := true, recurses := true, apart := false }
def GraphDominatorsSaid : Prop := graphDominatorsRow.holds Try.pinned (OpenSpec.ofChange graphDominatorsSpec)

/-- ITS FALSE NEIGHBOUR: 'it returns false'. Refute it at one input. -/
def graphDominatorsWrong : ChangeSpec := { name := "graphDominators", fn := fun _ => fun
  | [d1, d2] => { results := [.lit (.bool false)], args := [d1, d2] }
  | _ => none }
def GraphDominatorsWrongFalsely : Prop := graphDominatorsRow.holds Try.pinned (OpenSpec.ofChange graphDominatorsWrong)

/- THE SECOND FORM. 'bulk': how many values and letters a reading holds, each counted each time it is reached (what is shared counts as often as it is met; a slice's spare places count too). A statement '..UptoSaid' is the law's where the arguments, and the package variables that the reading takes, are together of bulk at most 1048576: NARROWER than '..Said'. Prove '..Said' where nothing that the law and all that it calls make is longer than what came in: it says more and counts as full. Else prove '..UptoSaid'. A law counts once. -/
mutual
def uptoBulk {H : Type} : DataW H → Nat
  | .lit (.string bytes) => bytes.length + 1
  | .lit _ => 1
  | .nil => 1
  | .ptr d => uptoBulk d + 1
  | .slice elems spare => uptoBulkAll elems + uptoBulkAll spare + 1
  | .agg parts => uptoBulkAll parts + 1
  | .iface _ d => uptoBulk d + 1
  | .map entries => uptoBulkEntries entries + 1
  | .held _ => 1
def uptoBulkAll {H : Type} : List (DataW H) → Nat
  | [] => 0
  | d :: r => uptoBulk d + uptoBulkAll r
def uptoBulkEntries {H : Type} : List (Lit × DataW H) → Nat
  | [] => 0
  | x :: r => uptoBulkEntry x + uptoBulkEntries r
def uptoBulkEntry {H : Type} : Lit × DataW H → Nat
  | (.string bytes, d) => bytes.length + uptoBulk d + 1
  | (_, d) => uptoBulk d + 1
 end
def uptoSmall : (H : Type) → List (DataW H) → Bool := fun _ ds => decide (uptoBulkAll ds ≤ 1048576)
def OpenSpec.upto (s : _root_.Go.ChangeSpec) : _root_.Go.OpenSpec := { _root_.Go.OpenSpec.ofChange s with cond := some uptoSmall }

/-- 'jacquardlaw02.GraphTopo', WHERE WHAT IT READS IS OF BULK AT MOST 1048576: true; the input reads as it did. -/
def graphTopoUptoRow : OpenClaim := { program := "ytebekmcoeacdeaa", sum := "6a463b88321669496d8eee1858993abfe0428af7b3451e2ac55d24d5a87464bb", func := "jacquard/jacquardlaw02.GraphTopo", spec := "graphTopo", recurses := true, apart := false, narrowed := true }
def GraphTopoUptoSaid : Prop := graphTopoUptoRow.holds Try.pinned (OpenSpec.upto graphTopoSpec)

/-- 'jacquardlaw02.GraphReach', WHERE WHAT IT READS IS OF BULK AT MOST 1048576: true; the input reads as it did. -/
def graphReachUptoRow : OpenClaim := { program := "ytebekmcoeacdeaa", sum := "6a463b88321669496d8eee1858993abfe0428af7b3451e2ac55d24d5a87464bb", func := "jacquard/jacquardlaw02.GraphReach", spec := "graphReach", recurses := true, apart := false, narrowed := true }
def GraphReachUptoSaid : Prop := graphReachUptoRow.holds Try.pinned (OpenSpec.upto graphReachSpec)

/-- 'jacquardlaw02.GraphLongest', WHERE WHAT IT READS IS OF BULK AT MOST 1048576: true; the input reads as it did. -/
def graphLongestUptoRow : OpenClaim := { program := "ytebekmcoeacdeaa", sum := "6a463b88321669496d8eee1858993abfe0428af7b3451e2ac55d24d5a87464bb", func := "jacquard/jacquardlaw02.GraphLongest", spec := "graphLongest", recurses := true, apart := false, narrowed := true }
def GraphLongestUptoSaid : Prop := graphLongestUptoRow.holds Try.pinned (OpenSpec.upto graphLongestSpec)

/-- 'jacquardlaw02.GraphCycle', WHERE WHAT IT READS IS OF BULK AT MOST 1048576: true; the input reads as it did. -/
def graphCycleUptoRow : OpenClaim := { program := "ytebekmcoeacdeaa", sum := "6a463b88321669496d8eee1858993abfe0428af7b3451e2ac55d24d5a87464bb", func := "jacquard/jacquardlaw02.GraphCycle", spec := "graphCycle", recurses := true, apart := false, narrowed := true }
def GraphCycleUptoSaid : Prop := graphCycleUptoRow.holds Try.pinned (OpenSpec.upto graphCycleSpec)

/-- 'jacquardlaw02.GraphCritical', WHERE WHAT IT READS IS OF BULK AT MOST 1048576: true; the input reads as it did. -/
def graphCriticalUptoRow : OpenClaim := { program := "ytebekmcoeacdeaa", sum := "6a463b88321669496d8eee1858993abfe0428af7b3451e2ac55d24d5a87464bb", func := "jacquard/jacquardlaw02.GraphCritical", spec := "graphCritical", recurses := true, apart := false, narrowed := true }
def GraphCriticalUptoSaid : Prop := graphCriticalUptoRow.holds Try.pinned (OpenSpec.upto graphCriticalSpec)

/-- 'jacquardlaw02.GraphNext', WHERE WHAT IT READS IS OF BULK AT MOST 1048576: true; the input reads as it did. -/
def graphNextUptoRow : OpenClaim := { program := "ytebekmcoeacdeaa", sum := "6a463b88321669496d8eee1858993abfe0428af7b3451e2ac55d24d5a87464bb", func := "jacquard/jacquardlaw02.GraphNext", spec := "graphNext", unfollowed := true, recurses := true, apart := false, narrowed := true }
def GraphNextUptoSaid : Prop := graphNextUptoRow.holds Try.pinned (OpenSpec.upto graphNextSpec)

/-- 'jacquardlaw02.GraphComponents', WHERE WHAT IT READS IS OF BULK AT MOST 1048576: true; the input reads as it did. -/
def graphComponentsUptoRow : OpenClaim := { program := "ytebekmcoeacdeaa", sum := "6a463b88321669496d8eee1858993abfe0428af7b3451e2ac55d24d5a87464bb", func := "jacquard/jacquardlaw02.GraphComponents", spec := "graphComponents", unfollowed := true, recurses := true, apart := false, narrowed := true }
def GraphComponentsUptoSaid : Prop := graphComponentsUptoRow.holds Try.pinned (OpenSpec.upto graphComponentsSpec)

/-- 'jacquardlaw02.GraphDominators', WHERE WHAT IT READS IS OF BULK AT MOST 1048576: true; the input reads as it did. -/
def graphDominatorsUptoRow : OpenClaim := { program := "ytebekmcoeacdeaa", sum := "6a463b88321669496d8eee1858993abfe0428af7b3451e2ac55d24d5a87464bb", func := "jacquard/jacquardlaw02.GraphDominators", spec := "graphDominators", unfollowed := true, recurses := true, apart := false, narrowed := true }
def GraphDominatorsUptoSaid : Prop := graphDominatorsUptoRow.holds Try.pinned (OpenSpec.upto graphDominatorsSpec)

end Rows
end Go.Proofs.Ytebekmcoeacdeaa
