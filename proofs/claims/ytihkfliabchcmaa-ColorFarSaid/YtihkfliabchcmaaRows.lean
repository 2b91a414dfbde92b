/-
  No cell of these rows narrows 'for every input' (looked for: loops, veiled, ifaces, maps, wideKeys, modest, calm, conditions, laid).
  DERIVED. THE GIVEN ROWS OF THIS SEAT. 8 by the template 'for every input the law returns true; each argument reads behind the call as it read before'; 0 by the template 'total and deterministic' (their statements: YtihkfliabchcmaaTotals.lean).
  GIVEN WITH THE SEED: the statements are not yours to turn. If you find one false, say at which input.
  Laid BY PROGRAM, IN A SANDBOX (cutbox-rows.mjs): the forced cells as the released guide's own fill.sh prints them over the translation d4f5633c20052a69… (all of the seat's roots in one cut). By AI agents, Wed Nov 11 2026. No macro, syntax, notation, axiom, sorry.
-/
import Derived.Test.YtihkfliabchcmaaChecked
import GoSem.Claim
import GoSem.ClaimJoined
import GoSem.ClaimMapViews
import Derived.JoinedTies
import Derived.KernelRfl
namespace Go.Proofs.Ytihkfliabchcmaa
/- THE CELL 'sum', in the pinned program and in every row, IS THE sha256 OF THE DUMP (.gsa) THAT YtihkfliabchcmaaProg.lean LOADS. Nothing in Lean hashes anything: it is a label: what it is worth is what the hold of that sum in a sandbox is worth. -/
noncomputable def Try.pinned : Pinned := { name := "ytihkfliabchcmaa", sum := "d4f5633c20052a69651d360e2bacb28fff3fba33e55a3dfa691579e3281fe01f", checked := Try.checked }
namespace Rows
def none {H : Type} : Left H := { results := [], args := [] }

/-- 'jacquardlaw38.ColorOverlaps': WHATEVER THE INPUT: true; the input reads as it did. -/
def colorOverlapsSpec : ChangeSpec := { name := "colorOverlaps", fn := fun _ => fun
  | [d1, d2, d3] => { results := [.lit (.bool true)], args := [d1, d2, d3] }
  | _ => none }
def colorOverlapsRow : OpenClaim := { program := "ytihkfliabchcmaa", sum := "d4f5633c20052a69651d360e2bacb28fff3fba33e55a3dfa691579e3281fe01f", func := "jacquard/jacquardlaw38.ColorOverlaps", spec := "colorOverlaps", unfollowed := true, recurses := true, apart := false }
def ColorOverlapsSaid : Prop := colorOverlapsRow.holds Try.pinned (OpenSpec.ofChange colorOverlapsSpec)

/-- ITS FALSE NEIGHBOUR: 'it returns false'. Refute it at one input. -/
def colorOverlapsWrong : ChangeSpec := { name := "colorOverlaps", fn := fun _ => fun
  | [d1, d2, d3] => { results := [.lit (.bool false)], args := [d1, d2, d3] }
  | _ => none }
def ColorOverlapsWrongFalsely : Prop := colorOverlapsRow.holds Try.pinned (OpenSpec.ofChange colorOverlapsWrong)

/-- 'jacquardlaw38.ColorLoads': WHATEVER THE INPUT: true; the input reads as it did. -/
def colorLoadsSpec : ChangeSpec := { name := "colorLoads", fn := fun _ => fun
  | [d1, d2] => { results := [.lit (.bool true)], args := [d1, d2] }
  | _ => none }
def colorLoadsRow : OpenClaim := { program := "ytihkfliabchcmaa", sum := "d4f5633c20052a69651d360e2bacb28fff3fba33e55a3dfa691579e3281fe01f", func := "jacquard/jacquardlaw38.ColorLoads", spec := "colorLoads", unfollowed := true, recurses := true, apart := false }
def ColorLoadsSaid : Prop := colorLoadsRow.holds Try.pinned (OpenSpec.ofChange colorLoadsSpec)

/-- ITS FALSE NEIGHBOUR: 'it returns false'. Refute it at one input. -/
def colorLoadsWrong : ChangeSpec := { name := "colorLoads", fn := fun _ => fun
  | [d1, d2] => { results := [.lit (.bool false)], args := [d1, d2] }
  | _ => none }
def ColorLoadsWrongFalsely : Prop := colorLoadsRow.holds Try.pinned (OpenSpec.ofChange colorLoadsWrong)

/-- 'jacquardlaw38.ColorFar': WHATEVER THE INPUT: true; the input reads as it did. -/
def colorFarSpec : ChangeSpec := { name := "colorFar", fn := fun _ => fun
  | [d] => { results := [.lit (.bool true)], args := [d] }
  | _ => none }
def colorFarRow : OpenClaim := { program := "ytihkfliabchcmaa", sum := "d4f5633c20052a69651d360e2bacb28fff3fba33e55a3dfa691579e3281fe01f", func := "jacquard/jacquardlaw38.ColorFar", spec := "colorFar", unfollowed := true, recurses := true, apart := false }
def ColorFarSaid : Prop := colorFarRow.holds Try.pinned (OpenSpec.ofChange colorFarSpec)

/-- ITS FALSE NEIGHBOUR: 'it returns false'. Refute it at one input. -/
def colorFarWrong : ChangeSpec := { name := "colorFar", fn := fun _ => fun
  | [d] => { results := [.lit (.bool false)], args := [d] }
  | _ => none }
def ColorFarWrongFalsely : Prop := colorFarRow.holds Try.pinned (OpenSpec.ofChange colorFarWrong)

/-- 'jacquardlaw38.ColorProper': WHATEVER THE INPUT: true; the input reads as it did. -/
def colorProperSpec : ChangeSpec := { name := "colorProper", fn := fun _ => fun
  | [d1, d2, d3] => { results := [.lit (.bool true)], args := [d1, d2, d3] }
  | _ => none }
def colorProperRow : OpenClaim := { program := "ytihkfliabchcmaa", sum := "d4f5633c20052a69651d360e2bacb28fff3fba33e55a3dfa691579e3281fe01f", func := "jacquard/jacquardlaw38.ColorProper", spec := "colorProper", unfollowed := true, recurses := true, apart := false }
def ColorProperSaid : Prop := colorProperRow.holds Try.pinned (OpenSpec.ofChange colorProperSpec)

/-- ITS FALSE NEIGHBOUR: 'it returns false'. Refute it at one input. -/
def colorProperWrong : ChangeSpec := { name := "colorProper", fn := fun _ => fun
  | [d1, d2, d3] => { results := [.lit (.bool false)], args := [d1, d2, d3] }
  | _ => none }
def ColorProperWrongFalsely : Prop := colorProperRow.holds Try.pinned (OpenSpec.ofChange colorProperWrong)

/-- 'jacquardlaw38.ColorBounds': WHATEVER THE INPUT: true; the input reads as it did. -/
def colorBoundsSpec : ChangeSpec := { name := "colorBounds", fn := fun _ => fun
  | [d1, d2] => { results := [.lit (.bool true)], args := [d1, d2] }
  | _ => none }
def colorBoundsRow : OpenClaim := { program := "ytihkfliabchcmaa", sum := "d4f5633c20052a69651d360e2bacb28fff3fba33e55a3dfa691579e3281fe01f", func := "jacquard/jacquardlaw38.ColorBounds", spec := "colorBounds", unfollowed := true, recurses := true, apart := false }
def ColorBoundsSaid : Prop := colorBoundsRow.holds Try.pinned (OpenSpec.ofChange colorBoundsSpec)

/-- ITS FALSE NEIGHBOUR: 'it returns false'. Refute it at one input. -/
def colorBoundsWrong : ChangeSpec := { name := "colorBounds", fn := fun _ => fun
  | [d1, d2] => { results := [.lit (.bool false)], args := [d1, d2] }
  | _ => none }
def ColorBoundsWrongFalsely : Prop := colorBoundsRow.holds Try.pinned (OpenSpec.ofChange colorBoundsWrong)

/-- 'jacquardlaw38.ColorLeast': WHATEVER THE INPUT: true; the input reads as it did. -/
def colorLeastSpec : ChangeSpec := { name := "colorLeast", fn := fun _ => fun
  | [d1, d2] => { results := [.lit (.bool true)], args := [d1, d2] }
  | _ => none }
def colorLeastRow : OpenClaim := { program := "ytihkfliabchcmaa", sum := "d4f5633c20052a69651d360e2bacb28fff3fba33e55a3dfa691579e3281fe01f", func := "jacquard/jacquardlaw38.ColorLeast", spec := "colorLeast", unfollowed := true, recurses := true, apart := false }
def ColorLeastSaid : Prop := colorLeastRow.holds Try.pinned (OpenSpec.ofChange colorLeastSpec)

/-- ITS FALSE NEIGHBOUR: 'it returns false'. Refute it at one input. -/
def colorLeastWrong : ChangeSpec := { name := "colorLeast", fn := fun _ => fun
  | [d1, d2] => { results := [.lit (.bool false)], args := [d1, d2] }
  | _ => none }
def ColorLeastWrongFalsely : Prop := colorLeastRow.holds Try.pinned (OpenSpec.ofChange colorLeastWrong)

/-- 'jacquardlaw38.ColorMoves': WHATEVER THE INPUT: true; the input reads as it did. -/
def colorMovesSpec : ChangeSpec := { name := "colorMoves", fn := fun _ => fun
  | [d1, d2, d3] => { results := [.lit (.bool true)], args := [d1, d2, d3] }
  | _ => none }
def colorMovesRow : OpenClaim := { program := "ytihkfliabchcmaa", sum := "d4f5633c20052a69651d360e2bacb28fff3fba33e55a3dfa691579e3281fe01f", func := "jacquard/jacquardlaw38.ColorMoves", spec := "colorMoves", unfollowed := true, recurses := true, apart := false }
def ColorMovesSaid : Prop := colorMovesRow.holds Try.pinned (OpenSpec.ofChange colorMovesSpec)

/-- ITS FALSE NEIGHBOUR: 'it returns false'. Refute it at one input. -/
def colorMovesWrong : ChangeSpec := { name := "colorMoves", fn := fun _ => fun
  | [d1, d2, d3] => { results := [.lit (.bool false)], args := [d1, d2, d3] }
  | _ => none }
def ColorMovesWrongFalsely : Prop := colorMovesRow.holds Try.pinned (OpenSpec.ofChange colorMovesWrong)

/-- 'jacquardlaw38.ColorAdds': WHATEVER THE INPUT: true; the input reads as it did. -/
def colorAddsSpec : ChangeSpec := { name := "colorAdds", fn := fun _ => fun
  | [d1, d2, d3] => { results := [.lit (.bool true)], args := [d1, d2, d3] }
  | _ => none }
def colorAddsRow : OpenClaim := { program := "ytihkfliabchcmaa", sum := "d4f5633c20052a69651d360e2bacb28fff3fba33e55a3dfa691579e3281fe01f", func := "jacquard/jacquardlaw38.ColorAdds", spec := "colorAdds", unfollowed := true, recurses := true, apart := false }
def ColorAddsSaid : Prop := colorAddsRow.holds Try.pinned (OpenSpec.ofChange colorAddsSpec)

/-- ITS FALSE NEIGHBOUR: 'it returns false'. Refute it at one input. -/
def colorAddsWrong : ChangeSpec := { name := "colorAdds", fn := fun _ => fun
  | [d1, d2, d3] => { results := [.lit (.bool false)], args := [d1, d2, d3] }
  | _ => none }
def ColorAddsWrongFalsely : Prop := colorAddsRow.holds Try.pinned (OpenSpec.ofChange colorAddsWrong)

/- THE SECOND FORM. 'bulk': how many values and letters a reading holds, each counted each time it is reached (what is shared counts as often as it is met; a slice's spare places count too). A statement '..UptoSaid' is the law's where the arguments, and the package variables that the reading takes, are together of bulk at most 1048576: NARROWER than '..Said'. Prove '..Said' where nothing that the law and all that it calls make is longer than what came in: it says more and counts as full. Else prove '..UptoSaid'. A law counts once. -/
mutual
def uptoBulk {H : Type} : DataW H → Nat
  | .lit (.string bytes) => bytes.length + 1
  | .lit _ => 1
  | .nil => 1
  | .ptr d => uptoBulk d + 1
  | .slice elems spare => uptoBulkAll elems + uptoBulkAll spare + 1
  | .agg parts => uptoBulkAll parts + 1
  | .iface _ d => uptoBulk d + 1
  | .map entries => uptoBulkEntries entries + 1
  | .held _ => 1
def uptoBulkAll {H : Type} : List (DataW H) → Nat
  | [] => 0
  | d :: r => uptoBulk d + uptoBulkAll r
def uptoBulkEntries {H : Type} : List (Lit × DataW H) → Nat
  | [] => 0
  | x :: r => uptoBulkEntry x + uptoBulkEntries r
def uptoBulkEntry {H : Type} : Lit × DataW H → Nat
  | (.string bytes, d) => bytes.length + uptoBulk d + 1
  | (_, d) => uptoBulk d + 1
 end
def uptoSmall : (H : Type) → List (DataW H) → Bool := fun _ ds => decide (uptoBulkAll ds ≤ 1048576)
def OpenSpec.upto (s : _root_.Go.ChangeSpec) : _root_.Go.OpenSpec := { _root_.Go.OpenSpec.ofChange s with cond := some uptoSmall }

/-- 'jacquardlaw38.ColorOverlaps', WHERE WHAT IT READS IS OF BULK AT MOST 1048576: true; the input reads as it did. -/
def colorOverlapsUptoRow : OpenClaim := { program := "ytihkfliabchcmaa", sum := "d4f5633c20052a69651d360e2bacb28fff3fba33e55a3dfa691579e3281fe01f", func := "jacquard/jacquardlaw38.ColorOverlaps", spec := "colorOverlaps", unfollowed := true, recurses := true, apart := false, narrowed := true }
def ColorOverlapsUptoSaid : Prop := colorOverlapsUptoRow.holds Try.pinned (OpenSpec.upto colorOverlapsSpec)

/-- 'jacquardlaw38.ColorLoads', WHERE WHAT IT READS IS OF BULK AT MOST 1048576: true; the input reads as it did. -/
def colorLoadsUptoRow : OpenClaim := { program := "ytihkfliabchcmaa", sum := "d4f5633c20052a69651d360e2bacb28fff3fba33e55a3dfa691579e3281fe01f", func := "jacquard/jacquardlaw38.ColorLoads", spec := "colorLoads", unfollowed := true, recurses := true, apart := false, narrowed := true }
def ColorLoadsUptoSaid : Prop := colorLoadsUptoRow.holds Try.pinned (OpenSpec.upto colorLoadsSpec)

/-- 'jacquardlaw38.ColorFar', WHERE WHAT IT READS IS OF BULK AT MOST 1048576: true; the input reads as it did. -/
def colorFarUptoRow : OpenClaim := { program := "ytihkfliabchcmaa", sum := "d4f5633c20052a69651d360e2bacb28fff3fba33e55a3dfa691579e3281fe01f", func := "jacquard/jacquardlaw38.ColorFar", spec := "colorFar", unfollowed := true, recurses := true, apart := false, narrowed := true }
def ColorFarUptoSaid : Prop := colorFarUptoRow.holds Try.pinned (OpenSpec.upto colorFarSpec)

/-- 'jacquardlaw38.ColorProper', WHERE WHAT IT READS IS OF BULK AT MOST 1048576: true; the input reads as it did. -/
def colorProperUptoRow : OpenClaim := { program := "ytihkfliabchcmaa", sum := "d4f5633c20052a69651d360e2bacb28fff3fba33e55a3dfa691579e3281fe01f", func := "jacquard/jacquardlaw38.ColorProper", spec := "colorProper", unfollowed := true, recurses := true, apart := false, narrowed := true }
def ColorProperUptoSaid : Prop := colorProperUptoRow.holds Try.pinned (OpenSpec.upto colorProperSpec)

/-- 'jacquardlaw38.ColorBounds', WHERE WHAT IT READS IS OF BULK AT MOST 1048576: true; the input reads as it did. -/
def colorBoundsUptoRow : OpenClaim := { program := "ytihkfliabchcmaa", sum := "d4f5633c20052a69651d360e2bacb28fff3fba33e55a3dfa691579e3281fe01f", func := "jacquard/jacquardlaw38.ColorBounds", spec := "colorBounds", unfollowed := true, recurses := true, apart := false, narrowed := true }
def ColorBoundsUptoSaid : Prop := colorBoundsUptoRow.holds Try.pinned (OpenSpec.upto colorBoundsSpec)

/-- 'jacquardlaw38.ColorLeast', WHERE WHAT IT READS IS OF BULK AT MOST 1048576: true; the input reads as it did. -/
def colorLeastUptoRow : OpenClaim := { program := "ytihkfliabchcmaa", sum := "d4f5633c20052a69651d360e2bacb28fff3fba33e55a3dfa691579e3281fe01f", func := "jacquard/jacquardlaw38.ColorLeast", spec := "colorLeast", unfollowed := true, recurses := true, apart := false, narrowed := true }
def ColorLeastUptoSaid : Prop := colorLeastUptoRow.holds Try.pinned (OpenSpec.upto colorLeastSpec)

/-- 'jacquardlaw38.ColorMoves', WHERE WHAT IT READS IS OF BULK AT MOST 1048576: true; the input reads as it did. -/
def colorMovesUptoRow : OpenClaim := { program := "ytihkfliabchcmaa", sum := "d4f5633c20052a69651d360e2bacb28fff3fba33e55a3dfa691579e3281fe01f", func := "jacquard/jacquardlaw38.ColorMoves", spec := "colorMoves", unfollowed := true, recurses := true, apart := false, narrowed := true }
def ColorMovesUptoSaid : Prop := colorMovesUptoRow.holds Try.pinned (OpenSpec.upto colorMovesSpec)

/-- 'jacquardlaw38.ColorAdds', WHERE WHAT IT READS IS OF BULK AT MOST 1048576: true; the input reads as it did. -/
def colorAddsUptoRow : OpenClaim := { program := "ytihkfliabchcmaa", sum := "d4f5633c20052a69651d360e2bacb28fff3fba33e55a3dfa691579e3281fe01f", func := "jacquard/jacquardlaw38.ColorAdds", spec := "colorAdds", unfollowed := true, recurses := true, apart := false, narrowed := true }
def ColorAddsUptoSaid : Prop := colorAddsUptoRow.holds Try.pinned (OpenSpec.upto colorAddsSpec)

end Rows
end Go.Proofs.Ytihkfliabchcmaa
