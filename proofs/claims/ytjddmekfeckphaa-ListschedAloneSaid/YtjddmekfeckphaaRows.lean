/-
  No cell of these rows narrows 'for every input' (looked for: loops, veiled, ifaces, maps, wideKeys, modest, calm, conditions, laid).
  DERIVED. THE GIVEN ROWS OF THIS SEAT. 3 by the template 'for every input the law returns true; each argument reads behind the call as it read before'; 0 by the template 'total and deterministic' (their statements: YtjddmekfeckphaaTotals.lean).
  GIVEN WITH THE SEED: the statements are not yours to turn. If you find one false, say at which input.
  Laid BY PROGRAM, IN A SANDBOX (cutbox-rows.mjs): the forced cells as the released guide's own fill.sh prints them over the translation 18356a5605cb7349… (all of the seat's roots in one cut). By AI agents, Wed Nov 11 2026. No macro, syntax, notation, axiom, sorry.
-/
import Derived.Test.YtjddmekfeckphaaChecked
import GoSem.Claim
import GoSem.ClaimJoined
import GoSem.ClaimMapViews
import Derived.JoinedTies
import Derived.KernelRfl
namespace Go.Proofs.Ytjddmekfeckphaa
/- THE CELL 'sum', in the pinned program and in every row, IS THE sha256 OF THE DUMP (.gsa) THAT YtjddmekfeckphaaProg.lean LOADS. Nothing in Lean hashes anything: it is a label: what it is worth is what the hold of that sum in a sandbox is worth. -/
noncomputable def Try.pinned : Pinned := { name := "ytjddmekfeckphaa", sum := "18356a5605cb73495c3bfb14fedb7460b621974760d36cdd616cdddfb6cc92ca", checked := Try.checked }
namespace Rows
def none {H : Type} : Left H := { results := [], args := [] }

/-- 'jacquardlaw32.ListschedContested': WHATEVER THE INPUT: true; the input reads as it did. -/
def listschedContestedSpec : ChangeSpec := { name := "listschedContested", fn := fun _ => fun
  | [d] => { results := [.lit (.bool true)], args := [d] }
  | _ => none }
def listschedContestedRow : OpenClaim := { program := "ytjddmekfeckphaa", sum := "18356a5605cb73495c3bfb14fedb7460b621974760d36cdd616cdddfb6cc92ca", func := "jacquard/jacquardlaw32.ListschedContested", spec := "listschedContested", unfollowed := true, recurses := true, apart := false }
def ListschedContestedSaid : Prop := listschedContestedRow.holds Try.pinned (OpenSpec.ofChange listschedContestedSpec)

/-- ITS FALSE NEIGHBOUR: 'it returns false'. Refute it at one input. -/
def listschedContestedWrong : ChangeSpec := { name := "listschedContested", fn := fun _ => fun
  | [d] => { results := [.lit (.bool false)], args := [d] }
  | _ => none }
def ListschedContestedWrongFalsely : Prop := listschedContestedRow.holds Try.pinned (OpenSpec.ofChange listschedContestedWrong)

/-- 'jacquardlaw32.ListschedTwice': WHATEVER THE INPUT: true; the input reads as it did. -/
def listschedTwiceSpec : ChangeSpec := { name := "listschedTwice", fn := fun _ => fun
  | [d] => { results := [.lit (.bool true)], args := [d] }
  | _ => none }
def listschedTwiceRow : OpenClaim := { program := "ytjddmekfeckphaa", sum := "18356a5605cb73495c3bfb14fedb7460b621974760d36cdd616cdddfb6cc92ca", func := "jacquard/jacquardlaw32.ListschedTwice", spec := "listschedTwice", unfollowed := true, recurses := true, apart := false }
def ListschedTwiceSaid : Prop := listschedTwiceRow.holds Try.pinned (OpenSpec.ofChange listschedTwiceSpec)

/-- ITS FALSE NEIGHBOUR: 'it returns false'. Refute it at one input. -/
def listschedTwiceWrong : ChangeSpec := { name := "listschedTwice", fn := fun _ => fun
  | [d] => { results := [.lit (.bool false)], args := [d] }
  | _ => none }
def ListschedTwiceWrongFalsely : Prop := listschedTwiceRow.holds Try.pinned (OpenSpec.ofChange listschedTwiceWrong)

/-- 'jacquardlaw32.ListschedAlone': WHATEVER THE INPUT: true; the input reads as it did. -/
def listschedAloneSpec : ChangeSpec := { name := "listschedAlone", fn := fun _ => fun
  | [d1, d2] => { results := [.lit (.bool true)], args := [d1, d2] }
  | _ => none }
def listschedAloneRow : OpenClaim := { program := "ytjddmekfeckphaa", sum := "18356a5605cb73495c3bfb14fedb7460b621974760d36cdd616cdddfb6cc92ca", func := "jacquard/jacquardlaw32.ListschedAlone", spec := "listschedAlone", unfollowed := true, recurses := true, apart := false }
def ListschedAloneSaid : Prop := listschedAloneRow.holds Try.pinned (OpenSpec.ofChange listschedAloneSpec)

/-- ITS FALSE NEIGHBOUR: 'it returns false'. Refute it at one input. -/
def listschedAloneWrong : ChangeSpec := { name := "listschedAlone", fn := fun _ => fun
  | [d1, d2] => { results := [.lit (.bool false)], args := [d1, d2] }
  | _ => none }
def ListschedAloneWrongFalsely : Prop := listschedAloneRow.holds Try.pinned (OpenSpec.ofChange listschedAloneWrong)

/- THE SECOND FORM. 'bulk': how many values and letters a reading holds, each counted each time it is reached (what is shared counts as often as it is met; a slice's spare places count too). A statement '..UptoSaid' is the law's where the arguments, and the package variables that the reading takes, are together of bulk at most 1048576: NARROWER than '..Said'. Prove '..Said' where nothing that the law and all that it calls make is longer than what came in: it says more and counts as full. Else prove '..UptoSaid'. A law counts once. -/
mutual
def uptoBulk {H : Type} : DataW H → Nat
  | .lit (.string bytes) => bytes.length + 1
  | .lit _ => 1
  | .nil => 1
  | .ptr d => uptoBulk d + 1
  | .slice elems spare => uptoBulkAll elems + uptoBulkAll spare + 1
  | .agg parts => uptoBulkAll parts + 1
  | .iface _ d => uptoBulk d + 1
  | .map entries => uptoBulkEntries entries + 1
  | .held _ => 1
def uptoBulkAll {H : Type} : List (DataW H) → Nat
  | [] => 0
  | d :: r => uptoBulk d + uptoBulkAll r
def uptoBulkEntries {H : Type} : List (Lit × DataW H) → Nat
  | [] => 0
  | x :: r => uptoBulkEntry x + uptoBulkEntries r
def uptoBulkEntry {H : Type} : Lit × DataW H → Nat
  | (.string bytes, d) => bytes.length + uptoBulk d + 1
  | (_, d) => uptoBulk d + 1
 end
def uptoSmall : (H : Type) → List (DataW H) → Bool := fun _ ds => decide (uptoBulkAll ds ≤ 1048576)
def OpenSpec.upto (s : _root_.Go.ChangeSpec) : _root_.Go.OpenSpec := { _root_.Go.OpenSpec.ofChange s with cond := some uptoSmall }

/-- 'jacquardlaw32.ListschedContested', WHERE WHAT IT READS IS OF BULK AT MOST 1048576: true; the input reads as it did. -/
def listschedContestedUptoRow : OpenClaim := { program := "ytjddmekfeckphaa", sum := "18356a5605cb73495c3bfb14fedb7460b621974760d36cdd616cdddfb6cc92ca", func := "jacquard/jacquardlaw32.ListschedContested", spec := "listschedContested", unfollowed := true, recurses := true, apart := false, narrowed := true }
def ListschedContestedUptoSaid : Prop := listschedContestedUptoRow.holds Try.pinned (OpenSpec.upto listschedContestedSpec)

/-- 'jacquardlaw32.ListschedTwice', WHERE WHAT IT READS IS OF BULK AT MOST 1048576: true; the input reads as it did. -/
def listschedTwiceUptoRow : OpenClaim := { program := "ytjddmekfeckphaa", sum := "18356a5605cb73495c3bfb14fedb7460b621974760d36cdd616cdddfb6cc92ca", func := "jacquard/jacquardlaw32.ListschedTwice", spec := "listschedTwice", unfollowed := true, recurses := true, apart := false, narrowed := true }
def ListschedTwiceUptoSaid : Prop := listschedTwiceUptoRow.holds Try.pinned (OpenSpec.upto listschedTwiceSpec)

/-- 'jacquardlaw32.ListschedAlone', WHERE WHAT IT READS IS OF BULK AT MOST 1048576: true; the input reads as it did. -/
def listschedAloneUptoRow : OpenClaim := { program := "ytjddmekfeckphaa", sum := "18356a5605cb73495c3bfb14fedb7460b621974760d36cdd616cdddfb6cc92ca", func := "jacquard/jacquardlaw32.ListschedAlone", spec := "listschedAlone", unfollowed := true, recurses := true, apart := false, narrowed := true }
def ListschedAloneUptoSaid : Prop := listschedAloneUptoRow.holds Try.pinned (OpenSpec.upto listschedAloneSpec)

end Rows
end Go.Proofs.Ytjddmekfeckphaa
