/-
  No cell of these rows narrows 'for every input' (looked for: loops, veiled, ifaces, maps, wideKeys, modest, calm, conditions, laid).
  DERIVED. THE GIVEN ROWS OF THIS SEAT. 4 by the template 'for every input the law returns true; each argument reads behind the call as it read before'; 0 by the template 'total and deterministic' (their statements: YtjddmekfeckphaaGreatTotals.lean).
  GIVEN WITH THE SEED: the statements are not yours to turn. If you find one false, say at which input.
  Laid BY PROGRAM, IN A SANDBOX (cutbox-rows.mjs): the forced cells as the released guide's own fill.sh prints them over the translation 4d81c942095140f2… (all of the seat's roots in one cut). By AI agents, Wed Nov 11 2026. No macro, syntax, notation, axiom, sorry.
-/
import Derived.Test.YtjddmekfeckphaaGreatChecked
import GoSem.Claim
import GoSem.ClaimJoined
import GoSem.ClaimMapViews
import Derived.JoinedTies
import Derived.KernelRfl
namespace Go.Proofs.YtjddmekfeckphaaGreat
/- THE CELL 'sum', in the pinned program and in every row, IS THE sha256 OF THE DUMP (.gsa) THAT YtjddmekfeckphaaGreatProg.lean LOADS. Nothing in Lean hashes anything: it is a label: what it is worth is what the hold of that sum in a sandbox is worth. -/
noncomputable def Tryz.pinned : Pinned := { name := "ytjddmekfeckphaagreat", sum := "4d81c942095140f2e39d1f38e0d9e83613736aeeea52c01f61b4f82b8f4c51d8", checked := Tryz.checked }
namespace Rows
def none {H : Type} : Left H := { results := [], args := [] }

/-- 'jacquardlaw32.ListschedLegal': WHATEVER THE INPUT: true; the input reads as it did. -/
def listschedLegalSpec : ChangeSpec := { name := "listschedLegal", fn := fun _ => fun
  | [d] => { results := [.lit (.bool true)], args := [d] }
  | _ => none }
def listschedLegalRow : OpenClaim := { program := "ytjddmekfeckphaagreat", sum := "4d81c942095140f2e39d1f38e0d9e83613736aeeea52c01f61b4f82b8f4c51d8", func := "jacquard/jacquardlaw32.ListschedLegal", spec := "listschedLegal", unfollowed := true, recurses := true, apart := false }
def ListschedLegalSaid : Prop := listschedLegalRow.holds Tryz.pinned (OpenSpec.ofChange listschedLegalSpec)

/-- ITS FALSE NEIGHBOUR: 'it returns false'. Refute it at one input. -/
def listschedLegalWrong : ChangeSpec := { name := "listschedLegal", fn := fun _ => fun
  | [d] => { results := [.lit (.bool false)], args := [d] }
  | _ => none }
def ListschedLegalWrongFalsely : Prop := listschedLegalRow.holds Tryz.pinned (OpenSpec.ofChange listschedLegalWrong)

/-- 'jacquardlaw32.ListschedEarly': WHATEVER THE INPUT: true; the input reads as it did. -/
def listschedEarlySpec : ChangeSpec := { name := "listschedEarly", fn := fun _ => fun
  | [d] => { results := [.lit (.bool true)], args := [d] }
  | _ => none }
def listschedEarlyRow : OpenClaim := { program := "ytjddmekfeckphaagreat", sum := "4d81c942095140f2e39d1f38e0d9e83613736aeeea52c01f61b4f82b8f4c51d8", func := "jacquard/jacquardlaw32.ListschedEarly", spec := "listschedEarly", unfollowed := true, recurses := true, apart := false }
def ListschedEarlySaid : Prop := listschedEarlyRow.holds Tryz.pinned (OpenSpec.ofChange listschedEarlySpec)

/-- ITS FALSE NEIGHBOUR: 'it returns false'. Refute it at one input. -/
def listschedEarlyWrong : ChangeSpec := { name := "listschedEarly", fn := fun _ => fun
  | [d] => { results := [.lit (.bool false)], args := [d] }
  | _ => none }
def ListschedEarlyWrongFalsely : Prop := listschedEarlyRow.holds Tryz.pinned (OpenSpec.ofChange listschedEarlyWrong)

/-- 'jacquardlaw32.ListschedBounds': WHATEVER THE INPUT: true; the input reads as it did. -/
def listschedBoundsSpec : ChangeSpec := { name := "listschedBounds", fn := fun _ => fun
  | [d] => { results := [.lit (.bool true)], args := [d] }
  | _ => none }
def listschedBoundsRow : OpenClaim := { program := "ytjddmekfeckphaagreat", sum := "4d81c942095140f2e39d1f38e0d9e83613736aeeea52c01f61b4f82b8f4c51d8", func := "jacquard/jacquardlaw32.ListschedBounds", spec := "listschedBounds", unfollowed := true, recurses := true, apart := false }
def ListschedBoundsSaid : Prop := listschedBoundsRow.holds Tryz.pinned (OpenSpec.ofChange listschedBoundsSpec)

/-- ITS FALSE NEIGHBOUR: 'it returns false'. Refute it at one input. -/
def listschedBoundsWrong : ChangeSpec := { name := "listschedBounds", fn := fun _ => fun
  | [d] => { results := [.lit (.bool false)], args := [d] }
  | _ => none }
def ListschedBoundsWrongFalsely : Prop := listschedBoundsRow.holds Tryz.pinned (OpenSpec.ofChange listschedBoundsWrong)

/-- 'jacquardlaw32.ListschedCompact': WHATEVER THE INPUT: true; the input reads as it did. -/
def listschedCompactSpec : ChangeSpec := { name := "listschedCompact", fn := fun _ => fun
  | [d1, d2] => { results := [.lit (.bool true)], args := [d1, d2] }
  | _ => none }
def listschedCompactRow : OpenClaim := { program := "ytjddmekfeckphaagreat", sum := "4d81c942095140f2e39d1f38e0d9e83613736aeeea52c01f61b4f82b8f4c51d8", func := "jacquard/jacquardlaw32.ListschedCompact", spec := "listschedCompact", unfollowed := true, recurses := true, apart := false }
def ListschedCompactSaid : Prop := listschedCompactRow.holds Tryz.pinned (OpenSpec.ofChange listschedCompactSpec)

/-- ITS FALSE NEIGHBOUR: 'it returns false'. Refute it at one input. -/
def listschedCompactWrong : ChangeSpec := { name := "listschedCompact", fn := fun _ => fun
  | [d1, d2] => { results := [.lit (.bool false)], args := [d1, d2] }
  | _ => none }
def ListschedCompactWrongFalsely : Prop := listschedCompactRow.holds Tryz.pinned (OpenSpec.ofChange listschedCompactWrong)

/- THE SECOND FORM. 'bulk': how many values and letters a reading holds, each counted each time it is reached (what is shared counts as often as it is met; a slice's spare places count too). A statement '..UptoSaid' is the law's where the arguments, and the package variables that the reading takes, are together of bulk at most 1048576: NARROWER than '..Said'. Prove '..Said' where nothing that the law and all that it calls make is longer than what came in: it says more and counts as full. Else prove '..UptoSaid'. A law counts once. -/
mutual
def uptoBulk {H : Type} : DataW H → Nat
  | .lit (.string bytes) => bytes.length + 1
  | .lit _ => 1
  | .nil => 1
  | .ptr d => uptoBulk d + 1
  | .slice elems spare => uptoBulkAll elems + uptoBulkAll spare + 1
  | .agg parts => uptoBulkAll parts + 1
  | .iface _ d => uptoBulk d + 1
  | .map entries => uptoBulkEntries entries + 1
  | .held _ => 1
def uptoBulkAll {H : Type} : List (DataW H) → Nat
  | [] => 0
  | d :: r => uptoBulk d + uptoBulkAll r
def uptoBulkEntries {H : Type} : List (Lit × DataW H) → Nat
  | [] => 0
  | x :: r => uptoBulkEntry x + uptoBulkEntries r
def uptoBulkEntry {H : Type} : Lit × DataW H → Nat
  | (.string bytes, d) => bytes.length + uptoBulk d + 1
  | (_, d) => uptoBulk d + 1
 end
def uptoSmall : (H : Type) → List (DataW H) → Bool := fun _ ds => decide (uptoBulkAll ds ≤ 1048576)
def OpenSpec.upto (s : _root_.Go.ChangeSpec) : _root_.Go.OpenSpec := { _root_.Go.OpenSpec.ofChange s with cond := some uptoSmall }

/-- 'jacquardlaw32.ListschedLegal', WHERE WHAT IT READS IS OF BULK AT MOST 1048576: true; the input reads as it did. -/
def listschedLegalUptoRow : OpenClaim := { program := "ytjddmekfeckphaagreat", sum := "4d81c942095140f2e39d1f38e0d9e83613736aeeea52c01f61b4f82b8f4c51d8", func := "jacquard/jacquardlaw32.ListschedLegal", spec := "listschedLegal", unfollowed := true, recurses := true, apart := false, narrowed := true }
def ListschedLegalUptoSaid : Prop := listschedLegalUptoRow.holds Tryz.pinned (OpenSpec.upto listschedLegalSpec)

/-- 'jacquardlaw32.ListschedEarly', WHERE WHAT IT READS IS OF BULK AT MOST 1048576: true; the input reads as it did. -/
def listschedEarlyUptoRow : OpenClaim := { program := "ytjddmekfeckphaagreat", sum := "4d81c942095140f2e39d1f38e0d9e83613736aeeea52c01f61b4f82b8f4c51d8", func := "jacquard/jacquardlaw32.ListschedEarly", spec := "listschedEarly", unfollowed := true, recurses := true, apart := false, narrowed := true }
def ListschedEarlyUptoSaid : Prop := listschedEarlyUptoRow.holds Tryz.pinned (OpenSpec.upto listschedEarlySpec)

/-- 'jacquardlaw32.ListschedBounds', WHERE WHAT IT READS IS OF BULK AT MOST 1048576: true; the input reads as it did. -/
def listschedBoundsUptoRow : OpenClaim := { program := "ytjddmekfeckphaagreat", sum := "4d81c942095140f2e39d1f38e0d9e83613736aeeea52c01f61b4f82b8f4c51d8", func := "jacquard/jacquardlaw32.ListschedBounds", spec := "listschedBounds", unfollowed := true, recurses := true, apart := false, narrowed := true }
def ListschedBoundsUptoSaid : Prop := listschedBoundsUptoRow.holds Tryz.pinned (OpenSpec.upto listschedBoundsSpec)

/-- 'jacquardlaw32.ListschedCompact', WHERE WHAT IT READS IS OF BULK AT MOST 1048576: true; the input reads as it did. -/
def listschedCompactUptoRow : OpenClaim := { program := "ytjddmekfeckphaagreat", sum := "4d81c942095140f2e39d1f38e0d9e83613736aeeea52c01f61b4f82b8f4c51d8", func := "jacquard/jacquardlaw32.ListschedCompact", spec := "listschedCompact", unfollowed := true, recurses := true, apart := false, narrowed := true }
def ListschedCompactUptoSaid : Prop := listschedCompactUptoRow.holds Tryz.pinned (OpenSpec.upto listschedCompactSpec)

end Rows
end Go.Proofs.YtjddmekfeckphaaGreat
