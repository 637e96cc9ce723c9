/-
  No cell of these rows narrows 'for every input' (looked for: loops, veiled, ifaces, maps, wideKeys, modest, calm, conditions, laid).
  DERIVED. THE GIVEN ROWS OF THIS SEAT. 5 by the template 'for every input the law returns true; each argument reads behind the call as it read before'; 0 by the template 'total and deterministic' (their statements: YthphefmkpcocdaaTotals.lean).
  GIVEN WITH THE SEED: the statements are not yours to turn. If you find one false, say at which input.
  Laid BY PROGRAM, IN A SANDBOX (cutbox-rows.mjs): the forced cells as the released guide's own fill.sh prints them over the translation 643be498dd85138a… (all of the seat's roots in one cut). By AI agents, Wed Nov 11 2026. No macro, syntax, notation, axiom, sorry.
-/
import Derived.Test.YthphefmkpcocdaaChecked
import GoSem.Claim
import GoSem.ClaimJoined
import GoSem.ClaimMapViews
import Derived.JoinedTies
import Derived.KernelRfl
namespace Go.Proofs.Ythphefmkpcocdaa
/- THE CELL 'sum', in the pinned program and in every row, IS THE sha256 OF THE DUMP (.gsa) THAT YthphefmkpcocdaaProg.lean LOADS. Nothing in Lean hashes anything: it is a label: what it is worth is what the hold of that sum in a sandbox is worth. -/
noncomputable def Try.pinned : Pinned := { name := "ythphefmkpcocdaa", sum := "643be498dd85138aca215a49b66aeb781f1f3d7f2f726c018ec2d27bd88c81ba", checked := Try.checked }
namespace Rows
def none {H : Type} : Left H := { results := [], args := [] }

/-- 'ostlerlaw08.TreeHashes': WHATEVER THE INPUT: true; the input reads as it did. -/
def treeHashesSpec : ChangeSpec := { name := "treeHashes", fn := fun _ => fun
  | [d1, d2] => { results := [.lit (.bool true)], args := [d1, d2] }
  | _ => none }
def treeHashesRow : OpenClaim := { program := "ythphefmkpcocdaa", sum := "643be498dd85138aca215a49b66aeb781f1f3d7f2f726c018ec2d27bd88c81ba", func := "ostler/ostlerlaw08.TreeHashes", spec := "treeHashes", recurses := true, apart := false }
def TreeHashesSaid : Prop := treeHashesRow.holds Try.pinned (OpenSpec.ofChange treeHashesSpec)

/-- ITS FALSE NEIGHBOUR: 'it returns false'. Refute it at one input. -/
def treeHashesWrong : ChangeSpec := { name := "treeHashes", fn := fun _ => fun
  | [d1, d2] => { results := [.lit (.bool false)], args := [d1, d2] }
  | _ => none }
def TreeHashesWrongFalsely : Prop := treeHashesRow.holds Try.pinned (OpenSpec.ofChange treeHashesWrong)

/-- 'ostlerlaw08.TreeIncluded': WHATEVER THE INPUT: true; the input reads as it did. -/
def treeIncludedSpec : ChangeSpec := { name := "treeIncluded", fn := fun _ => fun
  | [d1, d2] => { results := [.lit (.bool true)], args := [d1, d2] }
  | _ => none }
def treeIncludedRow : OpenClaim := { program := "ythphefmkpcocdaa", sum := "643be498dd85138aca215a49b66aeb781f1f3d7f2f726c018ec2d27bd88c81ba", func := "ostler/ostlerlaw08.TreeIncluded", spec := "treeIncluded", apart := false }
def TreeIncludedSaid : Prop := treeIncludedRow.holds Try.pinned (OpenSpec.ofChange treeIncludedSpec)

/-- ITS FALSE NEIGHBOUR: 'it returns false'. Refute it at one input. -/
def treeIncludedWrong : ChangeSpec := { name := "treeIncluded", fn := fun _ => fun
  | [d1, d2] => { results := [.lit (.bool false)], args := [d1, d2] }
  | _ => none }
def TreeIncludedWrongFalsely : Prop := treeIncludedRow.holds Try.pinned (OpenSpec.ofChange treeIncludedWrong)

/-- 'ostlerlaw08.TreeProofs': WHATEVER THE INPUT: true; the input reads as it did. -/
def treeProofsSpec : ChangeSpec := { name := "treeProofs", fn := fun _ => fun
  | [d1, d2, d3] => { results := [.lit (.bool true)], args := [d1, d2, d3] }
  | _ => none }
def treeProofsRow : OpenClaim := { program := "ythphefmkpcocdaa", sum := "643be498dd85138aca215a49b66aeb781f1f3d7f2f726c018ec2d27bd88c81ba", func := "ostler/ostlerlaw08.TreeProofs", spec := "treeProofs", recurses := true, apart := false }
def TreeProofsSaid : Prop := treeProofsRow.holds Try.pinned (OpenSpec.ofChange treeProofsSpec)

/-- ITS FALSE NEIGHBOUR: 'it returns false'. Refute it at one input. -/
def treeProofsWrong : ChangeSpec := { name := "treeProofs", fn := fun _ => fun
  | [d1, d2, d3] => { results := [.lit (.bool false)], args := [d1, d2, d3] }
  | _ => none }
def TreeProofsWrongFalsely : Prop := treeProofsRow.holds Try.pinned (OpenSpec.ofChange treeProofsWrong)

/-- 'ostlerlaw08.TreeAsked': WHATEVER THE INPUT: true; the input reads as it did. -/
def treeAskedSpec : ChangeSpec := { name := "treeAsked", fn := fun _ => fun
  | [d] => { results := [.lit (.bool true)], args := [d] }
  | _ => none }
def treeAskedRow : OpenClaim := { program := "ythphefmkpcocdaa", sum := "643be498dd85138aca215a49b66aeb781f1f3d7f2f726c018ec2d27bd88c81ba", func := "ostler/ostlerlaw08.TreeAsked", spec := "treeAsked", recurses := true, apart := false }
def TreeAskedSaid : Prop := treeAskedRow.holds Try.pinned (OpenSpec.ofChange treeAskedSpec)

/-- ITS FALSE NEIGHBOUR: 'it returns false'. Refute it at one input. -/
def treeAskedWrong : ChangeSpec := { name := "treeAsked", fn := fun _ => fun
  | [d] => { results := [.lit (.bool false)], args := [d] }
  | _ => none }
def TreeAskedWrongFalsely : Prop := treeAskedRow.holds Try.pinned (OpenSpec.ofChange treeAskedWrong)

/-- 'ostlerlaw08.TreeConsistent': WHATEVER THE INPUT: true; the input reads as it did. -/
def treeConsistentSpec : ChangeSpec := { name := "treeConsistent", fn := fun _ => fun
  | [d1, d2] => { results := [.lit (.bool true)], args := [d1, d2] }
  | _ => none }
def treeConsistentRow : OpenClaim := { program := "ythphefmkpcocdaa", sum := "643be498dd85138aca215a49b66aeb781f1f3d7f2f726c018ec2d27bd88c81ba", func := "ostler/ostlerlaw08.TreeConsistent", spec := "treeConsistent", apart := false }
def TreeConsistentSaid : Prop := treeConsistentRow.holds Try.pinned (OpenSpec.ofChange treeConsistentSpec)

/-- ITS FALSE NEIGHBOUR: 'it returns false'. Refute it at one input. -/
def treeConsistentWrong : ChangeSpec := { name := "treeConsistent", fn := fun _ => fun
  | [d1, d2] => { results := [.lit (.bool false)], args := [d1, d2] }
  | _ => none }
def TreeConsistentWrongFalsely : Prop := treeConsistentRow.holds Try.pinned (OpenSpec.ofChange treeConsistentWrong)

/- THE SECOND FORM. 'bulk': how many values and letters a reading holds, each counted each time it is reached (what is shared counts as often as it is met; a slice's spare places count too). A statement '..UptoSaid' is the law's where the arguments, and the package variables that the reading takes, are together of bulk at most 1048576: NARROWER than '..Said'. Prove '..Said' where nothing that the law and all that it calls make is longer than what came in: it says more and counts as full. Else prove '..UptoSaid'. A law counts once. -/
mutual
def uptoBulk {H : Type} : DataW H → Nat
  | .lit (.string bytes) => bytes.length + 1
  | .lit _ => 1
  | .nil => 1
  | .ptr d => uptoBulk d + 1
  | .slice elems spare => uptoBulkAll elems + uptoBulkAll spare + 1
  | .agg parts => uptoBulkAll parts + 1
  | .iface _ d => uptoBulk d + 1
  | .map entries => uptoBulkEntries entries + 1
  | .held _ => 1
def uptoBulkAll {H : Type} : List (DataW H) → Nat
  | [] => 0
  | d :: r => uptoBulk d + uptoBulkAll r
def uptoBulkEntries {H : Type} : List (Lit × DataW H) → Nat
  | [] => 0
  | x :: r => uptoBulkEntry x + uptoBulkEntries r
def uptoBulkEntry {H : Type} : Lit × DataW H → Nat
  | (.string bytes, d) => bytes.length + uptoBulk d + 1
  | (_, d) => uptoBulk d + 1
 end
def uptoSmall : (H : Type) → List (DataW H) → Bool := fun _ ds => decide (uptoBulkAll ds ≤ 1048576)
def OpenSpec.upto (s : _root_.Go.ChangeSpec) : _root_.Go.OpenSpec := { _root_.Go.OpenSpec.ofChange s with cond := some uptoSmall }

/-- 'ostlerlaw08.TreeHashes', WHERE WHAT IT READS IS OF BULK AT MOST 1048576: true; the input reads as it did. -/
def treeHashesUptoRow : OpenClaim := { program := "ythphefmkpcocdaa", sum := "643be498dd85138aca215a49b66aeb781f1f3d7f2f726c018ec2d27bd88c81ba", func := "ostler/ostlerlaw08.TreeHashes", spec := "treeHashes", recurses := true, apart := false, narrowed := true }
def TreeHashesUptoSaid : Prop := treeHashesUptoRow.holds Try.pinned (OpenSpec.upto treeHashesSpec)

/-- 'ostlerlaw08.TreeIncluded', WHERE WHAT IT READS IS OF BULK AT MOST 1048576: true; the input reads as it did. -/
def treeIncludedUptoRow : OpenClaim := { program := "ythphefmkpcocdaa", sum := "643be498dd85138aca215a49b66aeb781f1f3d7f2f726c018ec2d27bd88c81ba", func := "ostler/ostlerlaw08.TreeIncluded", spec := "treeIncluded", apart := false, narrowed := true }
def TreeIncludedUptoSaid : Prop := treeIncludedUptoRow.holds Try.pinned (OpenSpec.upto treeIncludedSpec)

/-- 'ostlerlaw08.TreeProofs', WHERE WHAT IT READS IS OF BULK AT MOST 1048576: true; the input reads as it did. -/
def treeProofsUptoRow : OpenClaim := { program := "ythphefmkpcocdaa", sum := "643be498dd85138aca215a49b66aeb781f1f3d7f2f726c018ec2d27bd88c81ba", func := "ostler/ostlerlaw08.TreeProofs", spec := "treeProofs", recurses := true, apart := false, narrowed := true }
def TreeProofsUptoSaid : Prop := treeProofsUptoRow.holds Try.pinned (OpenSpec.upto treeProofsSpec)

/-- 'ostlerlaw08.TreeAsked', WHERE WHAT IT READS IS OF BULK AT MOST 1048576: true; the input reads as it did. -/
def treeAskedUptoRow : OpenClaim := { program := "ythphefmkpcocdaa", sum := "643be498dd85138aca215a49b66aeb781f1f3d7f2f726c018ec2d27bd88c81ba", func := "ostler/ostlerlaw08.TreeAsked", spec := "treeAsked", recurses := true, apart := false, narrowed := true }
def TreeAskedUptoSaid : Prop := treeAskedUptoRow.holds Try.pinned (OpenSpec.upto treeAskedSpec)

/-- 'ostlerlaw08.TreeConsistent', WHERE WHAT IT READS IS OF BULK AT MOST 1048576: true; the input reads as it did. -/
def treeConsistentUptoRow : OpenClaim := { program := "ythphefmkpcocdaa", sum := "643be498dd85138aca215a49b66aeb781f1f3d7f2f726c018ec2d27bd88c81ba", func := "ostler/ostlerlaw08.TreeConsistent", spec := "treeConsistent", apart := false, narrowed := true }
def TreeConsistentUptoSaid : Prop := treeConsistentUptoRow.holds Try.pinned (OpenSpec.upto treeConsistentSpec)

end Rows
end Go.Proofs.Ythphefmkpcocdaa
