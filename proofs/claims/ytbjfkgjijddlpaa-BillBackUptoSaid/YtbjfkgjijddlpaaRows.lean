/-
  No cell of these rows narrows 'for every input' (looked for: loops, veiled, ifaces, maps, wideKeys, modest, calm, conditions, laid).
  DERIVED. THE GIVEN ROWS OF THIS SEAT. 4 by the template 'for every input the law returns true; each argument reads behind the call as it read before'; 0 by the template 'total and deterministic' (their statements: YtbjfkgjijddlpaaTotals.lean).
  GIVEN WITH THE SEED: the statements are not yours to turn. If you find one false, say at which input.
  Laid BY PROGRAM, IN A SANDBOX (cutbox-rows.mjs): the forced cells as the released guide's own fill.sh prints them over the translation 7f5dcf28b2ccb7c1… (all of the seat's roots in one cut). By AI agents, Wed Nov 11 2026. No macro, syntax, notation, axiom, sorry.
-/
import Derived.Test.YtbjfkgjijddlpaaChecked
import GoSem.Claim
import GoSem.ClaimJoined
import GoSem.ClaimMapViews
import Derived.JoinedTies
import Derived.KernelRfl
namespace Go.Proofs.Ytbjfkgjijddlpaa
/- THE CELL 'sum', in the pinned program and in every row, IS THE sha256 OF THE DUMP (.gsa) THAT YtbjfkgjijddlpaaProg.lean LOADS. Nothing in Lean hashes anything: it is a label: what it is worth is what the hold of that sum in a sandbox is worth. -/
noncomputable def Try.pinned : Pinned := { name := "ytbjfkgjijddlpaa", sum := "7f5dcf28b2ccb7c14339f882c0d57fddfac444ef02815738ee580d36d56ff2a1", checked := Try.checked }
namespace Rows
def none {H : Type} : Left H := { results := [], args := [] }

/-- 'ostlerlaw15.BillFits': WHATEVER THE INPUT: true; the input reads as it did. -/
def billFitsSpec : ChangeSpec := { name := "billFits", fn := fun _ => fun
  | [d1, d2, d3] => { results := [.lit (.bool true)], args := [d1, d2, d3] }
  | _ => none }
def billFitsRow : OpenClaim := { program := "ytbjfkgjijddlpaa", sum := "7f5dcf28b2ccb7c14339f882c0d57fddfac444ef02815738ee580d36d56ff2a1", func := "ostler/ostlerlaw15.BillFits", spec := "billFits", unfollowed := true, recurses := true, apart := false }
def BillFitsSaid : Prop := billFitsRow.holds Try.pinned (OpenSpec.ofChange billFitsSpec)

/-- ITS FALSE NEIGHBOUR: 'it returns false'. Refute it at one input. -/
def billFitsWrong : ChangeSpec := { name := "billFits", fn := fun _ => fun
  | [d1, d2, d3] => { results := [.lit (.bool false)], args := [d1, d2, d3] }
  | _ => none }
def BillFitsWrongFalsely : Prop := billFitsRow.holds Try.pinned (OpenSpec.ofChange billFitsWrong)

/-- 'ostlerlaw15.BillMakes': WHATEVER THE INPUT: true; the input reads as it did. -/
def billMakesSpec : ChangeSpec := { name := "billMakes", fn := fun _ => fun
  | [d1, d2, d3] => { results := [.lit (.bool true)], args := [d1, d2, d3] }
  | _ => none }
def billMakesRow : OpenClaim := { program := "ytbjfkgjijddlpaa", sum := "7f5dcf28b2ccb7c14339f882c0d57fddfac444ef02815738ee580d36d56ff2a1", func := "ostler/ostlerlaw15.BillMakes", spec := "billMakes", inPlace := ["internal/abi.NoEscape", "internal/bytealg.MakeNoZero"], unfollowed := true, recurses := true, apart := false }
def BillMakesSaid : Prop := billMakesRow.holds Try.pinned (OpenSpec.ofChange billMakesSpec)

/-- ITS FALSE NEIGHBOUR: 'it returns false'. Refute it at one input. -/
def billMakesWrong : ChangeSpec := { name := "billMakes", fn := fun _ => fun
  | [d1, d2, d3] => { results := [.lit (.bool false)], args := [d1, d2, d3] }
  | _ => none }
def BillMakesWrongFalsely : Prop := billMakesRow.holds Try.pinned (OpenSpec.ofChange billMakesWrong)

/-- 'ostlerlaw15.BillReads': WHATEVER THE INPUT: true; the input reads as it did. -/
def billReadsSpec : ChangeSpec := { name := "billReads", fn := fun _ => fun
  | [d1, d2, d3] => { results := [.lit (.bool true)], args := [d1, d2, d3] }
  | _ => none }
def billReadsRow : OpenClaim := { program := "ytbjfkgjijddlpaa", sum := "7f5dcf28b2ccb7c14339f882c0d57fddfac444ef02815738ee580d36d56ff2a1", func := "ostler/ostlerlaw15.BillReads", spec := "billReads", inPlace := ["internal/abi.NoEscape", "internal/bytealg.MakeNoZero"], unfollowed := true, recurses := true, apart := false }
def BillReadsSaid : Prop := billReadsRow.holds Try.pinned (OpenSpec.ofChange billReadsSpec)

/-- ITS FALSE NEIGHBOUR: 'it returns false'. Refute it at one input. -/
def billReadsWrong : ChangeSpec := { name := "billReads", fn := fun _ => fun
  | [d1, d2, d3] => { results := [.lit (.bool false)], args := [d1, d2, d3] }
  | _ => none }
def BillReadsWrongFalsely : Prop := billReadsRow.holds Try.pinned (OpenSpec.ofChange billReadsWrong)

/-- 'ostlerlaw15.BillBack': WHATEVER THE INPUT: true; the input reads as it did. -/
def billBackSpec : ChangeSpec := { name := "billBack", fn := fun _ => fun
  | [d1, d2, d3] => { results := [.lit (.bool true)], args := [d1, d2, d3] }
  | _ => none }
def billBackRow : OpenClaim := { program := "ytbjfkgjijddlpaa", sum := "7f5dcf28b2ccb7c14339f882c0d57fddfac444ef02815738ee580d36d56ff2a1", func := "ostler/ostlerlaw15.BillBack", spec := "billBack", inPlace := ["internal/abi.NoEscape", "internal/bytealg.MakeNoZero"], unfollowed := true, recurses := true, apart := false }
def BillBackSaid : Prop := billBackRow.holds Try.pinned (OpenSpec.ofChange billBackSpec)

/-- ITS FALSE NEIGHBOUR: 'it returns false'. Refute it at one input. -/
def billBackWrong : ChangeSpec := { name := "billBack", fn := fun _ => fun
  | [d1, d2, d3] => { results := [.lit (.bool false)], args := [d1, d2, d3] }
  | _ => none }
def BillBackWrongFalsely : Prop := billBackRow.holds Try.pinned (OpenSpec.ofChange billBackWrong)

/- THE SECOND FORM. 'bulk': how many values and letters a reading holds, each counted each time it is reached (what is shared counts as often as it is met; a slice's spare places count too). A statement '..UptoSaid' is the law's where the arguments, and the package variables that the reading takes, are together of bulk at most 1048576: NARROWER than '..Said'. Prove '..Said' where nothing that the law and all that it calls make is longer than what came in: it says more and counts as full. Else prove '..UptoSaid'. A law counts once. -/
mutual
def uptoBulk {H : Type} : DataW H → Nat
  | .lit (.string bytes) => bytes.length + 1
  | .lit _ => 1
  | .nil => 1
  | .ptr d => uptoBulk d + 1
  | .slice elems spare => uptoBulkAll elems + uptoBulkAll spare + 1
  | .agg parts => uptoBulkAll parts + 1
  | .iface _ d => uptoBulk d + 1
  | .map entries => uptoBulkEntries entries + 1
  | .held _ => 1
def uptoBulkAll {H : Type} : List (DataW H) → Nat
  | [] => 0
  | d :: r => uptoBulk d + uptoBulkAll r
def uptoBulkEntries {H : Type} : List (Lit × DataW H) → Nat
  | [] => 0
  | x :: r => uptoBulkEntry x + uptoBulkEntries r
def uptoBulkEntry {H : Type} : Lit × DataW H → Nat
  | (.string bytes, d) => bytes.length + uptoBulk d + 1
  | (_, d) => uptoBulk d + 1
 end
def uptoSmall : (H : Type) → List (DataW H) → Bool := fun _ ds => decide (uptoBulkAll ds ≤ 1048576)
def OpenSpec.upto (s : _root_.Go.ChangeSpec) : _root_.Go.OpenSpec := { _root_.Go.OpenSpec.ofChange s with cond := some uptoSmall }

/-- 'ostlerlaw15.BillFits', WHERE WHAT IT READS IS OF BULK AT MOST 1048576: true; the input reads as it did. -/
def billFitsUptoRow : OpenClaim := { program := "ytbjfkgjijddlpaa", sum := "7f5dcf28b2ccb7c14339f882c0d57fddfac444ef02815738ee580d36d56ff2a1", func := "ostler/ostlerlaw15.BillFits", spec := "billFits", unfollowed := true, recurses := true, apart := false, narrowed := true }
def BillFitsUptoSaid : Prop := billFitsUptoRow.holds Try.pinned (OpenSpec.upto billFitsSpec)

/-- 'ostlerlaw15.BillMakes', WHERE WHAT IT READS IS OF BULK AT MOST 1048576: true; the input reads as it did. -/
def billMakesUptoRow : OpenClaim := { program := "ytbjfkgjijddlpaa", sum := "7f5dcf28b2ccb7c14339f882c0d57fddfac444ef02815738ee580d36d56ff2a1", func := "ostler/ostlerlaw15.BillMakes", spec := "billMakes", inPlace := ["internal/abi.NoEscape", "internal/bytealg.MakeNoZero"], unfollowed := true, recurses := true, apart := false, narrowed := true }
def BillMakesUptoSaid : Prop := billMakesUptoRow.holds Try.pinned (OpenSpec.upto billMakesSpec)

/-- 'ostlerlaw15.BillReads', WHERE WHAT IT READS IS OF BULK AT MOST 1048576: true; the input reads as it did. -/
def billReadsUptoRow : OpenClaim := { program := "ytbjfkgjijddlpaa", sum := "7f5dcf28b2ccb7c14339f882c0d57fddfac444ef02815738ee580d36d56ff2a1", func := "ostler/ostlerlaw15.BillReads", spec := "billReads", inPlace := ["internal/abi.NoEscape", "internal/bytealg.MakeNoZero"], unfollowed := true, recurses := true, apart := false, narrowed := true }
def BillReadsUptoSaid : Prop := billReadsUptoRow.holds Try.pinned (OpenSpec.upto billReadsSpec)

/-- 'ostlerlaw15.BillBack', WHERE WHAT IT READS IS OF BULK AT MOST 1048576: true; the input reads as it did. -/
def billBackUptoRow : OpenClaim := { program := "ytbjfkgjijddlpaa", sum := "7f5dcf28b2ccb7c14339f882c0d57fddfac444ef02815738ee580d36d56ff2a1", func := "ostler/ostlerlaw15.BillBack", spec := "billBack", inPlace := ["internal/abi.NoEscape", "internal/bytealg.MakeNoZero"], unfollowed := true, recurses := true, apart := false, narrowed := true }
def BillBackUptoSaid : Prop := billBackUptoRow.holds Try.pinned (OpenSpec.upto billBackSpec)

end Rows
end Go.Proofs.Ytbjfkgjijddlpaa
