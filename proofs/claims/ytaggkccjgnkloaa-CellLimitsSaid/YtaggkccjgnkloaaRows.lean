/-
  No cell of these rows narrows 'for every input' (looked for: loops, veiled, ifaces, maps, wideKeys, modest, calm, conditions, laid).
  DERIVED. THE GIVEN ROWS OF THIS SEAT. 3 by the template 'for every input the law returns true; each argument reads behind the call as it read before'; 0 by the template 'total and deterministic' (their statements: YtaggkccjgnkloaaTotals.lean).
  GIVEN WITH THE SEED: the statements are not yours to turn. If you find one false, say at which input.
  Laid BY PROGRAM, IN A SANDBOX (cutbox-rows.mjs): the forced cells as the released guide's own fill.sh prints them over the translation 17edc4744a23f826… (all of the seat's roots in one cut). By AI agents, Wed Nov 11 2026. No macro, syntax, notation, axiom, sorry.
-/
import Derived.Test.YtaggkccjgnkloaaChecked
import GoSem.Claim
import GoSem.ClaimJoined
import GoSem.ClaimMapViews
import Derived.JoinedTies
import Derived.KernelRfl
namespace Go.Proofs.Ytaggkccjgnkloaa
/- THE CELL 'sum', in the pinned program and in every row, IS THE sha256 OF THE DUMP (.gsa) THAT YtaggkccjgnkloaaProg.lean LOADS. Nothing in Lean hashes anything: it is a label: what it is worth is what the hold of that sum in a sandbox is worth. -/
noncomputable def Try.pinned : Pinned := { name := "ytaggkccjgnkloaa", sum := "17edc4744a23f82615d13315c481d5dd664c87b083e55000a5c70cfb639a2008", checked := Try.checked }
namespace Rows
def none {H : Type} : Left H := { results := [], args := [] }

/-- 'ostlerlaw04.CellLimits': WHATEVER THE INPUT: true; the input reads as it did. -/
def cellLimitsSpec : ChangeSpec := { name := "cellLimits", fn := fun _ => fun
  | [d1, d2] => { results := [.lit (.bool true)], args := [d1, d2] }
  | _ => none }
def cellLimitsRow : OpenClaim := { program := "ytaggkccjgnkloaa", sum := "17edc4744a23f82615d13315c481d5dd664c87b083e55000a5c70cfb639a2008", func := "ostler/ostlerlaw04.CellLimits", spec := "cellLimits", inPlace := ["internal/abi.NoEscape", "maps.clone"], unfollowed := true, recurses := true, apart := false }
def CellLimitsSaid : Prop := cellLimitsRow.holds Try.pinned (OpenSpec.ofChange cellLimitsSpec)

/-- ITS FALSE NEIGHBOUR: 'it returns false'. Refute it at one input. -/
def cellLimitsWrong : ChangeSpec := { name := "cellLimits", fn := fun _ => fun
  | [d1, d2] => { results := [.lit (.bool false)], args := [d1, d2] }
  | _ => none }
def CellLimitsWrongFalsely : Prop := cellLimitsRow.holds Try.pinned (OpenSpec.ofChange cellLimitsWrong)

/-- 'ostlerlaw04.CellNone': WHATEVER THE INPUT: true; the input reads as it did. -/
def cellNoneSpec : ChangeSpec := { name := "cellNone", fn := fun _ => fun
  | [d1, d2, d3] => { results := [.lit (.bool true)], args := [d1, d2, d3] }
  | _ => none }
def cellNoneRow : OpenClaim := { program := "ytaggkccjgnkloaa", sum := "17edc4744a23f82615d13315c481d5dd664c87b083e55000a5c70cfb639a2008", func := "ostler/ostlerlaw04.CellNone", spec := "cellNone", inPlace := ["internal/abi.NoEscape", "maps.clone"], unfollowed := true, recurses := true, apart := false }
def CellNoneSaid : Prop := cellNoneRow.holds Try.pinned (OpenSpec.ofChange cellNoneSpec)

/-- ITS FALSE NEIGHBOUR: 'it returns false'. Refute it at one input. -/
def cellNoneWrong : ChangeSpec := { name := "cellNone", fn := fun _ => fun
  | [d1, d2, d3] => { results := [.lit (.bool false)], args := [d1, d2, d3] }
  | _ => none }
def CellNoneWrongFalsely : Prop := cellNoneRow.holds Try.pinned (OpenSpec.ofChange cellNoneWrong)

/-- 'ostlerlaw04.CellCrashes': WHATEVER THE INPUT: true; the input reads as it did. -/
def cellCrashesSpec : ChangeSpec := { name := "cellCrashes", fn := fun _ => fun
  | [d1, d2, d3] => { results := [.lit (.bool true)], args := [d1, d2, d3] }
  | _ => none }
def cellCrashesRow : OpenClaim := { program := "ytaggkccjgnkloaa", sum := "17edc4744a23f82615d13315c481d5dd664c87b083e55000a5c70cfb639a2008", func := "ostler/ostlerlaw04.CellCrashes", spec := "cellCrashes", inPlace := ["internal/abi.NoEscape", "maps.clone"], unfollowed := true, recurses := true, apart := false }
def CellCrashesSaid : Prop := cellCrashesRow.holds Try.pinned (OpenSpec.ofChange cellCrashesSpec)

/-- ITS FALSE NEIGHBOUR: 'it returns false'. Refute it at one input. -/
def cellCrashesWrong : ChangeSpec := { name := "cellCrashes", fn := fun _ => fun
  | [d1, d2, d3] => { results := [.lit (.bool false)], args := [d1, d2, d3] }
  | _ => none }
def CellCrashesWrongFalsely : Prop := cellCrashesRow.holds Try.pinned (OpenSpec.ofChange cellCrashesWrong)

/- THE SECOND FORM. 'bulk': how many values and letters a reading holds, each counted each time it is reached (what is shared counts as often as it is met; a slice's spare places count too). A statement '..UptoSaid' is the law's where the arguments, and the package variables that the reading takes, are together of bulk at most 1048576: NARROWER than '..Said'. Prove '..Said' where nothing that the law and all that it calls make is longer than what came in: it says more and counts as full. Else prove '..UptoSaid'. A law counts once. -/
mutual
def uptoBulk {H : Type} : DataW H → Nat
  | .lit (.string bytes) => bytes.length + 1
  | .lit _ => 1
  | .nil => 1
  | .ptr d => uptoBulk d + 1
  | .slice elems spare => uptoBulkAll elems + uptoBulkAll spare + 1
  | .agg parts => uptoBulkAll parts + 1
  | .iface _ d => uptoBulk d + 1
  | .map entries => uptoBulkEntries entries + 1
  | .held _ => 1
def uptoBulkAll {H : Type} : List (DataW H) → Nat
  | [] => 0
  | d :: r => uptoBulk d + uptoBulkAll r
def uptoBulkEntries {H : Type} : List (Lit × DataW H) → Nat
  | [] => 0
  | x :: r => uptoBulkEntry x + uptoBulkEntries r
def uptoBulkEntry {H : Type} : Lit × DataW H → Nat
  | (.string bytes, d) => bytes.length + uptoBulk d + 1
  | (_, d) => uptoBulk d + 1
 end
def uptoSmall : (H : Type) → List (DataW H) → Bool := fun _ ds => decide (uptoBulkAll ds ≤ 1048576)
def OpenSpec.upto (s : _root_.Go.ChangeSpec) : _root_.Go.OpenSpec := { _root_.Go.OpenSpec.ofChange s with cond := some uptoSmall }

/-- 'ostlerlaw04.CellLimits', WHERE WHAT IT READS IS OF BULK AT MOST 1048576: true; the input reads as it did. -/
def cellLimitsUptoRow : OpenClaim := { program := "ytaggkccjgnkloaa", sum := "17edc4744a23f82615d13315c481d5dd664c87b083e55000a5c70cfb639a2008", func := "ostler/ostlerlaw04.CellLimits", spec := "cellLimits", inPlace := ["internal/abi.NoEscape", "maps.clone"], unfollowed := true, recurses := true, apart := false, narrowed := true }
def CellLimitsUptoSaid : Prop := cellLimitsUptoRow.holds Try.pinned (OpenSpec.upto cellLimitsSpec)

/-- 'ostlerlaw04.CellNone', WHERE WHAT IT READS IS OF BULK AT MOST 1048576: true; the input reads as it did. -/
def cellNoneUptoRow : OpenClaim := { program := "ytaggkccjgnkloaa", sum := "17edc4744a23f82615d13315c481d5dd664c87b083e55000a5c70cfb639a2008", func := "ostler/ostlerlaw04.CellNone", spec := "cellNone", inPlace := ["internal/abi.NoEscape", "maps.clone"], unfollowed := true, recurses := true, apart := false, narrowed := true }
def CellNoneUptoSaid : Prop := cellNoneUptoRow.holds Try.pinned (OpenSpec.upto cellNoneSpec)

/-- 'ostlerlaw04.CellCrashes', WHERE WHAT IT READS IS OF BULK AT MOST 1048576: true; the input reads as it did. -/
def cellCrashesUptoRow : OpenClaim := { program := "ytaggkccjgnkloaa", sum := "17edc4744a23f82615d13315c481d5dd664c87b083e55000a5c70cfb639a2008", func := "ostler/ostlerlaw04.CellCrashes", spec := "cellCrashes", inPlace := ["internal/abi.NoEscape", "maps.clone"], unfollowed := true, recurses := true, apart := false, narrowed := true }
def CellCrashesUptoSaid : Prop := cellCrashesUptoRow.holds Try.pinned (OpenSpec.upto cellCrashesSpec)

end Rows
end Go.Proofs.Ytaggkccjgnkloaa
