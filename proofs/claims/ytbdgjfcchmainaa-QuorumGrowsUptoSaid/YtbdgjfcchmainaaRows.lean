/-
  No cell of these rows narrows 'for every input' (looked for: loops, veiled, ifaces, maps, wideKeys, modest, calm, conditions, laid).
  DERIVED. THE GIVEN ROWS OF THIS SEAT. 3 by the template 'for every input the law returns true; each argument reads behind the call as it read before'; 0 by the template 'total and deterministic' (their statements: YtbdgjfcchmainaaTotals.lean).
  GIVEN WITH THE SEED: the statements are not yours to turn. If you find one false, say at which input.
  Laid BY PROGRAM, IN A SANDBOX (cutbox-rows.mjs): the forced cells as the released guide's own fill.sh prints them over the translation 026cee221ca7af6c… (all of the seat's roots in one cut). By AI agents, Wed Nov 11 2026. No macro, syntax, notation, axiom, sorry.
-/
import Derived.Test.YtbdgjfcchmainaaChecked
import GoSem.Claim
import GoSem.ClaimJoined
import GoSem.ClaimMapViews
import Derived.JoinedTies
import Derived.KernelRfl
namespace Go.Proofs.Ytbdgjfcchmainaa
/- THE CELL 'sum', in the pinned program and in every row, IS THE sha256 OF THE DUMP (.gsa) THAT YtbdgjfcchmainaaProg.lean LOADS. Nothing in Lean hashes anything: it is a label: what it is worth is what the hold of that sum in a sandbox is worth. -/
noncomputable def Try.pinned : Pinned := { name := "ytbdgjfcchmainaa", sum := "026cee221ca7af6cba3b889780c739ca0a992d42388031ea1105bafb72ce8874", checked := Try.checked }
namespace Rows
def none {H : Type} : Left H := { results := [], args := [] }

/-- 'ostlerlaw07.QuorumMakes': WHATEVER THE INPUT: true; the input reads as it did. -/
def quorumMakesSpec : ChangeSpec := { name := "quorumMakes", fn := fun _ => fun
  | [d1, d2, d3] => { results := [.lit (.bool true)], args := [d1, d2, d3] }
  | _ => none }
def quorumMakesRow : OpenClaim := { program := "ytbdgjfcchmainaa", sum := "026cee221ca7af6cba3b889780c739ca0a992d42388031ea1105bafb72ce8874", func := "ostler/ostlerlaw07.QuorumMakes", spec := "quorumMakes", inPlace := ["internal/abi.NoEscape"], unfollowed := true, recurses := true, apart := false }
def QuorumMakesSaid : Prop := quorumMakesRow.holds Try.pinned (OpenSpec.ofChange quorumMakesSpec)

/-- ITS FALSE NEIGHBOUR: 'it returns false'. Refute it at one input. -/
def quorumMakesWrong : ChangeSpec := { name := "quorumMakes", fn := fun _ => fun
  | [d1, d2, d3] => { results := [.lit (.bool false)], args := [d1, d2, d3] }
  | _ => none }
def QuorumMakesWrongFalsely : Prop := quorumMakesRow.holds Try.pinned (OpenSpec.ofChange quorumMakesWrong)

/-- 'ostlerlaw07.QuorumCounts': WHATEVER THE INPUT: true; the input reads as it did. -/
def quorumCountsSpec : ChangeSpec := { name := "quorumCounts", fn := fun _ => fun
  | [d1, d2, d3] => { results := [.lit (.bool true)], args := [d1, d2, d3] }
  | _ => none }
def quorumCountsRow : OpenClaim := { program := "ytbdgjfcchmainaa", sum := "026cee221ca7af6cba3b889780c739ca0a992d42388031ea1105bafb72ce8874", func := "ostler/ostlerlaw07.QuorumCounts", spec := "quorumCounts", inPlace := ["internal/abi.NoEscape"], unfollowed := true, recurses := true, apart := false }
def QuorumCountsSaid : Prop := quorumCountsRow.holds Try.pinned (OpenSpec.ofChange quorumCountsSpec)

/-- ITS FALSE NEIGHBOUR: 'it returns false'. Refute it at one input. -/
def quorumCountsWrong : ChangeSpec := { name := "quorumCounts", fn := fun _ => fun
  | [d1, d2, d3] => { results := [.lit (.bool false)], args := [d1, d2, d3] }
  | _ => none }
def QuorumCountsWrongFalsely : Prop := quorumCountsRow.holds Try.pinned (OpenSpec.ofChange quorumCountsWrong)

/-- 'ostlerlaw07.QuorumGrows': WHATEVER THE INPUT: true; the input reads as it did. -/
def quorumGrowsSpec : ChangeSpec := { name := "quorumGrows", fn := fun _ => fun
  | [d1, d2, d3] => { results := [.lit (.bool true)], args := [d1, d2, d3] }
  | _ => none }
def quorumGrowsRow : OpenClaim := { program := "ytbdgjfcchmainaa", sum := "026cee221ca7af6cba3b889780c739ca0a992d42388031ea1105bafb72ce8874", func := "ostler/ostlerlaw07.QuorumGrows", spec := "quorumGrows", inPlace := ["internal/abi.NoEscape"], unfollowed := true, recurses := true, apart := false }
def QuorumGrowsSaid : Prop := quorumGrowsRow.holds Try.pinned (OpenSpec.ofChange quorumGrowsSpec)

/-- ITS FALSE NEIGHBOUR: 'it returns false'. Refute it at one input. -/
def quorumGrowsWrong : ChangeSpec := { name := "quorumGrows", fn := fun _ => fun
  | [d1, d2, d3] => { results := [.lit (.bool false)], args := [d1, d2, d3] }
  | _ => none }
def QuorumGrowsWrongFalsely : Prop := quorumGrowsRow.holds Try.pinned (OpenSpec.ofChange quorumGrowsWrong)

/- THE SECOND FORM. 'bulk': how many values and letters a reading holds, each counted each time it is reached (what is shared counts as often as it is met; a slice's spare places count too). A statement '..UptoSaid' is the law's where the arguments, and the package variables that the reading takes, are together of bulk at most 1048576: NARROWER than '..Said'. Prove '..Said' where nothing that the law and all that it calls make is longer than what came in: it says more and counts as full. Else prove '..UptoSaid'. A law counts once. -/
mutual
def uptoBulk {H : Type} : DataW H → Nat
  | .lit (.string bytes) => bytes.length + 1
  | .lit _ => 1
  | .nil => 1
  | .ptr d => uptoBulk d + 1
  | .slice elems spare => uptoBulkAll elems + uptoBulkAll spare + 1
  | .agg parts => uptoBulkAll parts + 1
  | .iface _ d => uptoBulk d + 1
  | .map entries => uptoBulkEntries entries + 1
  | .held _ => 1
def uptoBulkAll {H : Type} : List (DataW H) → Nat
  | [] => 0
  | d :: r => uptoBulk d + uptoBulkAll r
def uptoBulkEntries {H : Type} : List (Lit × DataW H) → Nat
  | [] => 0
  | x :: r => uptoBulkEntry x + uptoBulkEntries r
def uptoBulkEntry {H : Type} : Lit × DataW H → Nat
  | (.string bytes, d) => bytes.length + uptoBulk d + 1
  | (_, d) => uptoBulk d + 1
 end
def uptoSmall : (H : Type) → List (DataW H) → Bool := fun _ ds => decide (uptoBulkAll ds ≤ 1048576)
def OpenSpec.upto (s : _root_.Go.ChangeSpec) : _root_.Go.OpenSpec := { _root_.Go.OpenSpec.ofChange s with cond := some uptoSmall }

/-- 'ostlerlaw07.QuorumMakes', WHERE WHAT IT READS IS OF BULK AT MOST 1048576: true; the input reads as it did. -/
def quorumMakesUptoRow : OpenClaim := { program := "ytbdgjfcchmainaa", sum := "026cee221ca7af6cba3b889780c739ca0a992d42388031ea1105bafb72ce8874", func := "ostler/ostlerlaw07.QuorumMakes", spec := "quorumMakes", inPlace := ["internal/abi.NoEscape"], unfollowed := true, recurses := true, apart := false, narrowed := true }
def QuorumMakesUptoSaid : Prop := quorumMakesUptoRow.holds Try.pinned (OpenSpec.upto quorumMakesSpec)

/-- 'ostlerlaw07.QuorumCounts', WHERE WHAT IT READS IS OF BULK AT MOST 1048576: true; the input reads as it did. -/
def quorumCountsUptoRow : OpenClaim := { program := "ytbdgjfcchmainaa", sum := "026cee221ca7af6cba3b889780c739ca0a992d42388031ea1105bafb72ce8874", func := "ostler/ostlerlaw07.QuorumCounts", spec := "quorumCounts", inPlace := ["internal/abi.NoEscape"], unfollowed := true, recurses := true, apart := false, narrowed := true }
def QuorumCountsUptoSaid : Prop := quorumCountsUptoRow.holds Try.pinned (OpenSpec.upto quorumCountsSpec)

/-- 'ostlerlaw07.QuorumGrows', WHERE WHAT IT READS IS OF BULK AT MOST 1048576: true; the input reads as it did. -/
def quorumGrowsUptoRow : OpenClaim := { program := "ytbdgjfcchmainaa", sum := "026cee221ca7af6cba3b889780c739ca0a992d42388031ea1105bafb72ce8874", func := "ostler/ostlerlaw07.QuorumGrows", spec := "quorumGrows", inPlace := ["internal/abi.NoEscape"], unfollowed := true, recurses := true, apart := false, narrowed := true }
def QuorumGrowsUptoSaid : Prop := quorumGrowsUptoRow.holds Try.pinned (OpenSpec.upto quorumGrowsSpec)

end Rows
end Go.Proofs.Ytbdgjfcchmainaa
