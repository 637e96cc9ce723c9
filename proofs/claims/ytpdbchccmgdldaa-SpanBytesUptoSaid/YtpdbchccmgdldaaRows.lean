/-
  No cell of these rows narrows 'for every input' (looked for: loops, veiled, ifaces, maps, wideKeys, modest, calm, conditions, laid).
  DERIVED. THE GIVEN ROWS OF THIS SEAT. 5 by the template 'for every input the law returns true; each argument reads behind the call as it read before'; 0 by the template 'total and deterministic' (their statements: YtpdbchccmgdldaaTotals.lean).
  GIVEN WITH THE SEED: the statements are not yours to turn. If you find one false, say at which input.
  Laid BY PROGRAM, IN A SANDBOX (cutbox-rows.mjs): the forced cells as the released guide's own fill.sh prints them over the translation 0de667fc5951ed79… (all of the seat's roots in one cut). By AI agents, Wed Nov 11 2026. No macro, syntax, notation, axiom, sorry.
-/
import Derived.Test.YtpdbchccmgdldaaChecked
import GoSem.Claim
import GoSem.ClaimJoined
import GoSem.ClaimMapViews
import Derived.JoinedTies
import Derived.KernelRfl
namespace Go.Proofs.Ytpdbchccmgdldaa
/- THE CELL 'sum', in the pinned program and in every row, IS THE sha256 OF THE DUMP (.gsa) THAT YtpdbchccmgdldaaProg.lean LOADS. Nothing in Lean hashes anything: it is a label: what it is worth is what the hold of that sum in a sandbox is worth. -/
noncomputable def Try.pinned : Pinned := { name := "ytpdbchccmgdldaa", sum := "0de667fc5951ed7991b273987fed4bc8972aa3877d4bb11a879f5b276e95dacd", checked := Try.checked }
namespace Rows
def none {H : Type} : Left H := { results := [], args := [] }

/-- 'ostlerlaw09.SpanGrows': WHATEVER THE INPUT: true; the input reads as it did. -/
def spanGrowsSpec : ChangeSpec := { name := "spanGrows", fn := fun _ => fun
  | [d1, d2] => { results := [.lit (.bool true)], args := [d1, d2] }
  | _ => none }
def spanGrowsRow : OpenClaim := { program := "ytpdbchccmgdldaa", sum := "0de667fc5951ed7991b273987fed4bc8972aa3877d4bb11a879f5b276e95dacd", func := "ostler/ostlerlaw09.SpanGrows", spec := "spanGrows", unfollowed := true, recurses := true, apart := false }
def SpanGrowsSaid : Prop := spanGrowsRow.holds Try.pinned (OpenSpec.ofChange spanGrowsSpec)

/-- ITS FALSE NEIGHBOUR: 'it returns false'. Refute it at one input. -/
def spanGrowsWrong : ChangeSpec := { name := "spanGrows", fn := fun _ => fun
  | [d1, d2] => { results := [.lit (.bool false)], args := [d1, d2] }
  | _ => none }
def SpanGrowsWrongFalsely : Prop := spanGrowsRow.holds Try.pinned (OpenSpec.ofChange spanGrowsWrong)

/-- 'ostlerlaw09.SpanProves': WHATEVER THE INPUT: true; the input reads as it did. -/
def spanProvesSpec : ChangeSpec := { name := "spanProves", fn := fun _ => fun
  | [d1, d2] => { results := [.lit (.bool true)], args := [d1, d2] }
  | _ => none }
def spanProvesRow : OpenClaim := { program := "ytpdbchccmgdldaa", sum := "0de667fc5951ed7991b273987fed4bc8972aa3877d4bb11a879f5b276e95dacd", func := "ostler/ostlerlaw09.SpanProves", spec := "spanProves", unfollowed := true, recurses := true, apart := false }
def SpanProvesSaid : Prop := spanProvesRow.holds Try.pinned (OpenSpec.ofChange spanProvesSpec)

/-- ITS FALSE NEIGHBOUR: 'it returns false'. Refute it at one input. -/
def spanProvesWrong : ChangeSpec := { name := "spanProves", fn := fun _ => fun
  | [d1, d2] => { results := [.lit (.bool false)], args := [d1, d2] }
  | _ => none }
def SpanProvesWrongFalsely : Prop := spanProvesRow.holds Try.pinned (OpenSpec.ofChange spanProvesWrong)

/-- 'ostlerlaw09.SpanLoads': WHATEVER THE INPUT: true; the input reads as it did. -/
def spanLoadsSpec : ChangeSpec := { name := "spanLoads", fn := fun _ => fun
  | [d1, d2, d3] => { results := [.lit (.bool true)], args := [d1, d2, d3] }
  | _ => none }
def spanLoadsRow : OpenClaim := { program := "ytpdbchccmgdldaa", sum := "0de667fc5951ed7991b273987fed4bc8972aa3877d4bb11a879f5b276e95dacd", func := "ostler/ostlerlaw09.SpanLoads", spec := "spanLoads", unfollowed := true, recurses := true, apart := false }
def SpanLoadsSaid : Prop := spanLoadsRow.holds Try.pinned (OpenSpec.ofChange spanLoadsSpec)

/-- ITS FALSE NEIGHBOUR: 'it returns false'. Refute it at one input. -/
def spanLoadsWrong : ChangeSpec := { name := "spanLoads", fn := fun _ => fun
  | [d1, d2, d3] => { results := [.lit (.bool false)], args := [d1, d2, d3] }
  | _ => none }
def SpanLoadsWrongFalsely : Prop := spanLoadsRow.holds Try.pinned (OpenSpec.ofChange spanLoadsWrong)

/-- 'ostlerlaw09.SpanNone': WHATEVER THE INPUT: true; the input reads as it did. -/
def spanNoneSpec : ChangeSpec := { name := "spanNone", fn := fun _ => fun
  | [d] => { results := [.lit (.bool true)], args := [d] }
  | _ => none }
def spanNoneRow : OpenClaim := { program := "ytpdbchccmgdldaa", sum := "0de667fc5951ed7991b273987fed4bc8972aa3877d4bb11a879f5b276e95dacd", func := "ostler/ostlerlaw09.SpanNone", spec := "spanNone", unfollowed := true, recurses := true, apart := false }
def SpanNoneSaid : Prop := spanNoneRow.holds Try.pinned (OpenSpec.ofChange spanNoneSpec)

/-- ITS FALSE NEIGHBOUR: 'it returns false'. Refute it at one input. -/
def spanNoneWrong : ChangeSpec := { name := "spanNone", fn := fun _ => fun
  | [d] => { results := [.lit (.bool false)], args := [d] }
  | _ => none }
def SpanNoneWrongFalsely : Prop := spanNoneRow.holds Try.pinned (OpenSpec.ofChange spanNoneWrong)

/-- 'ostlerlaw09.SpanBytes': WHATEVER THE INPUT: true; the input reads as it did. -/
def spanBytesSpec : ChangeSpec := { name := "spanBytes", fn := fun _ => fun
  | [d1, d2] => { results := [.lit (.bool true)], args := [d1, d2] }
  | _ => none }
def spanBytesRow : OpenClaim := { program := "ytpdbchccmgdldaa", sum := "0de667fc5951ed7991b273987fed4bc8972aa3877d4bb11a879f5b276e95dacd", func := "ostler/ostlerlaw09.SpanBytes", spec := "spanBytes", unfollowed := true, recurses := true, apart := false }
def SpanBytesSaid : Prop := spanBytesRow.holds Try.pinned (OpenSpec.ofChange spanBytesSpec)

/-- ITS FALSE NEIGHBOUR: 'it returns false'. Refute it at one input. -/
def spanBytesWrong : ChangeSpec := { name := "spanBytes", fn := fun _ => fun
  | [d1, d2] => { results := [.lit (.bool false)], args := [d1, d2] }
  | _ => none }
def SpanBytesWrongFalsely : Prop := spanBytesRow.holds Try.pinned (OpenSpec.ofChange spanBytesWrong)

/- THE SECOND FORM. 'bulk': how many values and letters a reading holds, each counted each time it is reached (what is shared counts as often as it is met; a slice's spare places count too). A statement '..UptoSaid' is the law's where the arguments, and the package variables that the reading takes, are together of bulk at most 1048576: NARROWER than '..Said'. Prove '..Said' where nothing that the law and all that it calls make is longer than what came in: it says more and counts as full. Else prove '..UptoSaid'. A law counts once. -/
mutual
def uptoBulk {H : Type} : DataW H → Nat
  | .lit (.string bytes) => bytes.length + 1
  | .lit _ => 1
  | .nil => 1
  | .ptr d => uptoBulk d + 1
  | .slice elems spare => uptoBulkAll elems + uptoBulkAll spare + 1
  | .agg parts => uptoBulkAll parts + 1
  | .iface _ d => uptoBulk d + 1
  | .map entries => uptoBulkEntries entries + 1
  | .held _ => 1
def uptoBulkAll {H : Type} : List (DataW H) → Nat
  | [] => 0
  | d :: r => uptoBulk d + uptoBulkAll r
def uptoBulkEntries {H : Type} : List (Lit × DataW H) → Nat
  | [] => 0
  | x :: r => uptoBulkEntry x + uptoBulkEntries r
def uptoBulkEntry {H : Type} : Lit × DataW H → Nat
  | (.string bytes, d) => bytes.length + uptoBulk d + 1
  | (_, d) => uptoBulk d + 1
 end
def uptoSmall : (H : Type) → List (DataW H) → Bool := fun _ ds => decide (uptoBulkAll ds ≤ 1048576)
def OpenSpec.upto (s : _root_.Go.ChangeSpec) : _root_.Go.OpenSpec := { _root_.Go.OpenSpec.ofChange s with cond := some uptoSmall }

/-- 'ostlerlaw09.SpanGrows', WHERE WHAT IT READS IS OF BULK AT MOST 1048576: true; the input reads as it did. -/
def spanGrowsUptoRow : OpenClaim := { program := "ytpdbchccmgdldaa", sum := "0de667fc5951ed7991b273987fed4bc8972aa3877d4bb11a879f5b276e95dacd", func := "ostler/ostlerlaw09.SpanGrows", spec := "spanGrows", unfollowed := true, recurses := true, apart := false, narrowed := true }
def SpanGrowsUptoSaid : Prop := spanGrowsUptoRow.holds Try.pinned (OpenSpec.upto spanGrowsSpec)

/-- 'ostlerlaw09.SpanProves', WHERE WHAT IT READS IS OF BULK AT MOST 1048576: true; the input reads as it did. -/
def spanProvesUptoRow : OpenClaim := { program := "ytpdbchccmgdldaa", sum := "0de667fc5951ed7991b273987fed4bc8972aa3877d4bb11a879f5b276e95dacd", func := "ostler/ostlerlaw09.SpanProves", spec := "spanProves", unfollowed := true, recurses := true, apart := false, narrowed := true }
def SpanProvesUptoSaid : Prop := spanProvesUptoRow.holds Try.pinned (OpenSpec.upto spanProvesSpec)

/-- 'ostlerlaw09.SpanLoads', WHERE WHAT IT READS IS OF BULK AT MOST 1048576: true; the input reads as it did. -/
def spanLoadsUptoRow : OpenClaim := { program := "ytpdbchccmgdldaa", sum := "0de667fc5951ed7991b273987fed4bc8972aa3877d4bb11a879f5b276e95dacd", func := "ostler/ostlerlaw09.SpanLoads", spec := "spanLoads", unfollowed := true, recurses := true, apart := false, narrowed := true }
def SpanLoadsUptoSaid : Prop := spanLoadsUptoRow.holds Try.pinned (OpenSpec.upto spanLoadsSpec)

/-- 'ostlerlaw09.SpanNone', WHERE WHAT IT READS IS OF BULK AT MOST 1048576: true; the input reads as it did. -/
def spanNoneUptoRow : OpenClaim := { program := "ytpdbchccmgdldaa", sum := "0de667fc5951ed7991b273987fed4bc8972aa3877d4bb11a879f5b276e95dacd", func := "ostler/ostlerlaw09.SpanNone", spec := "spanNone", unfollowed := true, recurses := true, apart := false, narrowed := true }
def SpanNoneUptoSaid : Prop := spanNoneUptoRow.holds Try.pinned (OpenSpec.upto spanNoneSpec)

/-- 'ostlerlaw09.SpanBytes', WHERE WHAT IT READS IS OF BULK AT MOST 1048576: true; the input reads as it did. -/
def spanBytesUptoRow : OpenClaim := { program := "ytpdbchccmgdldaa", sum := "0de667fc5951ed7991b273987fed4bc8972aa3877d4bb11a879f5b276e95dacd", func := "ostler/ostlerlaw09.SpanBytes", spec := "spanBytes", unfollowed := true, recurses := true, apart := false, narrowed := true }
def SpanBytesUptoSaid : Prop := spanBytesUptoRow.holds Try.pinned (OpenSpec.upto spanBytesSpec)

end Rows
end Go.Proofs.Ytpdbchccmgdldaa
