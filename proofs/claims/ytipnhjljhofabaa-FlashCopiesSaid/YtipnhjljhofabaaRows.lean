/-
  No cell of these rows narrows 'for every input' (looked for: loops, veiled, ifaces, maps, wideKeys, modest, calm, conditions, laid).
  DERIVED. THE GIVEN ROWS OF THIS SEAT. 6 by the template 'for every input the law returns true; each argument reads behind the call as it read before'; 0 by the template 'total and deterministic' (their statements: YtipnhjljhofabaaTotals.lean).
  GIVEN WITH THE SEED: the statements are not yours to turn. If you find one false, say at which input.
  Laid BY PROGRAM, IN A SANDBOX (cutbox-rows.mjs): the forced cells as the released guide's own fill.sh prints them over the translation 224cd23b410ba858… (all of the seat's roots in one cut). By AI agents, Wed Nov 11 2026. No macro, syntax, notation, axiom, sorry.
-/
import Derived.Test.YtipnhjljhofabaaChecked
import GoSem.Claim
import GoSem.ClaimJoined
import GoSem.ClaimMapViews
import Derived.JoinedTies
import Derived.KernelRfl
namespace Go.Proofs.Ytipnhjljhofabaa
/- THE CELL 'sum', in the pinned program and in every row, IS THE sha256 OF THE DUMP (.gsa) THAT YtipnhjljhofabaaProg.lean LOADS. Nothing in Lean hashes anything: it is a label: what it is worth is what the hold of that sum in a sandbox is worth. -/
noncomputable def Try.pinned : Pinned := { name := "ytipnhjljhofabaa", sum := "224cd23b410ba85847883a06a762043e0df210f41e2ce36ea76d9734609f4795", checked := Try.checked }
namespace Rows
def none {H : Type} : Left H := { results := [], args := [] }

/-- 'ostlerlaw03.FlashTears': WHATEVER THE INPUT: true; the input reads as it did. -/
def flashTearsSpec : ChangeSpec := { name := "flashTears", fn := fun _ => fun
  | [d1, d2, d3] => { results := [.lit (.bool true)], args := [d1, d2, d3] }
  | _ => none }
def flashTearsRow : OpenClaim := { program := "ytipnhjljhofabaa", sum := "224cd23b410ba85847883a06a762043e0df210f41e2ce36ea76d9734609f4795", func := "ostler/ostlerlaw03.FlashTears", spec := "flashTears", apart := false }
def FlashTearsSaid : Prop := flashTearsRow.holds Try.pinned (OpenSpec.ofChange flashTearsSpec)

/-- ITS FALSE NEIGHBOUR: 'it returns false'. Refute it at one input. -/
def flashTearsWrong : ChangeSpec := { name := "flashTears", fn := fun _ => fun
  | [d1, d2, d3] => { results := [.lit (.bool false)], args := [d1, d2, d3] }
  | _ => none }
def FlashTearsWrongFalsely : Prop := flashTearsRow.holds Try.pinned (OpenSpec.ofChange flashTearsWrong)

/-- 'ostlerlaw03.FlashFalls': WHATEVER THE INPUT: true; the input reads as it did. -/
def flashFallsSpec : ChangeSpec := { name := "flashFalls", fn := fun _ => fun
  | [d1, d2] => { results := [.lit (.bool true)], args := [d1, d2] }
  | _ => none }
def flashFallsRow : OpenClaim := { program := "ytipnhjljhofabaa", sum := "224cd23b410ba85847883a06a762043e0df210f41e2ce36ea76d9734609f4795", func := "ostler/ostlerlaw03.FlashFalls", spec := "flashFalls", apart := false }
def FlashFallsSaid : Prop := flashFallsRow.holds Try.pinned (OpenSpec.ofChange flashFallsSpec)

/-- ITS FALSE NEIGHBOUR: 'it returns false'. Refute it at one input. -/
def flashFallsWrong : ChangeSpec := { name := "flashFalls", fn := fun _ => fun
  | [d1, d2] => { results := [.lit (.bool false)], args := [d1, d2] }
  | _ => none }
def FlashFallsWrongFalsely : Prop := flashFallsRow.holds Try.pinned (OpenSpec.ofChange flashFallsWrong)

/-- 'ostlerlaw03.FlashKeeps': WHATEVER THE INPUT: true; the input reads as it did. -/
def flashKeepsSpec : ChangeSpec := { name := "flashKeeps", fn := fun _ => fun
  | [d1, d2, d3] => { results := [.lit (.bool true)], args := [d1, d2, d3] }
  | _ => none }
def flashKeepsRow : OpenClaim := { program := "ytipnhjljhofabaa", sum := "224cd23b410ba85847883a06a762043e0df210f41e2ce36ea76d9734609f4795", func := "ostler/ostlerlaw03.FlashKeeps", spec := "flashKeeps", apart := false }
def FlashKeepsSaid : Prop := flashKeepsRow.holds Try.pinned (OpenSpec.ofChange flashKeepsSpec)

/-- ITS FALSE NEIGHBOUR: 'it returns false'. Refute it at one input. -/
def flashKeepsWrong : ChangeSpec := { name := "flashKeeps", fn := fun _ => fun
  | [d1, d2, d3] => { results := [.lit (.bool false)], args := [d1, d2, d3] }
  | _ => none }
def FlashKeepsWrongFalsely : Prop := flashKeepsRow.holds Try.pinned (OpenSpec.ofChange flashKeepsWrong)

/-- 'ostlerlaw03.FlashPlays': WHATEVER THE INPUT: true; the input reads as it did. -/
def flashPlaysSpec : ChangeSpec := { name := "flashPlays", fn := fun _ => fun
  | [d1, d2] => { results := [.lit (.bool true)], args := [d1, d2] }
  | _ => none }
def flashPlaysRow : OpenClaim := { program := "ytipnhjljhofabaa", sum := "224cd23b410ba85847883a06a762043e0df210f41e2ce36ea76d9734609f4795", func := "ostler/ostlerlaw03.FlashPlays", spec := "flashPlays", apart := false }
def FlashPlaysSaid : Prop := flashPlaysRow.holds Try.pinned (OpenSpec.ofChange flashPlaysSpec)

/-- ITS FALSE NEIGHBOUR: 'it returns false'. Refute it at one input. -/
def flashPlaysWrong : ChangeSpec := { name := "flashPlays", fn := fun _ => fun
  | [d1, d2] => { results := [.lit (.bool false)], args := [d1, d2] }
  | _ => none }
def FlashPlaysWrongFalsely : Prop := flashPlaysRow.holds Try.pinned (OpenSpec.ofChange flashPlaysWrong)

/-- 'ostlerlaw03.FlashCopies': WHATEVER THE INPUT: true; the input reads as it did. -/
def flashCopiesSpec : ChangeSpec := { name := "flashCopies", fn := fun _ => fun
  | [d1, d2, d3] => { results := [.lit (.bool true)], args := [d1, d2, d3] }
  | _ => none }
def flashCopiesRow : OpenClaim := { program := "ytipnhjljhofabaa", sum := "224cd23b410ba85847883a06a762043e0df210f41e2ce36ea76d9734609f4795", func := "ostler/ostlerlaw03.FlashCopies", spec := "flashCopies", apart := false }
def FlashCopiesSaid : Prop := flashCopiesRow.holds Try.pinned (OpenSpec.ofChange flashCopiesSpec)

/-- ITS FALSE NEIGHBOUR: 'it returns false'. Refute it at one input. -/
def flashCopiesWrong : ChangeSpec := { name := "flashCopies", fn := fun _ => fun
  | [d1, d2, d3] => { results := [.lit (.bool false)], args := [d1, d2, d3] }
  | _ => none }
def FlashCopiesWrongFalsely : Prop := flashCopiesRow.holds Try.pinned (OpenSpec.ofChange flashCopiesWrong)

/-- 'ostlerlaw03.FlashNone': WHATEVER THE INPUT: true; the input reads as it did. -/
def flashNoneSpec : ChangeSpec := { name := "flashNone", fn := fun _ => fun
  | [d] => { results := [.lit (.bool true)], args := [d] }
  | _ => none }
def flashNoneRow : OpenClaim := { program := "ytipnhjljhofabaa", sum := "224cd23b410ba85847883a06a762043e0df210f41e2ce36ea76d9734609f4795", func := "ostler/ostlerlaw03.FlashNone", spec := "flashNone", apart := false }
def FlashNoneSaid : Prop := flashNoneRow.holds Try.pinned (OpenSpec.ofChange flashNoneSpec)

/-- ITS FALSE NEIGHBOUR: 'it returns false'. Refute it at one input. -/
def flashNoneWrong : ChangeSpec := { name := "flashNone", fn := fun _ => fun
  | [d] => { results := [.lit (.bool false)], args := [d] }
  | _ => none }
def FlashNoneWrongFalsely : Prop := flashNoneRow.holds Try.pinned (OpenSpec.ofChange flashNoneWrong)

/- THE SECOND FORM. 'bulk': how many values and letters a reading holds, each counted each time it is reached (what is shared counts as often as it is met; a slice's spare places count too). A statement '..UptoSaid' is the law's where the arguments, and the package variables that the reading takes, are together of bulk at most 1048576: NARROWER than '..Said'. Prove '..Said' where nothing that the law and all that it calls make is longer than what came in: it says more and counts as full. Else prove '..UptoSaid'. A law counts once. -/
mutual
def uptoBulk {H : Type} : DataW H → Nat
  | .lit (.string bytes) => bytes.length + 1
  | .lit _ => 1
  | .nil => 1
  | .ptr d => uptoBulk d + 1
  | .slice elems spare => uptoBulkAll elems + uptoBulkAll spare + 1
  | .agg parts => uptoBulkAll parts + 1
  | .iface _ d => uptoBulk d + 1
  | .map entries => uptoBulkEntries entries + 1
  | .held _ => 1
def uptoBulkAll {H : Type} : List (DataW H) → Nat
  | [] => 0
  | d :: r => uptoBulk d + uptoBulkAll r
def uptoBulkEntries {H : Type} : List (Lit × DataW H) → Nat
  | [] => 0
  | x :: r => uptoBulkEntry x + uptoBulkEntries r
def uptoBulkEntry {H : Type} : Lit × DataW H → Nat
  | (.string bytes, d) => bytes.length + uptoBulk d + 1
  | (_, d) => uptoBulk d + 1
 end
def uptoSmall : (H : Type) → List (DataW H) → Bool := fun _ ds => decide (uptoBulkAll ds ≤ 1048576)
def OpenSpec.upto (s : _root_.Go.ChangeSpec) : _root_.Go.OpenSpec := { _root_.Go.OpenSpec.ofChange s with cond := some uptoSmall }

/-- 'ostlerlaw03.FlashTears', WHERE WHAT IT READS IS OF BULK AT MOST 1048576: true; the input reads as it did. -/
def flashTearsUptoRow : OpenClaim := { program := "ytipnhjljhofabaa", sum := "224cd23b410ba85847883a06a762043e0df210f41e2ce36ea76d9734609f4795", func := "ostler/ostlerlaw03.FlashTears", spec := "flashTears", apart := false, narrowed := true }
def FlashTearsUptoSaid : Prop := flashTearsUptoRow.holds Try.pinned (OpenSpec.upto flashTearsSpec)

/-- 'ostlerlaw03.FlashFalls', WHERE WHAT IT READS IS OF BULK AT MOST 1048576: true; the input reads as it did. -/
def flashFallsUptoRow : OpenClaim := { program := "ytipnhjljhofabaa", sum := "224cd23b410ba85847883a06a762043e0df210f41e2ce36ea76d9734609f4795", func := "ostler/ostlerlaw03.FlashFalls", spec := "flashFalls", apart := false, narrowed := true }
def FlashFallsUptoSaid : Prop := flashFallsUptoRow.holds Try.pinned (OpenSpec.upto flashFallsSpec)

/-- 'ostlerlaw03.FlashKeeps', WHERE WHAT IT READS IS OF BULK AT MOST 1048576: true; the input reads as it did. -/
def flashKeepsUptoRow : OpenClaim := { program := "ytipnhjljhofabaa", sum := "224cd23b410ba85847883a06a762043e0df210f41e2ce36ea76d9734609f4795", func := "ostler/ostlerlaw03.FlashKeeps", spec := "flashKeeps", apart := false, narrowed := true }
def FlashKeepsUptoSaid : Prop := flashKeepsUptoRow.holds Try.pinned (OpenSpec.upto flashKeepsSpec)

/-- 'ostlerlaw03.FlashPlays', WHERE WHAT IT READS IS OF BULK AT MOST 1048576: true; the input reads as it did. -/
def flashPlaysUptoRow : OpenClaim := { program := "ytipnhjljhofabaa", sum := "224cd23b410ba85847883a06a762043e0df210f41e2ce36ea76d9734609f4795", func := "ostler/ostlerlaw03.FlashPlays", spec := "flashPlays", apart := false, narrowed := true }
def FlashPlaysUptoSaid : Prop := flashPlaysUptoRow.holds Try.pinned (OpenSpec.upto flashPlaysSpec)

/-- 'ostlerlaw03.FlashCopies', WHERE WHAT IT READS IS OF BULK AT MOST 1048576: true; the input reads as it did. -/
def flashCopiesUptoRow : OpenClaim := { program := "ytipnhjljhofabaa", sum := "224cd23b410ba85847883a06a762043e0df210f41e2ce36ea76d9734609f4795", func := "ostler/ostlerlaw03.FlashCopies", spec := "flashCopies", apart := false, narrowed := true }
def FlashCopiesUptoSaid : Prop := flashCopiesUptoRow.holds Try.pinned (OpenSpec.upto flashCopiesSpec)

/-- 'ostlerlaw03.FlashNone', WHERE WHAT IT READS IS OF BULK AT MOST 1048576: true; the input reads as it did. -/
def flashNoneUptoRow : OpenClaim := { program := "ytipnhjljhofabaa", sum := "224cd23b410ba85847883a06a762043e0df210f41e2ce36ea76d9734609f4795", func := "ostler/ostlerlaw03.FlashNone", spec := "flashNone", apart := false, narrowed := true }
def FlashNoneUptoSaid : Prop := flashNoneUptoRow.holds Try.pinned (OpenSpec.upto flashNoneSpec)

end Rows
end Go.Proofs.Ytipnhjljhofabaa
