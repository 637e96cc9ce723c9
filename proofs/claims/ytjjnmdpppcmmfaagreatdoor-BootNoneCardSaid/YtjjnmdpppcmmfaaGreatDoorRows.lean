/-
  NARROWER THAN 'FOR EVERY INPUT', by the rows' own cells (each row's printed sentence says how): BootOpens: laid · BootNone: laid · BootFloor: laid · BootTries: laid · BootPlays: laid.
  DERIVED. THE GIVEN ROWS OF THIS SEAT. 5 by the template 'for every input the law returns true; each argument reads behind the call as it read before'; 0 by the template 'total and deterministic' (their statements: YtjjnmdpppcmmfaaGreatDoorTotals.lean).
  GIVEN WITH THE SEED: the statements are not yours to turn. If you find one false, say at which input.
  Laid BY PROGRAM, IN A SANDBOX (cutbox-rows.mjs): the forced cells as the released guide's own fill.sh prints them over the translation e332e9de1d6b5e4c… (all of the seat's roots in one cut). By AI agents, Wed Nov 11 2026. No macro, syntax, notation, axiom, sorry.
-/
import Derived.Test.YtjjnmdpppcmmfaaGreatDoorChecked
import GoSem.Claim
import GoSem.ClaimJoined
import GoSem.ClaimMapViews
import Derived.JoinedTies
import Derived.KernelRfl
namespace Go.Proofs.YtjjnmdpppcmmfaaGreatDoor
/- THE CELL 'sum', in the pinned program and in every row, IS THE sha256 OF THE DUMP (.gsa) THAT YtjjnmdpppcmmfaaGreatDoorProg.lean LOADS. Nothing in Lean hashes anything: it is a label: what it is worth is what the hold of that sum in a sandbox is worth. -/
noncomputable def Tryz.pinned : Pinned := { name := "ytjjnmdpppcmmfaagreatdoor", sum := "e332e9de1d6b5e4c2970000145d728917e2beba7be4154fa7cecadf4ec9d3190", checked := Tryz.checked }
namespace Rows
def none {H : Type} : Left H := { results := [], args := [] }

/- WHAT THE LISTED PACKAGE-LEVEL VARIABLES READ AS WHEN THE CALL BEGINS. Each datum BY PROGRAM (the guide's laid-datum.mjs) off the statement by which the dump's own 'gosem.cut.vars' lays the variable. In a bare row this is a premise. The card (YtjjnmdpppcmmfaaGreatDoorCards.lean) ties it to the program's text. -/
def laid_ostler_boot_nothing {H : Type} : DataW H := .agg [.lit (.int .i64 (-1)), .lit (.int .i64 (-1)), .lit (.int .i64 0), .lit (.int .i64 0)]

/-- 'ostlerlaw23.BootOpens': WHATEVER THE INPUT: true; the input reads as it did. -/
def bootOpensSpec : ChangeSpec := { name := "bootOpens", fn := fun _ => fun
  | [d1, d2, d3] => { results := [.lit (.bool true)], args := [d1, d2, d3] }
  | _ => none }
def bootOpensRow : OpenClaim := { program := "ytjjnmdpppcmmfaagreatdoor", sum := "e332e9de1d6b5e4c2970000145d728917e2beba7be4154fa7cecadf4ec9d3190", func := "ostler/ostlerlaw23.BootOpens", spec := "bootOpens", inPlace := ["internal/abi.NoEscape", "maps.clone"], unfollowed := true, recurses := true, named := ["ostler/boot.nothing"], apart := false, laid := [("ostler/boot.nothing", laid_ostler_boot_nothing)] }
def BootOpensSaid : Prop := bootOpensRow.holds Tryz.pinned (OpenSpec.ofChange bootOpensSpec)

/-- ITS FALSE NEIGHBOUR: 'it returns false'. Refute it at one input. -/
def bootOpensWrong : ChangeSpec := { name := "bootOpens", fn := fun _ => fun
  | [d1, d2, d3] => { results := [.lit (.bool false)], args := [d1, d2, d3] }
  | _ => none }
def BootOpensWrongFalsely : Prop := bootOpensRow.holds Tryz.pinned (OpenSpec.ofChange bootOpensWrong)

/-- 'ostlerlaw23.BootNone': WHATEVER THE INPUT: true; the input reads as it did. -/
def bootNoneSpec : ChangeSpec := { name := "bootNone", fn := fun _ => fun
  | [d1, d2, d3] => { results := [.lit (.bool true)], args := [d1, d2, d3] }
  | _ => none }
def bootNoneRow : OpenClaim := { program := "ytjjnmdpppcmmfaagreatdoor", sum := "e332e9de1d6b5e4c2970000145d728917e2beba7be4154fa7cecadf4ec9d3190", func := "ostler/ostlerlaw23.BootNone", spec := "bootNone", inPlace := ["internal/abi.NoEscape", "maps.clone"], unfollowed := true, recurses := true, named := ["ostler/boot.nothing"], apart := false, laid := [("ostler/boot.nothing", laid_ostler_boot_nothing)] }
def BootNoneSaid : Prop := bootNoneRow.holds Tryz.pinned (OpenSpec.ofChange bootNoneSpec)

/-- ITS FALSE NEIGHBOUR: 'it returns false'. Refute it at one input. -/
def bootNoneWrong : ChangeSpec := { name := "bootNone", fn := fun _ => fun
  | [d1, d2, d3] => { results := [.lit (.bool false)], args := [d1, d2, d3] }
  | _ => none }
def BootNoneWrongFalsely : Prop := bootNoneRow.holds Tryz.pinned (OpenSpec.ofChange bootNoneWrong)

/-- 'ostlerlaw23.BootFloor': WHATEVER THE INPUT: true; the input reads as it did. -/
def bootFloorSpec : ChangeSpec := { name := "bootFloor", fn := fun _ => fun
  | [d1, d2, d3] => { results := [.lit (.bool true)], args := [d1, d2, d3] }
  | _ => none }
def bootFloorRow : OpenClaim := { program := "ytjjnmdpppcmmfaagreatdoor", sum := "e332e9de1d6b5e4c2970000145d728917e2beba7be4154fa7cecadf4ec9d3190", func := "ostler/ostlerlaw23.BootFloor", spec := "bootFloor", inPlace := ["internal/abi.NoEscape", "maps.clone"], unfollowed := true, recurses := true, named := ["ostler/boot.nothing"], apart := false, laid := [("ostler/boot.nothing", laid_ostler_boot_nothing)] }
def BootFloorSaid : Prop := bootFloorRow.holds Tryz.pinned (OpenSpec.ofChange bootFloorSpec)

/-- ITS FALSE NEIGHBOUR: 'it returns false'. Refute it at one input. -/
def bootFloorWrong : ChangeSpec := { name := "bootFloor", fn := fun _ => fun
  | [d1, d2, d3] => { results := [.lit (.bool false)], args := [d1, d2, d3] }
  | _ => none }
def BootFloorWrongFalsely : Prop := bootFloorRow.holds Tryz.pinned (OpenSpec.ofChange bootFloorWrong)

/-- 'ostlerlaw23.BootTries': WHATEVER THE INPUT: true; the input reads as it did. -/
def bootTriesSpec : ChangeSpec := { name := "bootTries", fn := fun _ => fun
  | [d1, d2, d3] => { results := [.lit (.bool true)], args := [d1, d2, d3] }
  | _ => none }
def bootTriesRow : OpenClaim := { program := "ytjjnmdpppcmmfaagreatdoor", sum := "e332e9de1d6b5e4c2970000145d728917e2beba7be4154fa7cecadf4ec9d3190", func := "ostler/ostlerlaw23.BootTries", spec := "bootTries", inPlace := ["internal/abi.NoEscape", "maps.clone"], unfollowed := true, recurses := true, named := ["ostler/boot.nothing"], apart := false, laid := [("ostler/boot.nothing", laid_ostler_boot_nothing)] }
def BootTriesSaid : Prop := bootTriesRow.holds Tryz.pinned (OpenSpec.ofChange bootTriesSpec)

/-- ITS FALSE NEIGHBOUR: 'it returns false'. Refute it at one input. -/
def bootTriesWrong : ChangeSpec := { name := "bootTries", fn := fun _ => fun
  | [d1, d2, d3] => { results := [.lit (.bool false)], args := [d1, d2, d3] }
  | _ => none }
def BootTriesWrongFalsely : Prop := bootTriesRow.holds Tryz.pinned (OpenSpec.ofChange bootTriesWrong)

/-- 'ostlerlaw23.BootPlays': WHATEVER THE INPUT: true; the input reads as it did. -/
def bootPlaysSpec : ChangeSpec := { name := "bootPlays", fn := fun _ => fun
  | [d1, d2, d3] => { results := [.lit (.bool true)], args := [d1, d2, d3] }
  | _ => none }
def bootPlaysRow : OpenClaim := { program := "ytjjnmdpppcmmfaagreatdoor", sum := "e332e9de1d6b5e4c2970000145d728917e2beba7be4154fa7cecadf4ec9d3190", func := "ostler/ostlerlaw23.BootPlays", spec := "bootPlays", inPlace := ["internal/abi.NoEscape", "maps.clone"], unfollowed := true, recurses := true, named := ["ostler/boot.nothing"], apart := false, laid := [("ostler/boot.nothing", laid_ostler_boot_nothing)] }
def BootPlaysSaid : Prop := bootPlaysRow.holds Tryz.pinned (OpenSpec.ofChange bootPlaysSpec)

/-- ITS FALSE NEIGHBOUR: 'it returns false'. Refute it at one input. -/
def bootPlaysWrong : ChangeSpec := { name := "bootPlays", fn := fun _ => fun
  | [d1, d2, d3] => { results := [.lit (.bool false)], args := [d1, d2, d3] }
  | _ => none }
def BootPlaysWrongFalsely : Prop := bootPlaysRow.holds Tryz.pinned (OpenSpec.ofChange bootPlaysWrong)

/- THE SECOND FORM. 'bulk': how many values and letters a reading holds, each counted each time it is reached (what is shared counts as often as it is met; a slice's spare places count too). A statement '..UptoSaid' is the law's where the arguments, and the package variables that the reading takes, are together of bulk at most 1048576: NARROWER than '..Said'. Prove '..Said' where nothing that the law and all that it calls make is longer than what came in: it says more and counts as full. Else prove '..UptoSaid'. A law counts once. -/
mutual
def uptoBulk {H : Type} : DataW H → Nat
  | .lit (.string bytes) => bytes.length + 1
  | .lit _ => 1
  | .nil => 1
  | .ptr d => uptoBulk d + 1
  | .slice elems spare => uptoBulkAll elems + uptoBulkAll spare + 1
  | .agg parts => uptoBulkAll parts + 1
  | .iface _ d => uptoBulk d + 1
  | .map entries => uptoBulkEntries entries + 1
  | .held _ => 1
def uptoBulkAll {H : Type} : List (DataW H) → Nat
  | [] => 0
  | d :: r => uptoBulk d + uptoBulkAll r
def uptoBulkEntries {H : Type} : List (Lit × DataW H) → Nat
  | [] => 0
  | x :: r => uptoBulkEntry x + uptoBulkEntries r
def uptoBulkEntry {H : Type} : Lit × DataW H → Nat
  | (.string bytes, d) => bytes.length + uptoBulk d + 1
  | (_, d) => uptoBulk d + 1
 end
def uptoSmall : (H : Type) → List (DataW H) → Bool := fun _ ds => decide (uptoBulkAll ds ≤ 1048576)
def OpenSpec.upto (s : _root_.Go.ChangeSpec) : _root_.Go.OpenSpec := { _root_.Go.OpenSpec.ofChange s with cond := some uptoSmall }

/-- 'ostlerlaw23.BootOpens', WHERE WHAT IT READS IS OF BULK AT MOST 1048576: true; the input reads as it did. -/
def bootOpensUptoRow : OpenClaim := { program := "ytjjnmdpppcmmfaagreatdoor", sum := "e332e9de1d6b5e4c2970000145d728917e2beba7be4154fa7cecadf4ec9d3190", func := "ostler/ostlerlaw23.BootOpens", spec := "bootOpens", inPlace := ["internal/abi.NoEscape", "maps.clone"], unfollowed := true, recurses := true, named := ["ostler/boot.nothing"], apart := false, laid := [("ostler/boot.nothing", laid_ostler_boot_nothing)], narrowed := true }
def BootOpensUptoSaid : Prop := bootOpensUptoRow.holds Tryz.pinned (OpenSpec.upto bootOpensSpec)

/-- 'ostlerlaw23.BootNone', WHERE WHAT IT READS IS OF BULK AT MOST 1048576: true; the input reads as it did. -/
def bootNoneUptoRow : OpenClaim := { program := "ytjjnmdpppcmmfaagreatdoor", sum := "e332e9de1d6b5e4c2970000145d728917e2beba7be4154fa7cecadf4ec9d3190", func := "ostler/ostlerlaw23.BootNone", spec := "bootNone", inPlace := ["internal/abi.NoEscape", "maps.clone"], unfollowed := true, recurses := true, named := ["ostler/boot.nothing"], apart := false, laid := [("ostler/boot.nothing", laid_ostler_boot_nothing)], narrowed := true }
def BootNoneUptoSaid : Prop := bootNoneUptoRow.holds Tryz.pinned (OpenSpec.upto bootNoneSpec)

/-- 'ostlerlaw23.BootFloor', WHERE WHAT IT READS IS OF BULK AT MOST 1048576: true; the input reads as it did. -/
def bootFloorUptoRow : OpenClaim := { program := "ytjjnmdpppcmmfaagreatdoor", sum := "e332e9de1d6b5e4c2970000145d728917e2beba7be4154fa7cecadf4ec9d3190", func := "ostler/ostlerlaw23.BootFloor", spec := "bootFloor", inPlace := ["internal/abi.NoEscape", "maps.clone"], unfollowed := true, recurses := true, named := ["ostler/boot.nothing"], apart := false, laid := [("ostler/boot.nothing", laid_ostler_boot_nothing)], narrowed := true }
def BootFloorUptoSaid : Prop := bootFloorUptoRow.holds Tryz.pinned (OpenSpec.upto bootFloorSpec)

/-- 'ostlerlaw23.BootTries', WHERE WHAT IT READS IS OF BULK AT MOST 1048576: true; the input reads as it did. -/
def bootTriesUptoRow : OpenClaim := { program := "ytjjnmdpppcmmfaagreatdoor", sum := "e332e9de1d6b5e4c2970000145d728917e2beba7be4154fa7cecadf4ec9d3190", func := "ostler/ostlerlaw23.BootTries", spec := "bootTries", inPlace := ["internal/abi.NoEscape", "maps.clone"], unfollowed := true, recurses := true, named := ["ostler/boot.nothing"], apart := false, laid := [("ostler/boot.nothing", laid_ostler_boot_nothing)], narrowed := true }
def BootTriesUptoSaid : Prop := bootTriesUptoRow.holds Tryz.pinned (OpenSpec.upto bootTriesSpec)

/-- 'ostlerlaw23.BootPlays', WHERE WHAT IT READS IS OF BULK AT MOST 1048576: true; the input reads as it did. -/
def bootPlaysUptoRow : OpenClaim := { program := "ytjjnmdpppcmmfaagreatdoor", sum := "e332e9de1d6b5e4c2970000145d728917e2beba7be4154fa7cecadf4ec9d3190", func := "ostler/ostlerlaw23.BootPlays", spec := "bootPlays", inPlace := ["internal/abi.NoEscape", "maps.clone"], unfollowed := true, recurses := true, named := ["ostler/boot.nothing"], apart := false, laid := [("ostler/boot.nothing", laid_ostler_boot_nothing)], narrowed := true }
def BootPlaysUptoSaid : Prop := bootPlaysUptoRow.holds Tryz.pinned (OpenSpec.upto bootPlaysSpec)

end Rows
end Go.Proofs.YtjjnmdpppcmmfaaGreatDoor
