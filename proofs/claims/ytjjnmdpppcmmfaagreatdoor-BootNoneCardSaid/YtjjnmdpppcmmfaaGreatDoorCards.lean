/-
  DERIVED. GIVEN WITH THE SEED: THE CARDS: each row of YtjjnmdpppcmmfaaGreatDoorRows.lean that lists a variable, with what it lists TIED to the program's text (the seventh form; the later family's looks); each row that meets fmt, with fmt's text TOLD by the authors' own Lean function (tested against real Go, not proved from fmt's source: count such statements apart). THE CARD IS WHAT COUNTS. Prove the row's statement (the work); the ties are given (YtjjnmdpppcmmfaaGreatDoorTie.lean); close each card by the builder's one call (the guide's Derived/Test/ToyasCard.lean, 'card_holds'). Laid BY PROGRAM, IN A SANDBOX (cutbox-door.mjs). By AI agents, Wed Nov 11 2026. No macro, syntax, notation, axiom, sorry.
-/
import Derived.Test.YtjjnmdpppcmmfaaGreatDoorRows
import GoSem.ClaimSeven
namespace Go.Proofs.YtjjnmdpppcmmfaaGreatDoor
namespace Rows

/-- THE TIED CARD OF 'ostlerlaw23.BootOpens'. -/
def bootOpensCard : Claim7 := { stood := { row := bootOpensRow, standIns := [], harness := (true, "8fc2b96c3e665780298236a6cebfe2aa0256f5b715af5bd2d28194c873a225d4"), looks := true }, kinds := [], alts := [], laidByText := true, laidKinds := [.data], laidTests := true, laidLooks := .later }
def BootOpensCardSaid : Prop := Claim7.holds Tryz.pinned (.plain (OpenSpec.ofChange bootOpensSpec)) bootOpensCard

/-- THE TIED CARD OF 'ostlerlaw23.BootNone'. -/
def bootNoneCard : Claim7 := { stood := { row := bootNoneRow, standIns := [], harness := (true, "8fc2b96c3e665780298236a6cebfe2aa0256f5b715af5bd2d28194c873a225d4"), looks := true }, kinds := [], alts := [], laidByText := true, laidKinds := [.data], laidTests := true, laidLooks := .later }
def BootNoneCardSaid : Prop := Claim7.holds Tryz.pinned (.plain (OpenSpec.ofChange bootNoneSpec)) bootNoneCard

/-- THE TIED CARD OF 'ostlerlaw23.BootFloor'. -/
def bootFloorCard : Claim7 := { stood := { row := bootFloorRow, standIns := [], harness := (true, "8fc2b96c3e665780298236a6cebfe2aa0256f5b715af5bd2d28194c873a225d4"), looks := true }, kinds := [], alts := [], laidByText := true, laidKinds := [.data], laidTests := true, laidLooks := .later }
def BootFloorCardSaid : Prop := Claim7.holds Tryz.pinned (.plain (OpenSpec.ofChange bootFloorSpec)) bootFloorCard

/-- THE TIED CARD OF 'ostlerlaw23.BootTries'. -/
def bootTriesCard : Claim7 := { stood := { row := bootTriesRow, standIns := [], harness := (true, "8fc2b96c3e665780298236a6cebfe2aa0256f5b715af5bd2d28194c873a225d4"), looks := true }, kinds := [], alts := [], laidByText := true, laidKinds := [.data], laidTests := true, laidLooks := .later }
def BootTriesCardSaid : Prop := Claim7.holds Tryz.pinned (.plain (OpenSpec.ofChange bootTriesSpec)) bootTriesCard

/-- THE TIED CARD OF 'ostlerlaw23.BootPlays'. -/
def bootPlaysCard : Claim7 := { stood := { row := bootPlaysRow, standIns := [], harness := (true, "8fc2b96c3e665780298236a6cebfe2aa0256f5b715af5bd2d28194c873a225d4"), looks := true }, kinds := [], alts := [], laidByText := true, laidKinds := [.data], laidTests := true, laidLooks := .later }
def BootPlaysCardSaid : Prop := Claim7.holds Tryz.pinned (.plain (OpenSpec.ofChange bootPlaysSpec)) bootPlaysCard

/-- THE SECOND FORM's CARD OF 'ostlerlaw23.BootOpens'. -/
def bootOpensUptoCard : Claim7 := { stood := { row := bootOpensUptoRow, standIns := [], harness := (true, "8fc2b96c3e665780298236a6cebfe2aa0256f5b715af5bd2d28194c873a225d4"), looks := true }, kinds := [], alts := [], laidByText := true, laidKinds := [.data], laidTests := true, laidLooks := .later }
def BootOpensUptoCardSaid : Prop := Claim7.holds Tryz.pinned (.plain (OpenSpec.upto bootOpensSpec)) bootOpensUptoCard

/-- THE SECOND FORM's CARD OF 'ostlerlaw23.BootNone'. -/
def bootNoneUptoCard : Claim7 := { stood := { row := bootNoneUptoRow, standIns := [], harness := (true, "8fc2b96c3e665780298236a6cebfe2aa0256f5b715af5bd2d28194c873a225d4"), looks := true }, kinds := [], alts := [], laidByText := true, laidKinds := [.data], laidTests := true, laidLooks := .later }
def BootNoneUptoCardSaid : Prop := Claim7.holds Tryz.pinned (.plain (OpenSpec.upto bootNoneSpec)) bootNoneUptoCard

/-- THE SECOND FORM's CARD OF 'ostlerlaw23.BootFloor'. -/
def bootFloorUptoCard : Claim7 := { stood := { row := bootFloorUptoRow, standIns := [], harness := (true, "8fc2b96c3e665780298236a6cebfe2aa0256f5b715af5bd2d28194c873a225d4"), looks := true }, kinds := [], alts := [], laidByText := true, laidKinds := [.data], laidTests := true, laidLooks := .later }
def BootFloorUptoCardSaid : Prop := Claim7.holds Tryz.pinned (.plain (OpenSpec.upto bootFloorSpec)) bootFloorUptoCard

/-- THE SECOND FORM's CARD OF 'ostlerlaw23.BootTries'. -/
def bootTriesUptoCard : Claim7 := { stood := { row := bootTriesUptoRow, standIns := [], harness := (true, "8fc2b96c3e665780298236a6cebfe2aa0256f5b715af5bd2d28194c873a225d4"), looks := true }, kinds := [], alts := [], laidByText := true, laidKinds := [.data], laidTests := true, laidLooks := .later }
def BootTriesUptoCardSaid : Prop := Claim7.holds Tryz.pinned (.plain (OpenSpec.upto bootTriesSpec)) bootTriesUptoCard

/-- THE SECOND FORM's CARD OF 'ostlerlaw23.BootPlays'. -/
def bootPlaysUptoCard : Claim7 := { stood := { row := bootPlaysUptoRow, standIns := [], harness := (true, "8fc2b96c3e665780298236a6cebfe2aa0256f5b715af5bd2d28194c873a225d4"), looks := true }, kinds := [], alts := [], laidByText := true, laidKinds := [.data], laidTests := true, laidLooks := .later }
def BootPlaysUptoCardSaid : Prop := Claim7.holds Tryz.pinned (.plain (OpenSpec.upto bootPlaysSpec)) bootPlaysUptoCard
end Rows
end Go.Proofs.YtjjnmdpppcmmfaaGreatDoor
