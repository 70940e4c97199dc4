/-
  DERIVED. GIVEN WITH THE SEED: THE CARDS: each row of YtcihccmkionliaaGreatDoorRows.lean that lists a variable, with what it lists TIED to the program's text (the seventh form; the later family's looks); each row that meets fmt, with fmt's text TOLD by the authors' own Lean function (tested against real Go, not proved from fmt's source: count such statements apart). THE CARD IS WHAT COUNTS. Prove the row's statement (the work); the ties are given (YtcihccmkionliaaGreatDoorTie.lean); close each card by the builder's one call (the guide's Derived/Test/ToyasCard.lean, 'card_holds'). Laid BY PROGRAM, IN A SANDBOX (cutbox-door.mjs). By AI agents, Wed Nov 11 2026. No macro, syntax, notation, axiom, sorry.
-/
import Derived.Test.YtcihccmkionliaaGreatDoorRows
import GoSem.ClaimSeven
namespace Go.Proofs.YtcihccmkionliaaGreatDoor
namespace Rows

/-- THE TIED CARD OF 'imprimaturlaw24.EditBytes'. -/
def editBytesCard : Claim7 := { stood := { row := editBytesRow, standIns := [], harness := (true, "dcd452ac8048766082724c585bc855903f26c46f51c9393b234450074996d525"), looks := true }, kinds := [], alts := [], laidByText := true, laidKinds := [.data, .pinned], laidTests := true, laidLooks := .later }
def EditBytesCardSaid : Prop := Claim7.holds Tryz.pinned (.plain (OpenSpec.ofChange editBytesSpec)) editBytesCard

/-- THE TIED CARD OF 'imprimaturlaw24.EditMoves'. -/
def editMovesCard : Claim7 := { stood := { row := editMovesRow, standIns := [], harness := (true, "dcd452ac8048766082724c585bc855903f26c46f51c9393b234450074996d525"), looks := true }, kinds := [], alts := [], laidByText := true, laidKinds := [.data, .pinned], laidTests := true, laidLooks := .later }
def EditMovesCardSaid : Prop := Claim7.holds Tryz.pinned (.plain (OpenSpec.ofChange editMovesSpec)) editMovesCard

/-- THE SECOND FORM's CARD OF 'imprimaturlaw24.EditBytes'. -/
def editBytesUptoCard : Claim7 := { stood := { row := editBytesUptoRow, standIns := [], harness := (true, "dcd452ac8048766082724c585bc855903f26c46f51c9393b234450074996d525"), looks := true }, kinds := [], alts := [], laidByText := true, laidKinds := [.data, .pinned], laidTests := true, laidLooks := .later }
def EditBytesUptoCardSaid : Prop := Claim7.holds Tryz.pinned (.plain (OpenSpec.upto editBytesSpec)) editBytesUptoCard

/-- THE SECOND FORM's CARD OF 'imprimaturlaw24.EditMoves'. -/
def editMovesUptoCard : Claim7 := { stood := { row := editMovesUptoRow, standIns := [], harness := (true, "dcd452ac8048766082724c585bc855903f26c46f51c9393b234450074996d525"), looks := true }, kinds := [], alts := [], laidByText := true, laidKinds := [.data, .pinned], laidTests := true, laidLooks := .later }
def EditMovesUptoCardSaid : Prop := Claim7.holds Tryz.pinned (.plain (OpenSpec.upto editMovesSpec)) editMovesUptoCard
end Rows
end Go.Proofs.YtcihccmkionliaaGreatDoor
