/-
  DERIVED. GIVEN WITH THE SEED: THE CARDS: each row of YtbaddpnlokmldaaDoorRows.lean that lists a variable, with what it lists TIED to the program's text (the seventh form; the later family's looks); each row that meets fmt, with fmt's text TOLD by the authors' own Lean function (tested against real Go, not proved from fmt's source: count such statements apart). THE CARD IS WHAT COUNTS. Prove the row's statement (the work); the ties are given (YtbaddpnlokmldaaDoorTie.lean); close each card by the builder's one call (the guide's Derived/Test/ToyasCard.lean, 'card_holds'). Laid BY PROGRAM, IN A SANDBOX (cutbox-door.mjs). By AI agents, Wed Nov 11 2026. No macro, syntax, notation, axiom, sorry.
-/
import Derived.Test.YtbaddpnlokmldaaDoorRows
import GoSem.ClaimSeven
namespace Go.Proofs.YtbaddpnlokmldaaDoor
namespace Rows

/-- THE TIED CARD OF 'imprimaturlaw08.TermWords'. -/
def termWordsCard : Claim7 := { stood := { row := termWordsRow, standIns := [], harness := (true, "0255acf985a872c1b6e3502532f7de8523f0c542d212764d86c6d3835f2a1486"), looks := false }, kinds := [], alts := [], laidByText := true, laidKinds := [.data, .pinned], laidTests := true, laidLooks := .later }
def TermWordsCardSaid : Prop := Claim7.holds Tryd.pinned (.plain (OpenSpec.ofChange termWordsSpec)) termWordsCard

/-- THE TIED CARD OF 'imprimaturlaw08.TermMakes'. -/
def termMakesCard : Claim7 := { stood := { row := termMakesRow, standIns := [], harness := (true, "0255acf985a872c1b6e3502532f7de8523f0c542d212764d86c6d3835f2a1486"), looks := false }, kinds := [], alts := [], laidByText := true, laidKinds := [.data, .pinned], laidTests := true, laidLooks := .later }
def TermMakesCardSaid : Prop := Claim7.holds Tryd.pinned (.plain (OpenSpec.ofChange termMakesSpec)) termMakesCard

/-- THE TIED CARD OF 'imprimaturlaw08.TermRights'. -/
def termRightsCard : Claim7 := { stood := { row := termRightsRow, standIns := [], harness := (true, "0255acf985a872c1b6e3502532f7de8523f0c542d212764d86c6d3835f2a1486"), looks := false }, kinds := [], alts := [], laidByText := true, laidKinds := [.data, .pinned], laidTests := true, laidLooks := .later }
def TermRightsCardSaid : Prop := Claim7.holds Tryd.pinned (.plain (OpenSpec.ofChange termRightsSpec)) termRightsCard

/-- THE TIED CARD OF 'imprimaturlaw08.TermSpines'. -/
def termSpinesCard : Claim7 := { stood := { row := termSpinesRow, standIns := [], harness := (true, "0255acf985a872c1b6e3502532f7de8523f0c542d212764d86c6d3835f2a1486"), looks := false }, kinds := [], alts := [], laidByText := true, laidKinds := [.data, .pinned], laidTests := true, laidLooks := .later }
def TermSpinesCardSaid : Prop := Claim7.holds Tryd.pinned (.plain (OpenSpec.ofChange termSpinesSpec)) termSpinesCard

/-- THE SECOND FORM's CARD OF 'imprimaturlaw08.TermWords'. -/
def termWordsUptoCard : Claim7 := { stood := { row := termWordsUptoRow, standIns := [], harness := (true, "0255acf985a872c1b6e3502532f7de8523f0c542d212764d86c6d3835f2a1486"), looks := false }, kinds := [], alts := [], laidByText := true, laidKinds := [.data, .pinned], laidTests := true, laidLooks := .later }
def TermWordsUptoCardSaid : Prop := Claim7.holds Tryd.pinned (.plain (OpenSpec.upto termWordsSpec)) termWordsUptoCard

/-- THE SECOND FORM's CARD OF 'imprimaturlaw08.TermMakes'. -/
def termMakesUptoCard : Claim7 := { stood := { row := termMakesUptoRow, standIns := [], harness := (true, "0255acf985a872c1b6e3502532f7de8523f0c542d212764d86c6d3835f2a1486"), looks := false }, kinds := [], alts := [], laidByText := true, laidKinds := [.data, .pinned], laidTests := true, laidLooks := .later }
def TermMakesUptoCardSaid : Prop := Claim7.holds Tryd.pinned (.plain (OpenSpec.upto termMakesSpec)) termMakesUptoCard

/-- THE SECOND FORM's CARD OF 'imprimaturlaw08.TermRights'. -/
def termRightsUptoCard : Claim7 := { stood := { row := termRightsUptoRow, standIns := [], harness := (true, "0255acf985a872c1b6e3502532f7de8523f0c542d212764d86c6d3835f2a1486"), looks := false }, kinds := [], alts := [], laidByText := true, laidKinds := [.data, .pinned], laidTests := true, laidLooks := .later }
def TermRightsUptoCardSaid : Prop := Claim7.holds Tryd.pinned (.plain (OpenSpec.upto termRightsSpec)) termRightsUptoCard

/-- THE SECOND FORM's CARD OF 'imprimaturlaw08.TermSpines'. -/
def termSpinesUptoCard : Claim7 := { stood := { row := termSpinesUptoRow, standIns := [], harness := (true, "0255acf985a872c1b6e3502532f7de8523f0c542d212764d86c6d3835f2a1486"), looks := false }, kinds := [], alts := [], laidByText := true, laidKinds := [.data, .pinned], laidTests := true, laidLooks := .later }
def TermSpinesUptoCardSaid : Prop := Claim7.holds Tryd.pinned (.plain (OpenSpec.upto termSpinesSpec)) termSpinesUptoCard
end Rows
end Go.Proofs.YtbaddpnlokmldaaDoor
