/-
  DERIVED. GIVEN WITH THE SEED: THE CARDS: each row of YtedebapgmfnflaaDoorRows.lean that lists a variable, with what it lists TIED to the program's text (the seventh form; the later family's looks); each row that meets fmt, with fmt's text TOLD by the authors' own Lean function (tested against real Go, not proved from fmt's source: count such statements apart). THE CARD IS WHAT COUNTS. Prove the row's statement (the work); the ties are given (YtedebapgmfnflaaDoorTie.lean); close each card by the builder's one call (the guide's Derived/Test/ToyasCard.lean, 'card_holds'). Laid BY PROGRAM, IN A SANDBOX (cutbox-door.mjs). By AI agents, Wed Nov 11 2026. No macro, syntax, notation, axiom, sorry.
-/
import Derived.Test.YtedebapgmfnflaaDoorRows
import GoSem.ClaimSeven
namespace Go.Proofs.YtedebapgmfnflaaDoor
namespace Rows

/-- THE TIED CARD OF 'imprimaturlaw04.SealPacks'. -/
def sealPacksCard : Claim7 := { stood := { row := sealPacksRow, standIns := [], harness := (true, "cece70cbbb7e7deb769315f9ff6d12f8ea4fec9450782fee1a5f38f72081f107"), looks := false }, kinds := [], alts := [], laidByText := true, laidKinds := [.data, .pinned], laidTests := true, laidLooks := .later }
def SealPacksCardSaid : Prop := Claim7.holds Tryd.pinned (.plain (OpenSpec.ofChange sealPacksSpec)) sealPacksCard

/-- THE TIED CARD OF 'imprimaturlaw04.SealReads'. -/
def sealReadsCard : Claim7 := { stood := { row := sealReadsRow, standIns := [], harness := (true, "cece70cbbb7e7deb769315f9ff6d12f8ea4fec9450782fee1a5f38f72081f107"), looks := false }, kinds := [], alts := [], laidByText := true, laidKinds := [.data, .pinned], laidTests := true, laidLooks := .later }
def SealReadsCardSaid : Prop := Claim7.holds Tryd.pinned (.plain (OpenSpec.ofChange sealReadsSpec)) sealReadsCard

/-- THE TIED CARD OF 'imprimaturlaw04.SealTorn'. -/
def sealTornCard : Claim7 := { stood := { row := sealTornRow, standIns := [], harness := (true, "cece70cbbb7e7deb769315f9ff6d12f8ea4fec9450782fee1a5f38f72081f107"), looks := false }, kinds := [], alts := [], laidByText := true, laidKinds := [.data, .pinned], laidTests := true, laidLooks := .later }
def SealTornCardSaid : Prop := Claim7.holds Tryd.pinned (.plain (OpenSpec.ofChange sealTornSpec)) sealTornCard

/-- THE TIED CARD OF 'imprimaturlaw04.SealChanged'. -/
def sealChangedCard : Claim7 := { stood := { row := sealChangedRow, standIns := [], harness := (true, "cece70cbbb7e7deb769315f9ff6d12f8ea4fec9450782fee1a5f38f72081f107"), looks := false }, kinds := [], alts := [], laidByText := true, laidKinds := [.data, .pinned], laidTests := true, laidLooks := .later }
def SealChangedCardSaid : Prop := Claim7.holds Tryd.pinned (.plain (OpenSpec.ofChange sealChangedSpec)) sealChangedCard

/-- THE TIED CARD OF 'imprimaturlaw04.SealRows'. -/
def sealRowsCard : Claim7 := { stood := { row := sealRowsRow, standIns := [], harness := (true, "cece70cbbb7e7deb769315f9ff6d12f8ea4fec9450782fee1a5f38f72081f107"), looks := false }, kinds := [], alts := [], laidByText := true, laidKinds := [.data, .pinned], laidTests := true, laidLooks := .later }
def SealRowsCardSaid : Prop := Claim7.holds Tryd.pinned (.plain (OpenSpec.ofChange sealRowsSpec)) sealRowsCard

/-- THE TIED CARD OF 'imprimaturlaw05.AreaRoom'. -/
def areaRoomCard : Claim7 := { stood := { row := areaRoomRow, standIns := [], harness := (true, "cece70cbbb7e7deb769315f9ff6d12f8ea4fec9450782fee1a5f38f72081f107"), looks := false }, kinds := [], alts := [], laidByText := true, laidKinds := [.data, .pinned], laidTests := true, laidLooks := .later }
def AreaRoomCardSaid : Prop := Claim7.holds Tryd.pinned (.plain (OpenSpec.ofChange areaRoomSpec)) areaRoomCard

/-- THE TIED CARD OF 'imprimaturlaw05.AreaLasts'. -/
def areaLastsCard : Claim7 := { stood := { row := areaLastsRow, standIns := [], harness := (true, "cece70cbbb7e7deb769315f9ff6d12f8ea4fec9450782fee1a5f38f72081f107"), looks := false }, kinds := [], alts := [], laidByText := true, laidKinds := [.data, .pinned], laidTests := true, laidLooks := .later }
def AreaLastsCardSaid : Prop := Claim7.holds Tryd.pinned (.plain (OpenSpec.ofChange areaLastsSpec)) areaLastsCard

/-- THE TIED CARD OF 'imprimaturlaw06.VaultKeeps'. -/
def vaultKeepsCard : Claim7 := { stood := { row := vaultKeepsRow, standIns := [], harness := (true, "cece70cbbb7e7deb769315f9ff6d12f8ea4fec9450782fee1a5f38f72081f107"), looks := false }, kinds := [], alts := [], laidByText := true, laidKinds := [.data, .pinned], laidTests := true, laidLooks := .later }
def VaultKeepsCardSaid : Prop := Claim7.holds Tryd.pinned (.plain (OpenSpec.ofChange vaultKeepsSpec)) vaultKeepsCard

/-- THE TIED CARD OF 'imprimaturlaw08.TermWords'. -/
def termWordsCard : Claim7 := { stood := { row := termWordsRow, standIns := [], harness := (true, "cece70cbbb7e7deb769315f9ff6d12f8ea4fec9450782fee1a5f38f72081f107"), looks := false }, kinds := [], alts := [], laidByText := true, laidKinds := [.data, .pinned], laidTests := true, laidLooks := .later }
def TermWordsCardSaid : Prop := Claim7.holds Tryd.pinned (.plain (OpenSpec.ofChange termWordsSpec)) termWordsCard

/-- THE TIED CARD OF 'imprimaturlaw08.TermMakes'. -/
def termMakesCard : Claim7 := { stood := { row := termMakesRow, standIns := [], harness := (true, "cece70cbbb7e7deb769315f9ff6d12f8ea4fec9450782fee1a5f38f72081f107"), looks := false }, kinds := [], alts := [], laidByText := true, laidKinds := [.data, .pinned], laidTests := true, laidLooks := .later }
def TermMakesCardSaid : Prop := Claim7.holds Tryd.pinned (.plain (OpenSpec.ofChange termMakesSpec)) termMakesCard

/-- THE TIED CARD OF 'imprimaturlaw08.TermRights'. -/
def termRightsCard : Claim7 := { stood := { row := termRightsRow, standIns := [], harness := (true, "cece70cbbb7e7deb769315f9ff6d12f8ea4fec9450782fee1a5f38f72081f107"), looks := false }, kinds := [], alts := [], laidByText := true, laidKinds := [.data, .pinned], laidTests := true, laidLooks := .later }
def TermRightsCardSaid : Prop := Claim7.holds Tryd.pinned (.plain (OpenSpec.ofChange termRightsSpec)) termRightsCard

/-- THE TIED CARD OF 'imprimaturlaw08.TermSpines'. -/
def termSpinesCard : Claim7 := { stood := { row := termSpinesRow, standIns := [], harness := (true, "cece70cbbb7e7deb769315f9ff6d12f8ea4fec9450782fee1a5f38f72081f107"), looks := false }, kinds := [], alts := [], laidByText := true, laidKinds := [.data, .pinned], laidTests := true, laidLooks := .later }
def TermSpinesCardSaid : Prop := Claim7.holds Tryd.pinned (.plain (OpenSpec.ofChange termSpinesSpec)) termSpinesCard

/-- THE SECOND FORM's CARD OF 'imprimaturlaw04.SealPacks'. -/
def sealPacksUptoCard : Claim7 := { stood := { row := sealPacksUptoRow, standIns := [], harness := (true, "cece70cbbb7e7deb769315f9ff6d12f8ea4fec9450782fee1a5f38f72081f107"), looks := false }, kinds := [], alts := [], laidByText := true, laidKinds := [.data, .pinned], laidTests := true, laidLooks := .later }
def SealPacksUptoCardSaid : Prop := Claim7.holds Tryd.pinned (.plain (OpenSpec.upto sealPacksSpec)) sealPacksUptoCard

/-- THE SECOND FORM's CARD OF 'imprimaturlaw04.SealReads'. -/
def sealReadsUptoCard : Claim7 := { stood := { row := sealReadsUptoRow, standIns := [], harness := (true, "cece70cbbb7e7deb769315f9ff6d12f8ea4fec9450782fee1a5f38f72081f107"), looks := false }, kinds := [], alts := [], laidByText := true, laidKinds := [.data, .pinned], laidTests := true, laidLooks := .later }
def SealReadsUptoCardSaid : Prop := Claim7.holds Tryd.pinned (.plain (OpenSpec.upto sealReadsSpec)) sealReadsUptoCard

/-- THE SECOND FORM's CARD OF 'imprimaturlaw04.SealTorn'. -/
def sealTornUptoCard : Claim7 := { stood := { row := sealTornUptoRow, standIns := [], harness := (true, "cece70cbbb7e7deb769315f9ff6d12f8ea4fec9450782fee1a5f38f72081f107"), looks := false }, kinds := [], alts := [], laidByText := true, laidKinds := [.data, .pinned], laidTests := true, laidLooks := .later }
def SealTornUptoCardSaid : Prop := Claim7.holds Tryd.pinned (.plain (OpenSpec.upto sealTornSpec)) sealTornUptoCard

/-- THE SECOND FORM's CARD OF 'imprimaturlaw04.SealChanged'. -/
def sealChangedUptoCard : Claim7 := { stood := { row := sealChangedUptoRow, standIns := [], harness := (true, "cece70cbbb7e7deb769315f9ff6d12f8ea4fec9450782fee1a5f38f72081f107"), looks := false }, kinds := [], alts := [], laidByText := true, laidKinds := [.data, .pinned], laidTests := true, laidLooks := .later }
def SealChangedUptoCardSaid : Prop := Claim7.holds Tryd.pinned (.plain (OpenSpec.upto sealChangedSpec)) sealChangedUptoCard

/-- THE SECOND FORM's CARD OF 'imprimaturlaw04.SealRows'. -/
def sealRowsUptoCard : Claim7 := { stood := { row := sealRowsUptoRow, standIns := [], harness := (true, "cece70cbbb7e7deb769315f9ff6d12f8ea4fec9450782fee1a5f38f72081f107"), looks := false }, kinds := [], alts := [], laidByText := true, laidKinds := [.data, .pinned], laidTests := true, laidLooks := .later }
def SealRowsUptoCardSaid : Prop := Claim7.holds Tryd.pinned (.plain (OpenSpec.upto sealRowsSpec)) sealRowsUptoCard

/-- THE SECOND FORM's CARD OF 'imprimaturlaw05.AreaRoom'. -/
def areaRoomUptoCard : Claim7 := { stood := { row := areaRoomUptoRow, standIns := [], harness := (true, "cece70cbbb7e7deb769315f9ff6d12f8ea4fec9450782fee1a5f38f72081f107"), looks := false }, kinds := [], alts := [], laidByText := true, laidKinds := [.data, .pinned], laidTests := true, laidLooks := .later }
def AreaRoomUptoCardSaid : Prop := Claim7.holds Tryd.pinned (.plain (OpenSpec.upto areaRoomSpec)) areaRoomUptoCard

/-- THE SECOND FORM's CARD OF 'imprimaturlaw05.AreaLasts'. -/
def areaLastsUptoCard : Claim7 := { stood := { row := areaLastsUptoRow, standIns := [], harness := (true, "cece70cbbb7e7deb769315f9ff6d12f8ea4fec9450782fee1a5f38f72081f107"), looks := false }, kinds := [], alts := [], laidByText := true, laidKinds := [.data, .pinned], laidTests := true, laidLooks := .later }
def AreaLastsUptoCardSaid : Prop := Claim7.holds Tryd.pinned (.plain (OpenSpec.upto areaLastsSpec)) areaLastsUptoCard

/-- THE SECOND FORM's CARD OF 'imprimaturlaw06.VaultKeeps'. -/
def vaultKeepsUptoCard : Claim7 := { stood := { row := vaultKeepsUptoRow, standIns := [], harness := (true, "cece70cbbb7e7deb769315f9ff6d12f8ea4fec9450782fee1a5f38f72081f107"), looks := false }, kinds := [], alts := [], laidByText := true, laidKinds := [.data, .pinned], laidTests := true, laidLooks := .later }
def VaultKeepsUptoCardSaid : Prop := Claim7.holds Tryd.pinned (.plain (OpenSpec.upto vaultKeepsSpec)) vaultKeepsUptoCard

/-- THE SECOND FORM's CARD OF 'imprimaturlaw08.TermWords'. -/
def termWordsUptoCard : Claim7 := { stood := { row := termWordsUptoRow, standIns := [], harness := (true, "cece70cbbb7e7deb769315f9ff6d12f8ea4fec9450782fee1a5f38f72081f107"), looks := false }, kinds := [], alts := [], laidByText := true, laidKinds := [.data, .pinned], laidTests := true, laidLooks := .later }
def TermWordsUptoCardSaid : Prop := Claim7.holds Tryd.pinned (.plain (OpenSpec.upto termWordsSpec)) termWordsUptoCard

/-- THE SECOND FORM's CARD OF 'imprimaturlaw08.TermMakes'. -/
def termMakesUptoCard : Claim7 := { stood := { row := termMakesUptoRow, standIns := [], harness := (true, "cece70cbbb7e7deb769315f9ff6d12f8ea4fec9450782fee1a5f38f72081f107"), looks := false }, kinds := [], alts := [], laidByText := true, laidKinds := [.data, .pinned], laidTests := true, laidLooks := .later }
def TermMakesUptoCardSaid : Prop := Claim7.holds Tryd.pinned (.plain (OpenSpec.upto termMakesSpec)) termMakesUptoCard

/-- THE SECOND FORM's CARD OF 'imprimaturlaw08.TermRights'. -/
def termRightsUptoCard : Claim7 := { stood := { row := termRightsUptoRow, standIns := [], harness := (true, "cece70cbbb7e7deb769315f9ff6d12f8ea4fec9450782fee1a5f38f72081f107"), looks := false }, kinds := [], alts := [], laidByText := true, laidKinds := [.data, .pinned], laidTests := true, laidLooks := .later }
def TermRightsUptoCardSaid : Prop := Claim7.holds Tryd.pinned (.plain (OpenSpec.upto termRightsSpec)) termRightsUptoCard

/-- THE SECOND FORM's CARD OF 'imprimaturlaw08.TermSpines'. -/
def termSpinesUptoCard : Claim7 := { stood := { row := termSpinesUptoRow, standIns := [], harness := (true, "cece70cbbb7e7deb769315f9ff6d12f8ea4fec9450782fee1a5f38f72081f107"), looks := false }, kinds := [], alts := [], laidByText := true, laidKinds := [.data, .pinned], laidTests := true, laidLooks := .later }
def TermSpinesUptoCardSaid : Prop := Claim7.holds Tryd.pinned (.plain (OpenSpec.upto termSpinesSpec)) termSpinesUptoCard
end Rows
end Go.Proofs.YtedebapgmfnflaaDoor
