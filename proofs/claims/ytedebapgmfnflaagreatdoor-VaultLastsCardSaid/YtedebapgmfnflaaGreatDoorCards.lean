/-
  DERIVED. GIVEN WITH THE SEED: THE CARDS: each row of YtedebapgmfnflaaGreatDoorRows.lean that lists a variable, with what it lists TIED to the program's text (the seventh form; the later family's looks); each row that meets fmt, with fmt's text TOLD by the authors' own Lean function (tested against real Go, not proved from fmt's source: count such statements apart). THE CARD IS WHAT COUNTS. Prove the row's statement (the work); the ties are given (YtedebapgmfnflaaGreatDoorTie.lean); close each card by the builder's one call (the guide's Derived/Test/ToyasCard.lean, 'card_holds'). Laid BY PROGRAM, IN A SANDBOX (cutbox-door.mjs). By AI agents, Wed Nov 11 2026. No macro, syntax, notation, axiom, sorry.
-/
import Derived.Test.YtedebapgmfnflaaGreatDoorRows
import GoSem.ClaimSeven
namespace Go.Proofs.YtedebapgmfnflaaGreatDoor
namespace Rows

/-- THE TIED CARD OF 'imprimaturlaw06.VaultPuts'. -/
def vaultPutsCard : Claim7 := { stood := { row := vaultPutsRow, standIns := [], harness := (true, "e46756971cce72f3884962b3d18063bd7df745a1f9bdb790aa5f0a2bfb617deb"), looks := false }, kinds := [], alts := [], laidByText := true, laidKinds := [.data, .pinned], laidTests := true, laidLooks := .later }
def VaultPutsCardSaid : Prop := Claim7.holds Tryz.pinned (.plain (OpenSpec.ofChange vaultPutsSpec)) vaultPutsCard

/-- THE TIED CARD OF 'imprimaturlaw06.VaultLasts'. -/
def vaultLastsCard : Claim7 := { stood := { row := vaultLastsRow, standIns := [], harness := (true, "e46756971cce72f3884962b3d18063bd7df745a1f9bdb790aa5f0a2bfb617deb"), looks := false }, kinds := [], alts := [], laidByText := true, laidKinds := [.data, .pinned], laidTests := true, laidLooks := .later }
def VaultLastsCardSaid : Prop := Claim7.holds Tryz.pinned (.plain (OpenSpec.ofChange vaultLastsSpec)) vaultLastsCard

/-- THE SECOND FORM's CARD OF 'imprimaturlaw06.VaultPuts'. -/
def vaultPutsUptoCard : Claim7 := { stood := { row := vaultPutsUptoRow, standIns := [], harness := (true, "e46756971cce72f3884962b3d18063bd7df745a1f9bdb790aa5f0a2bfb617deb"), looks := false }, kinds := [], alts := [], laidByText := true, laidKinds := [.data, .pinned], laidTests := true, laidLooks := .later }
def VaultPutsUptoCardSaid : Prop := Claim7.holds Tryz.pinned (.plain (OpenSpec.upto vaultPutsSpec)) vaultPutsUptoCard

/-- THE SECOND FORM's CARD OF 'imprimaturlaw06.VaultLasts'. -/
def vaultLastsUptoCard : Claim7 := { stood := { row := vaultLastsUptoRow, standIns := [], harness := (true, "e46756971cce72f3884962b3d18063bd7df745a1f9bdb790aa5f0a2bfb617deb"), looks := false }, kinds := [], alts := [], laidByText := true, laidKinds := [.data, .pinned], laidTests := true, laidLooks := .later }
def VaultLastsUptoCardSaid : Prop := Claim7.holds Tryz.pinned (.plain (OpenSpec.upto vaultLastsSpec)) vaultLastsUptoCard
end Rows
end Go.Proofs.YtedebapgmfnflaaGreatDoor
