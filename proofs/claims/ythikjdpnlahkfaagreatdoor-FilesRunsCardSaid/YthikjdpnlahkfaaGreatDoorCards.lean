/-
  DERIVED. GIVEN WITH THE SEED: THE CARDS: each row of YthikjdpnlahkfaaGreatDoorRows.lean that lists a variable, with what it lists TIED to the program's text (the seventh form; the later family's looks); each row that meets fmt, with fmt's text TOLD by the authors' own Lean function (tested against real Go, not proved from fmt's source: count such statements apart). THE CARD IS WHAT COUNTS. Prove the row's statement (the work); the ties are given (YthikjdpnlahkfaaGreatDoorTie.lean); close each card by the builder's one call (the guide's Derived/Test/ToyasCard.lean, 'card_holds'). Laid BY PROGRAM, IN A SANDBOX (cutbox-door.mjs). By AI agents, Wed Nov 11 2026. No macro, syntax, notation, axiom, sorry.
-/
import Derived.Test.YthikjdpnlahkfaaGreatDoorRows
import GoSem.ClaimSeven
namespace Go.Proofs.YthikjdpnlahkfaaGreatDoor
namespace Rows

/-- THE TIED CARD OF 'shyardlaw08.FilesRuns'. -/
def filesRunsCard : Claim7 := { stood := { row := filesRunsRow, standIns := [], harness := (true, "8251175cdbf7e98f1030a2503a58e310346316602cf5c17f8434c92eeabe52b5"), looks := false }, kinds := [], alts := [], laidByText := true, laidKinds := [.data, .pinned], laidTests := true, laidLooks := .later }
def FilesRunsCardSaid : Prop := Claim7.holds Tryz.pinned (.plain (OpenSpec.ofChange filesRunsSpec)) filesRunsCard

/-- THE SECOND FORM's CARD OF 'shyardlaw08.FilesRuns'. -/
def filesRunsUptoCard : Claim7 := { stood := { row := filesRunsUptoRow, standIns := [], harness := (true, "8251175cdbf7e98f1030a2503a58e310346316602cf5c17f8434c92eeabe52b5"), looks := false }, kinds := [], alts := [], laidByText := true, laidKinds := [.data, .pinned], laidTests := true, laidLooks := .later }
def FilesRunsUptoCardSaid : Prop := Claim7.holds Tryz.pinned (.plain (OpenSpec.upto filesRunsSpec)) filesRunsUptoCard
end Rows
end Go.Proofs.YthikjdpnlahkfaaGreatDoor
