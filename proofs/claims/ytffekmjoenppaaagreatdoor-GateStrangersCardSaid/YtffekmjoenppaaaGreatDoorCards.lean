/-
  DERIVED. GIVEN WITH THE SEED: THE CARDS: each row of YtffekmjoenppaaaGreatDoorRows.lean that lists a variable, with what it lists TIED to the program's text (the seventh form; the later family's looks); each row that meets fmt, with fmt's text TOLD by the authors' own Lean function (tested against real Go, not proved from fmt's source: count such statements apart). THE CARD IS WHAT COUNTS. Prove the row's statement (the work); the ties are given (YtffekmjoenppaaaGreatDoorTie.lean); close each card by the builder's one call (the guide's Derived/Test/ToyasCard.lean, 'card_holds'). Laid BY PROGRAM, IN A SANDBOX (cutbox-door.mjs). By AI agents, Wed Nov 11 2026. No macro, syntax, notation, axiom, sorry.
-/
import Derived.Test.YtffekmjoenppaaaGreatDoorRows
import GoSem.ClaimSeven
namespace Go.Proofs.YtffekmjoenppaaaGreatDoor
namespace Rows

/-- THE TIED CARD OF 'shyardlaw12.GateOffsets'. -/
def gateOffsetsCard : Claim7 := { stood := { row := gateOffsetsRow, standIns := [], harness := (true, "e0e2a808d3950fab1492a0d40e50274717462c97fa38ac2bedc97bac0f40efad"), looks := false }, kinds := [], alts := [], laidByText := true, laidKinds := [.data, .pinned], laidTests := true, laidLooks := .later }
def GateOffsetsCardSaid : Prop := Claim7.holds Tryz.pinned (.plain (OpenSpec.ofChange gateOffsetsSpec)) gateOffsetsCard

/-- THE TIED CARD OF 'shyardlaw12.GateStrangers'. -/
def gateStrangersCard : Claim7 := { stood := { row := gateStrangersRow, standIns := [], harness := (true, "e0e2a808d3950fab1492a0d40e50274717462c97fa38ac2bedc97bac0f40efad"), looks := false }, kinds := [], alts := [], laidByText := true, laidKinds := [.data, .pinned], laidTests := true, laidLooks := .later }
def GateStrangersCardSaid : Prop := Claim7.holds Tryz.pinned (.plain (OpenSpec.ofChange gateStrangersSpec)) gateStrangersCard

/-- THE SECOND FORM's CARD OF 'shyardlaw12.GateOffsets'. -/
def gateOffsetsUptoCard : Claim7 := { stood := { row := gateOffsetsUptoRow, standIns := [], harness := (true, "e0e2a808d3950fab1492a0d40e50274717462c97fa38ac2bedc97bac0f40efad"), looks := false }, kinds := [], alts := [], laidByText := true, laidKinds := [.data, .pinned], laidTests := true, laidLooks := .later }
def GateOffsetsUptoCardSaid : Prop := Claim7.holds Tryz.pinned (.plain (OpenSpec.upto gateOffsetsSpec)) gateOffsetsUptoCard

/-- THE SECOND FORM's CARD OF 'shyardlaw12.GateStrangers'. -/
def gateStrangersUptoCard : Claim7 := { stood := { row := gateStrangersUptoRow, standIns := [], harness := (true, "e0e2a808d3950fab1492a0d40e50274717462c97fa38ac2bedc97bac0f40efad"), looks := false }, kinds := [], alts := [], laidByText := true, laidKinds := [.data, .pinned], laidTests := true, laidLooks := .later }
def GateStrangersUptoCardSaid : Prop := Claim7.holds Tryz.pinned (.plain (OpenSpec.upto gateStrangersSpec)) gateStrangersUptoCard
end Rows
end Go.Proofs.YtffekmjoenppaaaGreatDoor
