/-
  DERIVED. GIVEN WITH THE SEED: THE CARDS: each row of YtdnbfhcbcdodmaaGreatDoorRows.lean that lists a variable, with what it lists TIED to the program's text (the seventh form; the later family's looks); each row that meets fmt, with fmt's text TOLD by the authors' own Lean function (tested against real Go, not proved from fmt's source: count such statements apart). THE CARD IS WHAT COUNTS. Prove the row's statement (the work); the ties are given (YtdnbfhcbcdodmaaGreatDoorTie.lean); close each card by the builder's one call (the guide's Derived/Test/ToyasCard.lean, 'card_holds'). Laid BY PROGRAM, IN A SANDBOX (cutbox-door.mjs). By AI agents, Wed Nov 11 2026. No macro, syntax, notation, axiom, sorry.
-/
import Derived.Test.YtdnbfhcbcdodmaaGreatDoorRows
import GoSem.ClaimSeven
namespace Go.Proofs.YtdnbfhcbcdodmaaGreatDoor
namespace Rows

/-- THE TIED CARD OF 'shyardlaw12.GateCounts'. -/
def gateCountsCard : Claim7 := { stood := { row := gateCountsRow, standIns := [], harness := (true, "d14419069ba49cc3677888dc5f344a18717279dc0a5b63983d068eddfc2886ca"), looks := false }, kinds := [], alts := [], laidByText := true, laidKinds := [.data, .pinned], laidTests := true, laidLooks := .later }
def GateCountsCardSaid : Prop := Claim7.holds Tryz.pinned (.plain (OpenSpec.ofChange gateCountsSpec)) gateCountsCard

/-- THE TIED CARD OF 'shyardlaw12.GateEnds'. -/
def gateEndsCard : Claim7 := { stood := { row := gateEndsRow, standIns := [], harness := (true, "d14419069ba49cc3677888dc5f344a18717279dc0a5b63983d068eddfc2886ca"), looks := false }, kinds := [], alts := [], laidByText := true, laidKinds := [.data, .pinned], laidTests := true, laidLooks := .later }
def GateEndsCardSaid : Prop := Claim7.holds Tryz.pinned (.plain (OpenSpec.ofChange gateEndsSpec)) gateEndsCard

/-- THE TIED CARD OF 'shyardlaw12.GateRefuses'. -/
def gateRefusesCard : Claim7 := { stood := { row := gateRefusesRow, standIns := [], harness := (true, "d14419069ba49cc3677888dc5f344a18717279dc0a5b63983d068eddfc2886ca"), looks := false }, kinds := [], alts := [], laidByText := true, laidKinds := [.data, .pinned], laidTests := true, laidLooks := .later }
def GateRefusesCardSaid : Prop := Claim7.holds Tryz.pinned (.plain (OpenSpec.ofChange gateRefusesSpec)) gateRefusesCard

/-- THE TIED CARD OF 'shyardlaw12.GateNobody'. -/
def gateNobodyCard : Claim7 := { stood := { row := gateNobodyRow, standIns := [], harness := (true, "d14419069ba49cc3677888dc5f344a18717279dc0a5b63983d068eddfc2886ca"), looks := false }, kinds := [], alts := [], laidByText := true, laidKinds := [.data, .pinned], laidTests := true, laidLooks := .later }
def GateNobodyCardSaid : Prop := Claim7.holds Tryz.pinned (.plain (OpenSpec.ofChange gateNobodySpec)) gateNobodyCard

/-- THE SECOND FORM's CARD OF 'shyardlaw12.GateCounts'. -/
def gateCountsUptoCard : Claim7 := { stood := { row := gateCountsUptoRow, standIns := [], harness := (true, "d14419069ba49cc3677888dc5f344a18717279dc0a5b63983d068eddfc2886ca"), looks := false }, kinds := [], alts := [], laidByText := true, laidKinds := [.data, .pinned], laidTests := true, laidLooks := .later }
def GateCountsUptoCardSaid : Prop := Claim7.holds Tryz.pinned (.plain (OpenSpec.upto gateCountsSpec)) gateCountsUptoCard

/-- THE SECOND FORM's CARD OF 'shyardlaw12.GateEnds'. -/
def gateEndsUptoCard : Claim7 := { stood := { row := gateEndsUptoRow, standIns := [], harness := (true, "d14419069ba49cc3677888dc5f344a18717279dc0a5b63983d068eddfc2886ca"), looks := false }, kinds := [], alts := [], laidByText := true, laidKinds := [.data, .pinned], laidTests := true, laidLooks := .later }
def GateEndsUptoCardSaid : Prop := Claim7.holds Tryz.pinned (.plain (OpenSpec.upto gateEndsSpec)) gateEndsUptoCard

/-- THE SECOND FORM's CARD OF 'shyardlaw12.GateRefuses'. -/
def gateRefusesUptoCard : Claim7 := { stood := { row := gateRefusesUptoRow, standIns := [], harness := (true, "d14419069ba49cc3677888dc5f344a18717279dc0a5b63983d068eddfc2886ca"), looks := false }, kinds := [], alts := [], laidByText := true, laidKinds := [.data, .pinned], laidTests := true, laidLooks := .later }
def GateRefusesUptoCardSaid : Prop := Claim7.holds Tryz.pinned (.plain (OpenSpec.upto gateRefusesSpec)) gateRefusesUptoCard

/-- THE SECOND FORM's CARD OF 'shyardlaw12.GateNobody'. -/
def gateNobodyUptoCard : Claim7 := { stood := { row := gateNobodyUptoRow, standIns := [], harness := (true, "d14419069ba49cc3677888dc5f344a18717279dc0a5b63983d068eddfc2886ca"), looks := false }, kinds := [], alts := [], laidByText := true, laidKinds := [.data, .pinned], laidTests := true, laidLooks := .later }
def GateNobodyUptoCardSaid : Prop := Claim7.holds Tryz.pinned (.plain (OpenSpec.upto gateNobodySpec)) gateNobodyUptoCard
end Rows
end Go.Proofs.YtdnbfhcbcdodmaaGreatDoor
