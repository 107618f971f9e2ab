/-
  DERIVED. GIVEN WITH THE SEED: THE CARDS: each row of YthikjdpnlahkfaaDoorRows.lean that lists a variable, with what it lists TIED to the program's text (the seventh form; the later family's looks); each row that meets fmt, with fmt's text TOLD by the authors' own Lean function (tested against real Go, not proved from fmt's source: count such statements apart). THE CARD IS WHAT COUNTS. Prove the row's statement (the work); the ties are given (YthikjdpnlahkfaaDoorTie.lean); close each card by the builder's one call (the guide's Derived/Test/ToyasCard.lean, 'card_holds'). Laid BY PROGRAM, IN A SANDBOX (cutbox-door.mjs). By AI agents, Wed Nov 11 2026. No macro, syntax, notation, axiom, sorry.
-/
import Derived.Test.YthikjdpnlahkfaaDoorRows
import GoSem.ClaimSeven
namespace Go.Proofs.YthikjdpnlahkfaaDoor
namespace Rows

/-- THE TIED CARD OF 'shyardlaw08.FilesBytes'. -/
def filesBytesCard : Claim7 := { stood := { row := filesBytesRow, standIns := [], harness := (true, "cb75ef0af1609089e50d172c50db0c48b68fed9ca7c1a2bdd8b784c5cf463ee0"), looks := false }, kinds := [], alts := [], laidByText := true, laidKinds := [.data, .pinned], laidTests := true, laidLooks := .later }
def FilesBytesCardSaid : Prop := Claim7.holds Tryd.pinned (.plain (OpenSpec.ofChange filesBytesSpec)) filesBytesCard

/-- THE TIED CARD OF 'shyardlaw08.FilesNil'. -/
def filesNilCard : Claim7 := { stood := { row := filesNilRow, standIns := [], harness := (true, "cb75ef0af1609089e50d172c50db0c48b68fed9ca7c1a2bdd8b784c5cf463ee0"), looks := false }, kinds := [], alts := [], laidByText := true, laidKinds := [.data, .pinned], laidTests := true, laidLooks := .later }
def FilesNilCardSaid : Prop := Claim7.holds Tryd.pinned (.plain (OpenSpec.ofChange filesNilSpec)) filesNilCard

/-- THE TIED CARD OF 'shyardlaw08.FilesHolds'. -/
def filesHoldsCard : Claim7 := { stood := { row := filesHoldsRow, standIns := [], harness := (true, "cb75ef0af1609089e50d172c50db0c48b68fed9ca7c1a2bdd8b784c5cf463ee0"), looks := false }, kinds := [], alts := [], laidByText := true, laidKinds := [.data, .pinned], laidTests := true, laidLooks := .later }
def FilesHoldsCardSaid : Prop := Claim7.holds Tryd.pinned (.plain (OpenSpec.ofChange filesHoldsSpec)) filesHoldsCard

/-- THE TIED CARD OF 'shyardlaw08.FilesPaths'. -/
def filesPathsCard : Claim7 := { stood := { row := filesPathsRow, standIns := [], harness := (true, "cb75ef0af1609089e50d172c50db0c48b68fed9ca7c1a2bdd8b784c5cf463ee0"), looks := false }, kinds := [], alts := [], laidByText := true, laidKinds := [.data, .pinned], laidTests := true, laidLooks := .later }
def FilesPathsCardSaid : Prop := Claim7.holds Tryd.pinned (.plain (OpenSpec.ofChange filesPathsSpec)) filesPathsCard

/-- THE TIED CARD OF 'shyardlaw08.FilesBack'. -/
def filesBackCard : Claim7 := { stood := { row := filesBackRow, standIns := [], harness := (true, "cb75ef0af1609089e50d172c50db0c48b68fed9ca7c1a2bdd8b784c5cf463ee0"), looks := false }, kinds := [], alts := [], laidByText := true, laidKinds := [.data, .pinned], laidTests := true, laidLooks := .later }
def FilesBackCardSaid : Prop := Claim7.holds Tryd.pinned (.plain (OpenSpec.ofChange filesBackSpec)) filesBackCard

/-- THE TIED CARD OF 'shyardlaw08.FilesKeeps'. -/
def filesKeepsCard : Claim7 := { stood := { row := filesKeepsRow, standIns := [], harness := (true, "cb75ef0af1609089e50d172c50db0c48b68fed9ca7c1a2bdd8b784c5cf463ee0"), looks := false }, kinds := [], alts := [], laidByText := true, laidKinds := [.data, .pinned], laidTests := true, laidLooks := .later }
def FilesKeepsCardSaid : Prop := Claim7.holds Tryd.pinned (.plain (OpenSpec.ofChange filesKeepsSpec)) filesKeepsCard

/-- THE SECOND FORM's CARD OF 'shyardlaw08.FilesBytes'. -/
def filesBytesUptoCard : Claim7 := { stood := { row := filesBytesUptoRow, standIns := [], harness := (true, "cb75ef0af1609089e50d172c50db0c48b68fed9ca7c1a2bdd8b784c5cf463ee0"), looks := false }, kinds := [], alts := [], laidByText := true, laidKinds := [.data, .pinned], laidTests := true, laidLooks := .later }
def FilesBytesUptoCardSaid : Prop := Claim7.holds Tryd.pinned (.plain (OpenSpec.upto filesBytesSpec)) filesBytesUptoCard

/-- THE SECOND FORM's CARD OF 'shyardlaw08.FilesNil'. -/
def filesNilUptoCard : Claim7 := { stood := { row := filesNilUptoRow, standIns := [], harness := (true, "cb75ef0af1609089e50d172c50db0c48b68fed9ca7c1a2bdd8b784c5cf463ee0"), looks := false }, kinds := [], alts := [], laidByText := true, laidKinds := [.data, .pinned], laidTests := true, laidLooks := .later }
def FilesNilUptoCardSaid : Prop := Claim7.holds Tryd.pinned (.plain (OpenSpec.upto filesNilSpec)) filesNilUptoCard

/-- THE SECOND FORM's CARD OF 'shyardlaw08.FilesHolds'. -/
def filesHoldsUptoCard : Claim7 := { stood := { row := filesHoldsUptoRow, standIns := [], harness := (true, "cb75ef0af1609089e50d172c50db0c48b68fed9ca7c1a2bdd8b784c5cf463ee0"), looks := false }, kinds := [], alts := [], laidByText := true, laidKinds := [.data, .pinned], laidTests := true, laidLooks := .later }
def FilesHoldsUptoCardSaid : Prop := Claim7.holds Tryd.pinned (.plain (OpenSpec.upto filesHoldsSpec)) filesHoldsUptoCard

/-- THE SECOND FORM's CARD OF 'shyardlaw08.FilesPaths'. -/
def filesPathsUptoCard : Claim7 := { stood := { row := filesPathsUptoRow, standIns := [], harness := (true, "cb75ef0af1609089e50d172c50db0c48b68fed9ca7c1a2bdd8b784c5cf463ee0"), looks := false }, kinds := [], alts := [], laidByText := true, laidKinds := [.data, .pinned], laidTests := true, laidLooks := .later }
def FilesPathsUptoCardSaid : Prop := Claim7.holds Tryd.pinned (.plain (OpenSpec.upto filesPathsSpec)) filesPathsUptoCard

/-- THE SECOND FORM's CARD OF 'shyardlaw08.FilesBack'. -/
def filesBackUptoCard : Claim7 := { stood := { row := filesBackUptoRow, standIns := [], harness := (true, "cb75ef0af1609089e50d172c50db0c48b68fed9ca7c1a2bdd8b784c5cf463ee0"), looks := false }, kinds := [], alts := [], laidByText := true, laidKinds := [.data, .pinned], laidTests := true, laidLooks := .later }
def FilesBackUptoCardSaid : Prop := Claim7.holds Tryd.pinned (.plain (OpenSpec.upto filesBackSpec)) filesBackUptoCard

/-- THE SECOND FORM's CARD OF 'shyardlaw08.FilesKeeps'. -/
def filesKeepsUptoCard : Claim7 := { stood := { row := filesKeepsUptoRow, standIns := [], harness := (true, "cb75ef0af1609089e50d172c50db0c48b68fed9ca7c1a2bdd8b784c5cf463ee0"), looks := false }, kinds := [], alts := [], laidByText := true, laidKinds := [.data, .pinned], laidTests := true, laidLooks := .later }
def FilesKeepsUptoCardSaid : Prop := Claim7.holds Tryd.pinned (.plain (OpenSpec.upto filesKeepsSpec)) filesKeepsUptoCard
end Rows
end Go.Proofs.YthikjdpnlahkfaaDoor
