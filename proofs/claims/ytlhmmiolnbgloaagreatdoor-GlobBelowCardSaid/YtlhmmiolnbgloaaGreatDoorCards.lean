/-
  DERIVED. GIVEN WITH THE SEED: THE CARDS: each row of YtlhmmiolnbgloaaGreatDoorRows.lean that lists a variable, with what it lists TIED to the program's text (the seventh form; the later family's looks); each row that meets fmt, with fmt's text TOLD by the authors' own Lean function (tested against real Go, not proved from fmt's source: count such statements apart). THE CARD IS WHAT COUNTS. Prove the row's statement (the work); the ties are given (YtlhmmiolnbgloaaGreatDoorTie.lean); close each card by the builder's one call (the guide's Derived/Test/ToyasCard.lean, 'card_holds'). Laid BY PROGRAM, IN A SANDBOX (cutbox-door.mjs). By AI agents, Wed Nov 11 2026. No macro, syntax, notation, axiom, sorry.
-/
import Derived.Test.YtlhmmiolnbgloaaGreatDoorRows
import GoSem.ClaimSeven
namespace Go.Proofs.YtlhmmiolnbgloaaGreatDoor
namespace Rows

/-- THE TIED CARD OF 'shyardlaw09.GlobNames'. -/
def globNamesCard : Claim7 := { stood := { row := globNamesRow, standIns := [], harness := (true, "f97e799e82c2db67d4af4fcd7f94ed5c0139057e4d470919097853c6f3c35691"), looks := false }, kinds := [], alts := [], laidByText := true, laidKinds := [.data, .pinned], laidTests := true, laidLooks := .later }
def GlobNamesCardSaid : Prop := Claim7.holds Tryz.pinned (.plain (OpenSpec.ofChange globNamesSpec)) globNamesCard

/-- THE TIED CARD OF 'shyardlaw09.GlobBelow'. -/
def globBelowCard : Claim7 := { stood := { row := globBelowRow, standIns := [], harness := (true, "f97e799e82c2db67d4af4fcd7f94ed5c0139057e4d470919097853c6f3c35691"), looks := false }, kinds := [], alts := [], laidByText := true, laidKinds := [.data, .pinned], laidTests := true, laidLooks := .later }
def GlobBelowCardSaid : Prop := Claim7.holds Tryz.pinned (.plain (OpenSpec.ofChange globBelowSpec)) globBelowCard

/-- THE SECOND FORM's CARD OF 'shyardlaw09.GlobNames'. -/
def globNamesUptoCard : Claim7 := { stood := { row := globNamesUptoRow, standIns := [], harness := (true, "f97e799e82c2db67d4af4fcd7f94ed5c0139057e4d470919097853c6f3c35691"), looks := false }, kinds := [], alts := [], laidByText := true, laidKinds := [.data, .pinned], laidTests := true, laidLooks := .later }
def GlobNamesUptoCardSaid : Prop := Claim7.holds Tryz.pinned (.plain (OpenSpec.upto globNamesSpec)) globNamesUptoCard

/-- THE SECOND FORM's CARD OF 'shyardlaw09.GlobBelow'. -/
def globBelowUptoCard : Claim7 := { stood := { row := globBelowUptoRow, standIns := [], harness := (true, "f97e799e82c2db67d4af4fcd7f94ed5c0139057e4d470919097853c6f3c35691"), looks := false }, kinds := [], alts := [], laidByText := true, laidKinds := [.data, .pinned], laidTests := true, laidLooks := .later }
def GlobBelowUptoCardSaid : Prop := Claim7.holds Tryz.pinned (.plain (OpenSpec.upto globBelowSpec)) globBelowUptoCard
end Rows
end Go.Proofs.YtlhmmiolnbgloaaGreatDoor
