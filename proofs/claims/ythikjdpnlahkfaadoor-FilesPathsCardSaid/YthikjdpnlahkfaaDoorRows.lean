/-
  NARROWER THAN 'FOR EVERY INPUT', by the rows' own cells (each row's printed sentence says how): FilesBytes: laid · FilesNil: laid · FilesHolds: laid · FilesPaths: laid · FilesBack: laid · FilesKeeps: laid.
  DERIVED. THE GIVEN ROWS OF THIS SEAT. 6 by the template 'for every input the law returns true; each argument reads behind the call as it read before'; 0 by the template 'total and deterministic' (their statements: YthikjdpnlahkfaaDoorTotals.lean).
  GIVEN WITH THE SEED: the statements are not yours to turn. If you find one false, say at which input.
  Laid BY PROGRAM, IN A SANDBOX (cutbox-rows.mjs): the forced cells as the released guide's own fill.sh prints them over the translation 9c1ebb8ac26a404e… (all of the seat's roots in one cut). By AI agents, Wed Nov 11 2026. No macro, syntax, notation, axiom, sorry.
-/
import Derived.Test.YthikjdpnlahkfaaDoorChecked
import GoSem.PinnedTables
import GoSem.Claim
import GoSem.ClaimJoined
import GoSem.ClaimMapViews
import Derived.JoinedTies
import Derived.KernelRfl
namespace Go.Proofs.YthikjdpnlahkfaaDoor
/- THE CELL 'sum', in the pinned program and in every row, IS THE sha256 OF THE DUMP (.gsa) THAT YthikjdpnlahkfaaDoorProg.lean LOADS. Nothing in Lean hashes anything: it is a label: what it is worth is what the hold of that sum in a sandbox is worth. -/
noncomputable def Tryd.pinned : Pinned := { name := "ythikjdpnlahkfaadoor", sum := "9c1ebb8ac26a404edc4e64a87a4a4602bff38480a11c74490ef4fdf84d6d33f8", checked := Tryd.checked }
namespace Rows
def none {H : Type} : Left H := { results := [], args := [] }

/- WHAT THE LISTED PACKAGE-LEVEL VARIABLES READ AS WHEN THE CALL BEGINS. Each datum BY PROGRAM (the guide's laid-datum.mjs) off the statement by which the dump's own 'gosem.cut.vars' lays the variable. In a bare row this is a premise. The card (YthikjdpnlahkfaaDoorCards.lean) ties it to the program's text. -/
def laid_unicode_utf8_acceptRanges {H : Type} : DataW H := .agg [.agg [.lit (.int .u8 128), .lit (.int .u8 191)], .agg [.lit (.int .u8 160), .lit (.int .u8 191)], .agg [.lit (.int .u8 128), .lit (.int .u8 159)], .agg [.lit (.int .u8 144), .lit (.int .u8 191)], .agg [.lit (.int .u8 128), .lit (.int .u8 143)], .agg [.lit (.int .u8 0), .lit (.int .u8 0)], .agg [.lit (.int .u8 0), .lit (.int .u8 0)], .agg [.lit (.int .u8 0), .lit (.int .u8 0)], .agg [.lit (.int .u8 0), .lit (.int .u8 0)], .agg [.lit (.int .u8 0), .lit (.int .u8 0)], .agg [.lit (.int .u8 0), .lit (.int .u8 0)], .agg [.lit (.int .u8 0), .lit (.int .u8 0)], .agg [.lit (.int .u8 0), .lit (.int .u8 0)], .agg [.lit (.int .u8 0), .lit (.int .u8 0)], .agg [.lit (.int .u8 0), .lit (.int .u8 0)], .agg [.lit (.int .u8 0), .lit (.int .u8 0)]]
/-- One of Go's own tables, pinned by name: the form's constant. -/
def laid_unicode_utf8_first : DataW Unit := Go.Pinned.utf8First

/-- 'shyardlaw08.FilesBytes': WHATEVER THE INPUT: true; the input reads as it did. -/
def filesBytesSpec : ChangeSpec := { name := "filesBytes", fn := fun _ => fun
  | [d1, d2, d3] => { results := [.lit (.bool true)], args := [d1, d2, d3] }
  | _ => none }
def filesBytesRow : OpenClaim := { program := "ythikjdpnlahkfaadoor", sum := "9c1ebb8ac26a404edc4e64a87a4a4602bff38480a11c74490ef4fdf84d6d33f8", func := "shyard/shyardlaw08.FilesBytes", spec := "filesBytes", inPlace := ["internal/bytealg.CountString", "internal/bytealg.IndexByteString", "internal/bytealg.IndexString"], unfollowed := true, recurses := true, named := ["unicode/utf8.first", "unicode/utf8.acceptRanges", "internal/bytealg.MaxLen"], apart := false, laid := [("unicode/utf8.acceptRanges", laid_unicode_utf8_acceptRanges), ("unicode/utf8.first", laid_unicode_utf8_first)] }
def FilesBytesSaid : Prop := filesBytesRow.holds Tryd.pinned (OpenSpec.ofChange filesBytesSpec)

/-- ITS FALSE NEIGHBOUR: 'it returns false'. Refute it at one input. -/
def filesBytesWrong : ChangeSpec := { name := "filesBytes", fn := fun _ => fun
  | [d1, d2, d3] => { results := [.lit (.bool false)], args := [d1, d2, d3] }
  | _ => none }
def FilesBytesWrongFalsely : Prop := filesBytesRow.holds Tryd.pinned (OpenSpec.ofChange filesBytesWrong)

/-- 'shyardlaw08.FilesNil': WHATEVER THE INPUT: true; the input reads as it did. -/
def filesNilSpec : ChangeSpec := { name := "filesNil", fn := fun _ => fun
  | [d] => { results := [.lit (.bool true)], args := [d] }
  | _ => none }
def filesNilRow : OpenClaim := { program := "ythikjdpnlahkfaadoor", sum := "9c1ebb8ac26a404edc4e64a87a4a4602bff38480a11c74490ef4fdf84d6d33f8", func := "shyard/shyardlaw08.FilesNil", spec := "filesNil", inPlace := ["internal/bytealg.CountString", "internal/bytealg.IndexByteString", "internal/bytealg.IndexString"], unfollowed := true, recurses := true, named := ["unicode/utf8.first", "unicode/utf8.acceptRanges", "internal/bytealg.MaxLen"], apart := false, laid := [("unicode/utf8.acceptRanges", laid_unicode_utf8_acceptRanges), ("unicode/utf8.first", laid_unicode_utf8_first)] }
def FilesNilSaid : Prop := filesNilRow.holds Tryd.pinned (OpenSpec.ofChange filesNilSpec)

/-- ITS FALSE NEIGHBOUR: 'it returns false'. Refute it at one input. -/
def filesNilWrong : ChangeSpec := { name := "filesNil", fn := fun _ => fun
  | [d] => { results := [.lit (.bool false)], args := [d] }
  | _ => none }
def FilesNilWrongFalsely : Prop := filesNilRow.holds Tryd.pinned (OpenSpec.ofChange filesNilWrong)

/-- 'shyardlaw08.FilesHolds': WHATEVER THE INPUT: true; the input reads as it did. -/
def filesHoldsSpec : ChangeSpec := { name := "filesHolds", fn := fun _ => fun
  | [d1, d2] => { results := [.lit (.bool true)], args := [d1, d2] }
  | _ => none }
def filesHoldsRow : OpenClaim := { program := "ythikjdpnlahkfaadoor", sum := "9c1ebb8ac26a404edc4e64a87a4a4602bff38480a11c74490ef4fdf84d6d33f8", func := "shyard/shyardlaw08.FilesHolds", spec := "filesHolds", inPlace := ["internal/bytealg.CountString", "internal/bytealg.IndexByteString", "internal/bytealg.IndexString"], unfollowed := true, recurses := true, named := ["unicode/utf8.first", "unicode/utf8.acceptRanges", "internal/bytealg.MaxLen"], apart := false, laid := [("unicode/utf8.acceptRanges", laid_unicode_utf8_acceptRanges), ("unicode/utf8.first", laid_unicode_utf8_first)] }
def FilesHoldsSaid : Prop := filesHoldsRow.holds Tryd.pinned (OpenSpec.ofChange filesHoldsSpec)

/-- ITS FALSE NEIGHBOUR: 'it returns false'. Refute it at one input. -/
def filesHoldsWrong : ChangeSpec := { name := "filesHolds", fn := fun _ => fun
  | [d1, d2] => { results := [.lit (.bool false)], args := [d1, d2] }
  | _ => none }
def FilesHoldsWrongFalsely : Prop := filesHoldsRow.holds Tryd.pinned (OpenSpec.ofChange filesHoldsWrong)

/-- 'shyardlaw08.FilesPaths': WHATEVER THE INPUT: true; the input reads as it did. -/
def filesPathsSpec : ChangeSpec := { name := "filesPaths", fn := fun _ => fun
  | [d] => { results := [.lit (.bool true)], args := [d] }
  | _ => none }
def filesPathsRow : OpenClaim := { program := "ythikjdpnlahkfaadoor", sum := "9c1ebb8ac26a404edc4e64a87a4a4602bff38480a11c74490ef4fdf84d6d33f8", func := "shyard/shyardlaw08.FilesPaths", spec := "filesPaths", inPlace := ["internal/bytealg.CountString", "internal/bytealg.IndexByteString", "internal/bytealg.IndexString"], unfollowed := true, recurses := true, named := ["unicode/utf8.first", "unicode/utf8.acceptRanges", "internal/bytealg.MaxLen"], apart := false, laid := [("unicode/utf8.acceptRanges", laid_unicode_utf8_acceptRanges), ("unicode/utf8.first", laid_unicode_utf8_first)] }
def FilesPathsSaid : Prop := filesPathsRow.holds Tryd.pinned (OpenSpec.ofChange filesPathsSpec)

/-- ITS FALSE NEIGHBOUR: 'it returns false'. Refute it at one input. -/
def filesPathsWrong : ChangeSpec := { name := "filesPaths", fn := fun _ => fun
  | [d] => { results := [.lit (.bool false)], args := [d] }
  | _ => none }
def FilesPathsWrongFalsely : Prop := filesPathsRow.holds Tryd.pinned (OpenSpec.ofChange filesPathsWrong)

/-- 'shyardlaw08.FilesBack': WHATEVER THE INPUT: true; the input reads as it did. -/
def filesBackSpec : ChangeSpec := { name := "filesBack", fn := fun _ => fun
  | [d1, d2] => { results := [.lit (.bool true)], args := [d1, d2] }
  | _ => none }
def filesBackRow : OpenClaim := { program := "ythikjdpnlahkfaadoor", sum := "9c1ebb8ac26a404edc4e64a87a4a4602bff38480a11c74490ef4fdf84d6d33f8", func := "shyard/shyardlaw08.FilesBack", spec := "filesBack", inPlace := ["internal/bytealg.CountString", "internal/bytealg.IndexByteString", "internal/bytealg.IndexString"], unfollowed := true, recurses := true, named := ["unicode/utf8.first", "unicode/utf8.acceptRanges", "internal/bytealg.MaxLen"], apart := false, laid := [("unicode/utf8.acceptRanges", laid_unicode_utf8_acceptRanges), ("unicode/utf8.first", laid_unicode_utf8_first)] }
def FilesBackSaid : Prop := filesBackRow.holds Tryd.pinned (OpenSpec.ofChange filesBackSpec)

/-- ITS FALSE NEIGHBOUR: 'it returns false'. Refute it at one input. -/
def filesBackWrong : ChangeSpec := { name := "filesBack", fn := fun _ => fun
  | [d1, d2] => { results := [.lit (.bool false)], args := [d1, d2] }
  | _ => none }
def FilesBackWrongFalsely : Prop := filesBackRow.holds Tryd.pinned (OpenSpec.ofChange filesBackWrong)

/-- 'shyardlaw08.FilesKeeps': WHATEVER THE INPUT: true; the input reads as it did. -/
def filesKeepsSpec : ChangeSpec := { name := "filesKeeps", fn := fun _ => fun
  | [d] => { results := [.lit (.bool true)], args := [d] }
  | _ => none }
def filesKeepsRow : OpenClaim := { program := "ythikjdpnlahkfaadoor", sum := "9c1ebb8ac26a404edc4e64a87a4a4602bff38480a11c74490ef4fdf84d6d33f8", func := "shyard/shyardlaw08.FilesKeeps", spec := "filesKeeps", inPlace := ["internal/bytealg.CountString", "internal/bytealg.IndexByteString", "internal/bytealg.IndexString"], unfollowed := true, recurses := true, named := ["unicode/utf8.first", "unicode/utf8.acceptRanges", "internal/bytealg.MaxLen"], apart := false, laid := [("unicode/utf8.acceptRanges", laid_unicode_utf8_acceptRanges), ("unicode/utf8.first", laid_unicode_utf8_first)] }
def FilesKeepsSaid : Prop := filesKeepsRow.holds Tryd.pinned (OpenSpec.ofChange filesKeepsSpec)

/-- ITS FALSE NEIGHBOUR: 'it returns false'. Refute it at one input. -/
def filesKeepsWrong : ChangeSpec := { name := "filesKeeps", fn := fun _ => fun
  | [d] => { results := [.lit (.bool false)], args := [d] }
  | _ => none }
def FilesKeepsWrongFalsely : Prop := filesKeepsRow.holds Tryd.pinned (OpenSpec.ofChange filesKeepsWrong)

/- THE SECOND FORM. 'bulk': how many values and letters a reading holds, each counted each time it is reached (what is shared counts as often as it is met; a slice's spare places count too). A statement '..UptoSaid' is the law's where the arguments, and the package variables that the reading takes, are together of bulk at most 1048576: NARROWER than '..Said'. Prove '..Said' where nothing that the law and all that it calls make is longer than what came in: it says more and counts as full. Else prove '..UptoSaid'. A law counts once. -/
mutual
def uptoBulk {H : Type} : DataW H → Nat
  | .lit (.string bytes) => bytes.length + 1
  | .lit _ => 1
  | .nil => 1
  | .ptr d => uptoBulk d + 1
  | .slice elems spare => uptoBulkAll elems + uptoBulkAll spare + 1
  | .agg parts => uptoBulkAll parts + 1
  | .iface _ d => uptoBulk d + 1
  | .map entries => uptoBulkEntries entries + 1
  | .held _ => 1
def uptoBulkAll {H : Type} : List (DataW H) → Nat
  | [] => 0
  | d :: r => uptoBulk d + uptoBulkAll r
def uptoBulkEntries {H : Type} : List (Lit × DataW H) → Nat
  | [] => 0
  | x :: r => uptoBulkEntry x + uptoBulkEntries r
def uptoBulkEntry {H : Type} : Lit × DataW H → Nat
  | (.string bytes, d) => bytes.length + uptoBulk d + 1
  | (_, d) => uptoBulk d + 1
 end
def uptoSmall : (H : Type) → List (DataW H) → Bool := fun _ ds => decide (uptoBulkAll ds ≤ 1048576)
def OpenSpec.upto (s : _root_.Go.ChangeSpec) : _root_.Go.OpenSpec := { _root_.Go.OpenSpec.ofChange s with cond := some uptoSmall }

/-- 'shyardlaw08.FilesBytes', WHERE WHAT IT READS IS OF BULK AT MOST 1048576: true; the input reads as it did. -/
def filesBytesUptoRow : OpenClaim := { program := "ythikjdpnlahkfaadoor", sum := "9c1ebb8ac26a404edc4e64a87a4a4602bff38480a11c74490ef4fdf84d6d33f8", func := "shyard/shyardlaw08.FilesBytes", spec := "filesBytes", inPlace := ["internal/bytealg.CountString", "internal/bytealg.IndexByteString", "internal/bytealg.IndexString"], unfollowed := true, recurses := true, named := ["unicode/utf8.first", "unicode/utf8.acceptRanges", "internal/bytealg.MaxLen"], apart := false, laid := [("unicode/utf8.acceptRanges", laid_unicode_utf8_acceptRanges), ("unicode/utf8.first", laid_unicode_utf8_first)], narrowed := true }
def FilesBytesUptoSaid : Prop := filesBytesUptoRow.holds Tryd.pinned (OpenSpec.upto filesBytesSpec)

/-- 'shyardlaw08.FilesNil', WHERE WHAT IT READS IS OF BULK AT MOST 1048576: true; the input reads as it did. -/
def filesNilUptoRow : OpenClaim := { program := "ythikjdpnlahkfaadoor", sum := "9c1ebb8ac26a404edc4e64a87a4a4602bff38480a11c74490ef4fdf84d6d33f8", func := "shyard/shyardlaw08.FilesNil", spec := "filesNil", inPlace := ["internal/bytealg.CountString", "internal/bytealg.IndexByteString", "internal/bytealg.IndexString"], unfollowed := true, recurses := true, named := ["unicode/utf8.first", "unicode/utf8.acceptRanges", "internal/bytealg.MaxLen"], apart := false, laid := [("unicode/utf8.acceptRanges", laid_unicode_utf8_acceptRanges), ("unicode/utf8.first", laid_unicode_utf8_first)], narrowed := true }
def FilesNilUptoSaid : Prop := filesNilUptoRow.holds Tryd.pinned (OpenSpec.upto filesNilSpec)

/-- 'shyardlaw08.FilesHolds', WHERE WHAT IT READS IS OF BULK AT MOST 1048576: true; the input reads as it did. -/
def filesHoldsUptoRow : OpenClaim := { program := "ythikjdpnlahkfaadoor", sum := "9c1ebb8ac26a404edc4e64a87a4a4602bff38480a11c74490ef4fdf84d6d33f8", func := "shyard/shyardlaw08.FilesHolds", spec := "filesHolds", inPlace := ["internal/bytealg.CountString", "internal/bytealg.IndexByteString", "internal/bytealg.IndexString"], unfollowed := true, recurses := true, named := ["unicode/utf8.first", "unicode/utf8.acceptRanges", "internal/bytealg.MaxLen"], apart := false, laid := [("unicode/utf8.acceptRanges", laid_unicode_utf8_acceptRanges), ("unicode/utf8.first", laid_unicode_utf8_first)], narrowed := true }
def FilesHoldsUptoSaid : Prop := filesHoldsUptoRow.holds Tryd.pinned (OpenSpec.upto filesHoldsSpec)

/-- 'shyardlaw08.FilesPaths', WHERE WHAT IT READS IS OF BULK AT MOST 1048576: true; the input reads as it did. -/
def filesPathsUptoRow : OpenClaim := { program := "ythikjdpnlahkfaadoor", sum := "9c1ebb8ac26a404edc4e64a87a4a4602bff38480a11c74490ef4fdf84d6d33f8", func := "shyard/shyardlaw08.FilesPaths", spec := "filesPaths", inPlace := ["internal/bytealg.CountString", "internal/bytealg.IndexByteString", "internal/bytealg.IndexString"], unfollowed := true, recurses := true, named := ["unicode/utf8.first", "unicode/utf8.acceptRanges", "internal/bytealg.MaxLen"], apart := false, laid := [("unicode/utf8.acceptRanges", laid_unicode_utf8_acceptRanges), ("unicode/utf8.first", laid_unicode_utf8_first)], narrowed := true }
def FilesPathsUptoSaid : Prop := filesPathsUptoRow.holds Tryd.pinned (OpenSpec.upto filesPathsSpec)

/-- 'shyardlaw08.FilesBack', WHERE WHAT IT READS IS OF BULK AT MOST 1048576: true; the input reads as it did. -/
def filesBackUptoRow : OpenClaim := { program := "ythikjdpnlahkfaadoor", sum := "9c1ebb8ac26a404edc4e64a87a4a4602bff38480a11c74490ef4fdf84d6d33f8", func := "shyard/shyardlaw08.FilesBack", spec := "filesBack", inPlace := ["internal/bytealg.CountString", "internal/bytealg.IndexByteString", "internal/bytealg.IndexString"], unfollowed := true, recurses := true, named := ["unicode/utf8.first", "unicode/utf8.acceptRanges", "internal/bytealg.MaxLen"], apart := false, laid := [("unicode/utf8.acceptRanges", laid_unicode_utf8_acceptRanges), ("unicode/utf8.first", laid_unicode_utf8_first)], narrowed := true }
def FilesBackUptoSaid : Prop := filesBackUptoRow.holds Tryd.pinned (OpenSpec.upto filesBackSpec)

/-- 'shyardlaw08.FilesKeeps', WHERE WHAT IT READS IS OF BULK AT MOST 1048576: true; the input reads as it did. -/
def filesKeepsUptoRow : OpenClaim := { program := "ythikjdpnlahkfaadoor", sum := "9c1ebb8ac26a404edc4e64a87a4a4602bff38480a11c74490ef4fdf84d6d33f8", func := "shyard/shyardlaw08.FilesKeeps", spec := "filesKeeps", inPlace := ["internal/bytealg.CountString", "internal/bytealg.IndexByteString", "internal/bytealg.IndexString"], unfollowed := true, recurses := true, named := ["unicode/utf8.first", "unicode/utf8.acceptRanges", "internal/bytealg.MaxLen"], apart := false, laid := [("unicode/utf8.acceptRanges", laid_unicode_utf8_acceptRanges), ("unicode/utf8.first", laid_unicode_utf8_first)], narrowed := true }
def FilesKeepsUptoSaid : Prop := filesKeepsUptoRow.holds Tryd.pinned (OpenSpec.upto filesKeepsSpec)

end Rows
end Go.Proofs.YthikjdpnlahkfaaDoor
