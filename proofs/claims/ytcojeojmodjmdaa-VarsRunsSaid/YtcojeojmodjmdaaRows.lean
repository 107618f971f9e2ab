/-
  No cell of these rows narrows 'for every input' (looked for: loops, veiled, ifaces, maps, wideKeys, modest, calm, conditions, laid).
  DERIVED. THE GIVEN ROWS OF THIS SEAT. 5 by the template 'for every input the law returns true; each argument reads behind the call as it read before'; 0 by the template 'total and deterministic' (their statements: YtcojeojmodjmdaaTotals.lean).
  GIVEN WITH THE SEED: the statements are not yours to turn. If you find one false, say at which input.
  Laid BY PROGRAM, IN A SANDBOX (cutbox-rows.mjs): the forced cells as the released guide's own fill.sh prints them over the translation 81e2dfcf400a504d… (all of the seat's roots in one cut). By AI agents, Wed Nov 11 2026. No macro, syntax, notation, axiom, sorry.
-/
import Derived.Test.YtcojeojmodjmdaaChecked
import GoSem.Claim
import GoSem.ClaimJoined
import GoSem.ClaimMapViews
import Derived.JoinedTies
import Derived.KernelRfl
namespace Go.Proofs.Ytcojeojmodjmdaa
/- THE CELL 'sum', in the pinned program and in every row, IS THE sha256 OF THE DUMP (.gsa) THAT YtcojeojmodjmdaaProg.lean LOADS. Nothing in Lean hashes anything: it is a label: what it is worth is what the hold of that sum in a sandbox is worth. -/
noncomputable def Try.pinned : Pinned := { name := "ytcojeojmodjmdaa", sum := "81e2dfcf400a504dedf1418b36e4ee1fa676ac6e3f44fcb2c8c86b0c0be1ea9a", checked := Try.checked }
namespace Rows
def none {H : Type} : Left H := { results := [], args := [] }

/-- 'shyardlaw14.VarsExports': WHATEVER THE INPUT: true; the input reads as it did. -/
def varsExportsSpec : ChangeSpec := { name := "varsExports", fn := fun _ => fun
  | [d1, d2] => { results := [.lit (.bool true)], args := [d1, d2] }
  | _ => none }
def varsExportsRow : OpenClaim := { program := "ytcojeojmodjmdaa", sum := "81e2dfcf400a504dedf1418b36e4ee1fa676ac6e3f44fcb2c8c86b0c0be1ea9a", func := "shyard/shyardlaw14.VarsExports", spec := "varsExports", unfollowed := true, recurses := true, apart := false }
def VarsExportsSaid : Prop := varsExportsRow.holds Try.pinned (OpenSpec.ofChange varsExportsSpec)

/-- ITS FALSE NEIGHBOUR: 'it returns false'. Refute it at one input. -/
def varsExportsWrong : ChangeSpec := { name := "varsExports", fn := fun _ => fun
  | [d1, d2] => { results := [.lit (.bool false)], args := [d1, d2] }
  | _ => none }
def VarsExportsWrongFalsely : Prop := varsExportsRow.holds Try.pinned (OpenSpec.ofChange varsExportsWrong)

/-- 'shyardlaw14.VarsShifts': WHATEVER THE INPUT: true; the input reads as it did. -/
def varsShiftsSpec : ChangeSpec := { name := "varsShifts", fn := fun _ => fun
  | [d1, d2, d3] => { results := [.lit (.bool true)], args := [d1, d2, d3] }
  | _ => none }
def varsShiftsRow : OpenClaim := { program := "ytcojeojmodjmdaa", sum := "81e2dfcf400a504dedf1418b36e4ee1fa676ac6e3f44fcb2c8c86b0c0be1ea9a", func := "shyard/shyardlaw14.VarsShifts", spec := "varsShifts", unfollowed := true, recurses := true, apart := false }
def VarsShiftsSaid : Prop := varsShiftsRow.holds Try.pinned (OpenSpec.ofChange varsShiftsSpec)

/-- ITS FALSE NEIGHBOUR: 'it returns false'. Refute it at one input. -/
def varsShiftsWrong : ChangeSpec := { name := "varsShifts", fn := fun _ => fun
  | [d1, d2, d3] => { results := [.lit (.bool false)], args := [d1, d2, d3] }
  | _ => none }
def VarsShiftsWrongFalsely : Prop := varsShiftsRow.holds Try.pinned (OpenSpec.ofChange varsShiftsWrong)

/-- 'shyardlaw14.VarsFixed': WHATEVER THE INPUT: true; the input reads as it did. -/
def varsFixedSpec : ChangeSpec := { name := "varsFixed", fn := fun _ => fun
  | [d1, d2] => { results := [.lit (.bool true)], args := [d1, d2] }
  | _ => none }
def varsFixedRow : OpenClaim := { program := "ytcojeojmodjmdaa", sum := "81e2dfcf400a504dedf1418b36e4ee1fa676ac6e3f44fcb2c8c86b0c0be1ea9a", func := "shyard/shyardlaw14.VarsFixed", spec := "varsFixed", inPlace := ["maps.clone"], unfollowed := true, recurses := true, apart := false }
def VarsFixedSaid : Prop := varsFixedRow.holds Try.pinned (OpenSpec.ofChange varsFixedSpec)

/-- ITS FALSE NEIGHBOUR: 'it returns false'. Refute it at one input. -/
def varsFixedWrong : ChangeSpec := { name := "varsFixed", fn := fun _ => fun
  | [d1, d2] => { results := [.lit (.bool false)], args := [d1, d2] }
  | _ => none }
def VarsFixedWrongFalsely : Prop := varsFixedRow.holds Try.pinned (OpenSpec.ofChange varsFixedWrong)

/-- 'shyardlaw14.VarsRuns': WHATEVER THE INPUT: true; the input reads as it did. -/
def varsRunsSpec : ChangeSpec := { name := "varsRuns", fn := fun _ => fun
  | [d] => { results := [.lit (.bool true)], args := [d] }
  | _ => none }
def varsRunsRow : OpenClaim := { program := "ytcojeojmodjmdaa", sum := "81e2dfcf400a504dedf1418b36e4ee1fa676ac6e3f44fcb2c8c86b0c0be1ea9a", func := "shyard/shyardlaw14.VarsRuns", spec := "varsRuns", inPlace := ["maps.clone"], unfollowed := true, recurses := true, apart := false }
def VarsRunsSaid : Prop := varsRunsRow.holds Try.pinned (OpenSpec.ofChange varsRunsSpec)

/-- ITS FALSE NEIGHBOUR: 'it returns false'. Refute it at one input. -/
def varsRunsWrong : ChangeSpec := { name := "varsRuns", fn := fun _ => fun
  | [d] => { results := [.lit (.bool false)], args := [d] }
  | _ => none }
def VarsRunsWrongFalsely : Prop := varsRunsRow.holds Try.pinned (OpenSpec.ofChange varsRunsWrong)

/-- 'shyardlaw14.VarsNil': WHATEVER THE INPUT: true; the input reads as it did. -/
def varsNilSpec : ChangeSpec := { name := "varsNil", fn := fun _ => fun
  | [d1, d2, d3] => { results := [.lit (.bool true)], args := [d1, d2, d3] }
  | _ => none }
def varsNilRow : OpenClaim := { program := "ytcojeojmodjmdaa", sum := "81e2dfcf400a504dedf1418b36e4ee1fa676ac6e3f44fcb2c8c86b0c0be1ea9a", func := "shyard/shyardlaw14.VarsNil", spec := "varsNil", inPlace := ["maps.clone"], unfollowed := true, recurses := true, apart := false }
def VarsNilSaid : Prop := varsNilRow.holds Try.pinned (OpenSpec.ofChange varsNilSpec)

/-- ITS FALSE NEIGHBOUR: 'it returns false'. Refute it at one input. -/
def varsNilWrong : ChangeSpec := { name := "varsNil", fn := fun _ => fun
  | [d1, d2, d3] => { results := [.lit (.bool false)], args := [d1, d2, d3] }
  | _ => none }
def VarsNilWrongFalsely : Prop := varsNilRow.holds Try.pinned (OpenSpec.ofChange varsNilWrong)

/- THE SECOND FORM. 'bulk': how many values and letters a reading holds, each counted each time it is reached (what is shared counts as often as it is met; a slice's spare places count too). A statement '..UptoSaid' is the law's where the arguments, and the package variables that the reading takes, are together of bulk at most 1048576: NARROWER than '..Said'. Prove '..Said' where nothing that the law and all that it calls make is longer than what came in: it says more and counts as full. Else prove '..UptoSaid'. A law counts once. -/
mutual
def uptoBulk {H : Type} : DataW H → Nat
  | .lit (.string bytes) => bytes.length + 1
  | .lit _ => 1
  | .nil => 1
  | .ptr d => uptoBulk d + 1
  | .slice elems spare => uptoBulkAll elems + uptoBulkAll spare + 1
  | .agg parts => uptoBulkAll parts + 1
  | .iface _ d => uptoBulk d + 1
  | .map entries => uptoBulkEntries entries + 1
  | .held _ => 1
def uptoBulkAll {H : Type} : List (DataW H) → Nat
  | [] => 0
  | d :: r => uptoBulk d + uptoBulkAll r
def uptoBulkEntries {H : Type} : List (Lit × DataW H) → Nat
  | [] => 0
  | x :: r => uptoBulkEntry x + uptoBulkEntries r
def uptoBulkEntry {H : Type} : Lit × DataW H → Nat
  | (.string bytes, d) => bytes.length + uptoBulk d + 1
  | (_, d) => uptoBulk d + 1
 end
def uptoSmall : (H : Type) → List (DataW H) → Bool := fun _ ds => decide (uptoBulkAll ds ≤ 1048576)
def OpenSpec.upto (s : _root_.Go.ChangeSpec) : _root_.Go.OpenSpec := { _root_.Go.OpenSpec.ofChange s with cond := some uptoSmall }

/-- 'shyardlaw14.VarsExports', WHERE WHAT IT READS IS OF BULK AT MOST 1048576: true; the input reads as it did. -/
def varsExportsUptoRow : OpenClaim := { program := "ytcojeojmodjmdaa", sum := "81e2dfcf400a504dedf1418b36e4ee1fa676ac6e3f44fcb2c8c86b0c0be1ea9a", func := "shyard/shyardlaw14.VarsExports", spec := "varsExports", unfollowed := true, recurses := true, apart := false, narrowed := true }
def VarsExportsUptoSaid : Prop := varsExportsUptoRow.holds Try.pinned (OpenSpec.upto varsExportsSpec)

/-- 'shyardlaw14.VarsShifts', WHERE WHAT IT READS IS OF BULK AT MOST 1048576: true; the input reads as it did. -/
def varsShiftsUptoRow : OpenClaim := { program := "ytcojeojmodjmdaa", sum := "81e2dfcf400a504dedf1418b36e4ee1fa676ac6e3f44fcb2c8c86b0c0be1ea9a", func := "shyard/shyardlaw14.VarsShifts", spec := "varsShifts", unfollowed := true, recurses := true, apart := false, narrowed := true }
def VarsShiftsUptoSaid : Prop := varsShiftsUptoRow.holds Try.pinned (OpenSpec.upto varsShiftsSpec)

/-- 'shyardlaw14.VarsFixed', WHERE WHAT IT READS IS OF BULK AT MOST 1048576: true; the input reads as it did. -/
def varsFixedUptoRow : OpenClaim := { program := "ytcojeojmodjmdaa", sum := "81e2dfcf400a504dedf1418b36e4ee1fa676ac6e3f44fcb2c8c86b0c0be1ea9a", func := "shyard/shyardlaw14.VarsFixed", spec := "varsFixed", inPlace := ["maps.clone"], unfollowed := true, recurses := true, apart := false, narrowed := true }
def VarsFixedUptoSaid : Prop := varsFixedUptoRow.holds Try.pinned (OpenSpec.upto varsFixedSpec)

/-- 'shyardlaw14.VarsRuns', WHERE WHAT IT READS IS OF BULK AT MOST 1048576: true; the input reads as it did. -/
def varsRunsUptoRow : OpenClaim := { program := "ytcojeojmodjmdaa", sum := "81e2dfcf400a504dedf1418b36e4ee1fa676ac6e3f44fcb2c8c86b0c0be1ea9a", func := "shyard/shyardlaw14.VarsRuns", spec := "varsRuns", inPlace := ["maps.clone"], unfollowed := true, recurses := true, apart := false, narrowed := true }
def VarsRunsUptoSaid : Prop := varsRunsUptoRow.holds Try.pinned (OpenSpec.upto varsRunsSpec)

/-- 'shyardlaw14.VarsNil', WHERE WHAT IT READS IS OF BULK AT MOST 1048576: true; the input reads as it did. -/
def varsNilUptoRow : OpenClaim := { program := "ytcojeojmodjmdaa", sum := "81e2dfcf400a504dedf1418b36e4ee1fa676ac6e3f44fcb2c8c86b0c0be1ea9a", func := "shyard/shyardlaw14.VarsNil", spec := "varsNil", inPlace := ["maps.clone"], unfollowed := true, recurses := true, apart := false, narrowed := true }
def VarsNilUptoSaid : Prop := varsNilUptoRow.holds Try.pinned (OpenSpec.upto varsNilSpec)

end Rows
end Go.Proofs.Ytcojeojmodjmdaa
