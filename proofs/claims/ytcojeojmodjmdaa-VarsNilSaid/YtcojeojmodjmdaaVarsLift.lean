/- What a lifting proof wants of the program: its knob, its layout. No condition. -/
import Derived.Test.YtcojeojmodjmdaaProg
import Derived.Test.YtcojeojmodjmdaaLift
import Derived.ProofKit
import Derived.OpenShut
import Derived.ShutString
import Derived.ChangeOld
import Derived.Deep.Slices
import Derived.Deep.Fields
import Derived.ChangeSame
import Derived.SizedLaws
namespace Go.Proofs.Ytcojeojmodjmdaa
open Go.ChangeShapes Go.WideShapes Go.ChangeAt Go.RowKit Go.Deep

theorem own : ownKnob Try.prog.godebug = none := by kernel_rfl
theorem laidOut : laidOutB Try.prog = true := by kernel_rfl
end Go.Proofs.Ytcojeojmodjmdaa
