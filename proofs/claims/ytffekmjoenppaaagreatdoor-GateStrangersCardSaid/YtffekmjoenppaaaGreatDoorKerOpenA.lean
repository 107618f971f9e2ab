/- gate.asked.open. Conditions: the contracts' own premises. -/
import Derived.Test.YtffekmjoenppaaaGreatDoorKerDrop
import Derived.Test.YtffekmjoenppaaaGreatDoorKerDropC
import Derived.Test.YtffekmjoenppaaaGreatDoorKerPipe
import Derived.Laws.Closers25b
namespace Go.Proofs.YtffekmjoenppaaaGreatDoor
open Go.RowKit

attribute [local go_sem] Oper.semAt_some

abbrev glB : Nat := Tryz.laysSplit_ren.g 1
end Go.Proofs.YtffekmjoenppaaaGreatDoor
