/- What a walk is told of an argument: a row of numbers (beside FilesLift). No condition. -/
import Derived.Test.YtffekmjoenppaaaGreatDoorProg
import Derived.Test.YtffekmjoenppaaaGreatDoorOwn
import Derived.Test.YtffekmjoenppaaaGreatDoorOwn
import Derived.ProofKit
import Derived.OpenShut
import Derived.ShutString
import Derived.ChangeOld
import Derived.Deep.Slices
import Derived.Deep.Fields
import Derived.ChangeSame
namespace Go.Proofs.YtffekmjoenppaaaGreatDoor
open Go.ChangeShapes Go.WideShapes Go.ChangeAt Go.RowKit Go.Deep

set_option maxRecDepth 100000 in
theorem ints_row {H : Type} {enc : TypeId × Value → H} {W : World} {a : Option Addr} {len cap base : Nat} {sp : Nat → Bool} {held : Bool} {fuel : Nat} {x : DataW H × List MemPlace}
    (h : DataW.trod enc Tryz.prog W base sp held fuel 22 [.slice a len cap] = some x) : IntRow W a len := by
  rcases open_ints Tryz.underlying22 Tryz.underlying3 (by kernel_rfl) h with ⟨hcs, _⟩ | ⟨x, l, c, zs, hcs, _, hl, hm, hz, _, hcell, hwz⟩
  · simp at hcs
    obtain ⟨_, rfl, _⟩ := hcs
    exact ⟨by omega, .inl rfl⟩
  · simp at hcs
    obtain ⟨rfl, rfl, rfl⟩ := hcs
    refine ⟨by unfold maxLen at hm; omega, ?_⟩
    by_cases h0 : len = 0
    · exact .inl h0
    · right
      have hlen : len ≤ zs.length := by split at hz <;> omega
      have hx : x.add 0 = x := by unfold Addr.add; simp
      have h1 := hcell 0 (by omega)
      rw [hx] at h1
      have hp := addr_plain h1
      refine ⟨x.block, x.off, by rw [← hp], fun k hk => ?_⟩
      have h2 := hcell k (by omega)
      rw [hp, add_plain] at h2
      refine ⟨_, h2, ?_⟩
      have h3 := hwz (zs.getD k 0) (by rw [List.getD_eq_getElem?_getD, List.getElem?_eq_getElem (by omega)]; exact List.getElem_mem _)
      exact ⟨(bounds_i64 h3).1, (bounds_i64 h3).2⟩

theorem ints_trod {H : Type} {enc : TypeId × Value → H} {W : World} {a : Option Addr} {len cap base : Nat} {sp : Nat → Bool} {held : Bool} {d : DataW H} {ps : List MemPlace}
    (h : DataW.Trod enc Tryz.prog W base sp held 22 (.slice a len cap) d ps) : IntRow W a len := by
  obtain ⟨m, hm⟩ := h
  exact ints_row hm
end Go.Proofs.YtffekmjoenppaaaGreatDoor
