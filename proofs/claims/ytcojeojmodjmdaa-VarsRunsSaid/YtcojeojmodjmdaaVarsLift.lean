/- What a lifting proof wants of the program: its knob, its layout. No condition. -/
import Derived.Test.YtcojeojmodjmdaaProg
import Derived.Test.YtcojeojmodjmdaaLift
import Derived.ProofKit
import Derived.OpenShut
import Derived.ShutString
import Derived.ChangeOld
import Derived.Deep.Slices
import Derived.Deep.Fields
import Derived.ChangeSame
import Derived.SizedLaws
import Derived.SliceStrings
import Derived.Test.YtcojeojmodjmdaaVarsD
import Derived.Test.YtcojeojmodjmdaaSizedLift
namespace Go.Proofs.Ytcojeojmodjmdaa
open Go.ChangeShapes Go.WideShapes Go.ChangeAt Go.RowKit Go.Deep

theorem own : ownKnob Try.prog.godebug = none := by kernel_rfl
theorem laidOut : laidOutB Try.prog = true := by kernel_rfl
theorem strs_row {H : Type} {enc : TypeId × Value → H} {W : World} {a : Option Addr} {len cap base : Nat} {sp : Nat → Bool} {held : Bool} {d : DataW H} {ps : List MemPlace}
    (h : DataW.Trod enc Try.prog W base sp held 22 (.slice a len cap) d ps) : StrRow W a len cap := by
  obtain ⟨fuel, h⟩ := h
  rcases open_strings Try.underlying22 Try.underlying9 (by kernel_rfl) h with ⟨hcs, _⟩ | ⟨x, l, c, ss, hcs, _, hl, hm, hz, _, hcell, hws⟩
  · simp [Value.cells] at hcs
    obtain ⟨rfl, rfl, rfl⟩ := hcs
    exact ⟨[], by simp, none, 0, rfl, Nat.le_refl _, fun _ => rfl, .inl rfl⟩
  · simp [Value.cells] at hcs
    obtain ⟨rfl, rfl, rfl⟩ := hcs
    have hlen : len ≤ ss.length := by split at hz <;> omega
    have htl : (ss.take len).length = len := by simp; omega
    refine ⟨ss.take len, by rw [htl]; unfold maxLen at hm; omega, some x, cap, by rw [htl], by rw [htl]; exact hl, fun e => by simp at e, ?_⟩
    by_cases h0 : len = 0
    · exact .inl (List.eq_nil_of_length_eq_zero (by omega))
    · right
      have hx : x.add 0 = x := by unfold Addr.add; simp
      have h1 := hcell 0 (by omega)
      rw [hx] at h1
      have hp := addr_plain h1
      refine ⟨x.block, x.off, by rw [← hp], World.block_lt_of_cell? _ _ h1, World.block_lt_of_cell? _ _ h1, fun k hk => ?_⟩
      rw [htl] at hk
      have h2 := hcell k (by omega)
      rw [hp, add_plain] at h2
      rw [h2, List.getElem_take, List.getD_eq_getElem?_getD, List.getElem?_eq_getElem (by omega)]
      rfl
theorem strs_row1 {H : Type} {enc : TypeId × Value → H} {W : World} {v : Value} {base n : Nat} {sp : Nat → Bool} {held : Bool} {y : DataW H × List MemPlace}
    (h : DataW.trod enc Try.prog W base sp held n 22 [v] = some y) (hz : ∀ m ∈ y.1.weights Try.prog 22, m ≤ reachBytes) : ∃ l : List ByteArray, ArgsV W (fun k => k < W.heap.size) v l ∧ l.length * 16 ≤ 140737488355328 := by
  rcases open_strings Try.underlying22 Try.underlying9 (by kernel_rfl) h with ⟨hcs, _⟩ | ⟨x, len, cap, ss, hcs, _, hl, hm, hzz, hy, hcell, hws⟩
  · simp at hcs
    subst hcs
    exact ⟨[], ⟨none, 0, rfl, Nat.le_refl _, fun _ => rfl, .inl rfl⟩, by simp⟩
  · simp at hcs
    subst hcs
    have hlen : len ≤ ss.length := by split at hzz <;> omega
    have htl : (ss.take len).length = len := by simp; omega
    refine ⟨ss.take len, ⟨some x, cap, by rw [htl], by rw [htl]; exact hl, fun e => by simp at e, ?_⟩, ?_⟩
    · by_cases h0 : len = 0
      · exact .inl (List.eq_nil_of_length_eq_zero (by omega))
      · right
        have hx : x.add 0 = x := by unfold Addr.add; simp
        have h1 := hcell 0 (by omega)
        rw [hx] at h1
        have hp := addr_plain h1
        refine ⟨x.block, x.off, by rw [← hp], World.block_lt_of_cell? _ _ h1, World.block_lt_of_cell? _ _ h1, fun k hk => ?_⟩
        rw [htl] at hk
        have h2 := hcell k (by omega)
        rw [hp, add_plain] at h2
        rw [h2, List.getElem_take, List.getD_eq_getElem?_getD, List.getElem?_eq_getElem (by omega)]
        rfl
    · have hb : Try.prog.bytesOf 9 = 16 := by kernel_rfl
      have := reach47 (hz (((ChangeShapes.strs (H := H) (ss.take len)).length + (ChangeShapes.strs (H := H) (ss.drop len)).length) * 16) (by rw [hy]; simp [DataW.weights, Try.underlying22, hb]))
      rw [htl]
      simp only [ChangeShapes.strs, List.length_map, List.length_take, List.length_drop] at this
      omega
end Go.Proofs.Ytcojeojmodjmdaa
