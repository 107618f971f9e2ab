/- What a walk is told of a row of strings, with the size of each. No condition. -/
import Derived.Test.YtcojeojmodjmdaaVarsLift
import Derived.Test.YtcojeojmodjmdaaVarsExpW
namespace Go.Proofs.Ytcojeojmodjmdaa
open Go.ChangeShapes Go.WideShapes Go.ChangeAt Go.RowKit Go.Deep

theorem strs_rowz {H : Type} {enc : TypeId × Value → H} {W : World} {a : Option Addr} {len cap base : Nat} {sp : Nat → Bool} {held : Bool} {d : DataW H} {ps : List MemPlace}
    (h : DataW.Trod enc Try.prog W base sp held 22 (.slice a len cap) d ps) (hz : ∀ m ∈ d.weights Try.prog 22, m ≤ reachBytes) : StrRowZ W a len cap := by
  obtain ⟨fuel, h⟩ := h
  rcases open_strings Try.underlying22 Try.underlying9 (by kernel_rfl) h with ⟨hcs, _⟩ | ⟨x, l, c, ss, hcs, _, hl, hm, hzz, hy, hcell, hws⟩
  · simp [Value.cells] at hcs
    obtain ⟨rfl, rfl, rfl⟩ := hcs
    exact ⟨[], by simp, ⟨none, 0, rfl, Nat.le_refl _, fun _ => rfl, .inl rfl⟩, by simp⟩
  · simp [Value.cells] at hcs
    obtain ⟨rfl, rfl, rfl⟩ := hcs
    have hlen : len ≤ ss.length := by split at hzz <;> omega
    have htl : (ss.take len).length = len := by simp; omega
    refine ⟨ss.take len, by rw [htl]; unfold maxLen at hm; omega, ⟨some x, cap, by rw [htl], by rw [htl]; exact hl, fun e => by simp at e, ?_⟩, fun s hs => ?_⟩
    · by_cases h0 : len = 0
      · exact .inl (List.eq_nil_of_length_eq_zero (by omega))
      · right
        have hx : x.add 0 = x := by unfold Addr.add; simp
        have h1 := hcell 0 (by omega)
        rw [hx] at h1
        have hp := addr_plain h1
        refine ⟨x.block, x.off, by rw [← hp], World.block_lt_of_cell? _ _ h1, World.block_lt_of_cell? _ _ h1, fun k hk => ?_⟩
        rw [htl] at hk
        have h2 := hcell k (by omega)
        rw [hp, add_plain] at h2
        rw [h2, List.getElem_take, List.getD_eq_getElem?_getD, List.getElem?_eq_getElem (by omega)]
        rfl
    · have e1 : d = .slice (ChangeShapes.strs (ss.take len)) (ChangeShapes.strs (ss.drop len)) := congrArg Prod.fst hy
      have h3 := reach47 (hz s.data.toList.length (by
        rw [e1]
        simp only [DataW.weights, Try.underlying22, List.mem_cons, List.mem_append]
        refine .inr (.inl (weightsAll_mem (d := .lit (.string s.data.toList)) ?_ _ (by simp [DataW.weights])))
        exact List.mem_map.2 ⟨s, hs, rfl⟩))
      rw [ba_len] at h3
      exact h3
end Go.Proofs.Ytcojeojmodjmdaa
