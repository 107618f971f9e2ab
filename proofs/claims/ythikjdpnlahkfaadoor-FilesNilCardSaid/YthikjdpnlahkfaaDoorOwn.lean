/- Small lemmas on rows of the call's own: they stand where their block isn't touched; their cells. No condition. -/
import Derived.Test.YthikjdpnlahkfaaDoorBase
import Derived.OwnWalk
import Derived.Deep.AppendLies
namespace Go.Proofs.YthikjdpnlahkfaaDoor
open Go.RowKit

theorem own_frame {w w' : World} {base e size : Nat} {v : Value} {n : Nat} {xs : List Value} {S : Nat → Prop} (h : w.ownsRow base e size v n xs) (hf : Fr S w w') (hn : ∀ g, v.ownBlock = some g → ¬ S g) : w'.ownsRow base e size v n xs := by
  refine ⟨h.1, ?_⟩
  rcases h.2 with h1 | ⟨g, cap, cur, rfl, hb, hg, rest⟩
  · exact .inl h1
  · exact .inr ⟨g, cap, cur, rfl, hb, hf.get hg (hn g rfl), rest⟩
theorem own_base {w : World} {base base' e size : Nat} {v : Value} {n : Nat} {xs : List Value} (h : w.ownsRow base e size v n xs) (hb : ∀ g, v.ownBlock = some g → base' ≤ g) : w.ownsRow base' e size v n xs := by
  refine ⟨h.1, ?_⟩
  rcases h.2 with h1 | ⟨g, cap, cur, rfl, _, rest⟩
  · exact .inl h1
  · exact .inr ⟨g, cap, cur, rfl, hb g rfl, rest⟩
theorem own_form {w : World} {base e size : Nat} {v : Value} {n : Nat} {xs : List Value} (h : w.ownsRow base e size v n xs) : ∃ a cap, v = .slice a n cap := by
  rcases h.2 with ⟨h1, h2⟩ | ⟨g, cap, cur, h1, _⟩
  · exact ⟨none, 0, by rw [h1, h2]⟩
  · exact ⟨_, _, h1⟩
/-- Its cells, one cell an element. -/
theorem own_cells {w : World} {base e : Nat} {a : Option Addr} {n cap : Nat} {xs : List Value} (h : w.ownsRow base e 1 (.slice a n cap) n xs) (hn : 0 < n) : ∃ g, a = some ⟨g, 0, none⟩ ∧ base ≤ g ∧ g < w.heap.size ∧ ∀ k u, xs[k]? = some u → w.cell? ⟨g, k, none⟩ = some u := by
  rcases h.2 with ⟨h1, h2⟩ | ⟨g, cap', cur, h1, hb, hg, h2, h3, h4, h5⟩
  · omega
  · cases h1
    refine ⟨g, rfl, hb, blk_lt hg, fun k u hk => ?_⟩
    rw [blk_cell hg, ← hk, ← h5, Nat.mul_one]
    have hl := h.1
    have hk' : k < xs.length := (List.getElem?_eq_some_iff.1 hk).1
    rw [List.getElem?_take_of_lt (by omega), Array.getElem?_toList]
theorem frSet (w : World) (r i : Nat) (u : Value) : Fr (fun k => k = r) w (w.setCell ⟨r, i, none⟩ u) := (Fr.refl (fun k => k = r) w).setCell (p := ⟨r, i, none⟩) (.inl rfl) u
end Go.Proofs.YthikjdpnlahkfaaDoor
