/- What the walks over calls are told of their argument: a row of calls. No condition. -/
import Derived.Test.YtcojeojmodjmdaaVarsLift
import Derived.Test.YtcojeojmodjmdaaVarsFixedW
namespace Go.Proofs.Ytcojeojmodjmdaa
open Go.ChangeShapes Go.WideShapes Go.ChangeAt Go.RowKit Go.Deep

theorem vcalls_row {H : Type} {enc : TypeId × Value → H} {W : World} {a : Option Addr} {len cap : Nat} {d : DataW H} {ps : List MemPlace} {base : Nat} {sp : Nat → Bool} {held : Bool}
    (h : DataW.Trod enc Try.prog W base sp held 37 (.slice a len cap) d ps) (hz : ∀ m ∈ d.weights Try.prog 37, m ≤ reachBytes) : VCallRow W a len := by
  obtain ⟨h1, h2⟩ := struct_row_w Try.underlying37 Try.underlying39 (by decide) (by kernel_rfl) (by kernel_rfl) h
  refine ⟨h1, ?_⟩
  rcases h2 with h2 | ⟨cb, co, rfl, h2⟩
  · exact .inl h2
  · refine .inr ⟨cb, co, rfl, fun k hk => ?_⟩
    obtain ⟨v0, y0, n0, c0, t0, _⟩ := h2 k hk 0 _ rfl
    obtain ⟨v1, y1, n1, c1, t1, _⟩ := h2 k hk 1 _ rfl
    obtain ⟨v2, y2, n2, c2, t2, z2⟩ := h2 k hk 2 _ rfl
    obtain ⟨v3, y3, n3, c3, t3, z3⟩ := h2 k hk 3 _ rfl
    obtain ⟨v4, y4, n4, c4, t4, _⟩ := h2 k hk 4 _ rfl
    obtain ⟨v5, y5, n5, c5, t5, _⟩ := h2 k hk 5 _ rfl
    obtain ⟨v6, y6, n6, c6, t6, z6⟩ := h2 k hk 6 _ rfl
    obtain ⟨what, e0, _, _⟩ := DataW.trod_int Try.underlying3 t0
    obtain ⟨n, e1, _, _⟩ := DataW.trod_int Try.underlying3 t1
    obtain ⟨nm, e2, x2, _⟩ := DataW.trod_string Try.underlying9 t2
    obtain ⟨vl, e3, x3, _⟩ := DataW.trod_string Try.underlying9 t3
    obtain ⟨ex, e4, _⟩ := DataW.trod_bool Try.underlying4 t4
    obtain ⟨ro, e5, _⟩ := DataW.trod_bool Try.underlying4 t5
    simp only [List.cons.injEq, and_true] at e0 e1 e2 e3 e4 e5
    subst e0 e1 e2 e3 e4 e5 x2 x3
    have q2 := reach47 (hz _ (z2 nm.data.toList.length (by simp [DataW.weights])))
    have q3 := reach47 (hz _ (z3 vl.data.toList.length (by simp [DataW.weights])))
    rw [ba_len] at q2 q3
    obtain ⟨al, hal, q6⟩ := strs_row1 t6 (fun m hm => hz _ (z6 m hm))
    exact ⟨what, n, nm, vl, ex, ro, v6, al, c0, c1, c2, c3, c4, c5, c6, q2, q3, q6, hal⟩
end Go.Proofs.Ytcojeojmodjmdaa
