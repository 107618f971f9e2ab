/- What TableRuns' walk is told of its argument: a row of calls. No condition. -/
import Derived.Test.YtcoaggghabdndaaIntsLift
import Derived.Test.YtcoaggghabdndaaTabRuns
namespace Go.Proofs.Ytcoaggghabdndaa
open Go.ChangeShapes Go.WideShapes Go.ChangeAt Go.RowKit Go.Deep

theorem tcalls_row {H : Type} {enc : TypeId × Value → H} {W : World} {a : Option Addr} {len cap : Nat} {d : DataW H} {ps : List MemPlace} {base : Nat} {sp : Nat → Bool} {held : Bool}
    (h : DataW.Trod enc Try.prog W base sp held 59 (.slice a len cap) d ps) : TCallRow W a len := by
  obtain ⟨h1, h2⟩ := struct_row' Try.underlying59 Try.underlying69 (by decide) (by kernel_rfl) (by kernel_rfl) h
  refine ⟨h1, ?_⟩
  rcases h2 with h2 | ⟨cb, co, rfl, h2⟩
  · exact .inl h2
  · refine .inr ⟨cb, co, rfl, fun k hk => ?_⟩
    obtain ⟨v0, y0, n0, c0, t0⟩ := h2 k hk 0 _ rfl
    obtain ⟨v1, y1, n1, c1, t1⟩ := h2 k hk 1 _ rfl
    obtain ⟨v2, y2, n2, c2, t2⟩ := h2 k hk 2 _ rfl
    obtain ⟨v3, y3, n3, c3, t3⟩ := h2 k hk 3 _ rfl
    obtain ⟨what, e0, _, _⟩ := DataW.trod_int Try.underlying3 t0
    obtain ⟨x, e1, _, _⟩ := DataW.trod_int Try.underlying3 t1
    obtain ⟨fd, e2, _, _⟩ := DataW.trod_int Try.underlying3 t2
    obtain ⟨on, e3, _⟩ := DataW.trod_bool Try.underlying4 t3
    simp only [List.cons.injEq, and_true] at e0 e1 e2 e3
    subst e0 e1 e2 e3
    exact ⟨what, x, fd, on, c0, c1, c2, c3⟩
end Go.Proofs.Ytcoaggghabdndaa
