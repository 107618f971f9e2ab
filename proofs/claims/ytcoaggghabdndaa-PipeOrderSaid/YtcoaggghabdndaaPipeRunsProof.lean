/- PipeRuns: whatever is asked of a pipe, in any order, it answers as the reference does. For every input. -/
import Derived.Test.YtcoaggghabdndaaRows
import Derived.Test.YtcoaggghabdndaaPipeRuns
import Derived.Test.YtcoaggghabdndaaLift
namespace Go.Proofs.Ytcoaggghabdndaa.pipeRuns
open Go.ChangeShapes Go.WideShapes Go.ChangeAt Go.RowKit Go.Deep
open Go.ChangeMaps (open_string shut_string)

theorem own : ownKnob Try.prog.godebug = none := by kernel_rfl
theorem laidOut : laidOutB Try.prog = true := by kernel_rfl

theorem int_le {n : Int} (h : (Lit.int .i64 n).wf = true) : n ≤ 9223372036854775807 := by
  exact (bounds_i64 h).2

theorem calls_row {H : Type} {enc : TypeId × Value → H} {W : World} {a : Option Addr} {len cap : Nat} {d : DataW H} {ps : List MemPlace} {base : Nat} {sp : Nat → Bool} {held : Bool}
    (h : DataW.Trod enc Try.prog W base sp held 42 (.slice a len cap) d ps) : CallRow W a len := by
  obtain ⟨h1, h2⟩ := struct_row' Try.underlying42 Try.underlying51 (by decide) (by kernel_rfl) (by kernel_rfl) h
  refine ⟨h1, ?_⟩
  rcases h2 with h2 | ⟨cb, co, rfl, h2⟩
  · exact .inl h2
  · refine .inr ⟨cb, co, rfl, fun k hk => ?_⟩
    obtain ⟨v0, y0, n0, c0, t0⟩ := h2 k hk 0 _ rfl
    obtain ⟨v1, y1, n1, c1, t1⟩ := h2 k hk 1 _ rfl
    obtain ⟨v2, y2, n2, c2, t2⟩ := h2 k hk 2 _ rfl
    obtain ⟨v3, y3, n3, c3, t3⟩ := h2 k hk 3 _ rfl
    obtain ⟨what, e0, _, _⟩ := DataW.trod_int Try.underlying3 t0
    obtain ⟨n, e1, _, w1⟩ := DataW.trod_int Try.underlying3 t1
    obtain ⟨wr, e2, _⟩ := DataW.trod_bool Try.underlying4 t2
    obtain ⟨txt, e3, _, w3⟩ := DataW.trod_string Try.underlying9 t3
    simp only [List.cons.injEq, and_true] at e0 e1 e2 e3
    subst e0 e1 e2 e3
    exact ⟨what, n, wr, txt, c0, c1, c2, c3, int_le w1, by unfold maxLen at w3; exact w3⟩

set_option maxRecDepth 100000 in
theorem lifted (os : Os) (started : os.Started) (H : Type) (enc : TypeId × Value → H) :
    ReturnsInHanded {} Try.checked os 5 .any (Rows.pipeRunsSpec.pre6 enc Try.prog Try.f5 Rows.pipeRunsRow.domain false) (Rows.pipeRunsSpec.post enc Try.prog Try.f5 false true false false) := by
  refine returnsInHanded_of_change (C := Try.checked) own started (by kernel_rfl) Try.func5
    (ChangeSpec.witness6 (enc := enc) (C := Try.checked) false ⟨#[], #[.int .i64 0, .slice none 0 0], []⟩ 8 (by kernel_rfl) (by kernel_rfl) (by kernel_rfl) (by kernel_rfl)) ?_
  intro W base args ds gs before hval0 hW hcnd _
  have hval : ∀ (j : Nat) t v, Try.f5.params[j]? = some t → args[j]? = some v → Value.okWide Try.prog W .any base t v := hval0
  have hW' := hW
  obtain ⟨p, q, hA0, hV, rfl, hfz, hnd⟩ := hW
  have hA : DataW.TrodAll enc Try.prog W 0 (fun _ => true) true Try.f5.params.toList args.toList ds p := hA0
  rw [Try.params5] at hA hval
  obtain ⟨v0, vs0, d0, ds0, p0, q0, hargs, rfl, rfl, h0, r0⟩ := trodAll_cons hA
  obtain ⟨v1, vs1, d1, ds1, p1, q1, rfl, rfl, rfl, h1, r1⟩ := trodAll_cons r0
  obtain ⟨rfl, rfl, rfl⟩ := trodAll_nil r1
  obtain rfl : args = #[v0, v1] := by cases args; simp_all
  obtain ⟨rfl, rfl⟩ := trodVars_none hV
  obtain ⟨a1, len1, cap1, rfl⟩ := okWide_slice Try.underlying42 (hval 1 42 v1 rfl rfl)
  have k0 := h0
  have lt0 : ∀ x ∈ p0, x.block < W.heap.size := by obtain ⟨m, hm⟩ := k0; exact DataW.trod_lt m _ _ _ hm
  have k1 := h1
  have lt1 : ∀ x ∈ p1, x.block < W.heap.size := by obtain ⟨m, hm⟩ := k1; exact DataW.trod_lt m _ _ _ hm
  obtain ⟨x, rfl, _, _, _⟩ := open_int Try.underlying3 (hval 0 3 v0 rfl rfl) h0
  have w1 := calls_row h1
  clear hA0 hval0
  refine (pruns_walk x a1 len1 cap1 W w1).mono fun e W' ⟨he, bel⟩ => ?_
  subst he
  exact ⟨_, rfl, _, _, _, [], _, [], hW', trodAll_mk1 (shut_bool Try.underlying4 _), (trodAll_cons_mk (Below.trod laidOut (by kernel_rfl) (of_decide_eq_true (by kernel_rfl)) k0 bel lt0) (trodAll_cons_mk (Below.trod laidOut (by kernel_rfl) (of_decide_eq_true (by kernel_rfl)) k1 bel lt1) trodAll_mk0)), rfl, bel.frame _, fun h => by cases h⟩

theorem proved : Rows.PipeRunsSaid :=
  OpenClaim.holds_of_wide 5 Try.f5 rfl rfl rfl rfl rfl rfl rfl ⟨rfl, rfl, rfl, rfl, rfl⟩ rfl rfl rfl rfl rfl (by kernel_rfl) Try.func5 (by kernel_rfl)
    (of_decide_eq_true (by kernel_rfl)) (by unfold Func.isWrapper; first | (rw [if_pos (by decide +kernel)]; kernel_rfl) | (rw [if_neg (by decide +kernel)]; exact ⟨rfl, rfl⟩))
    (fun os started H enc _ => lifted os started H enc)
#print axioms proved
end Go.Proofs.Ytcoaggghabdndaa.pipeRuns
