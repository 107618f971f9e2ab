/- PipeOrder: what is read from a pipe, and what is left, is what was written, in order. For every input. -/
import Derived.Test.YtcoaggghabdndaaRows
import Derived.Test.YtcoaggghabdndaaPipeRunsProof
import Derived.Test.YtcoaggghabdndaaPipeOrder
namespace Go.Proofs.Ytcoaggghabdndaa.pipeOrder
open Go.ChangeShapes Go.WideShapes Go.ChangeAt Go.RowKit Go.Deep
open Go.ChangeMaps (open_string shut_string)

open Go.Proofs.Ytcoaggghabdndaa.pipeRuns (own laidOut)

set_option maxRecDepth 100000 in
theorem ints_row {H : Type} {enc : TypeId × Value → H} {W : World} {a : Option Addr} {len cap base : Nat} {sp : Nat → Bool} {held : Bool} {fuel : Nat} {x : DataW H × List MemPlace}
    (h : DataW.trod enc Try.prog W base sp held fuel 22 [.slice a len cap] = some x) : IntRow W a len := by
  rcases open_ints Try.underlying22 Try.underlying3 (by kernel_rfl) h with ⟨hcs, _⟩ | ⟨x, l, c, zs, hcs, _, hl, hm, hz, _, hcell, hwz⟩
  · simp at hcs
    obtain ⟨_, rfl, _⟩ := hcs
    exact ⟨by omega, .inl rfl⟩
  · simp at hcs
    obtain ⟨rfl, rfl, rfl⟩ := hcs
    refine ⟨by unfold maxLen at hm; omega, ?_⟩
    by_cases h0 : len = 0
    · exact .inl h0
    · right
      have hlen : len ≤ zs.length := by split at hz <;> omega
      have hx : x.add 0 = x := by unfold Addr.add; simp
      have h1 := hcell 0 (by omega)
      rw [hx] at h1
      have hp := addr_plain h1
      refine ⟨x.block, x.off, by rw [← hp], fun k hk => ?_⟩
      have h2 := hcell k (by omega)
      rw [hp, add_plain] at h2
      refine ⟨_, h2, ?_⟩
      have h3 := hwz (zs.getD k 0) (by rw [List.getD_eq_getElem?_getD, List.getElem?_eq_getElem (by omega)]; exact List.getElem_mem _)
      exact ⟨(bounds_i64 h3).1, (bounds_i64 h3).2⟩

theorem is_slice {H : Type} {enc : TypeId × Value → H} {W : World} {c : Value} {base : Nat} {sp : Nat → Bool} {held : Bool} {fuel : Nat} {x : DataW H × List MemPlace}
    (h : DataW.trod enc Try.prog W base sp held fuel 22 [c] = some x) : ∃ a len cap, c = .slice a len cap := by
  rcases DataW.trod_slice Try.underlying22 h with ⟨hcs, _⟩ | ⟨a, len, cap, _, _, _, _, hcs, _⟩
  · simp at hcs; exact ⟨_, _, _, hcs⟩
  · simp at hcs; exact ⟨_, _, _, hcs⟩

set_option maxRecDepth 100000 in
theorem pair_rows {H : Type} {enc : TypeId × Value → H} {W : World} {v : Value} {d : DataW H} {ps : List MemPlace} {base b0 : Nat} {sp : Nat → Bool} {held : Bool} {r : Reach}
    (hv : Value.okWide Try.prog W r b0 32 v) (h : DataW.Trod enc Try.prog W base sp held 32 v d ps) :
    ∃ a1 l1 c1 a2 l2 c2, v = .agg #[.slice a1 l1 c1, .slice a2 l2 c2] ∧ IntRow W a1 l1 ∧ IntRow W a2 l2 := by
  unfold Value.okWide at hv
  rw [Try.underlying32] at hv
  obtain ⟨cs, rfl, hsz, _⟩ := hv
  have hC : Try.prog.cellsOf 32 = 2 := by kernel_rfl
  have hE : Try.prog.cellsOf 22 = 1 := by kernel_rfl
  rw [hC] at hsz
  obtain ⟨l⟩ := cs
  match l, hsz with
  | [c0, c1], _ =>
    obtain ⟨fuel, hf⟩ := h
    obtain ⟨xs, m, _, _, _, hxl, hel⟩ := DataW.trod_array Try.underlying32 hf
    have h0 := hel 0 (by omega)
    have h1 := hel 1 (by omega)
    rw [hE] at h0 h1
    simp [Value.cells] at h0 h1
    rw [List.getElem?_eq_getElem (by omega)] at h0 h1
    obtain ⟨a1, l1, p1, rfl⟩ := is_slice h0
    obtain ⟨a2, l2, p2, rfl⟩ := is_slice h1
    exact ⟨_, _, _, _, _, _, rfl, ints_row h0, ints_row h1⟩

set_option maxRecDepth 100000 in
theorem lifted (os : Os) (started : os.Started) (H : Type) (enc : TypeId × Value → H) :
    ReturnsInHanded {} Try.checked os 4 .any (Rows.pipeOrderSpec.pre6 enc Try.prog Try.f4 Rows.pipeOrderRow.domain false) (Rows.pipeOrderSpec.post enc Try.prog Try.f4 false true false false) := by
  refine returnsInHanded_of_change (C := Try.checked) own started (by kernel_rfl) Try.func4
    (ChangeSpec.witness6 (enc := enc) (C := Try.checked) false ⟨#[], #[.int .i64 0, .string ⟨#[]⟩, .agg #[.slice none 0 0, .slice none 0 0]], []⟩ 8 (by kernel_rfl) (by kernel_rfl) (by kernel_rfl) (by kernel_rfl)) ?_
  intro W base args ds gs before hval0 hW hcnd _
  have hval : ∀ (j : Nat) t v, Try.f4.params[j]? = some t → args[j]? = some v → Value.okWide Try.prog W .any base t v := hval0
  have hW' := hW
  obtain ⟨p, q, hA0, hV, rfl, hfz, hnd⟩ := hW
  have hA : DataW.TrodAll enc Try.prog W 0 (fun _ => true) true Try.f4.params.toList args.toList ds p := hA0
  rw [Try.params4] at hA hval
  obtain ⟨v0, vs0, d0, ds0, p0, q0, hargs, rfl, rfl, h0, r0⟩ := trodAll_cons hA
  obtain ⟨v1, vs1, d1, ds1, p1, q1, rfl, rfl, rfl, h1, r1⟩ := trodAll_cons r0
  obtain ⟨v2, vs2, d2, ds2, p2, q2, rfl, rfl, rfl, h2, r2⟩ := trodAll_cons r1
  obtain ⟨rfl, rfl, rfl⟩ := trodAll_nil r2
  obtain rfl : args = #[v0, v1, v2] := by cases args; simp_all
  obtain ⟨rfl, rfl⟩ := trodVars_none hV
  have k0 := h0
  have lt0 : ∀ x ∈ p0, x.block < W.heap.size := by obtain ⟨m, hm⟩ := k0; exact DataW.trod_lt m _ _ _ hm
  have k1 := h1
  have lt1 : ∀ x ∈ p1, x.block < W.heap.size := by obtain ⟨m, hm⟩ := k1; exact DataW.trod_lt m _ _ _ hm
  have k2 := h2
  have lt2 : ∀ x ∈ p2, x.block < W.heap.size := by obtain ⟨m, hm⟩ := k2; exact DataW.trod_lt m _ _ _ hm
  obtain ⟨x, rfl, _, _, _⟩ := open_int Try.underlying3 (hval 0 3 v0 rfl rfl) h0
  obtain ⟨tx, rfl, _, _, htx⟩ := open_string Try.underlying9 (hval 1 9 v1 rfl rfl) h1
  obtain ⟨a1, l1, c1, a2, l2, c2, rfl, w1, w2⟩ := pair_rows (hval 2 32 v2 rfl rfl) h2
  clear hA0 hval0
  refine (porder_walk x tx a1 a2 l1 l2 c1 c2 W w1 w2 (by unfold maxLen at htx; exact htx)).mono fun e W' ⟨he, bel⟩ => ?_
  subst he
  exact ⟨_, rfl, _, _, _, [], _, [], hW', trodAll_mk1 (shut_bool Try.underlying4 _), (trodAll_cons_mk (Below.trod laidOut (by kernel_rfl) (of_decide_eq_true (by kernel_rfl)) k0 bel lt0) (trodAll_cons_mk (Below.trod laidOut (by kernel_rfl) (of_decide_eq_true (by kernel_rfl)) k1 bel lt1) (trodAll_cons_mk (Below.trod laidOut (by kernel_rfl) (of_decide_eq_true (by kernel_rfl)) k2 bel lt2) trodAll_mk0))), rfl, bel.frame _, fun h => by cases h⟩

theorem proved : Rows.PipeOrderSaid :=
  OpenClaim.holds_of_wide 4 Try.f4 rfl rfl rfl rfl rfl rfl rfl ⟨rfl, rfl, rfl, rfl, rfl⟩ rfl rfl rfl rfl rfl (by kernel_rfl) Try.func4 (by kernel_rfl)
    (of_decide_eq_true (by kernel_rfl)) (by unfold Func.isWrapper; first | (rw [if_pos (by decide +kernel)]; kernel_rfl) | (rw [if_neg (by decide +kernel)]; exact ⟨rfl, rfl⟩))
    (fun os started H enc _ => lifted os started H enc)
#print axioms proved
end Go.Proofs.Ytcoaggghabdndaa.pipeOrder
