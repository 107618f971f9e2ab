/- GateStrangers: what one process does to its own descriptors, directory and mask shows nowhere in another one's. For every input; the package-level variables that the row lists are tied to the program's text by the given tie. -/
import Derived.Test.YtffekmjoenppaaaGreatDoorRows
import Derived.Test.YtffekmjoenppaaaGreatDoorCards
import Derived.Test.YtffekmjoenppaaaGreatDoorTie
import Derived.Test.YtffekmjoenppaaaGreatDoorGTabX
import Derived.Test.YtffekmjoenppaaaGreatDoorKerStrW
import Derived.Test.YtffekmjoenppaaaGreatDoorGateSteps
import Derived.SevenTiedAt
namespace Go.Proofs.YtffekmjoenppaaaGreatDoor.gateStrangers
open Go.ChangeShapes Go.WideShapes Go.ChangeAt Go.RowKit Go.Deep
open Go.ChangeMaps (open_string shut_string)

set_option maxRecDepth 100000 in
theorem lifted (os : Os) (started : os.Started) (H : Type) (enc : TypeId × Value → H) :
    ReturnsInHanded {} Tryz.checked os 4 .any (fun w args => (Rows.gateStrangersSpec.pre enc Tryz.prog Tryz.f4 Rows.gateStrangersRow.domain false w args ∧ laidMetH Tryz.prog Rows.gateStrangersRow.laid w) ∧ sizedMet enc Tryz.prog Tryz.f4 (OpenSpec.ofChange Rows.gateStrangersSpec) false w args)
      (Rows.gateStrangersSpec.post enc Tryz.prog Tryz.f4 false true false false) := by
  refine returns_laid_shaped (C := Tryz.checked) (X := fun w _ => laidMetH Tryz.prog Rows.gateStrangersRow.laid w) (fun _ _ _ hh h => h.of_heap hh) own started (by kernel_rfl) Tryz.func4
    (ChangeSpec.witness_shaped (enc := enc) (C := Tryz.checked) (os := os) (X := fun w _ => laidMetH Tryz.prog Rows.gateStrangersRow.laid w) false (World.laidAll Tryz.prog os Rows.gateStrangersRow.laid) #[.slice none 0 0] 8 (World.laidAll_os _ _ _)
      (World.shaped_of_ZipB (by kernel_rfl) (by kernel_rfl)) (by kernel_rfl) (by kernel_rfl) (by kernel_rfl)
      (by rw [MakeChecks.laidMetH_plain _ _ _ (by kernel_rfl)]; exact laidMet_laidAll _ (by kernel_rfl) (by kernel_rfl))) ?_
  intro W base args ds gs before hval0 hW hsz hsh _
  have hval : ∀ (j : Nat) t v, Tryz.f4.params[j]? = some t → args[j]? = some v → Value.okWide Tryz.prog W .any base t v := hval0
  have hW' := hW
  obtain ⟨p, q, hA0, hV, rfl, hfz, hnd⟩ := hW
  have hA : DataW.TrodAll enc Tryz.prog W 0 (fun _ => true) true Tryz.f4.params.toList args.toList ds p := hA0
  rw [Tryz.params4] at hA hval
  obtain ⟨v0, vs0, d0, ds0, p0, q0, hargs, rfl, rfl, h0, r0⟩ := trodAll_cons hA
  obtain ⟨rfl, rfl, rfl⟩ := trodAll_nil r0
  obtain rfl : args = #[v0] := by cases args; simp_all
  obtain ⟨rfl, rfl⟩ := trodVars_none hV
  have k0 := h0
  have lt0 : ∀ x ∈ p0, x.block < W.heap.size := by obtain ⟨m, hm⟩ := k0; exact DataW.trod_lt m _ _ _ hm
  obtain ⟨a0, l0, c0, rfl⟩ := okWide_slice Tryz.underlying38 (hval 0 38 v0 rfl rfl)
  have w0 := steps_row h0
  clear hA0 hval0
  refine (gstr_walk a0 l0 c0 W (ml_of_shaped hsh) w0).mono fun e W' ⟨he, bel⟩ => ?_
  subst he
  exact ⟨_, rfl, _, _, _, [], _, [], hW', trodAll_mk1 (shut_bool Tryz.underlying4 _), (trodAll_cons_mk (Below.trod laidOut (by kernel_rfl) (of_decide_eq_true (by kernel_rfl)) k0 bel lt0) trodAll_mk0), rfl, bel.frame _, fun h => by cases h⟩

theorem said : Rows.GateStrangersSaid :=
  OpenClaim.holds_of_wide 4 Tryz.f4 rfl rfl rfl rfl rfl rfl rfl ⟨rfl, rfl, rfl, rfl, rfl⟩ rfl rfl rfl rfl rfl (by kernel_rfl) Tryz.func4 (by kernel_rfl)
    (of_decide_eq_true (by kernel_rfl)) (by unfold Func.isWrapper; first | (rw [if_pos (by decide +kernel)]; kernel_rfl) | (rw [if_neg (by decide +kernel)]; exact ⟨rfl, rfl⟩))
    (fun os started H enc _ => lifted os started H enc)
theorem proved : Rows.GateStrangersCardSaid :=
  Claim7.holds_tied_plain_at .later [] [.data, .pinned] true (true, "e0e2a808d3950fab1492a0d40e50274717462c97fa38ac2bedc97bac0f40efad") false said (fun _ h => by cases h) (by kernel_rfl) (fun _ h => by cases h) gateStrangers_row_tie rfl ⟨rfl, rfl⟩ (by kernel_rfl) rfl
    (fun f fn hf hfn => by
      obtain rfl : f = 4 := Option.some.inj ((show Tryz.prog.funcNamed "shyard/shyardlaw12.GateStrangers" = some 4 by kernel_rfl).symm.trans hf) |>.symm
      obtain rfl : fn = Tryz.f4 := (Option.some.inj (Tryz.func4.symm.trans hfn)).symm
      exact ⟨by kernel_rfl, fun j t ht => by
        rw [Tryz.params4] at ht
        have hm : t ∈ [38] := by simpa using Array.mem_of_getElem? ht
        have hall : ([38].all fun u => !Tryz.prog.wantsStandIn u) = true := by kernel_rfl
        exact (show Tryz.prog.wantsStandIn t = false by simpa using List.all_eq_true.1 hall t hm)⟩)
    (by kernel_rfl)
#print axioms proved
end Go.Proofs.YtffekmjoenppaaaGreatDoor.gateStrangers
