/- GateNobody: who is not there is answered ESRCH, and nothing changes. For every input; the package-level variables that the row lists are tied to the program's text by the given tie. -/
import Derived.Test.YtdnbfhcbcdodmaaGreatDoorRows
import Derived.Test.YtdnbfhcbcdodmaaGreatDoorCards
import Derived.Test.YtdnbfhcbcdodmaaGreatDoorTie
import Derived.Test.YtdnbfhcbcdodmaaGreatDoorFilesJ
import Derived.Test.YtdnbfhcbcdodmaaGreatDoorFilesJ
import Derived.Test.YtdnbfhcbcdodmaaGreatDoorGateArg
import Derived.Test.YtdnbfhcbcdodmaaGreatDoorGateArg
import Derived.SevenTiedAt
namespace Go.Proofs.YtdnbfhcbcdodmaaGreatDoor.gateNobody
open Go.ChangeShapes Go.WideShapes Go.ChangeAt Go.RowKit Go.Deep
open Go.ChangeMaps (open_string shut_string)

set_option maxRecDepth 100000 in
theorem lifted (os : Os) (started : os.Started) (H : Type) (enc : TypeId × Value → H) :
    ReturnsInHanded {} Tryz.checked os 6 .any (fun w args => ((Rows.OpenSpec.upto Rows.gateNobodySpec).pre enc Tryz.prog Tryz.f6 Rows.gateNobodyUptoRow.domain false w args ∧ laidMetH Tryz.prog Rows.gateNobodyUptoRow.laid w) ∧ sizedMet enc Tryz.prog Tryz.f6 (Rows.OpenSpec.upto Rows.gateNobodySpec) false w args)
      (Rows.gateNobodySpec.post enc Tryz.prog Tryz.f6 false true false false) := by
  refine returns_laid_upto (k := Rows.uptoSmall) (C := Tryz.checked) (X := fun w _ => laidMetH Tryz.prog Rows.gateNobodyUptoRow.laid w) (fun _ _ _ hh h => h.of_heap hh) own started (by kernel_rfl) Tryz.func6
    (witness_upto (enc := enc) (C := Tryz.checked) (os := os) (X := fun w _ => laidMetH Tryz.prog Rows.gateNobodyUptoRow.laid w) false (World.laidAll Tryz.prog os Rows.gateNobodyUptoRow.laid) #[.int .i64 0, .agg #[.int .i64 0, .int .i64 0, .int .i64 0, .string ⟨#[]⟩, .string ⟨#[]⟩, .slice none 0 0]] 8 (World.laidAll_os _ _ _)
      (World.shaped_of_ZipB (by kernel_rfl) (by kernel_rfl)) (by kernel_rfl) (by kernel_rfl) (by kernel_rfl)
      (by rw [MakeChecks.laidMetH_plain _ _ _ (by kernel_rfl)]; exact laidMet_laidAll _ (by kernel_rfl) (by kernel_rfl))) ?_
  intro W base args ds gs before hval0 hW hsz hsh _
  have hval : ∀ (j : Nat) t v, Tryz.f6.params[j]? = some t → args[j]? = some v → Value.okWide Tryz.prog W .any base t v := hval0
  have hW' := hW
  obtain ⟨p, q, hA0, hV, rfl, hfz, hnd⟩ := hW
  have hA : DataW.TrodAll enc Tryz.prog W 0 (fun _ => true) true Tryz.f6.params.toList args.toList ds p := hA0
  rw [Tryz.params6] at hA hval
  obtain ⟨v0, vs0, d0, ds0, p0, q0, hargs, rfl, rfl, h0, r0⟩ := trodAll_cons hA
  obtain ⟨v1, vs1, d1, ds1, p1, q1, rfl, rfl, rfl, h1, r1⟩ := trodAll_cons r0
  obtain ⟨rfl, rfl, rfl⟩ := trodAll_nil r1
  obtain rfl : args = #[v0, v1] := by cases args; simp_all
  obtain ⟨rfl, rfl⟩ := trodVars_none hV
  have k0 := h0
  have lt0 : ∀ x ∈ p0, x.block < W.heap.size := by obtain ⟨m, hm⟩ := k0; exact DataW.trod_lt m _ _ _ hm
  have k1 := h1
  have lt1 : ∀ x ∈ p1, x.block < W.heap.size := by obtain ⟨m, hm⟩ := k1; exact DataW.trod_lt m _ _ _ hm
  have z1 : ∀ m ∈ d1.weights Tryz.prog 28, m ≤ reachBytes := fun m hm => by simpa using List.all_eq_true.1 hsz m (DataW.weights_mem_each (j := 1) (t := 28) (d := d1) (by rfl) (by rfl) m hm)
  obtain ⟨x0, rfl, _, hlo0, hhi0⟩ := open_int Tryz.underlying3 (hval 0 3 v0 rfl rfl) h0
  have w1 := sys_arg h1 z1
  clear hA0 hval0
  refine (gnob_walk x0 v1 W (ml_of_shaped hsh) (bounds_i64 hhi0).1 (bounds_i64 hhi0).2 w1).mono fun e W' ⟨he, bel⟩ => ?_
  subst he
  exact ⟨_, rfl, _, _, _, [], _, [], hW', trodAll_mk1 (shut_bool Tryz.underlying4 _), (trodAll_cons_mk (Below.trod laidOut (by kernel_rfl) (of_decide_eq_true (by kernel_rfl)) k0 bel lt0) (trodAll_cons_mk (Below.trod laidOut (by kernel_rfl) (of_decide_eq_true (by kernel_rfl)) k1 bel lt1) trodAll_mk0)), rfl, bel.frame _, fun h => by cases h⟩

theorem said : Rows.GateNobodyUptoSaid :=
  OpenClaim.holds_of_cond 6 Tryz.f6 rfl rfl rfl rfl rfl rfl rfl ⟨rfl, rfl, rfl, rfl, rfl⟩ rfl rfl rfl rfl rfl (by kernel_rfl) Tryz.func6 (by kernel_rfl)
    (of_decide_eq_true (by kernel_rfl)) (by unfold Func.isWrapper; first | (rw [if_pos (by decide +kernel)]; kernel_rfl) | (rw [if_neg (by decide +kernel)]; exact ⟨rfl, rfl⟩))
    (fun os started H enc _ _ => lifted os started H enc)
theorem proved : Rows.GateNobodyUptoCardSaid :=
  Claim7.holds_tied_plain_at .later [] [.data, .pinned] true (true, "d14419069ba49cc3677888dc5f344a18717279dc0a5b63983d068eddfc2886ca") false said (fun _ h => by cases h) (by kernel_rfl) (fun _ h => by cases h) gateNobodyUpto_row_tie rfl ⟨rfl, rfl⟩ (by kernel_rfl) rfl
    (fun f fn hf hfn => by
      obtain rfl : f = 6 := Option.some.inj ((show Tryz.prog.funcNamed "shyard/shyardlaw12.GateNobody" = some 6 by kernel_rfl).symm.trans hf) |>.symm
      obtain rfl : fn = Tryz.f6 := (Option.some.inj (Tryz.func6.symm.trans hfn)).symm
      exact ⟨by kernel_rfl, fun j t ht => by
        rw [Tryz.params6] at ht
        have hm : t ∈ [3, 28] := by simpa using Array.mem_of_getElem? ht
        have hall : ([3, 28].all fun u => !Tryz.prog.wantsStandIn u) = true := by kernel_rfl
        exact (show Tryz.prog.wantsStandIn t = false by simpa using List.all_eq_true.1 hall t hm)⟩)
    (by kernel_rfl)
#print axioms proved
end Go.Proofs.YtdnbfhcbcdodmaaGreatDoor.gateNobody
