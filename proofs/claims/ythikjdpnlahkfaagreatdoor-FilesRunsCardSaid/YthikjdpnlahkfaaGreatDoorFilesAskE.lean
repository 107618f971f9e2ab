/- shyardlaw08.ask, some of its calls. Conditions: the contracts' own premises. -/
import Derived.Test.YthikjdpnlahkfaaGreatDoorFilesAsk
namespace Go.Proofs.YthikjdpnlahkfaaGreatDoor
open Go.RowKit

set_option maxRecDepth 100000 in
set_option maxHeartbeats 1000000 in
theorem ask_0 (recv : Value) (c : CallQ) (w : World) (R : AnsQ → World → Prop) (hk : c.what = 0) (h : AskOf recv c (askW w c) (AskR w (askW w c) R)) :
    Calls Tryz.prog 7 #[recv, callV c] w (AskPost R) := by
  have hcall := h.1 hk
  obtain ⟨what, n, m, k, path, other⟩ := c
  simp only at hk
  subst hk
  have Hcall := hide hcall
  clear hcall h
  unfold callV
  simp only
  go_enter Tryz.func7, Tryz.ntmps7
  go_wp2_with fail
  refine Hcall.out.mono ?_
  clear Hcall
  rintro e w1 ⟨n, E, rfl, hR⟩
  skip
  obtain ⟨hfr, hR⟩ := hR
  obtain ⟨b3, b4, b5⟩ := ask_blocks _ _ _ hfr
  have hsz : w.heap.size + 1 + 1 < w1.heap.size := blk_lt b5
  have HR := hide hR
  clear hfr hR
  have zz := blk_frozen b5
  have zy := blk_frozen b4
  obtain ⟨x0, x1, x2, x3, x4, x5, x6, x7, x8⟩ := cells9 b5
  obtain ⟨y0, y1, y2, y3, y4, y5, y6, y7, y8⟩ := cells9 b4

  obtain ⟨X, hX⟩ : ∃ X, X = (w1.setCell ⟨w.heap.size + 1 + 1, 0, none⟩ (.int .i64 n)) := ⟨_, rfl⟩
  have b5X : X.heap[w.heap.size + 1 + 1]? = some (.cells #[.int .i64 n, .string ⟨#[]⟩, .int .i64 0, .int .i64 0, .int .i64 0, .int .i64 0, .int .i64 0, .string ⟨#[]⟩, .int .i64 0] 33 (0, 0)) := by rw [hX]; exact (blk_set b5 0 (.int .i64 n))
  have b4X : X.heap[w.heap.size + 1]? = some (.cells #[.int .i64 0, .string ⟨#[]⟩, .int .i64 0, .int .i64 0, .int .i64 0, .int .i64 0, .int .i64 0, .string ⟨#[]⟩, .int .i64 0] 33 (0, 0)) := by rw [hX]; exact (blk_set_other b4 _ _ (by simp))
  have hfX : Fr (Mine w) w1 X := by
    rw [hX]
    repeat (refine Fr.setCell ?_ (.inl (by unfold Mine; dsimp only; omega)) _)
    exact Fr.refl _ _
  have HfX := hide hfX
  clear hfX b3
  go_upto_region 37 with (fail)
  rw [← hX]
  clear hX b4 b5 x0 x1 x2 x3 x4 x5 x6 x7 x8 y0 y1 y2 y3 y4 y5 y6 y7 y8 zz zy
  have zz := blk_frozen b5X
  have zy := blk_frozen b4X
  obtain ⟨x0, x1, x2, x3, x4, x5, x6, x7, x8⟩ := cells9 b5X
  obtain ⟨y0, y1, y2, y3, y4, y5, y6, y7, y8⟩ := cells9 b4X
  have Z := hide (cells9w (X := (X.setCell ⟨w.heap.size + 1 + 1, 8, none⟩ (.int .i64 E))) (blk_set_other b4X _ _ (by simp)) (.int .i64 n) (.string ⟨#[]⟩) (.int .i64 0) (.int .i64 0) (.int .i64 0) (.int .i64 0) (.int .i64 0) (.string ⟨#[]⟩) (.int .i64 E))
  clear b4X b5X
  go_wp2_with fail
  obtain ⟨z0, z1, z2, z3, z4, z5, z6, z7, z8⟩ := Z.out
  refine bodyPost_ret (by simp [results, Tryz.results7, go_sem, z0, z1, z2, z3, z4, z5, z6, z7, z8]; try rfl) rfl ?_
  refine ⟨_, rfl, HR.out _ (HfX.out.trans ?_)⟩
  repeat (refine Fr.setCell ?_ (.inl (by unfold Mine; dsimp only; omega)) _)
  exact Fr.refl _ _

set_option maxRecDepth 100000 in
set_option maxHeartbeats 1000000 in
theorem ask_1 (recv : Value) (c : CallQ) (w : World) (R : AnsQ → World → Prop) (hk : c.what = 1) (h : AskOf recv c (askW w c) (AskR w (askW w c) R)) :
    Calls Tryz.prog 7 #[recv, callV c] w (AskPost R) := by
  have hcall := h.2.1 hk
  obtain ⟨what, n, m, k, path, other⟩ := c
  simp only at hk
  subst hk
  have Hcall := hide hcall
  clear hcall h
  unfold callV
  simp only
  go_enter Tryz.func7, Tryz.ntmps7
  go_wp2_with fail
  refine Hcall.out.mono ?_
  clear Hcall
  rintro e w1 ⟨n, E, rfl, hR⟩
  skip
  obtain ⟨hfr, hR⟩ := hR
  obtain ⟨b3, b4, b5⟩ := ask_blocks _ _ _ hfr
  have hsz : w.heap.size + 1 + 1 < w1.heap.size := blk_lt b5
  have HR := hide hR
  clear hfr hR
  have zz := blk_frozen b5
  have zy := blk_frozen b4
  obtain ⟨x0, x1, x2, x3, x4, x5, x6, x7, x8⟩ := cells9 b5
  obtain ⟨y0, y1, y2, y3, y4, y5, y6, y7, y8⟩ := cells9 b4

  obtain ⟨X, hX⟩ : ∃ X, X = (w1.setCell ⟨w.heap.size + 1 + 1, 0, none⟩ (.int .i64 n)) := ⟨_, rfl⟩
  have b5X : X.heap[w.heap.size + 1 + 1]? = some (.cells #[.int .i64 n, .string ⟨#[]⟩, .int .i64 0, .int .i64 0, .int .i64 0, .int .i64 0, .int .i64 0, .string ⟨#[]⟩, .int .i64 0] 33 (0, 0)) := by rw [hX]; exact (blk_set b5 0 (.int .i64 n))
  have b4X : X.heap[w.heap.size + 1]? = some (.cells #[.int .i64 0, .string ⟨#[]⟩, .int .i64 0, .int .i64 0, .int .i64 0, .int .i64 0, .int .i64 0, .string ⟨#[]⟩, .int .i64 0] 33 (0, 0)) := by rw [hX]; exact (blk_set_other b4 _ _ (by simp))
  have hfX : Fr (Mine w) w1 X := by
    rw [hX]
    repeat (refine Fr.setCell ?_ (.inl (by unfold Mine; dsimp only; omega)) _)
    exact Fr.refl _ _
  have HfX := hide hfX
  clear hfX b3
  go_upto_region 37 with (fail)
  rw [← hX]
  clear hX b4 b5 x0 x1 x2 x3 x4 x5 x6 x7 x8 y0 y1 y2 y3 y4 y5 y6 y7 y8 zz zy
  have zz := blk_frozen b5X
  have zy := blk_frozen b4X
  obtain ⟨x0, x1, x2, x3, x4, x5, x6, x7, x8⟩ := cells9 b5X
  obtain ⟨y0, y1, y2, y3, y4, y5, y6, y7, y8⟩ := cells9 b4X
  have Z := hide (cells9w (X := (X.setCell ⟨w.heap.size + 1 + 1, 8, none⟩ (.int .i64 E))) (blk_set_other b4X _ _ (by simp)) (.int .i64 n) (.string ⟨#[]⟩) (.int .i64 0) (.int .i64 0) (.int .i64 0) (.int .i64 0) (.int .i64 0) (.string ⟨#[]⟩) (.int .i64 E))
  clear b4X b5X
  go_wp2_with fail
  obtain ⟨z0, z1, z2, z3, z4, z5, z6, z7, z8⟩ := Z.out
  refine bodyPost_ret (by simp [results, Tryz.results7, go_sem, z0, z1, z2, z3, z4, z5, z6, z7, z8]; try rfl) rfl ?_
  refine ⟨_, rfl, HR.out _ (HfX.out.trans ?_)⟩
  repeat (refine Fr.setCell ?_ (.inl (by unfold Mine; dsimp only; omega)) _)
  exact Fr.refl _ _

set_option maxRecDepth 100000 in
set_option maxHeartbeats 1000000 in
theorem ask_2 (recv : Value) (c : CallQ) (w : World) (R : AnsQ → World → Prop) (hk : c.what = 2) (h : AskOf recv c (askW w c) (AskR w (askW w c) R)) :
    Calls Tryz.prog 7 #[recv, callV c] w (AskPost R) := by
  have hcall := h.2.2.1 hk
  obtain ⟨what, n, m, k, path, other⟩ := c
  simp only at hk
  subst hk
  have Hcall := hide hcall
  clear hcall h
  unfold callV
  simp only
  go_enter Tryz.func7, Tryz.ntmps7
  go_wp2_with fail
  refine Hcall.out.mono ?_
  clear Hcall
  rintro e w1 ⟨E, rfl, hR⟩
  skip
  obtain ⟨hfr, hR⟩ := hR
  obtain ⟨b3, b4, b5⟩ := ask_blocks _ _ _ hfr
  have hsz : w.heap.size + 1 + 1 < w1.heap.size := blk_lt b5
  have HR := hide hR
  clear hfr hR
  have zz := blk_frozen b5
  have zy := blk_frozen b4
  obtain ⟨x0, x1, x2, x3, x4, x5, x6, x7, x8⟩ := cells9 b5
  obtain ⟨y0, y1, y2, y3, y4, y5, y6, y7, y8⟩ := cells9 b4

  obtain ⟨X, hX⟩ : ∃ X, X = w1 := ⟨_, rfl⟩
  have b5X : X.heap[w.heap.size + 1 + 1]? = some (.cells #[.int .i64 0, .string ⟨#[]⟩, .int .i64 0, .int .i64 0, .int .i64 0, .int .i64 0, .int .i64 0, .string ⟨#[]⟩, .int .i64 0] 33 (0, 0)) := by rw [hX]; exact b5
  have b4X : X.heap[w.heap.size + 1]? = some (.cells #[.int .i64 0, .string ⟨#[]⟩, .int .i64 0, .int .i64 0, .int .i64 0, .int .i64 0, .int .i64 0, .string ⟨#[]⟩, .int .i64 0] 33 (0, 0)) := by rw [hX]; exact b4
  have hfX : Fr (Mine w) w1 X := by
    rw [hX]
    repeat (refine Fr.setCell ?_ (.inl (by unfold Mine; dsimp only; omega)) _)
    exact Fr.refl _ _
  have HfX := hide hfX
  clear hfX b3
  go_upto_region 37 with (fail)
  rw [← hX]
  clear hX b4 b5 x0 x1 x2 x3 x4 x5 x6 x7 x8 y0 y1 y2 y3 y4 y5 y6 y7 y8 zz zy
  have zz := blk_frozen b5X
  have zy := blk_frozen b4X
  obtain ⟨x0, x1, x2, x3, x4, x5, x6, x7, x8⟩ := cells9 b5X
  obtain ⟨y0, y1, y2, y3, y4, y5, y6, y7, y8⟩ := cells9 b4X
  have Z := hide (cells9w (X := (X.setCell ⟨w.heap.size + 1 + 1, 8, none⟩ (.int .i64 E))) (blk_set_other b4X _ _ (by simp)) (.int .i64 0) (.string ⟨#[]⟩) (.int .i64 0) (.int .i64 0) (.int .i64 0) (.int .i64 0) (.int .i64 0) (.string ⟨#[]⟩) (.int .i64 E))
  clear b4X b5X
  go_wp2_with fail
  obtain ⟨z0, z1, z2, z3, z4, z5, z6, z7, z8⟩ := Z.out
  refine bodyPost_ret (by simp [results, Tryz.results7, go_sem, z0, z1, z2, z3, z4, z5, z6, z7, z8]; try rfl) rfl ?_
  refine ⟨_, rfl, HR.out _ (HfX.out.trans ?_)⟩
  repeat (refine Fr.setCell ?_ (.inl (by unfold Mine; dsimp only; omega)) _)
  exact Fr.refl _ _

set_option maxRecDepth 100000 in
set_option maxHeartbeats 1000000 in
theorem ask_3 (recv : Value) (c : CallQ) (w : World) (R : AnsQ → World → Prop) (hk : c.what = 3) (h : AskOf recv c (askW w c) (AskR w (askW w c) R)) :
    Calls Tryz.prog 7 #[recv, callV c] w (AskPost R) := by
  have hcall := h.2.2.2.1 hk
  obtain ⟨what, n, m, k, path, other⟩ := c
  simp only at hk
  subst hk
  have Hcall := hide hcall
  clear hcall h
  unfold callV
  simp only
  go_enter Tryz.func7, Tryz.ntmps7
  go_wp2_with fail
  refine Hcall.out.mono ?_
  clear Hcall
  rintro e w1 ⟨E, rfl, hR⟩
  skip
  obtain ⟨hfr, hR⟩ := hR
  obtain ⟨b3, b4, b5⟩ := ask_blocks _ _ _ hfr
  have hsz : w.heap.size + 1 + 1 < w1.heap.size := blk_lt b5
  have HR := hide hR
  clear hfr hR
  have zz := blk_frozen b5
  have zy := blk_frozen b4
  obtain ⟨x0, x1, x2, x3, x4, x5, x6, x7, x8⟩ := cells9 b5
  obtain ⟨y0, y1, y2, y3, y4, y5, y6, y7, y8⟩ := cells9 b4

  obtain ⟨X, hX⟩ : ∃ X, X = w1 := ⟨_, rfl⟩
  have b5X : X.heap[w.heap.size + 1 + 1]? = some (.cells #[.int .i64 0, .string ⟨#[]⟩, .int .i64 0, .int .i64 0, .int .i64 0, .int .i64 0, .int .i64 0, .string ⟨#[]⟩, .int .i64 0] 33 (0, 0)) := by rw [hX]; exact b5
  have b4X : X.heap[w.heap.size + 1]? = some (.cells #[.int .i64 0, .string ⟨#[]⟩, .int .i64 0, .int .i64 0, .int .i64 0, .int .i64 0, .int .i64 0, .string ⟨#[]⟩, .int .i64 0] 33 (0, 0)) := by rw [hX]; exact b4
  have hfX : Fr (Mine w) w1 X := by
    rw [hX]
    repeat (refine Fr.setCell ?_ (.inl (by unfold Mine; dsimp only; omega)) _)
    exact Fr.refl _ _
  have HfX := hide hfX
  clear hfX b3
  go_upto_region 37 with (fail)
  rw [← hX]
  clear hX b4 b5 x0 x1 x2 x3 x4 x5 x6 x7 x8 y0 y1 y2 y3 y4 y5 y6 y7 y8 zz zy
  have zz := blk_frozen b5X
  have zy := blk_frozen b4X
  obtain ⟨x0, x1, x2, x3, x4, x5, x6, x7, x8⟩ := cells9 b5X
  obtain ⟨y0, y1, y2, y3, y4, y5, y6, y7, y8⟩ := cells9 b4X
  have Z := hide (cells9w (X := (X.setCell ⟨w.heap.size + 1 + 1, 8, none⟩ (.int .i64 E))) (blk_set_other b4X _ _ (by simp)) (.int .i64 0) (.string ⟨#[]⟩) (.int .i64 0) (.int .i64 0) (.int .i64 0) (.int .i64 0) (.int .i64 0) (.string ⟨#[]⟩) (.int .i64 E))
  clear b4X b5X
  go_wp2_with fail
  obtain ⟨z0, z1, z2, z3, z4, z5, z6, z7, z8⟩ := Z.out
  refine bodyPost_ret (by simp [results, Tryz.results7, go_sem, z0, z1, z2, z3, z4, z5, z6, z7, z8]; try rfl) rfl ?_
  refine ⟨_, rfl, HR.out _ (HfX.out.trans ?_)⟩
  repeat (refine Fr.setCell ?_ (.inl (by unfold Mine; dsimp only; omega)) _)
  exact Fr.refl _ _
end Go.Proofs.YthikjdpnlahkfaaGreatDoor

/- shyardlaw08.ask, some of its calls. Conditions: the contracts' own premises. -/
namespace Go.Proofs.YthikjdpnlahkfaaGreatDoor
open Go.RowKit

set_option maxRecDepth 100000 in
set_option maxHeartbeats 1000000 in
theorem ask_4 (recv : Value) (c : CallQ) (w : World) (R : AnsQ → World → Prop) (hk : c.what = 4) (h : AskOf recv c (askW w c) (AskR w (askW w c) R)) :
    Calls Tryz.prog 7 #[recv, callV c] w (AskPost R) := by
  have hcall := h.2.2.2.2.1 hk
  obtain ⟨what, n, m, k, path, other⟩ := c
  simp only at hk
  subst hk
  have Hcall := hide hcall
  clear hcall h
  unfold callV
  simp only
  go_enter Tryz.func7, Tryz.ntmps7
  go_wp2_with fail
  refine Hcall.out.mono ?_
  clear Hcall
  rintro e w1 ⟨E, rfl, hR⟩
  skip
  obtain ⟨hfr, hR⟩ := hR
  obtain ⟨b3, b4, b5⟩ := ask_blocks _ _ _ hfr
  have hsz : w.heap.size + 1 + 1 < w1.heap.size := blk_lt b5
  have HR := hide hR
  clear hfr hR
  have zz := blk_frozen b5
  have zy := blk_frozen b4
  obtain ⟨x0, x1, x2, x3, x4, x5, x6, x7, x8⟩ := cells9 b5
  obtain ⟨y0, y1, y2, y3, y4, y5, y6, y7, y8⟩ := cells9 b4

  obtain ⟨X, hX⟩ : ∃ X, X = w1 := ⟨_, rfl⟩
  have b5X : X.heap[w.heap.size + 1 + 1]? = some (.cells #[.int .i64 0, .string ⟨#[]⟩, .int .i64 0, .int .i64 0, .int .i64 0, .int .i64 0, .int .i64 0, .string ⟨#[]⟩, .int .i64 0] 33 (0, 0)) := by rw [hX]; exact b5
  have b4X : X.heap[w.heap.size + 1]? = some (.cells #[.int .i64 0, .string ⟨#[]⟩, .int .i64 0, .int .i64 0, .int .i64 0, .int .i64 0, .int .i64 0, .string ⟨#[]⟩, .int .i64 0] 33 (0, 0)) := by rw [hX]; exact b4
  have hfX : Fr (Mine w) w1 X := by
    rw [hX]
    repeat (refine Fr.setCell ?_ (.inl (by unfold Mine; dsimp only; omega)) _)
    exact Fr.refl _ _
  have HfX := hide hfX
  clear hfX b3
  go_upto_region 37 with (fail)
  rw [← hX]
  clear hX b4 b5 x0 x1 x2 x3 x4 x5 x6 x7 x8 y0 y1 y2 y3 y4 y5 y6 y7 y8 zz zy
  have zz := blk_frozen b5X
  have zy := blk_frozen b4X
  obtain ⟨x0, x1, x2, x3, x4, x5, x6, x7, x8⟩ := cells9 b5X
  obtain ⟨y0, y1, y2, y3, y4, y5, y6, y7, y8⟩ := cells9 b4X
  have Z := hide (cells9w (X := (X.setCell ⟨w.heap.size + 1 + 1, 8, none⟩ (.int .i64 E))) (blk_set_other b4X _ _ (by simp)) (.int .i64 0) (.string ⟨#[]⟩) (.int .i64 0) (.int .i64 0) (.int .i64 0) (.int .i64 0) (.int .i64 0) (.string ⟨#[]⟩) (.int .i64 E))
  clear b4X b5X
  go_wp2_with fail
  obtain ⟨z0, z1, z2, z3, z4, z5, z6, z7, z8⟩ := Z.out
  refine bodyPost_ret (by simp [results, Tryz.results7, go_sem, z0, z1, z2, z3, z4, z5, z6, z7, z8]; try rfl) rfl ?_
  refine ⟨_, rfl, HR.out _ (HfX.out.trans ?_)⟩
  repeat (refine Fr.setCell ?_ (.inl (by unfold Mine; dsimp only; omega)) _)
  exact Fr.refl _ _

set_option maxRecDepth 100000 in
set_option maxHeartbeats 1000000 in
theorem ask_5 (recv : Value) (c : CallQ) (w : World) (R : AnsQ → World → Prop) (hk : c.what = 5) (h : AskOf recv c (askW w c) (AskR w (askW w c) R)) :
    Calls Tryz.prog 7 #[recv, callV c] w (AskPost R) := by
  have hcall := h.2.2.2.2.2.1 hk
  obtain ⟨what, n, m, k, path, other⟩ := c
  simp only at hk
  subst hk
  have Hcall := hide hcall
  clear hcall h
  unfold callV
  simp only
  go_enter Tryz.func7, Tryz.ntmps7
  go_wp2_with fail
  refine Hcall.out.mono ?_
  clear Hcall
  rintro e w1 ⟨E, rfl, hR⟩
  skip
  obtain ⟨hfr, hR⟩ := hR
  obtain ⟨b3, b4, b5⟩ := ask_blocks _ _ _ hfr
  have hsz : w.heap.size + 1 + 1 < w1.heap.size := blk_lt b5
  have HR := hide hR
  clear hfr hR
  have zz := blk_frozen b5
  have zy := blk_frozen b4
  obtain ⟨x0, x1, x2, x3, x4, x5, x6, x7, x8⟩ := cells9 b5
  obtain ⟨y0, y1, y2, y3, y4, y5, y6, y7, y8⟩ := cells9 b4

  obtain ⟨X, hX⟩ : ∃ X, X = w1 := ⟨_, rfl⟩
  have b5X : X.heap[w.heap.size + 1 + 1]? = some (.cells #[.int .i64 0, .string ⟨#[]⟩, .int .i64 0, .int .i64 0, .int .i64 0, .int .i64 0, .int .i64 0, .string ⟨#[]⟩, .int .i64 0] 33 (0, 0)) := by rw [hX]; exact b5
  have b4X : X.heap[w.heap.size + 1]? = some (.cells #[.int .i64 0, .string ⟨#[]⟩, .int .i64 0, .int .i64 0, .int .i64 0, .int .i64 0, .int .i64 0, .string ⟨#[]⟩, .int .i64 0] 33 (0, 0)) := by rw [hX]; exact b4
  have hfX : Fr (Mine w) w1 X := by
    rw [hX]
    repeat (refine Fr.setCell ?_ (.inl (by unfold Mine; dsimp only; omega)) _)
    exact Fr.refl _ _
  have HfX := hide hfX
  clear hfX b3
  go_upto_region 37 with (fail)
  rw [← hX]
  clear hX b4 b5 x0 x1 x2 x3 x4 x5 x6 x7 x8 y0 y1 y2 y3 y4 y5 y6 y7 y8 zz zy
  have zz := blk_frozen b5X
  have zy := blk_frozen b4X
  obtain ⟨x0, x1, x2, x3, x4, x5, x6, x7, x8⟩ := cells9 b5X
  obtain ⟨y0, y1, y2, y3, y4, y5, y6, y7, y8⟩ := cells9 b4X
  have Z := hide (cells9w (X := (X.setCell ⟨w.heap.size + 1 + 1, 8, none⟩ (.int .i64 E))) (blk_set_other b4X _ _ (by simp)) (.int .i64 0) (.string ⟨#[]⟩) (.int .i64 0) (.int .i64 0) (.int .i64 0) (.int .i64 0) (.int .i64 0) (.string ⟨#[]⟩) (.int .i64 E))
  clear b4X b5X
  go_wp2_with fail
  obtain ⟨z0, z1, z2, z3, z4, z5, z6, z7, z8⟩ := Z.out
  refine bodyPost_ret (by simp [results, Tryz.results7, go_sem, z0, z1, z2, z3, z4, z5, z6, z7, z8]; try rfl) rfl ?_
  refine ⟨_, rfl, HR.out _ (HfX.out.trans ?_)⟩
  repeat (refine Fr.setCell ?_ (.inl (by unfold Mine; dsimp only; omega)) _)
  exact Fr.refl _ _

set_option maxRecDepth 100000 in
set_option maxHeartbeats 1000000 in
theorem ask_6 (recv : Value) (c : CallQ) (w : World) (R : AnsQ → World → Prop) (hk : c.what = 6) (h : AskOf recv c (askW w c) (AskR w (askW w c) R)) :
    Calls Tryz.prog 7 #[recv, callV c] w (AskPost R) := by
  have hcall := h.2.2.2.2.2.2.1 hk
  obtain ⟨what, n, m, k, path, other⟩ := c
  simp only at hk
  subst hk
  have Hcall := hide hcall
  clear hcall h
  unfold callV
  simp only
  go_enter Tryz.func7, Tryz.ntmps7
  go_wp2_with fail
  refine Hcall.out.mono ?_
  clear Hcall
  rintro e w1 ⟨E, rfl, hR⟩
  skip
  obtain ⟨hfr, hR⟩ := hR
  obtain ⟨b3, b4, b5⟩ := ask_blocks _ _ _ hfr
  have hsz : w.heap.size + 1 + 1 < w1.heap.size := blk_lt b5
  have HR := hide hR
  clear hfr hR
  have zz := blk_frozen b5
  have zy := blk_frozen b4
  obtain ⟨x0, x1, x2, x3, x4, x5, x6, x7, x8⟩ := cells9 b5
  obtain ⟨y0, y1, y2, y3, y4, y5, y6, y7, y8⟩ := cells9 b4

  obtain ⟨X, hX⟩ : ∃ X, X = w1 := ⟨_, rfl⟩
  have b5X : X.heap[w.heap.size + 1 + 1]? = some (.cells #[.int .i64 0, .string ⟨#[]⟩, .int .i64 0, .int .i64 0, .int .i64 0, .int .i64 0, .int .i64 0, .string ⟨#[]⟩, .int .i64 0] 33 (0, 0)) := by rw [hX]; exact b5
  have b4X : X.heap[w.heap.size + 1]? = some (.cells #[.int .i64 0, .string ⟨#[]⟩, .int .i64 0, .int .i64 0, .int .i64 0, .int .i64 0, .int .i64 0, .string ⟨#[]⟩, .int .i64 0] 33 (0, 0)) := by rw [hX]; exact b4
  have hfX : Fr (Mine w) w1 X := by
    rw [hX]
    repeat (refine Fr.setCell ?_ (.inl (by unfold Mine; dsimp only; omega)) _)
    exact Fr.refl _ _
  have HfX := hide hfX
  clear hfX b3
  go_upto_region 37 with (fail)
  rw [← hX]
  clear hX b4 b5 x0 x1 x2 x3 x4 x5 x6 x7 x8 y0 y1 y2 y3 y4 y5 y6 y7 y8 zz zy
  have zz := blk_frozen b5X
  have zy := blk_frozen b4X
  obtain ⟨x0, x1, x2, x3, x4, x5, x6, x7, x8⟩ := cells9 b5X
  obtain ⟨y0, y1, y2, y3, y4, y5, y6, y7, y8⟩ := cells9 b4X
  have Z := hide (cells9w (X := (X.setCell ⟨w.heap.size + 1 + 1, 8, none⟩ (.int .i64 E))) (blk_set_other b4X _ _ (by simp)) (.int .i64 0) (.string ⟨#[]⟩) (.int .i64 0) (.int .i64 0) (.int .i64 0) (.int .i64 0) (.int .i64 0) (.string ⟨#[]⟩) (.int .i64 E))
  clear b4X b5X
  go_wp2_with fail
  obtain ⟨z0, z1, z2, z3, z4, z5, z6, z7, z8⟩ := Z.out
  refine bodyPost_ret (by simp [results, Tryz.results7, go_sem, z0, z1, z2, z3, z4, z5, z6, z7, z8]; try rfl) rfl ?_
  refine ⟨_, rfl, HR.out _ (HfX.out.trans ?_)⟩
  repeat (refine Fr.setCell ?_ (.inl (by unfold Mine; dsimp only; omega)) _)
  exact Fr.refl _ _

set_option maxRecDepth 100000 in
set_option maxHeartbeats 1000000 in
theorem ask_7 (recv : Value) (c : CallQ) (w : World) (R : AnsQ → World → Prop) (hk : c.what = 7) (h : AskOf recv c (askW w c) (AskR w (askW w c) R)) :
    Calls Tryz.prog 7 #[recv, callV c] w (AskPost R) := by
  have hcall := h.2.2.2.2.2.2.2.1 hk
  obtain ⟨what, n, m, k, path, other⟩ := c
  simp only at hk
  subst hk
  have Hcall := hide hcall
  clear hcall h
  unfold callV
  simp only
  go_enter Tryz.func7, Tryz.ntmps7
  go_wp2_with fail
  refine Hcall.out.mono ?_
  clear Hcall
  rintro e w1 ⟨s, E, rfl, hR⟩
  skip
  obtain ⟨hfr, hR⟩ := hR
  obtain ⟨b3, b4, b5⟩ := ask_blocks _ _ _ hfr
  have hsz : w.heap.size + 1 + 1 < w1.heap.size := blk_lt b5
  have HR := hide hR
  clear hfr hR
  have zz := blk_frozen b5
  have zy := blk_frozen b4
  obtain ⟨x0, x1, x2, x3, x4, x5, x6, x7, x8⟩ := cells9 b5
  obtain ⟨y0, y1, y2, y3, y4, y5, y6, y7, y8⟩ := cells9 b4

  obtain ⟨X, hX⟩ : ∃ X, X = (w1.setCell ⟨w.heap.size + 1 + 1, 1, none⟩ (.string s)) := ⟨_, rfl⟩
  have b5X : X.heap[w.heap.size + 1 + 1]? = some (.cells #[.int .i64 0, .string s, .int .i64 0, .int .i64 0, .int .i64 0, .int .i64 0, .int .i64 0, .string ⟨#[]⟩, .int .i64 0] 33 (0, 0)) := by rw [hX]; exact (blk_set b5 1 (.string s))
  have b4X : X.heap[w.heap.size + 1]? = some (.cells #[.int .i64 0, .string ⟨#[]⟩, .int .i64 0, .int .i64 0, .int .i64 0, .int .i64 0, .int .i64 0, .string ⟨#[]⟩, .int .i64 0] 33 (0, 0)) := by rw [hX]; exact (blk_set_other b4 _ _ (by simp))
  have hfX : Fr (Mine w) w1 X := by
    rw [hX]
    repeat (refine Fr.setCell ?_ (.inl (by unfold Mine; dsimp only; omega)) _)
    exact Fr.refl _ _
  have HfX := hide hfX
  clear hfX b3
  go_upto_region 37 with (fail)
  rw [← hX]
  clear hX b4 b5 x0 x1 x2 x3 x4 x5 x6 x7 x8 y0 y1 y2 y3 y4 y5 y6 y7 y8 zz zy
  have zz := blk_frozen b5X
  have zy := blk_frozen b4X
  obtain ⟨x0, x1, x2, x3, x4, x5, x6, x7, x8⟩ := cells9 b5X
  obtain ⟨y0, y1, y2, y3, y4, y5, y6, y7, y8⟩ := cells9 b4X
  have Z := hide (cells9w (X := (X.setCell ⟨w.heap.size + 1 + 1, 8, none⟩ (.int .i64 E))) (blk_set_other b4X _ _ (by simp)) (.int .i64 0) (.string s) (.int .i64 0) (.int .i64 0) (.int .i64 0) (.int .i64 0) (.int .i64 0) (.string ⟨#[]⟩) (.int .i64 E))
  clear b4X b5X
  go_wp2_with fail
  obtain ⟨z0, z1, z2, z3, z4, z5, z6, z7, z8⟩ := Z.out
  refine bodyPost_ret (by simp [results, Tryz.results7, go_sem, z0, z1, z2, z3, z4, z5, z6, z7, z8]; try rfl) rfl ?_
  refine ⟨_, rfl, HR.out _ (HfX.out.trans ?_)⟩
  repeat (refine Fr.setCell ?_ (.inl (by unfold Mine; dsimp only; omega)) _)
  exact Fr.refl _ _
end Go.Proofs.YthikjdpnlahkfaaGreatDoor

/- shyardlaw08.ask, some of its calls. Conditions: the contracts' own premises. -/
namespace Go.Proofs.YthikjdpnlahkfaaGreatDoor
open Go.RowKit

set_option maxRecDepth 100000 in
set_option maxHeartbeats 1000000 in
theorem ask_8 (recv : Value) (c : CallQ) (w : World) (R : AnsQ → World → Prop) (hk : c.what = 8) (h : AskOf recv c (askW w c) (AskR w (askW w c) R)) :
    Calls Tryz.prog 7 #[recv, callV c] w (AskPost R) := by
  have hcall := h.2.2.2.2.2.2.2.2.1 hk
  obtain ⟨what, n, m, k, path, other⟩ := c
  simp only at hk
  subst hk
  have Hcall := hide hcall
  clear hcall h
  unfold callV
  simp only
  go_enter Tryz.func7, Tryz.ntmps7
  go_wp2_with fail
  refine Hcall.out.mono ?_
  clear Hcall
  rintro e w1 ⟨n, E, rfl, hR⟩
  skip
  obtain ⟨hfr, hR⟩ := hR
  obtain ⟨b3, b4, b5⟩ := ask_blocks _ _ _ hfr
  have hsz : w.heap.size + 1 + 1 < w1.heap.size := blk_lt b5
  have HR := hide hR
  clear hfr hR
  have zz := blk_frozen b5
  have zy := blk_frozen b4
  obtain ⟨x0, x1, x2, x3, x4, x5, x6, x7, x8⟩ := cells9 b5
  obtain ⟨y0, y1, y2, y3, y4, y5, y6, y7, y8⟩ := cells9 b4

  obtain ⟨X, hX⟩ : ∃ X, X = (w1.setCell ⟨w.heap.size + 1 + 1, 0, none⟩ (.int .i64 n)) := ⟨_, rfl⟩
  have b5X : X.heap[w.heap.size + 1 + 1]? = some (.cells #[.int .i64 n, .string ⟨#[]⟩, .int .i64 0, .int .i64 0, .int .i64 0, .int .i64 0, .int .i64 0, .string ⟨#[]⟩, .int .i64 0] 33 (0, 0)) := by rw [hX]; exact (blk_set b5 0 (.int .i64 n))
  have b4X : X.heap[w.heap.size + 1]? = some (.cells #[.int .i64 0, .string ⟨#[]⟩, .int .i64 0, .int .i64 0, .int .i64 0, .int .i64 0, .int .i64 0, .string ⟨#[]⟩, .int .i64 0] 33 (0, 0)) := by rw [hX]; exact (blk_set_other b4 _ _ (by simp))
  have hfX : Fr (Mine w) w1 X := by
    rw [hX]
    repeat (refine Fr.setCell ?_ (.inl (by unfold Mine; dsimp only; omega)) _)
    exact Fr.refl _ _
  have HfX := hide hfX
  clear hfX b3
  go_upto_region 37 with (fail)
  rw [← hX]
  clear hX b4 b5 x0 x1 x2 x3 x4 x5 x6 x7 x8 y0 y1 y2 y3 y4 y5 y6 y7 y8 zz zy
  have zz := blk_frozen b5X
  have zy := blk_frozen b4X
  obtain ⟨x0, x1, x2, x3, x4, x5, x6, x7, x8⟩ := cells9 b5X
  obtain ⟨y0, y1, y2, y3, y4, y5, y6, y7, y8⟩ := cells9 b4X
  have Z := hide (cells9w (X := (X.setCell ⟨w.heap.size + 1 + 1, 8, none⟩ (.int .i64 E))) (blk_set_other b4X _ _ (by simp)) (.int .i64 n) (.string ⟨#[]⟩) (.int .i64 0) (.int .i64 0) (.int .i64 0) (.int .i64 0) (.int .i64 0) (.string ⟨#[]⟩) (.int .i64 E))
  clear b4X b5X
  go_wp2_with fail
  obtain ⟨z0, z1, z2, z3, z4, z5, z6, z7, z8⟩ := Z.out
  refine bodyPost_ret (by simp [results, Tryz.results7, go_sem, z0, z1, z2, z3, z4, z5, z6, z7, z8]; try rfl) rfl ?_
  refine ⟨_, rfl, HR.out _ (HfX.out.trans ?_)⟩
  repeat (refine Fr.setCell ?_ (.inl (by unfold Mine; dsimp only; omega)) _)
  exact Fr.refl _ _

set_option maxRecDepth 100000 in
set_option maxHeartbeats 1000000 in
theorem ask_9 (recv : Value) (c : CallQ) (w : World) (R : AnsQ → World → Prop) (hk : c.what = 9) (h : AskOf recv c (askW w c) (AskR w (askW w c) R)) :
    Calls Tryz.prog 7 #[recv, callV c] w (AskPost R) := by
  have hcall := h.2.2.2.2.2.2.2.2.2.1 hk
  obtain ⟨what, n, m, k, path, other⟩ := c
  simp only at hk
  subst hk
  have Hcall := hide hcall
  clear hcall h
  unfold callV
  simp only
  go_enter Tryz.func7, Tryz.ntmps7
  go_wp2_with fail
  refine Hcall.out.mono ?_
  clear Hcall
  rintro e w1 ⟨E, rfl, hR⟩
  skip
  obtain ⟨hfr, hR⟩ := hR
  obtain ⟨b3, b4, b5⟩ := ask_blocks _ _ _ hfr
  have hsz : w.heap.size + 1 + 1 < w1.heap.size := blk_lt b5
  have HR := hide hR
  clear hfr hR
  have zz := blk_frozen b5
  have zy := blk_frozen b4
  obtain ⟨x0, x1, x2, x3, x4, x5, x6, x7, x8⟩ := cells9 b5
  obtain ⟨y0, y1, y2, y3, y4, y5, y6, y7, y8⟩ := cells9 b4

  obtain ⟨X, hX⟩ : ∃ X, X = w1 := ⟨_, rfl⟩
  have b5X : X.heap[w.heap.size + 1 + 1]? = some (.cells #[.int .i64 0, .string ⟨#[]⟩, .int .i64 0, .int .i64 0, .int .i64 0, .int .i64 0, .int .i64 0, .string ⟨#[]⟩, .int .i64 0] 33 (0, 0)) := by rw [hX]; exact b5
  have b4X : X.heap[w.heap.size + 1]? = some (.cells #[.int .i64 0, .string ⟨#[]⟩, .int .i64 0, .int .i64 0, .int .i64 0, .int .i64 0, .int .i64 0, .string ⟨#[]⟩, .int .i64 0] 33 (0, 0)) := by rw [hX]; exact b4
  have hfX : Fr (Mine w) w1 X := by
    rw [hX]
    repeat (refine Fr.setCell ?_ (.inl (by unfold Mine; dsimp only; omega)) _)
    exact Fr.refl _ _
  have HfX := hide hfX
  clear hfX b3
  go_upto_region 37 with (fail)
  rw [← hX]
  clear hX b4 b5 x0 x1 x2 x3 x4 x5 x6 x7 x8 y0 y1 y2 y3 y4 y5 y6 y7 y8 zz zy
  have zz := blk_frozen b5X
  have zy := blk_frozen b4X
  obtain ⟨x0, x1, x2, x3, x4, x5, x6, x7, x8⟩ := cells9 b5X
  obtain ⟨y0, y1, y2, y3, y4, y5, y6, y7, y8⟩ := cells9 b4X
  have Z := hide (cells9w (X := (X.setCell ⟨w.heap.size + 1 + 1, 8, none⟩ (.int .i64 E))) (blk_set_other b4X _ _ (by simp)) (.int .i64 0) (.string ⟨#[]⟩) (.int .i64 0) (.int .i64 0) (.int .i64 0) (.int .i64 0) (.int .i64 0) (.string ⟨#[]⟩) (.int .i64 E))
  clear b4X b5X
  go_wp2_with fail
  obtain ⟨z0, z1, z2, z3, z4, z5, z6, z7, z8⟩ := Z.out
  refine bodyPost_ret (by simp [results, Tryz.results7, go_sem, z0, z1, z2, z3, z4, z5, z6, z7, z8]; try rfl) rfl ?_
  refine ⟨_, rfl, HR.out _ (HfX.out.trans ?_)⟩
  repeat (refine Fr.setCell ?_ (.inl (by unfold Mine; dsimp only; omega)) _)
  exact Fr.refl _ _

set_option maxRecDepth 100000 in
set_option maxHeartbeats 1000000 in
theorem ask_10 (recv : Value) (c : CallQ) (w : World) (R : AnsQ → World → Prop) (hk : c.what = 10) (h : AskOf recv c (askW w c) (AskR w (askW w c) R)) :
    Calls Tryz.prog 7 #[recv, callV c] w (AskPost R) := by
  have hcall := h.2.2.2.2.2.2.2.2.2.2.1 hk
  obtain ⟨what, n, m, k, path, other⟩ := c
  simp only at hk
  subst hk
  have Hcall := hide hcall
  clear hcall h
  unfold callV
  simp only
  go_enter Tryz.func7, Tryz.ntmps7
  go_wp2_with fail
  refine Hcall.out.mono ?_
  clear Hcall
  rintro e w1 ⟨E, rfl, hR⟩
  skip
  obtain ⟨hfr, hR⟩ := hR
  obtain ⟨b3, b4, b5⟩ := ask_blocks _ _ _ hfr
  have hsz : w.heap.size + 1 + 1 < w1.heap.size := blk_lt b5
  have HR := hide hR
  clear hfr hR
  have zz := blk_frozen b5
  have zy := blk_frozen b4
  obtain ⟨x0, x1, x2, x3, x4, x5, x6, x7, x8⟩ := cells9 b5
  obtain ⟨y0, y1, y2, y3, y4, y5, y6, y7, y8⟩ := cells9 b4

  obtain ⟨X, hX⟩ : ∃ X, X = w1 := ⟨_, rfl⟩
  have b5X : X.heap[w.heap.size + 1 + 1]? = some (.cells #[.int .i64 0, .string ⟨#[]⟩, .int .i64 0, .int .i64 0, .int .i64 0, .int .i64 0, .int .i64 0, .string ⟨#[]⟩, .int .i64 0] 33 (0, 0)) := by rw [hX]; exact b5
  have b4X : X.heap[w.heap.size + 1]? = some (.cells #[.int .i64 0, .string ⟨#[]⟩, .int .i64 0, .int .i64 0, .int .i64 0, .int .i64 0, .int .i64 0, .string ⟨#[]⟩, .int .i64 0] 33 (0, 0)) := by rw [hX]; exact b4
  have hfX : Fr (Mine w) w1 X := by
    rw [hX]
    repeat (refine Fr.setCell ?_ (.inl (by unfold Mine; dsimp only; omega)) _)
    exact Fr.refl _ _
  have HfX := hide hfX
  clear hfX b3
  go_upto_region 37 with (fail)
  rw [← hX]
  clear hX b4 b5 x0 x1 x2 x3 x4 x5 x6 x7 x8 y0 y1 y2 y3 y4 y5 y6 y7 y8 zz zy
  have zz := blk_frozen b5X
  have zy := blk_frozen b4X
  obtain ⟨x0, x1, x2, x3, x4, x5, x6, x7, x8⟩ := cells9 b5X
  obtain ⟨y0, y1, y2, y3, y4, y5, y6, y7, y8⟩ := cells9 b4X
  have Z := hide (cells9w (X := (X.setCell ⟨w.heap.size + 1 + 1, 8, none⟩ (.int .i64 E))) (blk_set_other b4X _ _ (by simp)) (.int .i64 0) (.string ⟨#[]⟩) (.int .i64 0) (.int .i64 0) (.int .i64 0) (.int .i64 0) (.int .i64 0) (.string ⟨#[]⟩) (.int .i64 E))
  clear b4X b5X
  go_wp2_with fail
  obtain ⟨z0, z1, z2, z3, z4, z5, z6, z7, z8⟩ := Z.out
  refine bodyPost_ret (by simp [results, Tryz.results7, go_sem, z0, z1, z2, z3, z4, z5, z6, z7, z8]; try rfl) rfl ?_
  refine ⟨_, rfl, HR.out _ (HfX.out.trans ?_)⟩
  repeat (refine Fr.setCell ?_ (.inl (by unfold Mine; dsimp only; omega)) _)
  exact Fr.refl _ _

set_option maxRecDepth 100000 in
set_option maxHeartbeats 1000000 in
theorem ask_11 (recv : Value) (c : CallQ) (w : World) (R : AnsQ → World → Prop) (hk : c.what = 11) (h : AskOf recv c (askW w c) (AskR w (askW w c) R)) :
    Calls Tryz.prog 7 #[recv, callV c] w (AskPost R) := by
  have hcall := h.2.2.2.2.2.2.2.2.2.2.2.1 hk
  obtain ⟨what, n, m, k, path, other⟩ := c
  simp only at hk
  subst hk
  have Hcall := hide hcall
  clear hcall h
  unfold callV
  simp only
  go_enter Tryz.func7, Tryz.ntmps7
  go_wp2_with fail
  refine Hcall.out.mono ?_
  clear Hcall
  rintro e w1 ⟨⟨t1, t2, t3, t4, t5⟩, E, rfl, hR⟩
  unfold stV; dsimp only
  obtain ⟨hfr, hR⟩ := hR
  obtain ⟨b3, b4, b5⟩ := ask_blocks _ _ _ hfr
  have hsz : w.heap.size + 1 + 1 < w1.heap.size := blk_lt b5
  have HR := hide hR
  clear hfr hR
  have zz := blk_frozen b5
  have zy := blk_frozen b4
  obtain ⟨x0, x1, x2, x3, x4, x5, x6, x7, x8⟩ := cells9 b5
  obtain ⟨y0, y1, y2, y3, y4, y5, y6, y7, y8⟩ := cells9 b4

  obtain ⟨X, hX⟩ : ∃ X, X = (((((w1.setCell ⟨w.heap.size + 1 + 1, 2, none⟩ (.int .i64 t1)).setCell ⟨w.heap.size + 1 + 1, 3, none⟩ (.int .i64 t2)).setCell ⟨w.heap.size + 1 + 1, 4, none⟩ (.int .i64 t3)).setCell ⟨w.heap.size + 1 + 1, 5, none⟩ (.int .i64 t4)).setCell ⟨w.heap.size + 1 + 1, 6, none⟩ (.int .i64 t5)) := ⟨_, rfl⟩
  have b5X : X.heap[w.heap.size + 1 + 1]? = some (.cells #[.int .i64 0, .string ⟨#[]⟩, .int .i64 t1, .int .i64 t2, .int .i64 t3, .int .i64 t4, .int .i64 t5, .string ⟨#[]⟩, .int .i64 0] 33 (0, 0)) := by rw [hX]; exact (blk_set (blk_set (blk_set (blk_set (blk_set b5 2 (.int .i64 t1)) 3 (.int .i64 t2)) 4 (.int .i64 t3)) 5 (.int .i64 t4)) 6 (.int .i64 t5))
  have b4X : X.heap[w.heap.size + 1]? = some (.cells #[.int .i64 0, .string ⟨#[]⟩, .int .i64 0, .int .i64 0, .int .i64 0, .int .i64 0, .int .i64 0, .string ⟨#[]⟩, .int .i64 0] 33 (0, 0)) := by rw [hX]; exact (blk_set_other (blk_set_other (blk_set_other (blk_set_other (blk_set_other b4 _ _ (by simp)) _ _ (by simp)) _ _ (by simp)) _ _ (by simp)) _ _ (by simp))
  have hfX : Fr (Mine w) w1 X := by
    rw [hX]
    repeat (refine Fr.setCell ?_ (.inl (by unfold Mine; dsimp only; omega)) _)
    exact Fr.refl _ _
  have HfX := hide hfX
  clear hfX b3
  go_upto_region 37 with (fail)
  rw [← hX]
  clear hX b4 b5 x0 x1 x2 x3 x4 x5 x6 x7 x8 y0 y1 y2 y3 y4 y5 y6 y7 y8 zz zy
  have zz := blk_frozen b5X
  have zy := blk_frozen b4X
  obtain ⟨x0, x1, x2, x3, x4, x5, x6, x7, x8⟩ := cells9 b5X
  obtain ⟨y0, y1, y2, y3, y4, y5, y6, y7, y8⟩ := cells9 b4X
  have Z := hide (cells9w (X := (X.setCell ⟨w.heap.size + 1 + 1, 8, none⟩ (.int .i64 E))) (blk_set_other b4X _ _ (by simp)) (.int .i64 0) (.string ⟨#[]⟩) (.int .i64 t1) (.int .i64 t2) (.int .i64 t3) (.int .i64 t4) (.int .i64 t5) (.string ⟨#[]⟩) (.int .i64 E))
  clear b4X b5X
  go_wp2_with fail
  obtain ⟨z0, z1, z2, z3, z4, z5, z6, z7, z8⟩ := Z.out
  refine bodyPost_ret (by simp [results, Tryz.results7, go_sem, z0, z1, z2, z3, z4, z5, z6, z7, z8]; try rfl) rfl ?_
  refine ⟨_, rfl, HR.out _ (HfX.out.trans ?_)⟩
  repeat (refine Fr.setCell ?_ (.inl (by unfold Mine; dsimp only; omega)) _)
  exact Fr.refl _ _
end Go.Proofs.YthikjdpnlahkfaaGreatDoor

/- shyardlaw08.ask, some of its calls. Conditions: the contracts' own premises. -/
namespace Go.Proofs.YthikjdpnlahkfaaGreatDoor
open Go.RowKit

set_option maxRecDepth 100000 in
set_option maxHeartbeats 1000000 in
theorem ask_12 (recv : Value) (c : CallQ) (w : World) (R : AnsQ → World → Prop) (hk : c.what = 12) (h : AskOf recv c (askW w c) (AskR w (askW w c) R)) :
    Calls Tryz.prog 7 #[recv, callV c] w (AskPost R) := by
  have hcall := h.2.2.2.2.2.2.2.2.2.2.2.2.1 hk
  obtain ⟨what, n, m, k, path, other⟩ := c
  simp only at hk
  subst hk
  have Hcall := hide hcall
  clear hcall h
  unfold callV
  simp only
  go_enter Tryz.func7, Tryz.ntmps7
  go_wp2_with fail
  refine Hcall.out.mono ?_
  clear Hcall
  rintro e w1 ⟨v, l, E, S', rfl, hv, hl, hlx, hR⟩
  skip
  obtain ⟨hfr, hR⟩ := hR
  obtain ⟨b3, b4, b5⟩ := ask_blocks _ _ _ hfr
  have hsz : w.heap.size + 1 + 1 < w1.heap.size := blk_lt b5
  have HR := hide hR
  clear hfr hR
  have zz := blk_frozen b5
  have zy := blk_frozen b4
  obtain ⟨x0, x1, x2, x3, x4, x5, x6, x7, x8⟩ := cells9 b5
  obtain ⟨y0, y1, y2, y3, y4, y5, y6, y7, y8⟩ := cells9 b4

  obtain ⟨va, vc, rfl⟩ := hv.form
  have hj := hide (joined_any w1 _ _ _ hv hl hlx)
  clear hv hl hlx
  generalize (⟨(joinL l).toArray⟩ : ByteArray) = jb at *
  go_wp2_with fail
  refine hj.out.mono ?_
  clear hj
  rintro e w2 ⟨rfl, rfl⟩
  obtain ⟨X, hX⟩ : ∃ X, X = (w2.setCell ⟨w.heap.size + 1 + 1, 7, none⟩ (.string jb)) := ⟨_, rfl⟩
  have b5X : X.heap[w.heap.size + 1 + 1]? = some (.cells #[.int .i64 0, .string ⟨#[]⟩, .int .i64 0, .int .i64 0, .int .i64 0, .int .i64 0, .int .i64 0, .string jb, .int .i64 0] 33 (0, 0)) := by rw [hX]; exact (blk_set b5 7 (.string jb))
  have b4X : X.heap[w.heap.size + 1]? = some (.cells #[.int .i64 0, .string ⟨#[]⟩, .int .i64 0, .int .i64 0, .int .i64 0, .int .i64 0, .int .i64 0, .string ⟨#[]⟩, .int .i64 0] 33 (0, 0)) := by rw [hX]; exact (blk_set_other b4 _ _ (by simp))
  have hfX : Fr (Mine w) w2 X := by
    rw [hX]
    repeat (refine Fr.setCell ?_ (.inl (by unfold Mine; dsimp only; omega)) _)
    exact Fr.refl _ _
  have HfX := hide hfX
  clear hfX b3
  go_upto_region 37 with (fail)
  rw [← hX]
  clear hX b4 b5 x0 x1 x2 x3 x4 x5 x6 x7 x8 y0 y1 y2 y3 y4 y5 y6 y7 y8 zz zy
  have zz := blk_frozen b5X
  have zy := blk_frozen b4X
  obtain ⟨x0, x1, x2, x3, x4, x5, x6, x7, x8⟩ := cells9 b5X
  obtain ⟨y0, y1, y2, y3, y4, y5, y6, y7, y8⟩ := cells9 b4X
  have Z := hide (cells9w (X := (X.setCell ⟨w.heap.size + 1 + 1, 8, none⟩ (.int .i64 E))) (blk_set_other b4X _ _ (by simp)) (.int .i64 0) (.string ⟨#[]⟩) (.int .i64 0) (.int .i64 0) (.int .i64 0) (.int .i64 0) (.int .i64 0) (.string jb) (.int .i64 E))
  clear b4X b5X
  go_wp2_with fail
  obtain ⟨z0, z1, z2, z3, z4, z5, z6, z7, z8⟩ := Z.out
  refine bodyPost_ret (by simp [results, Tryz.results7, go_sem, z0, z1, z2, z3, z4, z5, z6, z7, z8]; try rfl) rfl ?_
  refine ⟨_, rfl, HR.out _ (HfX.out.trans ?_)⟩
  repeat (refine Fr.setCell ?_ (.inl (by unfold Mine; dsimp only; omega)) _)
  exact Fr.refl _ _

set_option maxRecDepth 100000 in
set_option maxHeartbeats 1000000 in
theorem ask_13 (recv : Value) (c : CallQ) (w : World) (R : AnsQ → World → Prop) (hk : c.what = 13) (h : AskOf recv c (askW w c) (AskR w (askW w c) R)) :
    Calls Tryz.prog 7 #[recv, callV c] w (AskPost R) := by
  have hcall := h.2.2.2.2.2.2.2.2.2.2.2.2.2.1 hk
  obtain ⟨what, n, m, k, path, other⟩ := c
  simp only at hk
  subst hk
  have Hcall := hide hcall
  clear hcall h
  unfold callV
  simp only
  go_enter Tryz.func7, Tryz.ntmps7
  go_wp2_with fail
  refine Hcall.out.mono ?_
  clear Hcall
  rintro e w1 ⟨E, rfl, hR⟩
  skip
  obtain ⟨hfr, hR⟩ := hR
  obtain ⟨b3, b4, b5⟩ := ask_blocks _ _ _ hfr
  have hsz : w.heap.size + 1 + 1 < w1.heap.size := blk_lt b5
  have HR := hide hR
  clear hfr hR
  have zz := blk_frozen b5
  have zy := blk_frozen b4
  obtain ⟨x0, x1, x2, x3, x4, x5, x6, x7, x8⟩ := cells9 b5
  obtain ⟨y0, y1, y2, y3, y4, y5, y6, y7, y8⟩ := cells9 b4

  obtain ⟨X, hX⟩ : ∃ X, X = w1 := ⟨_, rfl⟩
  have b5X : X.heap[w.heap.size + 1 + 1]? = some (.cells #[.int .i64 0, .string ⟨#[]⟩, .int .i64 0, .int .i64 0, .int .i64 0, .int .i64 0, .int .i64 0, .string ⟨#[]⟩, .int .i64 0] 33 (0, 0)) := by rw [hX]; exact b5
  have b4X : X.heap[w.heap.size + 1]? = some (.cells #[.int .i64 0, .string ⟨#[]⟩, .int .i64 0, .int .i64 0, .int .i64 0, .int .i64 0, .int .i64 0, .string ⟨#[]⟩, .int .i64 0] 33 (0, 0)) := by rw [hX]; exact b4
  have hfX : Fr (Mine w) w1 X := by
    rw [hX]
    repeat (refine Fr.setCell ?_ (.inl (by unfold Mine; dsimp only; omega)) _)
    exact Fr.refl _ _
  have HfX := hide hfX
  clear hfX b3
  go_upto_region 37 with (fail)
  rw [← hX]
  clear hX b4 b5 x0 x1 x2 x3 x4 x5 x6 x7 x8 y0 y1 y2 y3 y4 y5 y6 y7 y8 zz zy
  have zz := blk_frozen b5X
  have zy := blk_frozen b4X
  obtain ⟨x0, x1, x2, x3, x4, x5, x6, x7, x8⟩ := cells9 b5X
  obtain ⟨y0, y1, y2, y3, y4, y5, y6, y7, y8⟩ := cells9 b4X
  have Z := hide (cells9w (X := (X.setCell ⟨w.heap.size + 1 + 1, 8, none⟩ (.int .i64 E))) (blk_set_other b4X _ _ (by simp)) (.int .i64 0) (.string ⟨#[]⟩) (.int .i64 0) (.int .i64 0) (.int .i64 0) (.int .i64 0) (.int .i64 0) (.string ⟨#[]⟩) (.int .i64 E))
  clear b4X b5X
  go_wp2_with fail
  obtain ⟨z0, z1, z2, z3, z4, z5, z6, z7, z8⟩ := Z.out
  refine bodyPost_ret (by simp [results, Tryz.results7, go_sem, z0, z1, z2, z3, z4, z5, z6, z7, z8]; try rfl) rfl ?_
  refine ⟨_, rfl, HR.out _ (HfX.out.trans ?_)⟩
  repeat (refine Fr.setCell ?_ (.inl (by unfold Mine; dsimp only; omega)) _)
  exact Fr.refl _ _

set_option maxRecDepth 100000 in
set_option maxHeartbeats 1000000 in
theorem ask_14 (recv : Value) (c : CallQ) (w : World) (R : AnsQ → World → Prop) (hk : c.what = 14) (h : AskOf recv c (askW w c) (AskR w (askW w c) R)) :
    Calls Tryz.prog 7 #[recv, callV c] w (AskPost R) := by
  have hcall := h.2.2.2.2.2.2.2.2.2.2.2.2.2.2.1 hk
  obtain ⟨what, n, m, k, path, other⟩ := c
  simp only at hk
  subst hk
  have Hcall := hide hcall
  clear hcall h
  unfold callV
  simp only
  go_enter Tryz.func7, Tryz.ntmps7
  go_wp2_with fail
  refine Hcall.out.mono ?_
  clear Hcall
  rintro e w1 ⟨E, rfl, hR⟩
  skip
  obtain ⟨hfr, hR⟩ := hR
  obtain ⟨b3, b4, b5⟩ := ask_blocks _ _ _ hfr
  have hsz : w.heap.size + 1 + 1 < w1.heap.size := blk_lt b5
  have HR := hide hR
  clear hfr hR
  have zz := blk_frozen b5
  have zy := blk_frozen b4
  obtain ⟨x0, x1, x2, x3, x4, x5, x6, x7, x8⟩ := cells9 b5
  obtain ⟨y0, y1, y2, y3, y4, y5, y6, y7, y8⟩ := cells9 b4

  obtain ⟨X, hX⟩ : ∃ X, X = w1 := ⟨_, rfl⟩
  have b5X : X.heap[w.heap.size + 1 + 1]? = some (.cells #[.int .i64 0, .string ⟨#[]⟩, .int .i64 0, .int .i64 0, .int .i64 0, .int .i64 0, .int .i64 0, .string ⟨#[]⟩, .int .i64 0] 33 (0, 0)) := by rw [hX]; exact b5
  have b4X : X.heap[w.heap.size + 1]? = some (.cells #[.int .i64 0, .string ⟨#[]⟩, .int .i64 0, .int .i64 0, .int .i64 0, .int .i64 0, .int .i64 0, .string ⟨#[]⟩, .int .i64 0] 33 (0, 0)) := by rw [hX]; exact b4
  have hfX : Fr (Mine w) w1 X := by
    rw [hX]
    repeat (refine Fr.setCell ?_ (.inl (by unfold Mine; dsimp only; omega)) _)
    exact Fr.refl _ _
  have HfX := hide hfX
  clear hfX b3
  go_upto_region 37 with (fail)
  rw [← hX]
  clear hX b4 b5 x0 x1 x2 x3 x4 x5 x6 x7 x8 y0 y1 y2 y3 y4 y5 y6 y7 y8 zz zy
  have zz := blk_frozen b5X
  have zy := blk_frozen b4X
  obtain ⟨x0, x1, x2, x3, x4, x5, x6, x7, x8⟩ := cells9 b5X
  obtain ⟨y0, y1, y2, y3, y4, y5, y6, y7, y8⟩ := cells9 b4X
  have Z := hide (cells9w (X := (X.setCell ⟨w.heap.size + 1 + 1, 8, none⟩ (.int .i64 E))) (blk_set_other b4X _ _ (by simp)) (.int .i64 0) (.string ⟨#[]⟩) (.int .i64 0) (.int .i64 0) (.int .i64 0) (.int .i64 0) (.int .i64 0) (.string ⟨#[]⟩) (.int .i64 E))
  clear b4X b5X
  go_wp2_with fail
  obtain ⟨z0, z1, z2, z3, z4, z5, z6, z7, z8⟩ := Z.out
  refine bodyPost_ret (by simp [results, Tryz.results7, go_sem, z0, z1, z2, z3, z4, z5, z6, z7, z8]; try rfl) rfl ?_
  refine ⟨_, rfl, HR.out _ (HfX.out.trans ?_)⟩
  repeat (refine Fr.setCell ?_ (.inl (by unfold Mine; dsimp only; omega)) _)
  exact Fr.refl _ _

set_option maxRecDepth 100000 in
set_option maxHeartbeats 1000000 in
theorem ask_15 (recv : Value) (c : CallQ) (w : World) (R : AnsQ → World → Prop) (hk : c.what = 15) (h : AskOf recv c (askW w c) (AskR w (askW w c) R)) :
    Calls Tryz.prog 7 #[recv, callV c] w (AskPost R) := by
  have hcall := h.2.2.2.2.2.2.2.2.2.2.2.2.2.2.2.1 hk
  obtain ⟨what, n, m, k, path, other⟩ := c
  simp only at hk
  subst hk
  have Hcall := hide hcall
  clear hcall h
  unfold callV
  simp only
  go_enter Tryz.func7, Tryz.ntmps7
  go_wp2_with fail
  refine Hcall.out.mono ?_
  clear Hcall
  rintro e w1 ⟨s, E, rfl, hR⟩
  skip
  obtain ⟨hfr, hR⟩ := hR
  obtain ⟨b3, b4, b5⟩ := ask_blocks _ _ _ hfr
  have hsz : w.heap.size + 1 + 1 < w1.heap.size := blk_lt b5
  have HR := hide hR
  clear hfr hR
  have zz := blk_frozen b5
  have zy := blk_frozen b4
  obtain ⟨x0, x1, x2, x3, x4, x5, x6, x7, x8⟩ := cells9 b5
  obtain ⟨y0, y1, y2, y3, y4, y5, y6, y7, y8⟩ := cells9 b4

  obtain ⟨X, hX⟩ : ∃ X, X = (w1.setCell ⟨w.heap.size + 1 + 1, 1, none⟩ (.string s)) := ⟨_, rfl⟩
  have b5X : X.heap[w.heap.size + 1 + 1]? = some (.cells #[.int .i64 0, .string s, .int .i64 0, .int .i64 0, .int .i64 0, .int .i64 0, .int .i64 0, .string ⟨#[]⟩, .int .i64 0] 33 (0, 0)) := by rw [hX]; exact (blk_set b5 1 (.string s))
  have b4X : X.heap[w.heap.size + 1]? = some (.cells #[.int .i64 0, .string ⟨#[]⟩, .int .i64 0, .int .i64 0, .int .i64 0, .int .i64 0, .int .i64 0, .string ⟨#[]⟩, .int .i64 0] 33 (0, 0)) := by rw [hX]; exact (blk_set_other b4 _ _ (by simp))
  have hfX : Fr (Mine w) w1 X := by
    rw [hX]
    repeat (refine Fr.setCell ?_ (.inl (by unfold Mine; dsimp only; omega)) _)
    exact Fr.refl _ _
  have HfX := hide hfX
  clear hfX b3
  go_upto_region 37 with (fail)
  rw [← hX]
  clear hX b4 b5 x0 x1 x2 x3 x4 x5 x6 x7 x8 y0 y1 y2 y3 y4 y5 y6 y7 y8 zz zy
  have zz := blk_frozen b5X
  have zy := blk_frozen b4X
  obtain ⟨x0, x1, x2, x3, x4, x5, x6, x7, x8⟩ := cells9 b5X
  obtain ⟨y0, y1, y2, y3, y4, y5, y6, y7, y8⟩ := cells9 b4X
  have Z := hide (cells9w (X := (X.setCell ⟨w.heap.size + 1 + 1, 8, none⟩ (.int .i64 E))) (blk_set_other b4X _ _ (by simp)) (.int .i64 0) (.string s) (.int .i64 0) (.int .i64 0) (.int .i64 0) (.int .i64 0) (.int .i64 0) (.string ⟨#[]⟩) (.int .i64 E))
  clear b4X b5X
  go_wp2_with fail
  obtain ⟨z0, z1, z2, z3, z4, z5, z6, z7, z8⟩ := Z.out
  refine bodyPost_ret (by simp [results, Tryz.results7, go_sem, z0, z1, z2, z3, z4, z5, z6, z7, z8]; try rfl) rfl ?_
  refine ⟨_, rfl, HR.out _ (HfX.out.trans ?_)⟩
  repeat (refine Fr.setCell ?_ (.inl (by unfold Mine; dsimp only; omega)) _)
  exact Fr.refl _ _

set_option maxRecDepth 100000 in
set_option maxHeartbeats 1000000 in
theorem ask_none (recv : Value) (c : CallQ) (w : World) (R : AnsQ → World → Prop) (hk : c.what < 0 ∨ 15 < c.what) (h : AskOf recv c (askW w c) (AskR w (askW w c) R)) :
    Calls Tryz.prog 7 #[recv, callV c] w (AskPost R) := by
  have hR := h.2.2.2.2.2.2.2.2.2.2.2.2.2.2.2.2 hk
  obtain ⟨what, n, m, k, path, other⟩ := c
  simp only at hk
  have hne : ∀ j : Int, 0 ≤ j → j ≤ 15 → (what == j) = false := fun j h1 h2 => by rw [beq_eq_false_iff_ne]; omega
  have e0 := hne 0 (by decide) (by decide)
  have e1 := hne 1 (by decide) (by decide)
  have e2 := hne 2 (by decide) (by decide)
  have e3 := hne 3 (by decide) (by decide)
  have e4 := hne 4 (by decide) (by decide)
  have e5 := hne 5 (by decide) (by decide)
  have e6 := hne 6 (by decide) (by decide)
  have e7 := hne 7 (by decide) (by decide)
  have e8 := hne 8 (by decide) (by decide)
  have e9 := hne 9 (by decide) (by decide)
  have e10 := hne 10 (by decide) (by decide)
  have e11 := hne 11 (by decide) (by decide)
  have e12 := hne 12 (by decide) (by decide)
  have e13 := hne 13 (by decide) (by decide)
  have e14 := hne 14 (by decide) (by decide)
  have e15 := hne 15 (by decide) (by decide)
  obtain ⟨w1, hw1⟩ : ∃ w1, w1 = askW w ⟨what, n, m, k, path, other⟩ := ⟨_, rfl⟩
  rw [← hw1] at hR
  obtain ⟨b3, b4, b5⟩ := ask_blocks w w1 ⟨what, n, m, k, path, other⟩ (by rw [← hw1]; exact Fr.refl _ _)
  obtain ⟨hfr, hR⟩ := hR
  have HR := hide hR
  clear hR hfr h hk hne
  have zz := blk_frozen b5
  have zy := blk_frozen b4
  obtain ⟨x0, x1, x2, x3, x4, x5, x6, x7, x8⟩ := cells9 b5
  obtain ⟨y0, y1, y2, y3, y4, y5, y6, y7, y8⟩ := cells9 b4
  clear b3 b4 b5
  unfold callV
  simp only
  unfold askW at hw1
  go_enter Tryz.func7, Tryz.ntmps7
  go_wp2_with fail
  rw [← hw1]
  refine bodyPost_ret (by simp [results, Tryz.results7, go_sem, y0, y1, y2, y3, y4, y5, y6, y7, y8]; try rfl) rfl ?_
  exact ⟨_, rfl, HR.out _ (Fr.refl _ _)⟩

end Go.Proofs.YthikjdpnlahkfaaGreatDoor

/- shyardlaw08.ask: any call. Conditions: the contract's own premise. -/
namespace Go.Proofs.YthikjdpnlahkfaaGreatDoor
open Go.RowKit

theorem ask_any (recv : Value) (c : CallQ) (w : World) (R : AnsQ → World → Prop) (h : AskOf recv c (askW w c) (AskR w (askW w c) R)) : Calls Tryz.prog 7 #[recv, callV c] w (AskPost R) := by
  by_cases h0 : c.what < 0 ∨ 15 < c.what
  · exact ask_none recv c w R h0 h
  have hx : c.what = 0 ∨ c.what = 1 ∨ c.what = 2 ∨ c.what = 3 ∨ c.what = 4 ∨ c.what = 5 ∨ c.what = 6 ∨ c.what = 7 ∨ c.what = 8 ∨ c.what = 9 ∨ c.what = 10 ∨ c.what = 11 ∨ c.what = 12 ∨ c.what = 13 ∨ c.what = 14 ∨ c.what = 15 := by omega
  rcases hx with e | e | e | e | e | e | e | e | e | e | e | e | e | e | e | e
  · exact ask_0 recv c w R e h
  · exact ask_1 recv c w R e h
  · exact ask_2 recv c w R e h
  · exact ask_3 recv c w R e h
  · exact ask_4 recv c w R e h
  · exact ask_5 recv c w R e h
  · exact ask_6 recv c w R e h
  · exact ask_7 recv c w R e h
  · exact ask_8 recv c w R e h
  · exact ask_9 recv c w R e h
  · exact ask_10 recv c w R e h
  · exact ask_11 recv c w R e h
  · exact ask_12 recv c w R e h
  · exact ask_13 recv c w R e h
  · exact ask_14 recv c w R e h
  · exact ask_15 recv c w R e h
end Go.Proofs.YthikjdpnlahkfaaGreatDoor
