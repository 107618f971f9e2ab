/- shyardlaw08.ask, some of its calls. Conditions: the contracts' own premises. -/
import Derived.Test.YthikjdpnlahkfaaDoorFilesAsk
namespace Go.Proofs.YthikjdpnlahkfaaDoor
open Go.RowKit

set_option maxRecDepth 100000 in
set_option maxHeartbeats 1000000 in
theorem ask_8 (recv : Value) (c : CallQ) (w : World) (R : AnsQ → World → Prop) (hk : c.what = 8) (h : AskOf recv c (askW w c) (AskR w (askW w c) R)) :
    Calls Tryd.prog 16 #[recv, callV c] w (AskPost R) := by
  have hcall := h.2.2.2.2.2.2.2.2.1 hk
  obtain ⟨what, n, m, k, path, other⟩ := c
  simp only at hk
  subst hk
  have Hcall := hide hcall
  clear hcall h
  unfold callV
  simp only
  go_enter Tryd.func16, Tryd.ntmps16
  go_wp2_with fail
  refine Hcall.out.mono ?_
  clear Hcall
  rintro e w1 ⟨n, E, rfl, hR⟩
  skip
  obtain ⟨hfr, hR⟩ := hR
  obtain ⟨b3, b4, b5⟩ := ask_blocks _ _ _ hfr
  have hsz : w.heap.size + 1 + 1 < w1.heap.size := blk_lt b5
  have HR := hide hR
  clear hfr hR
  have zz := blk_frozen b5
  have zy := blk_frozen b4
  obtain ⟨x0, x1, x2, x3, x4, x5, x6, x7, x8⟩ := cells9 b5
  obtain ⟨y0, y1, y2, y3, y4, y5, y6, y7, y8⟩ := cells9 b4

  obtain ⟨X, hX⟩ : ∃ X, X = (w1.setCell ⟨w.heap.size + 1 + 1, 0, none⟩ (.int .i64 n)) := ⟨_, rfl⟩
  have b5X : X.heap[w.heap.size + 1 + 1]? = some (.cells #[.int .i64 n, .string ⟨#[]⟩, .int .i64 0, .int .i64 0, .int .i64 0, .int .i64 0, .int .i64 0, .string ⟨#[]⟩, .int .i64 0] 39 (0, 0)) := by rw [hX]; exact (blk_set b5 0 (.int .i64 n))
  have b4X : X.heap[w.heap.size + 1]? = some (.cells #[.int .i64 0, .string ⟨#[]⟩, .int .i64 0, .int .i64 0, .int .i64 0, .int .i64 0, .int .i64 0, .string ⟨#[]⟩, .int .i64 0] 39 (0, 0)) := by rw [hX]; exact (blk_set_other b4 _ _ (by simp))
  have hfX : Fr (Mine w) w1 X := by
    rw [hX]
    repeat (refine Fr.setCell ?_ (.inl (by unfold Mine; dsimp only; omega)) _)
    exact Fr.refl _ _
  have HfX := hide hfX
  clear hfX b3
  go_upto_region 37 with (fail)
  rw [← hX]
  clear hX b4 b5 x0 x1 x2 x3 x4 x5 x6 x7 x8 y0 y1 y2 y3 y4 y5 y6 y7 y8 zz zy
  have zz := blk_frozen b5X
  have zy := blk_frozen b4X
  obtain ⟨x0, x1, x2, x3, x4, x5, x6, x7, x8⟩ := cells9 b5X
  obtain ⟨y0, y1, y2, y3, y4, y5, y6, y7, y8⟩ := cells9 b4X
  have Z := hide (cells9w (X := (X.setCell ⟨w.heap.size + 1 + 1, 8, none⟩ (.int .i64 E))) (blk_set_other b4X _ _ (by simp)) (.int .i64 n) (.string ⟨#[]⟩) (.int .i64 0) (.int .i64 0) (.int .i64 0) (.int .i64 0) (.int .i64 0) (.string ⟨#[]⟩) (.int .i64 E))
  clear b4X b5X
  go_wp2_with fail
  obtain ⟨z0, z1, z2, z3, z4, z5, z6, z7, z8⟩ := Z.out
  refine bodyPost_ret (by simp [results, Tryd.results16, go_sem, z0, z1, z2, z3, z4, z5, z6, z7, z8]; try rfl) rfl ?_
  refine ⟨_, rfl, HR.out _ (HfX.out.trans ?_)⟩
  repeat (refine Fr.setCell ?_ (.inl (by unfold Mine; dsimp only; omega)) _)
  exact Fr.refl _ _

set_option maxRecDepth 100000 in
set_option maxHeartbeats 1000000 in
theorem ask_9 (recv : Value) (c : CallQ) (w : World) (R : AnsQ → World → Prop) (hk : c.what = 9) (h : AskOf recv c (askW w c) (AskR w (askW w c) R)) :
    Calls Tryd.prog 16 #[recv, callV c] w (AskPost R) := by
  have hcall := h.2.2.2.2.2.2.2.2.2.1 hk
  obtain ⟨what, n, m, k, path, other⟩ := c
  simp only at hk
  subst hk
  have Hcall := hide hcall
  clear hcall h
  unfold callV
  simp only
  go_enter Tryd.func16, Tryd.ntmps16
  go_wp2_with fail
  refine Hcall.out.mono ?_
  clear Hcall
  rintro e w1 ⟨E, rfl, hR⟩
  skip
  obtain ⟨hfr, hR⟩ := hR
  obtain ⟨b3, b4, b5⟩ := ask_blocks _ _ _ hfr
  have hsz : w.heap.size + 1 + 1 < w1.heap.size := blk_lt b5
  have HR := hide hR
  clear hfr hR
  have zz := blk_frozen b5
  have zy := blk_frozen b4
  obtain ⟨x0, x1, x2, x3, x4, x5, x6, x7, x8⟩ := cells9 b5
  obtain ⟨y0, y1, y2, y3, y4, y5, y6, y7, y8⟩ := cells9 b4

  obtain ⟨X, hX⟩ : ∃ X, X = w1 := ⟨_, rfl⟩
  have b5X : X.heap[w.heap.size + 1 + 1]? = some (.cells #[.int .i64 0, .string ⟨#[]⟩, .int .i64 0, .int .i64 0, .int .i64 0, .int .i64 0, .int .i64 0, .string ⟨#[]⟩, .int .i64 0] 39 (0, 0)) := by rw [hX]; exact b5
  have b4X : X.heap[w.heap.size + 1]? = some (.cells #[.int .i64 0, .string ⟨#[]⟩, .int .i64 0, .int .i64 0, .int .i64 0, .int .i64 0, .int .i64 0, .string ⟨#[]⟩, .int .i64 0] 39 (0, 0)) := by rw [hX]; exact b4
  have hfX : Fr (Mine w) w1 X := by
    rw [hX]
    repeat (refine Fr.setCell ?_ (.inl (by unfold Mine; dsimp only; omega)) _)
    exact Fr.refl _ _
  have HfX := hide hfX
  clear hfX b3
  go_upto_region 37 with (fail)
  rw [← hX]
  clear hX b4 b5 x0 x1 x2 x3 x4 x5 x6 x7 x8 y0 y1 y2 y3 y4 y5 y6 y7 y8 zz zy
  have zz := blk_frozen b5X
  have zy := blk_frozen b4X
  obtain ⟨x0, x1, x2, x3, x4, x5, x6, x7, x8⟩ := cells9 b5X
  obtain ⟨y0, y1, y2, y3, y4, y5, y6, y7, y8⟩ := cells9 b4X
  have Z := hide (cells9w (X := (X.setCell ⟨w.heap.size + 1 + 1, 8, none⟩ (.int .i64 E))) (blk_set_other b4X _ _ (by simp)) (.int .i64 0) (.string ⟨#[]⟩) (.int .i64 0) (.int .i64 0) (.int .i64 0) (.int .i64 0) (.int .i64 0) (.string ⟨#[]⟩) (.int .i64 E))
  clear b4X b5X
  go_wp2_with fail
  obtain ⟨z0, z1, z2, z3, z4, z5, z6, z7, z8⟩ := Z.out
  refine bodyPost_ret (by simp [results, Tryd.results16, go_sem, z0, z1, z2, z3, z4, z5, z6, z7, z8]; try rfl) rfl ?_
  refine ⟨_, rfl, HR.out _ (HfX.out.trans ?_)⟩
  repeat (refine Fr.setCell ?_ (.inl (by unfold Mine; dsimp only; omega)) _)
  exact Fr.refl _ _

set_option maxRecDepth 100000 in
set_option maxHeartbeats 1000000 in
theorem ask_10 (recv : Value) (c : CallQ) (w : World) (R : AnsQ → World → Prop) (hk : c.what = 10) (h : AskOf recv c (askW w c) (AskR w (askW w c) R)) :
    Calls Tryd.prog 16 #[recv, callV c] w (AskPost R) := by
  have hcall := h.2.2.2.2.2.2.2.2.2.2.1 hk
  obtain ⟨what, n, m, k, path, other⟩ := c
  simp only at hk
  subst hk
  have Hcall := hide hcall
  clear hcall h
  unfold callV
  simp only
  go_enter Tryd.func16, Tryd.ntmps16
  go_wp2_with fail
  refine Hcall.out.mono ?_
  clear Hcall
  rintro e w1 ⟨E, rfl, hR⟩
  skip
  obtain ⟨hfr, hR⟩ := hR
  obtain ⟨b3, b4, b5⟩ := ask_blocks _ _ _ hfr
  have hsz : w.heap.size + 1 + 1 < w1.heap.size := blk_lt b5
  have HR := hide hR
  clear hfr hR
  have zz := blk_frozen b5
  have zy := blk_frozen b4
  obtain ⟨x0, x1, x2, x3, x4, x5, x6, x7, x8⟩ := cells9 b5
  obtain ⟨y0, y1, y2, y3, y4, y5, y6, y7, y8⟩ := cells9 b4

  obtain ⟨X, hX⟩ : ∃ X, X = w1 := ⟨_, rfl⟩
  have b5X : X.heap[w.heap.size + 1 + 1]? = some (.cells #[.int .i64 0, .string ⟨#[]⟩, .int .i64 0, .int .i64 0, .int .i64 0, .int .i64 0, .int .i64 0, .string ⟨#[]⟩, .int .i64 0] 39 (0, 0)) := by rw [hX]; exact b5
  have b4X : X.heap[w.heap.size + 1]? = some (.cells #[.int .i64 0, .string ⟨#[]⟩, .int .i64 0, .int .i64 0, .int .i64 0, .int .i64 0, .int .i64 0, .string ⟨#[]⟩, .int .i64 0] 39 (0, 0)) := by rw [hX]; exact b4
  have hfX : Fr (Mine w) w1 X := by
    rw [hX]
    repeat (refine Fr.setCell ?_ (.inl (by unfold Mine; dsimp only; omega)) _)
    exact Fr.refl _ _
  have HfX := hide hfX
  clear hfX b3
  go_upto_region 37 with (fail)
  rw [← hX]
  clear hX b4 b5 x0 x1 x2 x3 x4 x5 x6 x7 x8 y0 y1 y2 y3 y4 y5 y6 y7 y8 zz zy
  have zz := blk_frozen b5X
  have zy := blk_frozen b4X
  obtain ⟨x0, x1, x2, x3, x4, x5, x6, x7, x8⟩ := cells9 b5X
  obtain ⟨y0, y1, y2, y3, y4, y5, y6, y7, y8⟩ := cells9 b4X
  have Z := hide (cells9w (X := (X.setCell ⟨w.heap.size + 1 + 1, 8, none⟩ (.int .i64 E))) (blk_set_other b4X _ _ (by simp)) (.int .i64 0) (.string ⟨#[]⟩) (.int .i64 0) (.int .i64 0) (.int .i64 0) (.int .i64 0) (.int .i64 0) (.string ⟨#[]⟩) (.int .i64 E))
  clear b4X b5X
  go_wp2_with fail
  obtain ⟨z0, z1, z2, z3, z4, z5, z6, z7, z8⟩ := Z.out
  refine bodyPost_ret (by simp [results, Tryd.results16, go_sem, z0, z1, z2, z3, z4, z5, z6, z7, z8]; try rfl) rfl ?_
  refine ⟨_, rfl, HR.out _ (HfX.out.trans ?_)⟩
  repeat (refine Fr.setCell ?_ (.inl (by unfold Mine; dsimp only; omega)) _)
  exact Fr.refl _ _

set_option maxRecDepth 100000 in
set_option maxHeartbeats 1000000 in
theorem ask_11 (recv : Value) (c : CallQ) (w : World) (R : AnsQ → World → Prop) (hk : c.what = 11) (h : AskOf recv c (askW w c) (AskR w (askW w c) R)) :
    Calls Tryd.prog 16 #[recv, callV c] w (AskPost R) := by
  have hcall := h.2.2.2.2.2.2.2.2.2.2.2.1 hk
  obtain ⟨what, n, m, k, path, other⟩ := c
  simp only at hk
  subst hk
  have Hcall := hide hcall
  clear hcall h
  unfold callV
  simp only
  go_enter Tryd.func16, Tryd.ntmps16
  go_wp2_with fail
  refine Hcall.out.mono ?_
  clear Hcall
  rintro e w1 ⟨⟨t1, t2, t3, t4, t5⟩, E, rfl, hR⟩
  unfold stV; dsimp only
  obtain ⟨hfr, hR⟩ := hR
  obtain ⟨b3, b4, b5⟩ := ask_blocks _ _ _ hfr
  have hsz : w.heap.size + 1 + 1 < w1.heap.size := blk_lt b5
  have HR := hide hR
  clear hfr hR
  have zz := blk_frozen b5
  have zy := blk_frozen b4
  obtain ⟨x0, x1, x2, x3, x4, x5, x6, x7, x8⟩ := cells9 b5
  obtain ⟨y0, y1, y2, y3, y4, y5, y6, y7, y8⟩ := cells9 b4

  obtain ⟨X, hX⟩ : ∃ X, X = (((((w1.setCell ⟨w.heap.size + 1 + 1, 2, none⟩ (.int .i64 t1)).setCell ⟨w.heap.size + 1 + 1, 3, none⟩ (.int .i64 t2)).setCell ⟨w.heap.size + 1 + 1, 4, none⟩ (.int .i64 t3)).setCell ⟨w.heap.size + 1 + 1, 5, none⟩ (.int .i64 t4)).setCell ⟨w.heap.size + 1 + 1, 6, none⟩ (.int .i64 t5)) := ⟨_, rfl⟩
  have b5X : X.heap[w.heap.size + 1 + 1]? = some (.cells #[.int .i64 0, .string ⟨#[]⟩, .int .i64 t1, .int .i64 t2, .int .i64 t3, .int .i64 t4, .int .i64 t5, .string ⟨#[]⟩, .int .i64 0] 39 (0, 0)) := by rw [hX]; exact (blk_set (blk_set (blk_set (blk_set (blk_set b5 2 (.int .i64 t1)) 3 (.int .i64 t2)) 4 (.int .i64 t3)) 5 (.int .i64 t4)) 6 (.int .i64 t5))
  have b4X : X.heap[w.heap.size + 1]? = some (.cells #[.int .i64 0, .string ⟨#[]⟩, .int .i64 0, .int .i64 0, .int .i64 0, .int .i64 0, .int .i64 0, .string ⟨#[]⟩, .int .i64 0] 39 (0, 0)) := by rw [hX]; exact (blk_set_other (blk_set_other (blk_set_other (blk_set_other (blk_set_other b4 _ _ (by simp)) _ _ (by simp)) _ _ (by simp)) _ _ (by simp)) _ _ (by simp))
  have hfX : Fr (Mine w) w1 X := by
    rw [hX]
    repeat (refine Fr.setCell ?_ (.inl (by unfold Mine; dsimp only; omega)) _)
    exact Fr.refl _ _
  have HfX := hide hfX
  clear hfX b3
  go_upto_region 37 with (fail)
  rw [← hX]
  clear hX b4 b5 x0 x1 x2 x3 x4 x5 x6 x7 x8 y0 y1 y2 y3 y4 y5 y6 y7 y8 zz zy
  have zz := blk_frozen b5X
  have zy := blk_frozen b4X
  obtain ⟨x0, x1, x2, x3, x4, x5, x6, x7, x8⟩ := cells9 b5X
  obtain ⟨y0, y1, y2, y3, y4, y5, y6, y7, y8⟩ := cells9 b4X
  have Z := hide (cells9w (X := (X.setCell ⟨w.heap.size + 1 + 1, 8, none⟩ (.int .i64 E))) (blk_set_other b4X _ _ (by simp)) (.int .i64 0) (.string ⟨#[]⟩) (.int .i64 t1) (.int .i64 t2) (.int .i64 t3) (.int .i64 t4) (.int .i64 t5) (.string ⟨#[]⟩) (.int .i64 E))
  clear b4X b5X
  go_wp2_with fail
  obtain ⟨z0, z1, z2, z3, z4, z5, z6, z7, z8⟩ := Z.out
  refine bodyPost_ret (by simp [results, Tryd.results16, go_sem, z0, z1, z2, z3, z4, z5, z6, z7, z8]; try rfl) rfl ?_
  refine ⟨_, rfl, HR.out _ (HfX.out.trans ?_)⟩
  repeat (refine Fr.setCell ?_ (.inl (by unfold Mine; dsimp only; omega)) _)
  exact Fr.refl _ _
end Go.Proofs.YthikjdpnlahkfaaDoor
