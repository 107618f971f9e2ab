/- shyardlaw08.want: what it asks of the document. Printed by wip/gen/fwant.py. No condition. -/
import Derived.Test.YthikjdpnlahkfaaGreatDoorFilesAsk
namespace Go.Proofs.YthikjdpnlahkfaaGreatDoor
open Go.RowKit

def WantOf (recv : Value) (c : CallQ) (w0 : World) (R : AnsQ → World → Prop) : Prop :=
  (c.what = 0 → Calls Tryz.prog 36 #[recv, .int .i64 c.n, .string c.path] w0 fun e w' => ∃ n E : Int, e = .returned (.tuple #[.int .i64 n, .int .i64 E]) ∧ R { errA E with n := n } w') ∧
  (c.what = 1 → Calls Tryz.prog 37 #[recv, .int .i64 c.n, .string c.path, .int .i64 c.m] w0 fun e w' => ∃ n E : Int, e = .returned (.tuple #[.int .i64 n, .int .i64 E]) ∧ R { errA E with n := n } w') ∧
  (c.what = 2 → Calls Tryz.prog 38 #[recv, .int .i64 c.n, .string c.path, .int .i64 c.m] w0 fun e w' => ∃ E : Int, e = .returned (.int .i64 E) ∧ R (errA E) w') ∧
  (c.what = 3 → Calls Tryz.prog 39 #[recv, .int .i64 c.n, .string c.path] w0 fun e w' => ∃ E : Int, e = .returned (.int .i64 E) ∧ R (errA E) w') ∧
  (c.what = 4 → Calls Tryz.prog 40 #[recv, .int .i64 c.n, .string c.path] w0 fun e w' => ∃ E : Int, e = .returned (.int .i64 E) ∧ R (errA E) w') ∧
  (c.what = 5 → Calls Tryz.prog 41 #[recv, .int .i64 c.n, .string c.path, .string c.other] w0 fun e w' => ∃ E : Int, e = .returned (.int .i64 E) ∧ R (errA E) w') ∧
  (c.what = 6 → Calls Tryz.prog 42 #[recv, .int .i64 c.n, .string c.path, .string c.other] w0 fun e w' => ∃ E : Int, e = .returned (.int .i64 E) ∧ R (errA E) w') ∧
  (c.what = 7 → Calls Tryz.prog 43 #[recv, .int .i64 c.n, .int .i64 c.m, .int .i64 c.k] w0 fun e w' => ∃ (s : ByteArray) (E : Int), e = .returned (.tuple #[.string s, .int .i64 E]) ∧ R { errA E with s := s } w') ∧
  (c.what = 8 → Calls Tryz.prog 44 #[recv, .int .i64 c.n, .int .i64 c.m, .string c.other] w0 fun e w' => ∃ n E : Int, e = .returned (.tuple #[.int .i64 n, .int .i64 E]) ∧ R { errA E with n := n } w') ∧
  (c.what = 9 → Calls Tryz.prog 45 #[recv, .int .i64 c.n, .int .i64 c.m] w0 fun e w' => ∃ E : Int, e = .returned (.int .i64 E) ∧ R (errA E) w') ∧
  (c.what = 10 → Calls Tryz.prog 46 #[recv, .int .i64 c.n, .int .i64 c.m] w0 fun e w' => ∃ E : Int, e = .returned (.int .i64 E) ∧ R (errA E) w') ∧
  (c.what = 11 → Calls Tryz.prog 47 #[recv, .int .i64 c.n] w0 fun e w' => ∃ (t : StQ) (E : Int), e = .returned (.tuple #[stV t, .int .i64 E]) ∧ R { errA E with st := t } w') ∧
  (c.what = 12 → Calls Tryz.prog 48 #[recv, .int .i64 c.n] w0 fun e w' => ∃ (v : Value) (l : List ByteArray) (E : Int) (S' : Nat → Prop), e = .returned (.tuple #[v, .int .i64 E]) ∧ ArgsV w' S' v l ∧ l.length ≤ 1000000 ∧ (∀ x ∈ l, x.size ≤ 1000000) ∧ R { errA E with list := ⟨(joinL l).toArray⟩ } w') ∧
  (c.what = 13 → Calls Tryz.prog 49 #[recv, .int .i64 c.n] w0 fun e w' => ∃ E : Int, e = .returned (.int .i64 E) ∧ R (errA E) w') ∧
  (c.what = 14 → Calls Tryz.prog 50 #[recv, .int .i64 c.n] w0 fun e w' => ∃ E : Int, e = .returned (.int .i64 E) ∧ R (errA E) w') ∧
  (c.what = 15 → Calls Tryz.prog 51 #[recv, .int .i64 c.n] w0 fun e w' => ∃ (s : ByteArray) (E : Int), e = .returned (.tuple #[.string s, .int .i64 E]) ∧ R { errA E with s := s } w') ∧
  ((c.what < 0 ∨ 15 < c.what) → R (errA 0) w0)

end Go.Proofs.YthikjdpnlahkfaaGreatDoor

/- shyardlaw08.want, some of its calls. Printed by wip/gen/fwant.py. Conditions: the contracts' own premises. -/
namespace Go.Proofs.YthikjdpnlahkfaaGreatDoor
open Go.RowKit

set_option maxRecDepth 100000 in
set_option maxHeartbeats 1000000 in
theorem want_0 (recv : Value) (c : CallQ) (w : World) (R : AnsQ → World → Prop) (hk : c.what = 0) (h : WantOf recv c (askW w c) (AskR w (askW w c) R)) :
    Calls Tryz.prog 8 #[recv, callV c] w (AskPost R) := by
  have hcall := h.1 hk
  obtain ⟨what, n, m, k, path, other⟩ := c
  simp only at hk
  subst hk
  have Hcall := hide hcall
  clear hcall h
  unfold callV
  simp only
  go_enter Tryz.func8, Tryz.ntmps8
  go_wp2_with fail
  refine Hcall.out.mono ?_
  clear Hcall
  rintro e w1 ⟨n, E, rfl, hR⟩
  skip
  obtain ⟨hfr, hR⟩ := hR
  obtain ⟨b3, b4, b5⟩ := ask_blocks _ _ _ hfr
  have hsz : w.heap.size + 1 + 1 < w1.heap.size := blk_lt b5
  have HR := hide hR
  clear hfr hR
  have zz := blk_frozen b5
  have zy := blk_frozen b4
  obtain ⟨x0, x1, x2, x3, x4, x5, x6, x7, x8⟩ := cells9 b5
  obtain ⟨y0, y1, y2, y3, y4, y5, y6, y7, y8⟩ := cells9 b4

  obtain ⟨X, hX⟩ : ∃ X, X = ((w1.setCell ⟨w.heap.size + 1 + 1, 0, none⟩ (.int .i64 n)).setCell ⟨w.heap.size + 1 + 1, 8, none⟩ (.int .i64 E)) := ⟨_, rfl⟩
  have b5X : X.heap[w.heap.size + 1 + 1]? = some (.cells #[.int .i64 n, .string ⟨#[]⟩, .int .i64 0, .int .i64 0, .int .i64 0, .int .i64 0, .int .i64 0, .string ⟨#[]⟩, .int .i64 E] 33 (0, 0)) := by rw [hX]; exact (blk_set (blk_set b5 0 (.int .i64 n)) 8 (.int .i64 E))
  have b4X : X.heap[w.heap.size + 1]? = some (.cells #[.int .i64 0, .string ⟨#[]⟩, .int .i64 0, .int .i64 0, .int .i64 0, .int .i64 0, .int .i64 0, .string ⟨#[]⟩, .int .i64 0] 33 (0, 0)) := by rw [hX]; exact (blk_set_other (blk_set_other b4 _ _ (by simp)) _ _ (by simp))
  have hfX : Fr (Mine w) w1 X := by
    rw [hX]
    repeat (refine Fr.setCell ?_ (.inl (by unfold Mine; dsimp only; omega)) _)
    exact Fr.refl _ _
  have HfX := hide hfX
  clear hfX b3
  go_upto_region 36 with (fail)
  rw [← hX]
  clear hX b4 b5 x0 x1 x2 x3 x4 x5 x6 x7 x8 y0 y1 y2 y3 y4 y5 y6 y7 y8 zz zy
  have zz := blk_frozen b5X
  have zy := blk_frozen b4X
  obtain ⟨x0, x1, x2, x3, x4, x5, x6, x7, x8⟩ := cells9 b5X
  obtain ⟨y0, y1, y2, y3, y4, y5, y6, y7, y8⟩ := cells9 b4X
  have Z := hide (cells9w (X := X) b4X (.int .i64 n) (.string ⟨#[]⟩) (.int .i64 0) (.int .i64 0) (.int .i64 0) (.int .i64 0) (.int .i64 0) (.string ⟨#[]⟩) (.int .i64 E))
  clear b4X b5X
  go_wp2_with fail
  obtain ⟨z0, z1, z2, z3, z4, z5, z6, z7, z8⟩ := Z.out
  refine bodyPost_ret (by simp [results, Tryz.results8, go_sem, z0, z1, z2, z3, z4, z5, z6, z7, z8]; try rfl) rfl ?_
  refine ⟨_, rfl, HR.out _ (HfX.out.trans ?_)⟩
  repeat (refine Fr.setCell ?_ (.inl (by unfold Mine; dsimp only; omega)) _)
  exact Fr.refl _ _

set_option maxRecDepth 100000 in
set_option maxHeartbeats 1000000 in
theorem want_1 (recv : Value) (c : CallQ) (w : World) (R : AnsQ → World → Prop) (hk : c.what = 1) (h : WantOf recv c (askW w c) (AskR w (askW w c) R)) :
    Calls Tryz.prog 8 #[recv, callV c] w (AskPost R) := by
  have hcall := h.2.1 hk
  obtain ⟨what, n, m, k, path, other⟩ := c
  simp only at hk
  subst hk
  have Hcall := hide hcall
  clear hcall h
  unfold callV
  simp only
  go_enter Tryz.func8, Tryz.ntmps8
  go_wp2_with fail
  refine Hcall.out.mono ?_
  clear Hcall
  rintro e w1 ⟨n, E, rfl, hR⟩
  skip
  obtain ⟨hfr, hR⟩ := hR
  obtain ⟨b3, b4, b5⟩ := ask_blocks _ _ _ hfr
  have hsz : w.heap.size + 1 + 1 < w1.heap.size := blk_lt b5
  have HR := hide hR
  clear hfr hR
  have zz := blk_frozen b5
  have zy := blk_frozen b4
  obtain ⟨x0, x1, x2, x3, x4, x5, x6, x7, x8⟩ := cells9 b5
  obtain ⟨y0, y1, y2, y3, y4, y5, y6, y7, y8⟩ := cells9 b4

  obtain ⟨X, hX⟩ : ∃ X, X = ((w1.setCell ⟨w.heap.size + 1 + 1, 0, none⟩ (.int .i64 n)).setCell ⟨w.heap.size + 1 + 1, 8, none⟩ (.int .i64 E)) := ⟨_, rfl⟩
  have b5X : X.heap[w.heap.size + 1 + 1]? = some (.cells #[.int .i64 n, .string ⟨#[]⟩, .int .i64 0, .int .i64 0, .int .i64 0, .int .i64 0, .int .i64 0, .string ⟨#[]⟩, .int .i64 E] 33 (0, 0)) := by rw [hX]; exact (blk_set (blk_set b5 0 (.int .i64 n)) 8 (.int .i64 E))
  have b4X : X.heap[w.heap.size + 1]? = some (.cells #[.int .i64 0, .string ⟨#[]⟩, .int .i64 0, .int .i64 0, .int .i64 0, .int .i64 0, .int .i64 0, .string ⟨#[]⟩, .int .i64 0] 33 (0, 0)) := by rw [hX]; exact (blk_set_other (blk_set_other b4 _ _ (by simp)) _ _ (by simp))
  have hfX : Fr (Mine w) w1 X := by
    rw [hX]
    repeat (refine Fr.setCell ?_ (.inl (by unfold Mine; dsimp only; omega)) _)
    exact Fr.refl _ _
  have HfX := hide hfX
  clear hfX b3
  go_upto_region 36 with (fail)
  rw [← hX]
  clear hX b4 b5 x0 x1 x2 x3 x4 x5 x6 x7 x8 y0 y1 y2 y3 y4 y5 y6 y7 y8 zz zy
  have zz := blk_frozen b5X
  have zy := blk_frozen b4X
  obtain ⟨x0, x1, x2, x3, x4, x5, x6, x7, x8⟩ := cells9 b5X
  obtain ⟨y0, y1, y2, y3, y4, y5, y6, y7, y8⟩ := cells9 b4X
  have Z := hide (cells9w (X := X) b4X (.int .i64 n) (.string ⟨#[]⟩) (.int .i64 0) (.int .i64 0) (.int .i64 0) (.int .i64 0) (.int .i64 0) (.string ⟨#[]⟩) (.int .i64 E))
  clear b4X b5X
  go_wp2_with fail
  obtain ⟨z0, z1, z2, z3, z4, z5, z6, z7, z8⟩ := Z.out
  refine bodyPost_ret (by simp [results, Tryz.results8, go_sem, z0, z1, z2, z3, z4, z5, z6, z7, z8]; try rfl) rfl ?_
  refine ⟨_, rfl, HR.out _ (HfX.out.trans ?_)⟩
  repeat (refine Fr.setCell ?_ (.inl (by unfold Mine; dsimp only; omega)) _)
  exact Fr.refl _ _

set_option maxRecDepth 100000 in
set_option maxHeartbeats 1000000 in
theorem want_2 (recv : Value) (c : CallQ) (w : World) (R : AnsQ → World → Prop) (hk : c.what = 2) (h : WantOf recv c (askW w c) (AskR w (askW w c) R)) :
    Calls Tryz.prog 8 #[recv, callV c] w (AskPost R) := by
  have hcall := h.2.2.1 hk
  obtain ⟨what, n, m, k, path, other⟩ := c
  simp only at hk
  subst hk
  have Hcall := hide hcall
  clear hcall h
  unfold callV
  simp only
  go_enter Tryz.func8, Tryz.ntmps8
  go_wp2_with fail
  refine Hcall.out.mono ?_
  clear Hcall
  rintro e w1 ⟨E, rfl, hR⟩
  skip
  obtain ⟨hfr, hR⟩ := hR
  obtain ⟨b3, b4, b5⟩ := ask_blocks _ _ _ hfr
  have hsz : w.heap.size + 1 + 1 < w1.heap.size := blk_lt b5
  have HR := hide hR
  clear hfr hR
  have zz := blk_frozen b5
  have zy := blk_frozen b4
  obtain ⟨x0, x1, x2, x3, x4, x5, x6, x7, x8⟩ := cells9 b5
  obtain ⟨y0, y1, y2, y3, y4, y5, y6, y7, y8⟩ := cells9 b4

  obtain ⟨X, hX⟩ : ∃ X, X = (w1.setCell ⟨w.heap.size + 1 + 1, 8, none⟩ (.int .i64 E)) := ⟨_, rfl⟩
  have b5X : X.heap[w.heap.size + 1 + 1]? = some (.cells #[.int .i64 0, .string ⟨#[]⟩, .int .i64 0, .int .i64 0, .int .i64 0, .int .i64 0, .int .i64 0, .string ⟨#[]⟩, .int .i64 E] 33 (0, 0)) := by rw [hX]; exact (blk_set b5 8 (.int .i64 E))
  have b4X : X.heap[w.heap.size + 1]? = some (.cells #[.int .i64 0, .string ⟨#[]⟩, .int .i64 0, .int .i64 0, .int .i64 0, .int .i64 0, .int .i64 0, .string ⟨#[]⟩, .int .i64 0] 33 (0, 0)) := by rw [hX]; exact (blk_set_other b4 _ _ (by simp))
  have hfX : Fr (Mine w) w1 X := by
    rw [hX]
    repeat (refine Fr.setCell ?_ (.inl (by unfold Mine; dsimp only; omega)) _)
    exact Fr.refl _ _
  have HfX := hide hfX
  clear hfX b3
  go_upto_region 36 with (fail)
  rw [← hX]
  clear hX b4 b5 x0 x1 x2 x3 x4 x5 x6 x7 x8 y0 y1 y2 y3 y4 y5 y6 y7 y8 zz zy
  have zz := blk_frozen b5X
  have zy := blk_frozen b4X
  obtain ⟨x0, x1, x2, x3, x4, x5, x6, x7, x8⟩ := cells9 b5X
  obtain ⟨y0, y1, y2, y3, y4, y5, y6, y7, y8⟩ := cells9 b4X
  have Z := hide (cells9w (X := X) b4X (.int .i64 0) (.string ⟨#[]⟩) (.int .i64 0) (.int .i64 0) (.int .i64 0) (.int .i64 0) (.int .i64 0) (.string ⟨#[]⟩) (.int .i64 E))
  clear b4X b5X
  go_wp2_with fail
  obtain ⟨z0, z1, z2, z3, z4, z5, z6, z7, z8⟩ := Z.out
  refine bodyPost_ret (by simp [results, Tryz.results8, go_sem, z0, z1, z2, z3, z4, z5, z6, z7, z8]; try rfl) rfl ?_
  refine ⟨_, rfl, HR.out _ (HfX.out.trans ?_)⟩
  repeat (refine Fr.setCell ?_ (.inl (by unfold Mine; dsimp only; omega)) _)
  exact Fr.refl _ _

set_option maxRecDepth 100000 in
set_option maxHeartbeats 1000000 in
theorem want_3 (recv : Value) (c : CallQ) (w : World) (R : AnsQ → World → Prop) (hk : c.what = 3) (h : WantOf recv c (askW w c) (AskR w (askW w c) R)) :
    Calls Tryz.prog 8 #[recv, callV c] w (AskPost R) := by
  have hcall := h.2.2.2.1 hk
  obtain ⟨what, n, m, k, path, other⟩ := c
  simp only at hk
  subst hk
  have Hcall := hide hcall
  clear hcall h
  unfold callV
  simp only
  go_enter Tryz.func8, Tryz.ntmps8
  go_wp2_with fail
  refine Hcall.out.mono ?_
  clear Hcall
  rintro e w1 ⟨E, rfl, hR⟩
  skip
  obtain ⟨hfr, hR⟩ := hR
  obtain ⟨b3, b4, b5⟩ := ask_blocks _ _ _ hfr
  have hsz : w.heap.size + 1 + 1 < w1.heap.size := blk_lt b5
  have HR := hide hR
  clear hfr hR
  have zz := blk_frozen b5
  have zy := blk_frozen b4
  obtain ⟨x0, x1, x2, x3, x4, x5, x6, x7, x8⟩ := cells9 b5
  obtain ⟨y0, y1, y2, y3, y4, y5, y6, y7, y8⟩ := cells9 b4

  obtain ⟨X, hX⟩ : ∃ X, X = (w1.setCell ⟨w.heap.size + 1 + 1, 8, none⟩ (.int .i64 E)) := ⟨_, rfl⟩
  have b5X : X.heap[w.heap.size + 1 + 1]? = some (.cells #[.int .i64 0, .string ⟨#[]⟩, .int .i64 0, .int .i64 0, .int .i64 0, .int .i64 0, .int .i64 0, .string ⟨#[]⟩, .int .i64 E] 33 (0, 0)) := by rw [hX]; exact (blk_set b5 8 (.int .i64 E))
  have b4X : X.heap[w.heap.size + 1]? = some (.cells #[.int .i64 0, .string ⟨#[]⟩, .int .i64 0, .int .i64 0, .int .i64 0, .int .i64 0, .int .i64 0, .string ⟨#[]⟩, .int .i64 0] 33 (0, 0)) := by rw [hX]; exact (blk_set_other b4 _ _ (by simp))
  have hfX : Fr (Mine w) w1 X := by
    rw [hX]
    repeat (refine Fr.setCell ?_ (.inl (by unfold Mine; dsimp only; omega)) _)
    exact Fr.refl _ _
  have HfX := hide hfX
  clear hfX b3
  go_upto_region 36 with (fail)
  rw [← hX]
  clear hX b4 b5 x0 x1 x2 x3 x4 x5 x6 x7 x8 y0 y1 y2 y3 y4 y5 y6 y7 y8 zz zy
  have zz := blk_frozen b5X
  have zy := blk_frozen b4X
  obtain ⟨x0, x1, x2, x3, x4, x5, x6, x7, x8⟩ := cells9 b5X
  obtain ⟨y0, y1, y2, y3, y4, y5, y6, y7, y8⟩ := cells9 b4X
  have Z := hide (cells9w (X := X) b4X (.int .i64 0) (.string ⟨#[]⟩) (.int .i64 0) (.int .i64 0) (.int .i64 0) (.int .i64 0) (.int .i64 0) (.string ⟨#[]⟩) (.int .i64 E))
  clear b4X b5X
  go_wp2_with fail
  obtain ⟨z0, z1, z2, z3, z4, z5, z6, z7, z8⟩ := Z.out
  refine bodyPost_ret (by simp [results, Tryz.results8, go_sem, z0, z1, z2, z3, z4, z5, z6, z7, z8]; try rfl) rfl ?_
  refine ⟨_, rfl, HR.out _ (HfX.out.trans ?_)⟩
  repeat (refine Fr.setCell ?_ (.inl (by unfold Mine; dsimp only; omega)) _)
  exact Fr.refl _ _
end Go.Proofs.YthikjdpnlahkfaaGreatDoor

/- shyardlaw08.want, some of its calls. Printed by wip/gen/fwant.py. Conditions: the contracts' own premises. -/
namespace Go.Proofs.YthikjdpnlahkfaaGreatDoor
open Go.RowKit

set_option maxRecDepth 100000 in
set_option maxHeartbeats 1000000 in
theorem want_4 (recv : Value) (c : CallQ) (w : World) (R : AnsQ → World → Prop) (hk : c.what = 4) (h : WantOf recv c (askW w c) (AskR w (askW w c) R)) :
    Calls Tryz.prog 8 #[recv, callV c] w (AskPost R) := by
  have hcall := h.2.2.2.2.1 hk
  obtain ⟨what, n, m, k, path, other⟩ := c
  simp only at hk
  subst hk
  have Hcall := hide hcall
  clear hcall h
  unfold callV
  simp only
  go_enter Tryz.func8, Tryz.ntmps8
  go_wp2_with fail
  refine Hcall.out.mono ?_
  clear Hcall
  rintro e w1 ⟨E, rfl, hR⟩
  skip
  obtain ⟨hfr, hR⟩ := hR
  obtain ⟨b3, b4, b5⟩ := ask_blocks _ _ _ hfr
  have hsz : w.heap.size + 1 + 1 < w1.heap.size := blk_lt b5
  have HR := hide hR
  clear hfr hR
  have zz := blk_frozen b5
  have zy := blk_frozen b4
  obtain ⟨x0, x1, x2, x3, x4, x5, x6, x7, x8⟩ := cells9 b5
  obtain ⟨y0, y1, y2, y3, y4, y5, y6, y7, y8⟩ := cells9 b4

  obtain ⟨X, hX⟩ : ∃ X, X = (w1.setCell ⟨w.heap.size + 1 + 1, 8, none⟩ (.int .i64 E)) := ⟨_, rfl⟩
  have b5X : X.heap[w.heap.size + 1 + 1]? = some (.cells #[.int .i64 0, .string ⟨#[]⟩, .int .i64 0, .int .i64 0, .int .i64 0, .int .i64 0, .int .i64 0, .string ⟨#[]⟩, .int .i64 E] 33 (0, 0)) := by rw [hX]; exact (blk_set b5 8 (.int .i64 E))
  have b4X : X.heap[w.heap.size + 1]? = some (.cells #[.int .i64 0, .string ⟨#[]⟩, .int .i64 0, .int .i64 0, .int .i64 0, .int .i64 0, .int .i64 0, .string ⟨#[]⟩, .int .i64 0] 33 (0, 0)) := by rw [hX]; exact (blk_set_other b4 _ _ (by simp))
  have hfX : Fr (Mine w) w1 X := by
    rw [hX]
    repeat (refine Fr.setCell ?_ (.inl (by unfold Mine; dsimp only; omega)) _)
    exact Fr.refl _ _
  have HfX := hide hfX
  clear hfX b3
  go_upto_region 36 with (fail)
  rw [← hX]
  clear hX b4 b5 x0 x1 x2 x3 x4 x5 x6 x7 x8 y0 y1 y2 y3 y4 y5 y6 y7 y8 zz zy
  have zz := blk_frozen b5X
  have zy := blk_frozen b4X
  obtain ⟨x0, x1, x2, x3, x4, x5, x6, x7, x8⟩ := cells9 b5X
  obtain ⟨y0, y1, y2, y3, y4, y5, y6, y7, y8⟩ := cells9 b4X
  have Z := hide (cells9w (X := X) b4X (.int .i64 0) (.string ⟨#[]⟩) (.int .i64 0) (.int .i64 0) (.int .i64 0) (.int .i64 0) (.int .i64 0) (.string ⟨#[]⟩) (.int .i64 E))
  clear b4X b5X
  go_wp2_with fail
  obtain ⟨z0, z1, z2, z3, z4, z5, z6, z7, z8⟩ := Z.out
  refine bodyPost_ret (by simp [results, Tryz.results8, go_sem, z0, z1, z2, z3, z4, z5, z6, z7, z8]; try rfl) rfl ?_
  refine ⟨_, rfl, HR.out _ (HfX.out.trans ?_)⟩
  repeat (refine Fr.setCell ?_ (.inl (by unfold Mine; dsimp only; omega)) _)
  exact Fr.refl _ _

set_option maxRecDepth 100000 in
set_option maxHeartbeats 1000000 in
theorem want_5 (recv : Value) (c : CallQ) (w : World) (R : AnsQ → World → Prop) (hk : c.what = 5) (h : WantOf recv c (askW w c) (AskR w (askW w c) R)) :
    Calls Tryz.prog 8 #[recv, callV c] w (AskPost R) := by
  have hcall := h.2.2.2.2.2.1 hk
  obtain ⟨what, n, m, k, path, other⟩ := c
  simp only at hk
  subst hk
  have Hcall := hide hcall
  clear hcall h
  unfold callV
  simp only
  go_enter Tryz.func8, Tryz.ntmps8
  go_wp2_with fail
  refine Hcall.out.mono ?_
  clear Hcall
  rintro e w1 ⟨E, rfl, hR⟩
  skip
  obtain ⟨hfr, hR⟩ := hR
  obtain ⟨b3, b4, b5⟩ := ask_blocks _ _ _ hfr
  have hsz : w.heap.size + 1 + 1 < w1.heap.size := blk_lt b5
  have HR := hide hR
  clear hfr hR
  have zz := blk_frozen b5
  have zy := blk_frozen b4
  obtain ⟨x0, x1, x2, x3, x4, x5, x6, x7, x8⟩ := cells9 b5
  obtain ⟨y0, y1, y2, y3, y4, y5, y6, y7, y8⟩ := cells9 b4

  obtain ⟨X, hX⟩ : ∃ X, X = (w1.setCell ⟨w.heap.size + 1 + 1, 8, none⟩ (.int .i64 E)) := ⟨_, rfl⟩
  have b5X : X.heap[w.heap.size + 1 + 1]? = some (.cells #[.int .i64 0, .string ⟨#[]⟩, .int .i64 0, .int .i64 0, .int .i64 0, .int .i64 0, .int .i64 0, .string ⟨#[]⟩, .int .i64 E] 33 (0, 0)) := by rw [hX]; exact (blk_set b5 8 (.int .i64 E))
  have b4X : X.heap[w.heap.size + 1]? = some (.cells #[.int .i64 0, .string ⟨#[]⟩, .int .i64 0, .int .i64 0, .int .i64 0, .int .i64 0, .int .i64 0, .string ⟨#[]⟩, .int .i64 0] 33 (0, 0)) := by rw [hX]; exact (blk_set_other b4 _ _ (by simp))
  have hfX : Fr (Mine w) w1 X := by
    rw [hX]
    repeat (refine Fr.setCell ?_ (.inl (by unfold Mine; dsimp only; omega)) _)
    exact Fr.refl _ _
  have HfX := hide hfX
  clear hfX b3
  go_upto_region 36 with (fail)
  rw [← hX]
  clear hX b4 b5 x0 x1 x2 x3 x4 x5 x6 x7 x8 y0 y1 y2 y3 y4 y5 y6 y7 y8 zz zy
  have zz := blk_frozen b5X
  have zy := blk_frozen b4X
  obtain ⟨x0, x1, x2, x3, x4, x5, x6, x7, x8⟩ := cells9 b5X
  obtain ⟨y0, y1, y2, y3, y4, y5, y6, y7, y8⟩ := cells9 b4X
  have Z := hide (cells9w (X := X) b4X (.int .i64 0) (.string ⟨#[]⟩) (.int .i64 0) (.int .i64 0) (.int .i64 0) (.int .i64 0) (.int .i64 0) (.string ⟨#[]⟩) (.int .i64 E))
  clear b4X b5X
  go_wp2_with fail
  obtain ⟨z0, z1, z2, z3, z4, z5, z6, z7, z8⟩ := Z.out
  refine bodyPost_ret (by simp [results, Tryz.results8, go_sem, z0, z1, z2, z3, z4, z5, z6, z7, z8]; try rfl) rfl ?_
  refine ⟨_, rfl, HR.out _ (HfX.out.trans ?_)⟩
  repeat (refine Fr.setCell ?_ (.inl (by unfold Mine; dsimp only; omega)) _)
  exact Fr.refl _ _

set_option maxRecDepth 100000 in
set_option maxHeartbeats 1000000 in
theorem want_6 (recv : Value) (c : CallQ) (w : World) (R : AnsQ → World → Prop) (hk : c.what = 6) (h : WantOf recv c (askW w c) (AskR w (askW w c) R)) :
    Calls Tryz.prog 8 #[recv, callV c] w (AskPost R) := by
  have hcall := h.2.2.2.2.2.2.1 hk
  obtain ⟨what, n, m, k, path, other⟩ := c
  simp only at hk
  subst hk
  have Hcall := hide hcall
  clear hcall h
  unfold callV
  simp only
  go_enter Tryz.func8, Tryz.ntmps8
  go_wp2_with fail
  refine Hcall.out.mono ?_
  clear Hcall
  rintro e w1 ⟨E, rfl, hR⟩
  skip
  obtain ⟨hfr, hR⟩ := hR
  obtain ⟨b3, b4, b5⟩ := ask_blocks _ _ _ hfr
  have hsz : w.heap.size + 1 + 1 < w1.heap.size := blk_lt b5
  have HR := hide hR
  clear hfr hR
  have zz := blk_frozen b5
  have zy := blk_frozen b4
  obtain ⟨x0, x1, x2, x3, x4, x5, x6, x7, x8⟩ := cells9 b5
  obtain ⟨y0, y1, y2, y3, y4, y5, y6, y7, y8⟩ := cells9 b4

  obtain ⟨X, hX⟩ : ∃ X, X = (w1.setCell ⟨w.heap.size + 1 + 1, 8, none⟩ (.int .i64 E)) := ⟨_, rfl⟩
  have b5X : X.heap[w.heap.size + 1 + 1]? = some (.cells #[.int .i64 0, .string ⟨#[]⟩, .int .i64 0, .int .i64 0, .int .i64 0, .int .i64 0, .int .i64 0, .string ⟨#[]⟩, .int .i64 E] 33 (0, 0)) := by rw [hX]; exact (blk_set b5 8 (.int .i64 E))
  have b4X : X.heap[w.heap.size + 1]? = some (.cells #[.int .i64 0, .string ⟨#[]⟩, .int .i64 0, .int .i64 0, .int .i64 0, .int .i64 0, .int .i64 0, .string ⟨#[]⟩, .int .i64 0] 33 (0, 0)) := by rw [hX]; exact (blk_set_other b4 _ _ (by simp))
  have hfX : Fr (Mine w) w1 X := by
    rw [hX]
    repeat (refine Fr.setCell ?_ (.inl (by unfold Mine; dsimp only; omega)) _)
    exact Fr.refl _ _
  have HfX := hide hfX
  clear hfX b3
  go_upto_region 36 with (fail)
  rw [← hX]
  clear hX b4 b5 x0 x1 x2 x3 x4 x5 x6 x7 x8 y0 y1 y2 y3 y4 y5 y6 y7 y8 zz zy
  have zz := blk_frozen b5X
  have zy := blk_frozen b4X
  obtain ⟨x0, x1, x2, x3, x4, x5, x6, x7, x8⟩ := cells9 b5X
  obtain ⟨y0, y1, y2, y3, y4, y5, y6, y7, y8⟩ := cells9 b4X
  have Z := hide (cells9w (X := X) b4X (.int .i64 0) (.string ⟨#[]⟩) (.int .i64 0) (.int .i64 0) (.int .i64 0) (.int .i64 0) (.int .i64 0) (.string ⟨#[]⟩) (.int .i64 E))
  clear b4X b5X
  go_wp2_with fail
  obtain ⟨z0, z1, z2, z3, z4, z5, z6, z7, z8⟩ := Z.out
  refine bodyPost_ret (by simp [results, Tryz.results8, go_sem, z0, z1, z2, z3, z4, z5, z6, z7, z8]; try rfl) rfl ?_
  refine ⟨_, rfl, HR.out _ (HfX.out.trans ?_)⟩
  repeat (refine Fr.setCell ?_ (.inl (by unfold Mine; dsimp only; omega)) _)
  exact Fr.refl _ _

set_option maxRecDepth 100000 in
set_option maxHeartbeats 1000000 in
theorem want_7 (recv : Value) (c : CallQ) (w : World) (R : AnsQ → World → Prop) (hk : c.what = 7) (h : WantOf recv c (askW w c) (AskR w (askW w c) R)) :
    Calls Tryz.prog 8 #[recv, callV c] w (AskPost R) := by
  have hcall := h.2.2.2.2.2.2.2.1 hk
  obtain ⟨what, n, m, k, path, other⟩ := c
  simp only at hk
  subst hk
  have Hcall := hide hcall
  clear hcall h
  unfold callV
  simp only
  go_enter Tryz.func8, Tryz.ntmps8
  go_wp2_with fail
  refine Hcall.out.mono ?_
  clear Hcall
  rintro e w1 ⟨s, E, rfl, hR⟩
  skip
  obtain ⟨hfr, hR⟩ := hR
  obtain ⟨b3, b4, b5⟩ := ask_blocks _ _ _ hfr
  have hsz : w.heap.size + 1 + 1 < w1.heap.size := blk_lt b5
  have HR := hide hR
  clear hfr hR
  have zz := blk_frozen b5
  have zy := blk_frozen b4
  obtain ⟨x0, x1, x2, x3, x4, x5, x6, x7, x8⟩ := cells9 b5
  obtain ⟨y0, y1, y2, y3, y4, y5, y6, y7, y8⟩ := cells9 b4

  obtain ⟨X, hX⟩ : ∃ X, X = ((w1.setCell ⟨w.heap.size + 1 + 1, 1, none⟩ (.string s)).setCell ⟨w.heap.size + 1 + 1, 8, none⟩ (.int .i64 E)) := ⟨_, rfl⟩
  have b5X : X.heap[w.heap.size + 1 + 1]? = some (.cells #[.int .i64 0, .string s, .int .i64 0, .int .i64 0, .int .i64 0, .int .i64 0, .int .i64 0, .string ⟨#[]⟩, .int .i64 E] 33 (0, 0)) := by rw [hX]; exact (blk_set (blk_set b5 1 (.string s)) 8 (.int .i64 E))
  have b4X : X.heap[w.heap.size + 1]? = some (.cells #[.int .i64 0, .string ⟨#[]⟩, .int .i64 0, .int .i64 0, .int .i64 0, .int .i64 0, .int .i64 0, .string ⟨#[]⟩, .int .i64 0] 33 (0, 0)) := by rw [hX]; exact (blk_set_other (blk_set_other b4 _ _ (by simp)) _ _ (by simp))
  have hfX : Fr (Mine w) w1 X := by
    rw [hX]
    repeat (refine Fr.setCell ?_ (.inl (by unfold Mine; dsimp only; omega)) _)
    exact Fr.refl _ _
  have HfX := hide hfX
  clear hfX b3
  go_upto_region 36 with (fail)
  rw [← hX]
  clear hX b4 b5 x0 x1 x2 x3 x4 x5 x6 x7 x8 y0 y1 y2 y3 y4 y5 y6 y7 y8 zz zy
  have zz := blk_frozen b5X
  have zy := blk_frozen b4X
  obtain ⟨x0, x1, x2, x3, x4, x5, x6, x7, x8⟩ := cells9 b5X
  obtain ⟨y0, y1, y2, y3, y4, y5, y6, y7, y8⟩ := cells9 b4X
  have Z := hide (cells9w (X := X) b4X (.int .i64 0) (.string s) (.int .i64 0) (.int .i64 0) (.int .i64 0) (.int .i64 0) (.int .i64 0) (.string ⟨#[]⟩) (.int .i64 E))
  clear b4X b5X
  go_wp2_with fail
  obtain ⟨z0, z1, z2, z3, z4, z5, z6, z7, z8⟩ := Z.out
  refine bodyPost_ret (by simp [results, Tryz.results8, go_sem, z0, z1, z2, z3, z4, z5, z6, z7, z8]; try rfl) rfl ?_
  refine ⟨_, rfl, HR.out _ (HfX.out.trans ?_)⟩
  repeat (refine Fr.setCell ?_ (.inl (by unfold Mine; dsimp only; omega)) _)
  exact Fr.refl _ _
end Go.Proofs.YthikjdpnlahkfaaGreatDoor

/- shyardlaw08.want, some of its calls. Printed by wip/gen/fwant.py. Conditions: the contracts' own premises. -/
namespace Go.Proofs.YthikjdpnlahkfaaGreatDoor
open Go.RowKit

set_option maxRecDepth 100000 in
set_option maxHeartbeats 1000000 in
theorem want_8 (recv : Value) (c : CallQ) (w : World) (R : AnsQ → World → Prop) (hk : c.what = 8) (h : WantOf recv c (askW w c) (AskR w (askW w c) R)) :
    Calls Tryz.prog 8 #[recv, callV c] w (AskPost R) := by
  have hcall := h.2.2.2.2.2.2.2.2.1 hk
  obtain ⟨what, n, m, k, path, other⟩ := c
  simp only at hk
  subst hk
  have Hcall := hide hcall
  clear hcall h
  unfold callV
  simp only
  go_enter Tryz.func8, Tryz.ntmps8
  go_wp2_with fail
  refine Hcall.out.mono ?_
  clear Hcall
  rintro e w1 ⟨n, E, rfl, hR⟩
  skip
  obtain ⟨hfr, hR⟩ := hR
  obtain ⟨b3, b4, b5⟩ := ask_blocks _ _ _ hfr
  have hsz : w.heap.size + 1 + 1 < w1.heap.size := blk_lt b5
  have HR := hide hR
  clear hfr hR
  have zz := blk_frozen b5
  have zy := blk_frozen b4
  obtain ⟨x0, x1, x2, x3, x4, x5, x6, x7, x8⟩ := cells9 b5
  obtain ⟨y0, y1, y2, y3, y4, y5, y6, y7, y8⟩ := cells9 b4

  obtain ⟨X, hX⟩ : ∃ X, X = ((w1.setCell ⟨w.heap.size + 1 + 1, 0, none⟩ (.int .i64 n)).setCell ⟨w.heap.size + 1 + 1, 8, none⟩ (.int .i64 E)) := ⟨_, rfl⟩
  have b5X : X.heap[w.heap.size + 1 + 1]? = some (.cells #[.int .i64 n, .string ⟨#[]⟩, .int .i64 0, .int .i64 0, .int .i64 0, .int .i64 0, .int .i64 0, .string ⟨#[]⟩, .int .i64 E] 33 (0, 0)) := by rw [hX]; exact (blk_set (blk_set b5 0 (.int .i64 n)) 8 (.int .i64 E))
  have b4X : X.heap[w.heap.size + 1]? = some (.cells #[.int .i64 0, .string ⟨#[]⟩, .int .i64 0, .int .i64 0, .int .i64 0, .int .i64 0, .int .i64 0, .string ⟨#[]⟩, .int .i64 0] 33 (0, 0)) := by rw [hX]; exact (blk_set_other (blk_set_other b4 _ _ (by simp)) _ _ (by simp))
  have hfX : Fr (Mine w) w1 X := by
    rw [hX]
    repeat (refine Fr.setCell ?_ (.inl (by unfold Mine; dsimp only; omega)) _)
    exact Fr.refl _ _
  have HfX := hide hfX
  clear hfX b3
  go_upto_region 36 with (fail)
  rw [← hX]
  clear hX b4 b5 x0 x1 x2 x3 x4 x5 x6 x7 x8 y0 y1 y2 y3 y4 y5 y6 y7 y8 zz zy
  have zz := blk_frozen b5X
  have zy := blk_frozen b4X
  obtain ⟨x0, x1, x2, x3, x4, x5, x6, x7, x8⟩ := cells9 b5X
  obtain ⟨y0, y1, y2, y3, y4, y5, y6, y7, y8⟩ := cells9 b4X
  have Z := hide (cells9w (X := X) b4X (.int .i64 n) (.string ⟨#[]⟩) (.int .i64 0) (.int .i64 0) (.int .i64 0) (.int .i64 0) (.int .i64 0) (.string ⟨#[]⟩) (.int .i64 E))
  clear b4X b5X
  go_wp2_with fail
  obtain ⟨z0, z1, z2, z3, z4, z5, z6, z7, z8⟩ := Z.out
  refine bodyPost_ret (by simp [results, Tryz.results8, go_sem, z0, z1, z2, z3, z4, z5, z6, z7, z8]; try rfl) rfl ?_
  refine ⟨_, rfl, HR.out _ (HfX.out.trans ?_)⟩
  repeat (refine Fr.setCell ?_ (.inl (by unfold Mine; dsimp only; omega)) _)
  exact Fr.refl _ _

set_option maxRecDepth 100000 in
set_option maxHeartbeats 1000000 in
theorem want_9 (recv : Value) (c : CallQ) (w : World) (R : AnsQ → World → Prop) (hk : c.what = 9) (h : WantOf recv c (askW w c) (AskR w (askW w c) R)) :
    Calls Tryz.prog 8 #[recv, callV c] w (AskPost R) := by
  have hcall := h.2.2.2.2.2.2.2.2.2.1 hk
  obtain ⟨what, n, m, k, path, other⟩ := c
  simp only at hk
  subst hk
  have Hcall := hide hcall
  clear hcall h
  unfold callV
  simp only
  go_enter Tryz.func8, Tryz.ntmps8
  go_wp2_with fail
  refine Hcall.out.mono ?_
  clear Hcall
  rintro e w1 ⟨E, rfl, hR⟩
  skip
  obtain ⟨hfr, hR⟩ := hR
  obtain ⟨b3, b4, b5⟩ := ask_blocks _ _ _ hfr
  have hsz : w.heap.size + 1 + 1 < w1.heap.size := blk_lt b5
  have HR := hide hR
  clear hfr hR
  have zz := blk_frozen b5
  have zy := blk_frozen b4
  obtain ⟨x0, x1, x2, x3, x4, x5, x6, x7, x8⟩ := cells9 b5
  obtain ⟨y0, y1, y2, y3, y4, y5, y6, y7, y8⟩ := cells9 b4

  obtain ⟨X, hX⟩ : ∃ X, X = (w1.setCell ⟨w.heap.size + 1 + 1, 8, none⟩ (.int .i64 E)) := ⟨_, rfl⟩
  have b5X : X.heap[w.heap.size + 1 + 1]? = some (.cells #[.int .i64 0, .string ⟨#[]⟩, .int .i64 0, .int .i64 0, .int .i64 0, .int .i64 0, .int .i64 0, .string ⟨#[]⟩, .int .i64 E] 33 (0, 0)) := by rw [hX]; exact (blk_set b5 8 (.int .i64 E))
  have b4X : X.heap[w.heap.size + 1]? = some (.cells #[.int .i64 0, .string ⟨#[]⟩, .int .i64 0, .int .i64 0, .int .i64 0, .int .i64 0, .int .i64 0, .string ⟨#[]⟩, .int .i64 0] 33 (0, 0)) := by rw [hX]; exact (blk_set_other b4 _ _ (by simp))
  have hfX : Fr (Mine w) w1 X := by
    rw [hX]
    repeat (refine Fr.setCell ?_ (.inl (by unfold Mine; dsimp only; omega)) _)
    exact Fr.refl _ _
  have HfX := hide hfX
  clear hfX b3
  go_upto_region 36 with (fail)
  rw [← hX]
  clear hX b4 b5 x0 x1 x2 x3 x4 x5 x6 x7 x8 y0 y1 y2 y3 y4 y5 y6 y7 y8 zz zy
  have zz := blk_frozen b5X
  have zy := blk_frozen b4X
  obtain ⟨x0, x1, x2, x3, x4, x5, x6, x7, x8⟩ := cells9 b5X
  obtain ⟨y0, y1, y2, y3, y4, y5, y6, y7, y8⟩ := cells9 b4X
  have Z := hide (cells9w (X := X) b4X (.int .i64 0) (.string ⟨#[]⟩) (.int .i64 0) (.int .i64 0) (.int .i64 0) (.int .i64 0) (.int .i64 0) (.string ⟨#[]⟩) (.int .i64 E))
  clear b4X b5X
  go_wp2_with fail
  obtain ⟨z0, z1, z2, z3, z4, z5, z6, z7, z8⟩ := Z.out
  refine bodyPost_ret (by simp [results, Tryz.results8, go_sem, z0, z1, z2, z3, z4, z5, z6, z7, z8]; try rfl) rfl ?_
  refine ⟨_, rfl, HR.out _ (HfX.out.trans ?_)⟩
  repeat (refine Fr.setCell ?_ (.inl (by unfold Mine; dsimp only; omega)) _)
  exact Fr.refl _ _

set_option maxRecDepth 100000 in
set_option maxHeartbeats 1000000 in
theorem want_10 (recv : Value) (c : CallQ) (w : World) (R : AnsQ → World → Prop) (hk : c.what = 10) (h : WantOf recv c (askW w c) (AskR w (askW w c) R)) :
    Calls Tryz.prog 8 #[recv, callV c] w (AskPost R) := by
  have hcall := h.2.2.2.2.2.2.2.2.2.2.1 hk
  obtain ⟨what, n, m, k, path, other⟩ := c
  simp only at hk
  subst hk
  have Hcall := hide hcall
  clear hcall h
  unfold callV
  simp only
  go_enter Tryz.func8, Tryz.ntmps8
  go_wp2_with fail
  refine Hcall.out.mono ?_
  clear Hcall
  rintro e w1 ⟨E, rfl, hR⟩
  skip
  obtain ⟨hfr, hR⟩ := hR
  obtain ⟨b3, b4, b5⟩ := ask_blocks _ _ _ hfr
  have hsz : w.heap.size + 1 + 1 < w1.heap.size := blk_lt b5
  have HR := hide hR
  clear hfr hR
  have zz := blk_frozen b5
  have zy := blk_frozen b4
  obtain ⟨x0, x1, x2, x3, x4, x5, x6, x7, x8⟩ := cells9 b5
  obtain ⟨y0, y1, y2, y3, y4, y5, y6, y7, y8⟩ := cells9 b4

  obtain ⟨X, hX⟩ : ∃ X, X = (w1.setCell ⟨w.heap.size + 1 + 1, 8, none⟩ (.int .i64 E)) := ⟨_, rfl⟩
  have b5X : X.heap[w.heap.size + 1 + 1]? = some (.cells #[.int .i64 0, .string ⟨#[]⟩, .int .i64 0, .int .i64 0, .int .i64 0, .int .i64 0, .int .i64 0, .string ⟨#[]⟩, .int .i64 E] 33 (0, 0)) := by rw [hX]; exact (blk_set b5 8 (.int .i64 E))
  have b4X : X.heap[w.heap.size + 1]? = some (.cells #[.int .i64 0, .string ⟨#[]⟩, .int .i64 0, .int .i64 0, .int .i64 0, .int .i64 0, .int .i64 0, .string ⟨#[]⟩, .int .i64 0] 33 (0, 0)) := by rw [hX]; exact (blk_set_other b4 _ _ (by simp))
  have hfX : Fr (Mine w) w1 X := by
    rw [hX]
    repeat (refine Fr.setCell ?_ (.inl (by unfold Mine; dsimp only; omega)) _)
    exact Fr.refl _ _
  have HfX := hide hfX
  clear hfX b3
  go_upto_region 36 with (fail)
  rw [← hX]
  clear hX b4 b5 x0 x1 x2 x3 x4 x5 x6 x7 x8 y0 y1 y2 y3 y4 y5 y6 y7 y8 zz zy
  have zz := blk_frozen b5X
  have zy := blk_frozen b4X
  obtain ⟨x0, x1, x2, x3, x4, x5, x6, x7, x8⟩ := cells9 b5X
  obtain ⟨y0, y1, y2, y3, y4, y5, y6, y7, y8⟩ := cells9 b4X
  have Z := hide (cells9w (X := X) b4X (.int .i64 0) (.string ⟨#[]⟩) (.int .i64 0) (.int .i64 0) (.int .i64 0) (.int .i64 0) (.int .i64 0) (.string ⟨#[]⟩) (.int .i64 E))
  clear b4X b5X
  go_wp2_with fail
  obtain ⟨z0, z1, z2, z3, z4, z5, z6, z7, z8⟩ := Z.out
  refine bodyPost_ret (by simp [results, Tryz.results8, go_sem, z0, z1, z2, z3, z4, z5, z6, z7, z8]; try rfl) rfl ?_
  refine ⟨_, rfl, HR.out _ (HfX.out.trans ?_)⟩
  repeat (refine Fr.setCell ?_ (.inl (by unfold Mine; dsimp only; omega)) _)
  exact Fr.refl _ _

set_option maxRecDepth 100000 in
set_option maxHeartbeats 1000000 in
theorem want_11 (recv : Value) (c : CallQ) (w : World) (R : AnsQ → World → Prop) (hk : c.what = 11) (h : WantOf recv c (askW w c) (AskR w (askW w c) R)) :
    Calls Tryz.prog 8 #[recv, callV c] w (AskPost R) := by
  have hcall := h.2.2.2.2.2.2.2.2.2.2.2.1 hk
  obtain ⟨what, n, m, k, path, other⟩ := c
  simp only at hk
  subst hk
  have Hcall := hide hcall
  clear hcall h
  unfold callV
  simp only
  go_enter Tryz.func8, Tryz.ntmps8
  go_wp2_with fail
  refine Hcall.out.mono ?_
  clear Hcall
  rintro e w1 ⟨⟨t1, t2, t3, t4, t5⟩, E, rfl, hR⟩
  unfold stV; dsimp only
  obtain ⟨hfr, hR⟩ := hR
  obtain ⟨b3, b4, b5⟩ := ask_blocks _ _ _ hfr
  have hsz : w.heap.size + 1 + 1 < w1.heap.size := blk_lt b5
  have HR := hide hR
  clear hfr hR
  have zz := blk_frozen b5
  have zy := blk_frozen b4
  obtain ⟨x0, x1, x2, x3, x4, x5, x6, x7, x8⟩ := cells9 b5
  obtain ⟨y0, y1, y2, y3, y4, y5, y6, y7, y8⟩ := cells9 b4

  obtain ⟨X, hX⟩ : ∃ X, X = ((((((w1.setCell ⟨w.heap.size + 1 + 1, 2, none⟩ (.int .i64 t1)).setCell ⟨w.heap.size + 1 + 1, 3, none⟩ (.int .i64 t2)).setCell ⟨w.heap.size + 1 + 1, 4, none⟩ (.int .i64 t3)).setCell ⟨w.heap.size + 1 + 1, 5, none⟩ (.int .i64 t4)).setCell ⟨w.heap.size + 1 + 1, 6, none⟩ (.int .i64 t5)).setCell ⟨w.heap.size + 1 + 1, 8, none⟩ (.int .i64 E)) := ⟨_, rfl⟩
  have b5X : X.heap[w.heap.size + 1 + 1]? = some (.cells #[.int .i64 0, .string ⟨#[]⟩, .int .i64 t1, .int .i64 t2, .int .i64 t3, .int .i64 t4, .int .i64 t5, .string ⟨#[]⟩, .int .i64 E] 33 (0, 0)) := by rw [hX]; exact (blk_set (blk_set (blk_set (blk_set (blk_set (blk_set b5 2 (.int .i64 t1)) 3 (.int .i64 t2)) 4 (.int .i64 t3)) 5 (.int .i64 t4)) 6 (.int .i64 t5)) 8 (.int .i64 E))
  have b4X : X.heap[w.heap.size + 1]? = some (.cells #[.int .i64 0, .string ⟨#[]⟩, .int .i64 0, .int .i64 0, .int .i64 0, .int .i64 0, .int .i64 0, .string ⟨#[]⟩, .int .i64 0] 33 (0, 0)) := by rw [hX]; exact (blk_set_other (blk_set_other (blk_set_other (blk_set_other (blk_set_other (blk_set_other b4 _ _ (by simp)) _ _ (by simp)) _ _ (by simp)) _ _ (by simp)) _ _ (by simp)) _ _ (by simp))
  have hfX : Fr (Mine w) w1 X := by
    rw [hX]
    repeat (refine Fr.setCell ?_ (.inl (by unfold Mine; dsimp only; omega)) _)
    exact Fr.refl _ _
  have HfX := hide hfX
  clear hfX b3
  go_upto_region 36 with (fail)
  rw [← hX]
  clear hX b4 b5 x0 x1 x2 x3 x4 x5 x6 x7 x8 y0 y1 y2 y3 y4 y5 y6 y7 y8 zz zy
  have zz := blk_frozen b5X
  have zy := blk_frozen b4X
  obtain ⟨x0, x1, x2, x3, x4, x5, x6, x7, x8⟩ := cells9 b5X
  obtain ⟨y0, y1, y2, y3, y4, y5, y6, y7, y8⟩ := cells9 b4X
  have Z := hide (cells9w (X := X) b4X (.int .i64 0) (.string ⟨#[]⟩) (.int .i64 t1) (.int .i64 t2) (.int .i64 t3) (.int .i64 t4) (.int .i64 t5) (.string ⟨#[]⟩) (.int .i64 E))
  clear b4X b5X
  go_wp2_with fail
  obtain ⟨z0, z1, z2, z3, z4, z5, z6, z7, z8⟩ := Z.out
  refine bodyPost_ret (by simp [results, Tryz.results8, go_sem, z0, z1, z2, z3, z4, z5, z6, z7, z8]; try rfl) rfl ?_
  refine ⟨_, rfl, HR.out _ (HfX.out.trans ?_)⟩
  repeat (refine Fr.setCell ?_ (.inl (by unfold Mine; dsimp only; omega)) _)
  exact Fr.refl _ _
end Go.Proofs.YthikjdpnlahkfaaGreatDoor

/- shyardlaw08.want, some of its calls. Printed by wip/gen/fwant.py. Conditions: the contracts' own premises. -/
namespace Go.Proofs.YthikjdpnlahkfaaGreatDoor
open Go.RowKit

set_option maxRecDepth 100000 in
set_option maxHeartbeats 1000000 in
theorem want_12 (recv : Value) (c : CallQ) (w : World) (R : AnsQ → World → Prop) (hk : c.what = 12) (h : WantOf recv c (askW w c) (AskR w (askW w c) R)) :
    Calls Tryz.prog 8 #[recv, callV c] w (AskPost R) := by
  have hcall := h.2.2.2.2.2.2.2.2.2.2.2.2.1 hk
  obtain ⟨what, n, m, k, path, other⟩ := c
  simp only at hk
  subst hk
  have Hcall := hide hcall
  clear hcall h
  unfold callV
  simp only
  go_enter Tryz.func8, Tryz.ntmps8
  go_wp2_with fail
  refine Hcall.out.mono ?_
  clear Hcall
  rintro e w1 ⟨v, l, E, S', rfl, hv, hl, hlx, hR⟩
  skip
  obtain ⟨hfr, hR⟩ := hR
  obtain ⟨b3, b4, b5⟩ := ask_blocks _ _ _ hfr
  have hsz : w.heap.size + 1 + 1 < w1.heap.size := blk_lt b5
  have HR := hide hR
  clear hfr hR
  have zz := blk_frozen b5
  have zy := blk_frozen b4
  obtain ⟨x0, x1, x2, x3, x4, x5, x6, x7, x8⟩ := cells9 b5
  obtain ⟨y0, y1, y2, y3, y4, y5, y6, y7, y8⟩ := cells9 b4

  obtain ⟨va, vc, rfl⟩ := hv.form
  have hj := hide (joined_any w1 _ _ _ hv hl hlx)
  clear hv hl hlx
  generalize (⟨(joinL l).toArray⟩ : ByteArray) = jb at *
  go_wp2_with fail
  refine hj.out.mono ?_
  clear hj
  rintro e w2 ⟨rfl, rfl⟩
  obtain ⟨X, hX⟩ : ∃ X, X = ((w2.setCell ⟨w.heap.size + 1 + 1, 7, none⟩ (.string jb)).setCell ⟨w.heap.size + 1 + 1, 8, none⟩ (.int .i64 E)) := ⟨_, rfl⟩
  have b5X : X.heap[w.heap.size + 1 + 1]? = some (.cells #[.int .i64 0, .string ⟨#[]⟩, .int .i64 0, .int .i64 0, .int .i64 0, .int .i64 0, .int .i64 0, .string jb, .int .i64 E] 33 (0, 0)) := by rw [hX]; exact (blk_set (blk_set b5 7 (.string jb)) 8 (.int .i64 E))
  have b4X : X.heap[w.heap.size + 1]? = some (.cells #[.int .i64 0, .string ⟨#[]⟩, .int .i64 0, .int .i64 0, .int .i64 0, .int .i64 0, .int .i64 0, .string ⟨#[]⟩, .int .i64 0] 33 (0, 0)) := by rw [hX]; exact (blk_set_other (blk_set_other b4 _ _ (by simp)) _ _ (by simp))
  have hfX : Fr (Mine w) w2 X := by
    rw [hX]
    repeat (refine Fr.setCell ?_ (.inl (by unfold Mine; dsimp only; omega)) _)
    exact Fr.refl _ _
  have HfX := hide hfX
  clear hfX b3
  go_upto_region 36 with (fail)
  rw [← hX]
  clear hX b4 b5 x0 x1 x2 x3 x4 x5 x6 x7 x8 y0 y1 y2 y3 y4 y5 y6 y7 y8 zz zy
  have zz := blk_frozen b5X
  have zy := blk_frozen b4X
  obtain ⟨x0, x1, x2, x3, x4, x5, x6, x7, x8⟩ := cells9 b5X
  obtain ⟨y0, y1, y2, y3, y4, y5, y6, y7, y8⟩ := cells9 b4X
  have Z := hide (cells9w (X := X) b4X (.int .i64 0) (.string ⟨#[]⟩) (.int .i64 0) (.int .i64 0) (.int .i64 0) (.int .i64 0) (.int .i64 0) (.string jb) (.int .i64 E))
  clear b4X b5X
  go_wp2_with fail
  obtain ⟨z0, z1, z2, z3, z4, z5, z6, z7, z8⟩ := Z.out
  refine bodyPost_ret (by simp [results, Tryz.results8, go_sem, z0, z1, z2, z3, z4, z5, z6, z7, z8]; try rfl) rfl ?_
  refine ⟨_, rfl, HR.out _ (HfX.out.trans ?_)⟩
  repeat (refine Fr.setCell ?_ (.inl (by unfold Mine; dsimp only; omega)) _)
  exact Fr.refl _ _

set_option maxRecDepth 100000 in
set_option maxHeartbeats 1000000 in
theorem want_13 (recv : Value) (c : CallQ) (w : World) (R : AnsQ → World → Prop) (hk : c.what = 13) (h : WantOf recv c (askW w c) (AskR w (askW w c) R)) :
    Calls Tryz.prog 8 #[recv, callV c] w (AskPost R) := by
  have hcall := h.2.2.2.2.2.2.2.2.2.2.2.2.2.1 hk
  obtain ⟨what, n, m, k, path, other⟩ := c
  simp only at hk
  subst hk
  have Hcall := hide hcall
  clear hcall h
  unfold callV
  simp only
  go_enter Tryz.func8, Tryz.ntmps8
  go_wp2_with fail
  refine Hcall.out.mono ?_
  clear Hcall
  rintro e w1 ⟨E, rfl, hR⟩
  skip
  obtain ⟨hfr, hR⟩ := hR
  obtain ⟨b3, b4, b5⟩ := ask_blocks _ _ _ hfr
  have hsz : w.heap.size + 1 + 1 < w1.heap.size := blk_lt b5
  have HR := hide hR
  clear hfr hR
  have zz := blk_frozen b5
  have zy := blk_frozen b4
  obtain ⟨x0, x1, x2, x3, x4, x5, x6, x7, x8⟩ := cells9 b5
  obtain ⟨y0, y1, y2, y3, y4, y5, y6, y7, y8⟩ := cells9 b4

  obtain ⟨X, hX⟩ : ∃ X, X = (w1.setCell ⟨w.heap.size + 1 + 1, 8, none⟩ (.int .i64 E)) := ⟨_, rfl⟩
  have b5X : X.heap[w.heap.size + 1 + 1]? = some (.cells #[.int .i64 0, .string ⟨#[]⟩, .int .i64 0, .int .i64 0, .int .i64 0, .int .i64 0, .int .i64 0, .string ⟨#[]⟩, .int .i64 E] 33 (0, 0)) := by rw [hX]; exact (blk_set b5 8 (.int .i64 E))
  have b4X : X.heap[w.heap.size + 1]? = some (.cells #[.int .i64 0, .string ⟨#[]⟩, .int .i64 0, .int .i64 0, .int .i64 0, .int .i64 0, .int .i64 0, .string ⟨#[]⟩, .int .i64 0] 33 (0, 0)) := by rw [hX]; exact (blk_set_other b4 _ _ (by simp))
  have hfX : Fr (Mine w) w1 X := by
    rw [hX]
    repeat (refine Fr.setCell ?_ (.inl (by unfold Mine; dsimp only; omega)) _)
    exact Fr.refl _ _
  have HfX := hide hfX
  clear hfX b3
  go_upto_region 36 with (fail)
  rw [← hX]
  clear hX b4 b5 x0 x1 x2 x3 x4 x5 x6 x7 x8 y0 y1 y2 y3 y4 y5 y6 y7 y8 zz zy
  have zz := blk_frozen b5X
  have zy := blk_frozen b4X
  obtain ⟨x0, x1, x2, x3, x4, x5, x6, x7, x8⟩ := cells9 b5X
  obtain ⟨y0, y1, y2, y3, y4, y5, y6, y7, y8⟩ := cells9 b4X
  have Z := hide (cells9w (X := X) b4X (.int .i64 0) (.string ⟨#[]⟩) (.int .i64 0) (.int .i64 0) (.int .i64 0) (.int .i64 0) (.int .i64 0) (.string ⟨#[]⟩) (.int .i64 E))
  clear b4X b5X
  go_wp2_with fail
  obtain ⟨z0, z1, z2, z3, z4, z5, z6, z7, z8⟩ := Z.out
  refine bodyPost_ret (by simp [results, Tryz.results8, go_sem, z0, z1, z2, z3, z4, z5, z6, z7, z8]; try rfl) rfl ?_
  refine ⟨_, rfl, HR.out _ (HfX.out.trans ?_)⟩
  repeat (refine Fr.setCell ?_ (.inl (by unfold Mine; dsimp only; omega)) _)
  exact Fr.refl _ _

set_option maxRecDepth 100000 in
set_option maxHeartbeats 1000000 in
theorem want_14 (recv : Value) (c : CallQ) (w : World) (R : AnsQ → World → Prop) (hk : c.what = 14) (h : WantOf recv c (askW w c) (AskR w (askW w c) R)) :
    Calls Tryz.prog 8 #[recv, callV c] w (AskPost R) := by
  have hcall := h.2.2.2.2.2.2.2.2.2.2.2.2.2.2.1 hk
  obtain ⟨what, n, m, k, path, other⟩ := c
  simp only at hk
  subst hk
  have Hcall := hide hcall
  clear hcall h
  unfold callV
  simp only
  go_enter Tryz.func8, Tryz.ntmps8
  go_wp2_with fail
  refine Hcall.out.mono ?_
  clear Hcall
  rintro e w1 ⟨E, rfl, hR⟩
  skip
  obtain ⟨hfr, hR⟩ := hR
  obtain ⟨b3, b4, b5⟩ := ask_blocks _ _ _ hfr
  have hsz : w.heap.size + 1 + 1 < w1.heap.size := blk_lt b5
  have HR := hide hR
  clear hfr hR
  have zz := blk_frozen b5
  have zy := blk_frozen b4
  obtain ⟨x0, x1, x2, x3, x4, x5, x6, x7, x8⟩ := cells9 b5
  obtain ⟨y0, y1, y2, y3, y4, y5, y6, y7, y8⟩ := cells9 b4

  obtain ⟨X, hX⟩ : ∃ X, X = (w1.setCell ⟨w.heap.size + 1 + 1, 8, none⟩ (.int .i64 E)) := ⟨_, rfl⟩
  have b5X : X.heap[w.heap.size + 1 + 1]? = some (.cells #[.int .i64 0, .string ⟨#[]⟩, .int .i64 0, .int .i64 0, .int .i64 0, .int .i64 0, .int .i64 0, .string ⟨#[]⟩, .int .i64 E] 33 (0, 0)) := by rw [hX]; exact (blk_set b5 8 (.int .i64 E))
  have b4X : X.heap[w.heap.size + 1]? = some (.cells #[.int .i64 0, .string ⟨#[]⟩, .int .i64 0, .int .i64 0, .int .i64 0, .int .i64 0, .int .i64 0, .string ⟨#[]⟩, .int .i64 0] 33 (0, 0)) := by rw [hX]; exact (blk_set_other b4 _ _ (by simp))
  have hfX : Fr (Mine w) w1 X := by
    rw [hX]
    repeat (refine Fr.setCell ?_ (.inl (by unfold Mine; dsimp only; omega)) _)
    exact Fr.refl _ _
  have HfX := hide hfX
  clear hfX b3
  go_upto_region 36 with (fail)
  rw [← hX]
  clear hX b4 b5 x0 x1 x2 x3 x4 x5 x6 x7 x8 y0 y1 y2 y3 y4 y5 y6 y7 y8 zz zy
  have zz := blk_frozen b5X
  have zy := blk_frozen b4X
  obtain ⟨x0, x1, x2, x3, x4, x5, x6, x7, x8⟩ := cells9 b5X
  obtain ⟨y0, y1, y2, y3, y4, y5, y6, y7, y8⟩ := cells9 b4X
  have Z := hide (cells9w (X := X) b4X (.int .i64 0) (.string ⟨#[]⟩) (.int .i64 0) (.int .i64 0) (.int .i64 0) (.int .i64 0) (.int .i64 0) (.string ⟨#[]⟩) (.int .i64 E))
  clear b4X b5X
  go_wp2_with fail
  obtain ⟨z0, z1, z2, z3, z4, z5, z6, z7, z8⟩ := Z.out
  refine bodyPost_ret (by simp [results, Tryz.results8, go_sem, z0, z1, z2, z3, z4, z5, z6, z7, z8]; try rfl) rfl ?_
  refine ⟨_, rfl, HR.out _ (HfX.out.trans ?_)⟩
  repeat (refine Fr.setCell ?_ (.inl (by unfold Mine; dsimp only; omega)) _)
  exact Fr.refl _ _

set_option maxRecDepth 100000 in
set_option maxHeartbeats 1000000 in
theorem want_15 (recv : Value) (c : CallQ) (w : World) (R : AnsQ → World → Prop) (hk : c.what = 15) (h : WantOf recv c (askW w c) (AskR w (askW w c) R)) :
    Calls Tryz.prog 8 #[recv, callV c] w (AskPost R) := by
  have hcall := h.2.2.2.2.2.2.2.2.2.2.2.2.2.2.2.1 hk
  obtain ⟨what, n, m, k, path, other⟩ := c
  simp only at hk
  subst hk
  have Hcall := hide hcall
  clear hcall h
  unfold callV
  simp only
  go_enter Tryz.func8, Tryz.ntmps8
  go_wp2_with fail
  refine Hcall.out.mono ?_
  clear Hcall
  rintro e w1 ⟨s, E, rfl, hR⟩
  skip
  obtain ⟨hfr, hR⟩ := hR
  obtain ⟨b3, b4, b5⟩ := ask_blocks _ _ _ hfr
  have hsz : w.heap.size + 1 + 1 < w1.heap.size := blk_lt b5
  have HR := hide hR
  clear hfr hR
  have zz := blk_frozen b5
  have zy := blk_frozen b4
  obtain ⟨x0, x1, x2, x3, x4, x5, x6, x7, x8⟩ := cells9 b5
  obtain ⟨y0, y1, y2, y3, y4, y5, y6, y7, y8⟩ := cells9 b4

  obtain ⟨X, hX⟩ : ∃ X, X = ((w1.setCell ⟨w.heap.size + 1 + 1, 1, none⟩ (.string s)).setCell ⟨w.heap.size + 1 + 1, 8, none⟩ (.int .i64 E)) := ⟨_, rfl⟩
  have b5X : X.heap[w.heap.size + 1 + 1]? = some (.cells #[.int .i64 0, .string s, .int .i64 0, .int .i64 0, .int .i64 0, .int .i64 0, .int .i64 0, .string ⟨#[]⟩, .int .i64 E] 33 (0, 0)) := by rw [hX]; exact (blk_set (blk_set b5 1 (.string s)) 8 (.int .i64 E))
  have b4X : X.heap[w.heap.size + 1]? = some (.cells #[.int .i64 0, .string ⟨#[]⟩, .int .i64 0, .int .i64 0, .int .i64 0, .int .i64 0, .int .i64 0, .string ⟨#[]⟩, .int .i64 0] 33 (0, 0)) := by rw [hX]; exact (blk_set_other (blk_set_other b4 _ _ (by simp)) _ _ (by simp))
  have hfX : Fr (Mine w) w1 X := by
    rw [hX]
    repeat (refine Fr.setCell ?_ (.inl (by unfold Mine; dsimp only; omega)) _)
    exact Fr.refl _ _
  have HfX := hide hfX
  clear hfX b3
  go_upto_region 36 with (fail)
  rw [← hX]
  clear hX b4 b5 x0 x1 x2 x3 x4 x5 x6 x7 x8 y0 y1 y2 y3 y4 y5 y6 y7 y8 zz zy
  have zz := blk_frozen b5X
  have zy := blk_frozen b4X
  obtain ⟨x0, x1, x2, x3, x4, x5, x6, x7, x8⟩ := cells9 b5X
  obtain ⟨y0, y1, y2, y3, y4, y5, y6, y7, y8⟩ := cells9 b4X
  have Z := hide (cells9w (X := X) b4X (.int .i64 0) (.string s) (.int .i64 0) (.int .i64 0) (.int .i64 0) (.int .i64 0) (.int .i64 0) (.string ⟨#[]⟩) (.int .i64 E))
  clear b4X b5X
  go_wp2_with fail
  obtain ⟨z0, z1, z2, z3, z4, z5, z6, z7, z8⟩ := Z.out
  refine bodyPost_ret (by simp [results, Tryz.results8, go_sem, z0, z1, z2, z3, z4, z5, z6, z7, z8]; try rfl) rfl ?_
  refine ⟨_, rfl, HR.out _ (HfX.out.trans ?_)⟩
  repeat (refine Fr.setCell ?_ (.inl (by unfold Mine; dsimp only; omega)) _)
  exact Fr.refl _ _

set_option maxRecDepth 100000 in
set_option maxHeartbeats 1000000 in
theorem want_none (recv : Value) (c : CallQ) (w : World) (R : AnsQ → World → Prop) (hk : c.what < 0 ∨ 15 < c.what) (h : WantOf recv c (askW w c) (AskR w (askW w c) R)) :
    Calls Tryz.prog 8 #[recv, callV c] w (AskPost R) := by
  have hR := h.2.2.2.2.2.2.2.2.2.2.2.2.2.2.2.2 hk
  obtain ⟨what, n, m, k, path, other⟩ := c
  simp only at hk
  have hne : ∀ j : Int, 0 ≤ j → j ≤ 15 → (what == j) = false := fun j h1 h2 => by rw [beq_eq_false_iff_ne]; omega
  have e0 := hne 0 (by decide) (by decide)
  have e1 := hne 1 (by decide) (by decide)
  have e2 := hne 2 (by decide) (by decide)
  have e3 := hne 3 (by decide) (by decide)
  have e4 := hne 4 (by decide) (by decide)
  have e5 := hne 5 (by decide) (by decide)
  have e6 := hne 6 (by decide) (by decide)
  have e7 := hne 7 (by decide) (by decide)
  have e8 := hne 8 (by decide) (by decide)
  have e9 := hne 9 (by decide) (by decide)
  have e10 := hne 10 (by decide) (by decide)
  have e11 := hne 11 (by decide) (by decide)
  have e12 := hne 12 (by decide) (by decide)
  have e13 := hne 13 (by decide) (by decide)
  have e14 := hne 14 (by decide) (by decide)
  have e15 := hne 15 (by decide) (by decide)
  obtain ⟨w1, hw1⟩ : ∃ w1, w1 = askW w ⟨what, n, m, k, path, other⟩ := ⟨_, rfl⟩
  rw [← hw1] at hR
  obtain ⟨b3, b4, b5⟩ := ask_blocks w w1 ⟨what, n, m, k, path, other⟩ (by rw [← hw1]; exact Fr.refl _ _)
  obtain ⟨hfr, hR⟩ := hR
  have HR := hide hR
  clear hR hfr h hk hne
  have zz := blk_frozen b5
  have zy := blk_frozen b4
  obtain ⟨x0, x1, x2, x3, x4, x5, x6, x7, x8⟩ := cells9 b5
  obtain ⟨y0, y1, y2, y3, y4, y5, y6, y7, y8⟩ := cells9 b4
  clear b3 b4 b5
  unfold callV
  simp only
  unfold askW at hw1
  go_enter Tryz.func8, Tryz.ntmps8
  go_wp2_with fail
  rw [← hw1]
  refine bodyPost_ret (by simp [results, Tryz.results8, go_sem, y0, y1, y2, y3, y4, y5, y6, y7, y8]; try rfl) rfl ?_
  exact ⟨_, rfl, HR.out _ (Fr.refl _ _)⟩

end Go.Proofs.YthikjdpnlahkfaaGreatDoor

/- shyardlaw08.want: any call. Conditions: the contract's own premise. -/
namespace Go.Proofs.YthikjdpnlahkfaaGreatDoor
open Go.RowKit

theorem want_any (recv : Value) (c : CallQ) (w : World) (R : AnsQ → World → Prop) (h : WantOf recv c (askW w c) (AskR w (askW w c) R)) : Calls Tryz.prog 8 #[recv, callV c] w (AskPost R) := by
  by_cases h0 : c.what < 0 ∨ 15 < c.what
  · exact want_none recv c w R h0 h
  have hx : c.what = 0 ∨ c.what = 1 ∨ c.what = 2 ∨ c.what = 3 ∨ c.what = 4 ∨ c.what = 5 ∨ c.what = 6 ∨ c.what = 7 ∨ c.what = 8 ∨ c.what = 9 ∨ c.what = 10 ∨ c.what = 11 ∨ c.what = 12 ∨ c.what = 13 ∨ c.what = 14 ∨ c.what = 15 := by omega
  rcases hx with e | e | e | e | e | e | e | e | e | e | e | e | e | e | e | e
  · exact want_0 recv c w R e h
  · exact want_1 recv c w R e h
  · exact want_2 recv c w R e h
  · exact want_3 recv c w R e h
  · exact want_4 recv c w R e h
  · exact want_5 recv c w R e h
  · exact want_6 recv c w R e h
  · exact want_7 recv c w R e h
  · exact want_8 recv c w R e h
  · exact want_9 recv c w R e h
  · exact want_10 recv c w R e h
  · exact want_11 recv c w R e h
  · exact want_12 recv c w R e h
  · exact want_13 recv c w R e h
  · exact want_14 recv c w R e h
  · exact want_15 recv c w R e h
end Go.Proofs.YthikjdpnlahkfaaGreatDoor
