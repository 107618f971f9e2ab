/- gate.Kernel.drop, where the last descriptor goes. Conditions: the contracts' own premises. -/
import Derived.Test.YtffekmjoenppaaaGreatDoorKerDrop
namespace Go.Proofs.YtffekmjoenppaaaGreatDoor
open Go.RowKit

attribute [local go_sem] Oper.semAt_some

set_option maxRecDepth 100000 in
set_option maxHeartbeats 1000000 in
theorem kdrop_con (w : World) (k : Nat) (K : KQ) (L : KLay) (h : KF w k K L) (N : Nat) (hok : KOk K N) (hN : N ≤ 1000000) (j : Nat) (h1 : 1 ≤ j) (h2 : j ≤ K.dn) (hr : ¬ 0 < (K.desc j).refs - 1) (hkd : (K.desc j).kind = 1) :
    Calls Tryz.prog 59 #[ptrAt k, ptrAt (L.db j)] w (dropPost w k K (dropQ K j) L) := by
  have hb := h.hd j h1 h2
  have hD := hok.desc j h1 h2
  have hdn := hok.dn
  obtain ⟨r, hrr⟩ : ∃ r, r = (K.desc j).refs := ⟨_, rfl⟩
  rw [← hrr] at hr
  have hr1 : r ≤ 1000000 := by have := hD.refs; omega
  have hr2 : -1000000 ≤ r := by have := hD.refs; omega
  obtain ⟨d1, hd1⟩ : ∃ d1 : DescQ, d1 = { K.desc j with refs := r - 1 } := ⟨_, rfl⟩
  obtain ⟨w1, hw1⟩ : ∃ w1, w1 = w.setCell ⟨L.db j, 3, none⟩ (.int .i64 (r - 1)) := ⟨_, rfl⟩
  have f1 : Fr (fun b => b = L.db j) w w1 := by rw [hw1]; exact (Fr.refl (fun b => b = L.db j) w).setCell (p := ⟨L.db j, 3, none⟩) (.inl rfl) _
  have b1 : w1.heap[L.db j]? = some (.cells (descC L j d1) 72 (0, 0)) := by rw [hw1, blk_set hb, hd1]; rfl
  have F1 : KF w1 k (K.setD j d1) L := h.descU h1 h2 f1 b1 (by rw [hd1])
  have F1d : KF w1.drew k (K.setD j d1) L := F1.quiet ((Fr.refl _ _).drew)
  obtain ⟨g, hg, hm⟩ := F1d.dmap (show 1 ≤ (K.setD j d1).dn from Nat.le_trans h1 h2)
  obtain ⟨w2, hdel, hm2, f2⟩ := hm.delete (t := 48) Tryz.underlying3 Tryz.underlying48 (j : Int) (by omega) 0
  have F2 : KF w2 k (K.setD j { d1 with inn := false }) L := F1d.dout hg f2 hm2
  have f12 : Fr (fun b => b = L.db j ∨ b = g) w w2 := (f1.drew.mono fun _ _ e => .inl e).trans (f2.mono fun _ _ e => .inr e)
  have hgo : L.o g = some (tMap 1) := h.odm g hg
  have hdo : L.o (L.db j) = some (tDsc j) := h.od j h1 h2
  have hT : ∀ b, (b = L.db j ∨ b = g) → L.o b ≠ none := fun b e => by rcases e with e | e <;> rw [e] <;> simp [hgo, hdo]
  have hdel' : ∀ ty, (Builtin.delete_ #[48, 3] ty #[.map (some g), .int .i64 j]).run Tryz.prog w1.drew = .ok (.tuple #[]) w2 := fun ty => hdel
  have c3 : w.cell? ⟨L.db j, 3, none⟩ = some (.int .i64 r) := by rw [blk_cell hb, hrr]; rfl
  have z3 : w.frozen? ⟨L.db j, 3, none⟩ = false := blk_frozen hb _
  have c13 : w1.cell? ⟨L.db j, 3, none⟩ = some (.int .i64 (r - 1)) := by rw [blk_cell b1, hd1]; rfl
  have e4 : w1.drew.cell? ⟨k, 4, none⟩ = some (.map (some g)) := by rw [blk_cell F1d.hk, ← hg]; rfl
  have e7 : w1.drew.cell? ⟨L.db j, 7, none⟩ = some (.int .i64 j) := by rw [blk_cell (blk_drew b1), hd1]; rfl
  have hb2 := F2.hd j h1 h2
  have hdd : (K.setD j { d1 with inn := false }).desc j = { d1 with inn := false } := if_pos rfl
  rw [hdd] at hb2
  have x0 : w2.cell? ⟨L.db j, 0, none⟩ = some (.int .i64 1) := by rw [blk_cell hb2, hd1]; exact congrArg (fun n : Nat => some (Value.int .i64 n)) hkd
  have x0d : w2.drew.cell? ⟨L.db j, 0, none⟩ = some (.int .i64 1) := x0
  have x1d : w2.drew.cell? ⟨L.db j, 1, none⟩ = some (.int .i64 (K.desc j).n) := by rw [blk_cell (blk_drew hb2), hd1]; rfl
  have hfin : dropPost w k K (dropQ K j) L (.returned (.tuple #[])) w2 := by
    refine ⟨rfl, ?_⟩
    unfold dropQ
    rw [← hrr, if_neg hr, if_neg (by omega), if_neg (by omega)]
    have := KMut.same (K := K) F2 ⟨Nat.le_refl _, Nat.le_refl _, Nat.le_refl _⟩ f12 hT
    rw [hd1] at this
    exact this
  have Hfin := hide hfin
  have Hw1 := hide hw1
  clear h hok hb hD F1 F1d hm hm2 F2 hdel hfin f12 f1 f2 b1 hb2 hdd hd1 hrr hkd hT hgo hdo hg hw1
  unfold ptrAt
  go_enter Tryz.func59, Tryz.ntmps59
  go_upto_region 1 with (fail)
  rw [← Hw1.out]
  go_wp2_with fail
  refine region_tail 9 (by kernel_rfl) (by kernel_rfl) ?_
  simp only [List.take_succ_cons, List.take_zero, List.drop_succ_cons, List.drop_zero]
  repeat go_big_quiet_step (fail)
  refine wpQuiet_nil ?_
  go_wp2_with fail
  go_returns
  exact Hfin.out
set_option maxRecDepth 100000 in
set_option maxHeartbeats 1000000 in
theorem kdrop_txt (w : World) (k : Nat) (K : KQ) (L : KLay) (h : KF w k K L) (N : Nat) (hok : KOk K N) (hN : N ≤ 1000000) (j : Nat) (h1 : 1 ≤ j) (h2 : j ≤ K.dn) (hr : ¬ 0 < (K.desc j).refs - 1) (hkd : (K.desc j).kind = 5) :
    Calls Tryz.prog 59 #[ptrAt k, ptrAt (L.db j)] w (dropPost w k K (dropQ K j) L) := by
  have hb := h.hd j h1 h2
  have hD := hok.desc j h1 h2
  have hdn := hok.dn
  obtain ⟨r, hrr⟩ : ∃ r, r = (K.desc j).refs := ⟨_, rfl⟩
  rw [← hrr] at hr
  have hr1 : r ≤ 1000000 := by have := hD.refs; omega
  have hr2 : -1000000 ≤ r := by have := hD.refs; omega
  obtain ⟨d1, hd1⟩ : ∃ d1 : DescQ, d1 = { K.desc j with refs := r - 1 } := ⟨_, rfl⟩
  obtain ⟨w1, hw1⟩ : ∃ w1, w1 = w.setCell ⟨L.db j, 3, none⟩ (.int .i64 (r - 1)) := ⟨_, rfl⟩
  have f1 : Fr (fun b => b = L.db j) w w1 := by rw [hw1]; exact (Fr.refl (fun b => b = L.db j) w).setCell (p := ⟨L.db j, 3, none⟩) (.inl rfl) _
  have b1 : w1.heap[L.db j]? = some (.cells (descC L j d1) 72 (0, 0)) := by rw [hw1, blk_set hb, hd1]; rfl
  have F1 : KF w1 k (K.setD j d1) L := h.descU h1 h2 f1 b1 (by rw [hd1])
  have F1d : KF w1.drew k (K.setD j d1) L := F1.quiet ((Fr.refl _ _).drew)
  obtain ⟨g, hg, hm⟩ := F1d.dmap (show 1 ≤ (K.setD j d1).dn from Nat.le_trans h1 h2)
  obtain ⟨w2, hdel, hm2, f2⟩ := hm.delete (t := 48) Tryz.underlying3 Tryz.underlying48 (j : Int) (by omega) 0
  have F2 : KF w2 k (K.setD j { d1 with inn := false }) L := F1d.dout hg f2 hm2
  have f12 : Fr (fun b => b = L.db j ∨ b = g) w w2 := (f1.drew.mono fun _ _ e => .inl e).trans (f2.mono fun _ _ e => .inr e)
  have hgo : L.o g = some (tMap 1) := h.odm g hg
  have hdo : L.o (L.db j) = some (tDsc j) := h.od j h1 h2
  have hT : ∀ b, (b = L.db j ∨ b = g) → L.o b ≠ none := fun b e => by rcases e with e | e <;> rw [e] <;> simp [hgo, hdo]
  have hdel' : ∀ ty, (Builtin.delete_ #[48, 3] ty #[.map (some g), .int .i64 j]).run Tryz.prog w1.drew = .ok (.tuple #[]) w2 := fun ty => hdel
  have c3 : w.cell? ⟨L.db j, 3, none⟩ = some (.int .i64 r) := by rw [blk_cell hb, hrr]; rfl
  have z3 : w.frozen? ⟨L.db j, 3, none⟩ = false := blk_frozen hb _
  have c13 : w1.cell? ⟨L.db j, 3, none⟩ = some (.int .i64 (r - 1)) := by rw [blk_cell b1, hd1]; rfl
  have e4 : w1.drew.cell? ⟨k, 4, none⟩ = some (.map (some g)) := by rw [blk_cell F1d.hk, ← hg]; rfl
  have e7 : w1.drew.cell? ⟨L.db j, 7, none⟩ = some (.int .i64 j) := by rw [blk_cell (blk_drew b1), hd1]; rfl
  have hb2 := F2.hd j h1 h2
  have hdd : (K.setD j { d1 with inn := false }).desc j = { d1 with inn := false } := if_pos rfl
  rw [hdd] at hb2
  have x0 : w2.cell? ⟨L.db j, 0, none⟩ = some (.int .i64 5) := by rw [blk_cell hb2, hd1]; exact congrArg (fun n : Nat => some (Value.int .i64 n)) hkd
  have x0d : w2.drew.cell? ⟨L.db j, 0, none⟩ = some (.int .i64 5) := x0
  have x1d : w2.drew.cell? ⟨L.db j, 1, none⟩ = some (.int .i64 (K.desc j).n) := by rw [blk_cell (blk_drew hb2), hd1]; rfl
  have hfin : dropPost w k K (dropQ K j) L (.returned (.tuple #[])) w2 := by
    refine ⟨rfl, ?_⟩
    unfold dropQ
    rw [← hrr, if_neg hr, if_neg (by omega), if_neg (by omega)]
    have := KMut.same (K := K) F2 ⟨Nat.le_refl _, Nat.le_refl _, Nat.le_refl _⟩ f12 hT
    rw [hd1] at this
    exact this
  have Hfin := hide hfin
  have Hw1 := hide hw1
  clear h hok hb hD F1 F1d hm hm2 F2 hdel hfin f12 f1 f2 b1 hb2 hdd hd1 hrr hkd hT hgo hdo hg hw1
  unfold ptrAt
  go_enter Tryz.func59, Tryz.ntmps59
  go_upto_region 1 with (fail)
  rw [← Hw1.out]
  go_wp2_with fail
  refine region_tail 9 (by kernel_rfl) (by kernel_rfl) ?_
  simp only [List.take_succ_cons, List.take_zero, List.drop_succ_cons, List.drop_zero]
  repeat go_big_quiet_step (fail)
  refine wpQuiet_nil ?_
  go_wp2_with fail
  go_returns
  exact Hfin.out
set_option maxRecDepth 100000 in
set_option maxHeartbeats 1000000 in
theorem kdrop_file (w : World) (k : Nat) (K : KQ) (L : KLay) (h : KF w k K L) (N : Nat) (hok : KOk K N) (hN : N ≤ 1000000) (j : Nat) (h1 : 1 ≤ j) (h2 : j ≤ K.dn) (hr : ¬ 0 < (K.desc j).refs - 1) (hkd : (K.desc j).kind = 2) :
    Calls Tryz.prog 59 #[ptrAt k, ptrAt (L.db j)] w (dropPost w k K (dropQ K j) L) := by
  have hb := h.hd j h1 h2
  have hD := hok.desc j h1 h2
  have hdn := hok.dn
  obtain ⟨r, hrr⟩ : ∃ r, r = (K.desc j).refs := ⟨_, rfl⟩
  rw [← hrr] at hr
  have hr1 : r ≤ 1000000 := by have := hD.refs; omega
  have hr2 : -1000000 ≤ r := by have := hD.refs; omega
  obtain ⟨d1, hd1⟩ : ∃ d1 : DescQ, d1 = { K.desc j with refs := r - 1 } := ⟨_, rfl⟩
  obtain ⟨w1, hw1⟩ : ∃ w1, w1 = w.setCell ⟨L.db j, 3, none⟩ (.int .i64 (r - 1)) := ⟨_, rfl⟩
  have f1 : Fr (fun b => b = L.db j) w w1 := by rw [hw1]; exact (Fr.refl (fun b => b = L.db j) w).setCell (p := ⟨L.db j, 3, none⟩) (.inl rfl) _
  have b1 : w1.heap[L.db j]? = some (.cells (descC L j d1) 72 (0, 0)) := by rw [hw1, blk_set hb, hd1]; rfl
  have F1 : KF w1 k (K.setD j d1) L := h.descU h1 h2 f1 b1 (by rw [hd1])
  have F1d : KF w1.drew k (K.setD j d1) L := F1.quiet ((Fr.refl _ _).drew)
  obtain ⟨g, hg, hm⟩ := F1d.dmap (show 1 ≤ (K.setD j d1).dn from Nat.le_trans h1 h2)
  obtain ⟨w2, hdel, hm2, f2⟩ := hm.delete (t := 48) Tryz.underlying3 Tryz.underlying48 (j : Int) (by omega) 0
  have F2 : KF w2 k (K.setD j { d1 with inn := false }) L := F1d.dout hg f2 hm2
  have f12 : Fr (fun b => b = L.db j ∨ b = g) w w2 := (f1.drew.mono fun _ _ e => .inl e).trans (f2.mono fun _ _ e => .inr e)
  have hgo : L.o g = some (tMap 1) := h.odm g hg
  have hdo : L.o (L.db j) = some (tDsc j) := h.od j h1 h2
  have hT : ∀ b, (b = L.db j ∨ b = g) → L.o b ≠ none := fun b e => by rcases e with e | e <;> rw [e] <;> simp [hgo, hdo]
  have hdel' : ∀ ty, (Builtin.delete_ #[48, 3] ty #[.map (some g), .int .i64 j]).run Tryz.prog w1.drew = .ok (.tuple #[]) w2 := fun ty => hdel
  have c3 : w.cell? ⟨L.db j, 3, none⟩ = some (.int .i64 r) := by rw [blk_cell hb, hrr]; rfl
  have z3 : w.frozen? ⟨L.db j, 3, none⟩ = false := blk_frozen hb _
  have c13 : w1.cell? ⟨L.db j, 3, none⟩ = some (.int .i64 (r - 1)) := by rw [blk_cell b1, hd1]; rfl
  have e4 : w1.drew.cell? ⟨k, 4, none⟩ = some (.map (some g)) := by rw [blk_cell F1d.hk, ← hg]; rfl
  have e7 : w1.drew.cell? ⟨L.db j, 7, none⟩ = some (.int .i64 j) := by rw [blk_cell (blk_drew b1), hd1]; rfl
  have hb2 := F2.hd j h1 h2
  have hdd : (K.setD j { d1 with inn := false }).desc j = { d1 with inn := false } := if_pos rfl
  rw [hdd] at hb2
  have x0 : w2.cell? ⟨L.db j, 0, none⟩ = some (.int .i64 2) := by rw [blk_cell hb2, hd1]; exact congrArg (fun n : Nat => some (Value.int .i64 n)) hkd
  have x0d : w2.drew.cell? ⟨L.db j, 0, none⟩ = some (.int .i64 2) := x0
  have x1d : w2.drew.cell? ⟨L.db j, 1, none⟩ = some (.int .i64 (K.desc j).n) := by rw [blk_cell (blk_drew hb2), hd1]; rfl
  have F2d : KF w2.drew k (K.setD j { d1 with inn := false }) L := F2.quiet ((Fr.refl _ _).drew)
  obtain ⟨p, hA⟩ := F2d.files
  have hA : FilesAt w2.drew L.f K.σ (L.S tFil w2.drew) p := hA
  have hdrop := Drop_any w2.drew L.f K.σ (L.S tFil w2.drew) p hA (hok.good.b hN) ((K.desc j).n : Int) (by have := hD.num; omega) (fun i n _ hi _ hl _ => by
    have e : ∀ x : Option Nd, (K.σ.put i x).put i none = K.σ.put i none := fun x => by unfold FSt.put; rw [List.set_set]
    rw [e]
    exact (hok.good.inv.free hok.good.live hi hl).2)
  have xk : w2.drew.cell? ⟨k, 0, none⟩ = some (.pointer (some ⟨L.f, 0, none⟩)) := by rw [blk_cell F2d.hk]; rfl
  have hfin : ∀ w3, MutPost L.f (dropR K.σ (K.desc j).n).2 (L.S tFil w2.drew) p (.int .i64 (dropR K.σ (K.desc j).n).1) w2.drew (.returned (.int .i64 (dropR K.σ (K.desc j).n).1)) w3 → dropPost w k K (dropQ K j) L (.returned (.tuple #[])) w3 := fun w3 hm => by
    obtain ⟨_, hA3, f3⟩ := hm
    have F3 := F2d.filesU f3 hA3
    refine ⟨rfl, ?_⟩
    unfold dropQ
    rw [← hrr, if_neg hr, if_pos hkd]
    have hs : w2.drew.heap.size = w2.heap.size := rfl
    have E3 := grow_ext (t := tFil) (K' := { K.setD j { d1 with inn := false } with σ := (dropR K.σ (K.desc j).n).2 }) F2d f3.size (Nat.le_refl _) (Nat.le_refl _) (Nat.le_refl _)
    have E0 : LExt K (K.setD j { d1 with inn := false }) L L := .same ⟨Nat.le_refl _, Nat.le_refl _, Nat.le_refl _⟩
    have E4 := E0.trans E3
    rw [hd1] at F3 E4
    refine ⟨_, F3, E4, (f12.drew.mono fun b _ e => .inl (hT b e)).trans' f3 fun b hb e => ?_, fun b e => ?_⟩
    · rcases e with e | e
      · exact .inl (by rw [e]; simp)
      · have := f12.size; omega
    · rcases grow_new e with e | e
      · exact .inl e
      · exact .inr (.inr (Nat.le_trans f12.size e))
  have Hfin := hide hfin
  have Hdrop := hide hdrop
  have Hw1 := hide hw1
  generalize (dropR K.σ (K.desc j).n).1 = de at *
  clear h hok hb hD F1 F1d hm hm2 F2 F2d hdel hfin hdrop f12 f1 f2 b1 hb2 hdd hd1 hrr hkd hT hgo hdo hg hw1 hA
  unfold ptrAt
  go_enter Tryz.func59, Tryz.ntmps59
  go_upto_region 1 with (fail)
  rw [← Hw1.out]
  go_wp2_with fail
  refine region_tail 9 (by kernel_rfl) (by kernel_rfl) ?_
  simp only [List.take_succ_cons, List.take_zero, List.drop_succ_cons, List.drop_zero]
  repeat go_big_quiet_step (fail)
  refine wpQuiet_nil ?_
  go_wp2_with fail
  refine region_tail 9 (by kernel_rfl) (by kernel_rfl) ?_
  simp only [List.take_succ_cons, List.take_zero, List.drop_succ_cons, List.drop_zero]
  repeat go_big_quiet_step (fail)
  refine wpQuiet_nil ?_
  go_wp2_with fail
  refine Hdrop.out.mono ?_
  rintro e w3 hm
  obtain ⟨rfl, hm⟩ : e = _ ∧ _ := ⟨hm.1, hm⟩
  have hlast := hide (Hfin.out w3 hm)
  clear hm Hfin Hdrop
  go_wp2_with fail
  go_returns
  exact hlast.out
set_option maxRecDepth 100000 in
set_option maxHeartbeats 1000000 in
theorem kdrop_pr (w : World) (k : Nat) (K : KQ) (L : KLay) (h : KF w k K L) (N : Nat) (hok : KOk K N) (hN : N ≤ 1000000) (j : Nat) (h1 : 1 ≤ j) (h2 : j ≤ K.dn) (hr : ¬ 0 < (K.desc j).refs - 1) (hkd : (K.desc j).kind = 3) :
    Calls Tryz.prog 59 #[ptrAt k, ptrAt (L.db j)] w (dropPost w k K (dropQ K j) L) := by
  have hb := h.hd j h1 h2
  have hD := hok.desc j h1 h2
  have hdn := hok.dn
  obtain ⟨r, hrr⟩ : ∃ r, r = (K.desc j).refs := ⟨_, rfl⟩
  rw [← hrr] at hr
  have hr1 : r ≤ 1000000 := by have := hD.refs; omega
  have hr2 : -1000000 ≤ r := by have := hD.refs; omega
  obtain ⟨d1, hd1⟩ : ∃ d1 : DescQ, d1 = { K.desc j with refs := r - 1 } := ⟨_, rfl⟩
  obtain ⟨w1, hw1⟩ : ∃ w1, w1 = w.setCell ⟨L.db j, 3, none⟩ (.int .i64 (r - 1)) := ⟨_, rfl⟩
  have f1 : Fr (fun b => b = L.db j) w w1 := by rw [hw1]; exact (Fr.refl (fun b => b = L.db j) w).setCell (p := ⟨L.db j, 3, none⟩) (.inl rfl) _
  have b1 : w1.heap[L.db j]? = some (.cells (descC L j d1) 72 (0, 0)) := by rw [hw1, blk_set hb, hd1]; rfl
  have F1 : KF w1 k (K.setD j d1) L := h.descU h1 h2 f1 b1 (by rw [hd1])
  have F1d : KF w1.drew k (K.setD j d1) L := F1.quiet ((Fr.refl _ _).drew)
  obtain ⟨g, hg, hm⟩ := F1d.dmap (show 1 ≤ (K.setD j d1).dn from Nat.le_trans h1 h2)
  obtain ⟨w2, hdel, hm2, f2⟩ := hm.delete (t := 48) Tryz.underlying3 Tryz.underlying48 (j : Int) (by omega) 0
  have F2 : KF w2 k (K.setD j { d1 with inn := false }) L := F1d.dout hg f2 hm2
  have f12 : Fr (fun b => b = L.db j ∨ b = g) w w2 := (f1.drew.mono fun _ _ e => .inl e).trans (f2.mono fun _ _ e => .inr e)
  have hgo : L.o g = some (tMap 1) := h.odm g hg
  have hdo : L.o (L.db j) = some (tDsc j) := h.od j h1 h2
  have hT : ∀ b, (b = L.db j ∨ b = g) → L.o b ≠ none := fun b e => by rcases e with e | e <;> rw [e] <;> simp [hgo, hdo]
  have hdel' : ∀ ty, (Builtin.delete_ #[48, 3] ty #[.map (some g), .int .i64 j]).run Tryz.prog w1.drew = .ok (.tuple #[]) w2 := fun ty => hdel
  have c3 : w.cell? ⟨L.db j, 3, none⟩ = some (.int .i64 r) := by rw [blk_cell hb, hrr]; rfl
  have z3 : w.frozen? ⟨L.db j, 3, none⟩ = false := blk_frozen hb _
  have c13 : w1.cell? ⟨L.db j, 3, none⟩ = some (.int .i64 (r - 1)) := by rw [blk_cell b1, hd1]; rfl
  have e4 : w1.drew.cell? ⟨k, 4, none⟩ = some (.map (some g)) := by rw [blk_cell F1d.hk, ← hg]; rfl
  have e7 : w1.drew.cell? ⟨L.db j, 7, none⟩ = some (.int .i64 j) := by rw [blk_cell (blk_drew b1), hd1]; rfl
  have hb2 := F2.hd j h1 h2
  have hdd : (K.setD j { d1 with inn := false }).desc j = { d1 with inn := false } := if_pos rfl
  rw [hdd] at hb2
  have x0 : w2.cell? ⟨L.db j, 0, none⟩ = some (.int .i64 3) := by rw [blk_cell hb2, hd1]; exact congrArg (fun n : Nat => some (Value.int .i64 n)) hkd
  have x0d : w2.drew.cell? ⟨L.db j, 0, none⟩ = some (.int .i64 3) := x0
  have x1d : w2.drew.cell? ⟨L.db j, 1, none⟩ = some (.int .i64 (K.desc j).n) := by rw [blk_cell (blk_drew hb2), hd1]; rfl
  obtain ⟨n, hn⟩ : ∃ n, n = (K.desc j).n := ⟨_, rfl⟩
  rw [← hn] at x1d
  have hnp : 1 ≤ n ∧ n ≤ K.pn := by rw [hn]; exact hD.pip (by omega)
  have hpk := hok.pipe n hnp.1 hnp.2
  have F2d : KF w2.drew k (K.setD j { d1 with inn := false }) L := F2.quiet ((Fr.refl _ _).drew)
  obtain ⟨p1, hp1⟩ : ∃ p1 : PipeQ, p1 = { K.pipe n with r := (K.pipe n).r - 1 } := ⟨_, rfl⟩
  obtain ⟨pr, hpr⟩ : ∃ pr, pr = (K.pipe n).r := ⟨_, rfl⟩
  obtain ⟨px, hpx⟩ : ∃ px, px = (K.pipe n).x := ⟨_, rfl⟩
  have hpr1 : pr ≤ 1000000 := by omega
  have hpx1 : px ≤ 1000000 := by omega
  have hP : PipeAt w2.drew (L.pb n) (L.lb n) 64 (K.pipe n).data pr px := by rw [hpr, hpx]; exact F2d.hp n hnp.1 hnp.2
  have hclose := pclose_r (L.pb n) (L.lb n) 64 (K.pipe n).data pr px w2.drew hP hpr1
  have hq3 : ∀ w3, EndsPost w2.drew (L.pb n) (L.lb n) 64 (K.pipe n).data (pr - 1) px (.int .i64 (if pr = 0 then 9 else 0)) (.returned (.int .i64 (if pr = 0 then 9 else 0))) w3 → KF w3 k ((K.setD j { d1 with inn := false }).setP n p1) L ∧ Fr (fun b => L.o b ≠ none) w w3 ∧ PipeAt w3 (L.pb n) (L.lb n) 64 (K.pipe n).data (pr - 1) px ∧ w3.cell? ⟨L.db j, 5, none⟩ = some (.pointer (some ⟨L.pb n, 0, none⟩)) := fun w3 hm => by
    obtain ⟨_, hP3, f3⟩ := hm
    obtain ⟨fm, cs, hPF⟩ := hP3
    have ho : L.o (L.pb n) = some (tPip n) := (h.op n hnp.1 hnp.2).1
    have hnd : L.db j ≠ L.pb n := fun e => by rw [e, ho] at hdo; cases hdo
    refine ⟨F2d.pipeU (p := p1) hnp.1 hnp.2 (f3.mono fun _ _ e => .inl e) (by rw [hp1, ← hpr, ← hpx]; exact hPF) (by rw [hp1]; rfl), (f12.drew.mono fun b _ e => hT b e).trans (f3.mono fun b _ e => by rw [e, ho]; simp), ⟨fm, cs, hPF⟩, ?_⟩
    rw [blk_cell (f3.get (blk_drew hb2) hnd), hd1]
    unfold descC pipeV ptrAt
    rw [if_pos (show (K.desc j).kind = 3 ∨ (K.desc j).kind = 4 by omega), ← hn]
    rfl
  have hdq : dropQ K j = (K.setD j { d1 with inn := false }).setP n { p1 with inn := (K.pipe n).inn && !decide (((pr - 1) : Nat) + px = 0) } := by
    unfold dropQ
    rw [← hrr, if_neg hr, if_neg (by omega), if_pos (show (K.desc j).kind = 3 ∨ (K.desc j).kind = 4 by omega), ← hn, show decide ((K.desc j).kind = 4) = false by rw [hkd]; rfl, hd1, hp1, hpr, hpx]
    rfl
  have x5d : w2.drew.cell? ⟨L.db j, 5, none⟩ = some (.pointer (some ⟨L.pb n, 0, none⟩)) := by
    rw [blk_cell (blk_drew hb2), hd1]
    unfold descC pipeV ptrAt
    rw [if_pos (show (K.desc j).kind = 3 ∨ (K.desc j).kind = 4 by omega), ← hn]
    rfl
  have hrx : ∀ w4 K4, KF w4 k K4 L → Fr (fun b => L.o b ≠ none) w w4 → K4 = dropQ K j → K4.pn = K.pn ∧ K4.dn = K.dn ∧ K4.qn = K.qn → dropPost w k K (dropQ K j) L (.returned (.tuple #[])) w4 := fun w4 K4 F4 f4 e en => by
    rw [← e]
    exact ⟨rfl, .same F4 ⟨Nat.le_of_eq en.1.symm, Nat.le_of_eq en.2.1.symm, Nat.le_of_eq en.2.2.symm⟩ f4 fun b e => e⟩
  have hpc : ∀ w3 K3, K3 = (K.setD j { d1 with inn := false }).setP n p1 → KF w3 k K3 L → Fr (fun b => L.o b ≠ none) w w3 → ((pr - 1) : Nat) + px = 0 → ∃ g w5, w3.cell? ⟨k, 2, none⟩ = some (.map (some g)) ∧ w3.cell? ⟨L.db j, 1, none⟩ = some (.int .i64 n) ∧ (∀ ty, (Builtin.delete_ #[45, 3] ty #[.map (some g), .int .i64 n]).run Tryz.prog w3 = .ok (.tuple #[]) w5) ∧ dropPost w k K (dropQ K j) L (.returned (.tuple #[])) w5 := fun w3 K3 eK F3 f3 e0 => by
    subst eK
    obtain ⟨g, hg, hm⟩ := F3.pmap (Nat.le_trans hnp.1 hnp.2)
    obtain ⟨w5, hdel, hm5, f5⟩ := hm.delete (t := 45) Tryz.underlying3 Tryz.underlying45 (n : Int) (by have := hok.pn; omega) 0
    have F5 := F3.pout hg f5 hm5
    refine ⟨g, w5, by rw [blk_cell F3.hk, ← hg]; rfl, ?_, fun ty => hdel, hrx w5 _ F5 (f3.trans (f5.mono fun b _ e => by rw [e, h.opm g hg]; simp)) ?_ ⟨rfl, rfl, rfl⟩⟩
    · have := F3.hd j h1 h2
      have e : ((K.setD j { d1 with inn := false }).setP n p1).desc j = { d1 with inn := false } := if_pos rfl
      rw [e] at this
      rw [blk_cell this, hd1, hn]; rfl
    · rw [hdq, e0]
      simp
  have hpz : ∀ w3, KF w3 k ((K.setD j { d1 with inn := false }).setP n p1) L → Fr (fun b => L.o b ≠ none) w w3 → ((pr - 1) : Nat) + px ≠ 0 → dropPost w k K (dropQ K j) L (.returned (.tuple #[])) w3 := fun w3 F3 f3 e0 => by
    refine hrx w3 _ F3 f3 ?_ ⟨rfl, rfl, rfl⟩
    rw [hdq]
    have : ({ p1 with inn := (K.pipe n).inn && !decide (((pr - 1) : Nat) + px = 0) } : PipeQ) = p1 := by
      rw [hp1, decide_eq_false e0]; simp
    rw [this]
  have Hq3 := hide hq3
  have Hpc := hide hpc
  have Hpz := hide hpz
  have Hclose := hide hclose
  have Hw1 := hide hw1
  obtain ⟨K3, hK3⟩ : ∃ K3, K3 = (K.setD j { d1 with inn := false }).setP n p1 := ⟨_, rfl⟩
  rw [← hK3] at Hq3 Hpz
  have HK3 := hide hK3
  generalize (if pr = 0 then (9 : Int) else 0) = ce at *
  clear h hok hb hD F1 F1d hm hm2 F2 F2d hdel hq3 hpc hpz hrx hclose f12 f1 f2 b1 hb2 hdd hd1 hrr hkd hT hgo hdo hg hw1 hP hp1 hdq hpk hnp hn hK3 hpr hpx
  unfold ptrAt
  go_enter Tryz.func59, Tryz.ntmps59
  go_upto_region 1 with (fail)
  rw [← Hw1.out]
  go_wp2_with fail
  refine region_tail 9 (by kernel_rfl) (by kernel_rfl) ?_
  simp only [List.take_succ_cons, List.take_zero, List.drop_succ_cons, List.drop_zero]
  repeat go_big_quiet_step (fail)
  refine wpQuiet_nil ?_
  go_wp2_with fail
  refine region_tail 10 (by kernel_rfl) (by kernel_rfl) ?_
  simp only [List.take_succ_cons, List.take_zero, List.drop_succ_cons, List.drop_zero]
  repeat go_big_quiet_step (fail)
  refine wpQuiet_nil ?_
  go_wp2_with fail
  refine Hclose.out.mono ?_
  rintro e w3 hm
  obtain ⟨rfl, hm⟩ : e = _ ∧ _ := ⟨hm.1, hm⟩
  obtain ⟨F3, f3, hP3, y5⟩ := Hq3.out w3 hm
  have hends := hide (pends_any _ _ _ _ _ _ w3 hP3)
  have HF3 := hide (F3.quiet ((Fr.refl (fun _ => False) _).drew))
  have Hf3 := hide f3.drew
  have HF4 := hide (F3.quiet ((Fr.refl (fun _ => False) _).drew.drew))
  have Hf4 := hide f3.drew.drew
  have y0 : w3.cell? ⟨L.db j, 0, none⟩ = w3.cell? ⟨L.db j, 0, none⟩ := rfl
  clear hm F3 f3 hP3 y0 Hq3 Hclose
  go_wp2_with fail
  refine hends.out.mono ?_
  rintro e w4 ⟨rfl, rfl⟩
  clear hends
  by_cases e0 : ((pr - 1) : Nat) + px = 0
  · obtain ⟨g5, w5, y2, y1, hdel5, hpost⟩ := Hpc.out _ _ HK3.out HF4.out Hf4.out e0
    have hpost := hide hpost
    have e1 : ((((pr - 1) : Nat) : Int) + ((px : Nat) : Int)) = 0 := by omega
    go_wp2_with fail
    refine region_tail 10 (by kernel_rfl) (by kernel_rfl) ?_
    simp only [List.take_succ_cons, List.take_zero, List.drop_succ_cons, List.drop_zero]
    repeat go_big_quiet_step (fail)
    refine wpQuiet_nil ?_
    go_wp2_with fail
    go_returns
    exact hpost.out
  · have hpost := hide (Hpz.out _ HF3.out Hf3.out e0)
    have e1 : ¬ (((((pr - 1) : Nat) : Int) + ((px : Nat) : Int)) = 0) := by omega
    go_wp2_with fail
    go_returns
    exact hpost.out
set_option maxRecDepth 100000 in
set_option maxHeartbeats 1000000 in
theorem kdrop_px (w : World) (k : Nat) (K : KQ) (L : KLay) (h : KF w k K L) (N : Nat) (hok : KOk K N) (hN : N ≤ 1000000) (j : Nat) (h1 : 1 ≤ j) (h2 : j ≤ K.dn) (hr : ¬ 0 < (K.desc j).refs - 1) (hkd : (K.desc j).kind = 4) :
    Calls Tryz.prog 59 #[ptrAt k, ptrAt (L.db j)] w (dropPost w k K (dropQ K j) L) := by
  have hb := h.hd j h1 h2
  have hD := hok.desc j h1 h2
  have hdn := hok.dn
  obtain ⟨r, hrr⟩ : ∃ r, r = (K.desc j).refs := ⟨_, rfl⟩
  rw [← hrr] at hr
  have hr1 : r ≤ 1000000 := by have := hD.refs; omega
  have hr2 : -1000000 ≤ r := by have := hD.refs; omega
  obtain ⟨d1, hd1⟩ : ∃ d1 : DescQ, d1 = { K.desc j with refs := r - 1 } := ⟨_, rfl⟩
  obtain ⟨w1, hw1⟩ : ∃ w1, w1 = w.setCell ⟨L.db j, 3, none⟩ (.int .i64 (r - 1)) := ⟨_, rfl⟩
  have f1 : Fr (fun b => b = L.db j) w w1 := by rw [hw1]; exact (Fr.refl (fun b => b = L.db j) w).setCell (p := ⟨L.db j, 3, none⟩) (.inl rfl) _
  have b1 : w1.heap[L.db j]? = some (.cells (descC L j d1) 72 (0, 0)) := by rw [hw1, blk_set hb, hd1]; rfl
  have F1 : KF w1 k (K.setD j d1) L := h.descU h1 h2 f1 b1 (by rw [hd1])
  have F1d : KF w1.drew k (K.setD j d1) L := F1.quiet ((Fr.refl _ _).drew)
  obtain ⟨g, hg, hm⟩ := F1d.dmap (show 1 ≤ (K.setD j d1).dn from Nat.le_trans h1 h2)
  obtain ⟨w2, hdel, hm2, f2⟩ := hm.delete (t := 48) Tryz.underlying3 Tryz.underlying48 (j : Int) (by omega) 0
  have F2 : KF w2 k (K.setD j { d1 with inn := false }) L := F1d.dout hg f2 hm2
  have f12 : Fr (fun b => b = L.db j ∨ b = g) w w2 := (f1.drew.mono fun _ _ e => .inl e).trans (f2.mono fun _ _ e => .inr e)
  have hgo : L.o g = some (tMap 1) := h.odm g hg
  have hdo : L.o (L.db j) = some (tDsc j) := h.od j h1 h2
  have hT : ∀ b, (b = L.db j ∨ b = g) → L.o b ≠ none := fun b e => by rcases e with e | e <;> rw [e] <;> simp [hgo, hdo]
  have hdel' : ∀ ty, (Builtin.delete_ #[48, 3] ty #[.map (some g), .int .i64 j]).run Tryz.prog w1.drew = .ok (.tuple #[]) w2 := fun ty => hdel
  have c3 : w.cell? ⟨L.db j, 3, none⟩ = some (.int .i64 r) := by rw [blk_cell hb, hrr]; rfl
  have z3 : w.frozen? ⟨L.db j, 3, none⟩ = false := blk_frozen hb _
  have c13 : w1.cell? ⟨L.db j, 3, none⟩ = some (.int .i64 (r - 1)) := by rw [blk_cell b1, hd1]; rfl
  have e4 : w1.drew.cell? ⟨k, 4, none⟩ = some (.map (some g)) := by rw [blk_cell F1d.hk, ← hg]; rfl
  have e7 : w1.drew.cell? ⟨L.db j, 7, none⟩ = some (.int .i64 j) := by rw [blk_cell (blk_drew b1), hd1]; rfl
  have hb2 := F2.hd j h1 h2
  have hdd : (K.setD j { d1 with inn := false }).desc j = { d1 with inn := false } := if_pos rfl
  rw [hdd] at hb2
  have x0 : w2.cell? ⟨L.db j, 0, none⟩ = some (.int .i64 4) := by rw [blk_cell hb2, hd1]; exact congrArg (fun n : Nat => some (Value.int .i64 n)) hkd
  have x0d : w2.drew.cell? ⟨L.db j, 0, none⟩ = some (.int .i64 4) := x0
  have x1d : w2.drew.cell? ⟨L.db j, 1, none⟩ = some (.int .i64 (K.desc j).n) := by rw [blk_cell (blk_drew hb2), hd1]; rfl
  obtain ⟨n, hn⟩ : ∃ n, n = (K.desc j).n := ⟨_, rfl⟩
  rw [← hn] at x1d
  have hnp : 1 ≤ n ∧ n ≤ K.pn := by rw [hn]; exact hD.pip (by omega)
  have hpk := hok.pipe n hnp.1 hnp.2
  have F2d : KF w2.drew k (K.setD j { d1 with inn := false }) L := F2.quiet ((Fr.refl _ _).drew)
  obtain ⟨p1, hp1⟩ : ∃ p1 : PipeQ, p1 = { K.pipe n with x := (K.pipe n).x - 1 } := ⟨_, rfl⟩
  obtain ⟨pr, hpr⟩ : ∃ pr, pr = (K.pipe n).r := ⟨_, rfl⟩
  obtain ⟨px, hpx⟩ : ∃ px, px = (K.pipe n).x := ⟨_, rfl⟩
  have hpr1 : pr ≤ 1000000 := by omega
  have hpx1 : px ≤ 1000000 := by omega
  have hP : PipeAt w2.drew (L.pb n) (L.lb n) 64 (K.pipe n).data pr px := by rw [hpr, hpx]; exact F2d.hp n hnp.1 hnp.2
  have hclose := pclose_w (L.pb n) (L.lb n) 64 (K.pipe n).data pr px w2.drew hP hpx1
  have hq3 : ∀ w3, EndsPost w2.drew (L.pb n) (L.lb n) 64 (K.pipe n).data pr (px - 1) (.int .i64 (if px = 0 then 9 else 0)) (.returned (.int .i64 (if px = 0 then 9 else 0))) w3 → KF w3 k ((K.setD j { d1 with inn := false }).setP n p1) L ∧ Fr (fun b => L.o b ≠ none) w w3 ∧ PipeAt w3 (L.pb n) (L.lb n) 64 (K.pipe n).data pr (px - 1) ∧ w3.cell? ⟨L.db j, 5, none⟩ = some (.pointer (some ⟨L.pb n, 0, none⟩)) := fun w3 hm => by
    obtain ⟨_, hP3, f3⟩ := hm
    obtain ⟨fm, cs, hPF⟩ := hP3
    have ho : L.o (L.pb n) = some (tPip n) := (h.op n hnp.1 hnp.2).1
    have hnd : L.db j ≠ L.pb n := fun e => by rw [e, ho] at hdo; cases hdo
    refine ⟨F2d.pipeU (p := p1) hnp.1 hnp.2 (f3.mono fun _ _ e => .inl e) (by rw [hp1, ← hpr, ← hpx]; exact hPF) (by rw [hp1]; rfl), (f12.drew.mono fun b _ e => hT b e).trans (f3.mono fun b _ e => by rw [e, ho]; simp), ⟨fm, cs, hPF⟩, ?_⟩
    rw [blk_cell (f3.get (blk_drew hb2) hnd), hd1]
    unfold descC pipeV ptrAt
    rw [if_pos (show (K.desc j).kind = 3 ∨ (K.desc j).kind = 4 by omega), ← hn]
    rfl
  have hdq : dropQ K j = (K.setD j { d1 with inn := false }).setP n { p1 with inn := (K.pipe n).inn && !decide ((pr : Nat) + (px - 1) = 0) } := by
    unfold dropQ
    rw [← hrr, if_neg hr, if_neg (by omega), if_pos (show (K.desc j).kind = 3 ∨ (K.desc j).kind = 4 by omega), ← hn, show decide ((K.desc j).kind = 4) = true by rw [hkd]; rfl, hd1, hp1, hpr, hpx]
    rfl
  have x5d : w2.drew.cell? ⟨L.db j, 5, none⟩ = some (.pointer (some ⟨L.pb n, 0, none⟩)) := by
    rw [blk_cell (blk_drew hb2), hd1]
    unfold descC pipeV ptrAt
    rw [if_pos (show (K.desc j).kind = 3 ∨ (K.desc j).kind = 4 by omega), ← hn]
    rfl
  have hrx : ∀ w4 K4, KF w4 k K4 L → Fr (fun b => L.o b ≠ none) w w4 → K4 = dropQ K j → K4.pn = K.pn ∧ K4.dn = K.dn ∧ K4.qn = K.qn → dropPost w k K (dropQ K j) L (.returned (.tuple #[])) w4 := fun w4 K4 F4 f4 e en => by
    rw [← e]
    exact ⟨rfl, .same F4 ⟨Nat.le_of_eq en.1.symm, Nat.le_of_eq en.2.1.symm, Nat.le_of_eq en.2.2.symm⟩ f4 fun b e => e⟩
  have hpc : ∀ w3 K3, K3 = (K.setD j { d1 with inn := false }).setP n p1 → KF w3 k K3 L → Fr (fun b => L.o b ≠ none) w w3 → (pr : Nat) + (px - 1) = 0 → ∃ g w5, w3.cell? ⟨k, 2, none⟩ = some (.map (some g)) ∧ w3.cell? ⟨L.db j, 1, none⟩ = some (.int .i64 n) ∧ (∀ ty, (Builtin.delete_ #[45, 3] ty #[.map (some g), .int .i64 n]).run Tryz.prog w3 = .ok (.tuple #[]) w5) ∧ dropPost w k K (dropQ K j) L (.returned (.tuple #[])) w5 := fun w3 K3 eK F3 f3 e0 => by
    subst eK
    obtain ⟨g, hg, hm⟩ := F3.pmap (Nat.le_trans hnp.1 hnp.2)
    obtain ⟨w5, hdel, hm5, f5⟩ := hm.delete (t := 45) Tryz.underlying3 Tryz.underlying45 (n : Int) (by have := hok.pn; omega) 0
    have F5 := F3.pout hg f5 hm5
    refine ⟨g, w5, by rw [blk_cell F3.hk, ← hg]; rfl, ?_, fun ty => hdel, hrx w5 _ F5 (f3.trans (f5.mono fun b _ e => by rw [e, h.opm g hg]; simp)) ?_ ⟨rfl, rfl, rfl⟩⟩
    · have := F3.hd j h1 h2
      have e : ((K.setD j { d1 with inn := false }).setP n p1).desc j = { d1 with inn := false } := if_pos rfl
      rw [e] at this
      rw [blk_cell this, hd1, hn]; rfl
    · rw [hdq, e0]
      simp
  have hpz : ∀ w3, KF w3 k ((K.setD j { d1 with inn := false }).setP n p1) L → Fr (fun b => L.o b ≠ none) w w3 → (pr : Nat) + (px - 1) ≠ 0 → dropPost w k K (dropQ K j) L (.returned (.tuple #[])) w3 := fun w3 F3 f3 e0 => by
    refine hrx w3 _ F3 f3 ?_ ⟨rfl, rfl, rfl⟩
    rw [hdq]
    have : ({ p1 with inn := (K.pipe n).inn && !decide ((pr : Nat) + (px - 1) = 0) } : PipeQ) = p1 := by
      rw [hp1, decide_eq_false e0]; simp
    rw [this]
  have Hq3 := hide hq3
  have Hpc := hide hpc
  have Hpz := hide hpz
  have Hclose := hide hclose
  have Hw1 := hide hw1
  obtain ⟨K3, hK3⟩ : ∃ K3, K3 = (K.setD j { d1 with inn := false }).setP n p1 := ⟨_, rfl⟩
  rw [← hK3] at Hq3 Hpz
  have HK3 := hide hK3
  generalize (if px = 0 then (9 : Int) else 0) = ce at *
  clear h hok hb hD F1 F1d hm hm2 F2 F2d hdel hq3 hpc hpz hrx hclose f12 f1 f2 b1 hb2 hdd hd1 hrr hkd hT hgo hdo hg hw1 hP hp1 hdq hpk hnp hn hK3 hpr hpx
  unfold ptrAt
  go_enter Tryz.func59, Tryz.ntmps59
  go_upto_region 1 with (fail)
  rw [← Hw1.out]
  go_wp2_with fail
  refine region_tail 9 (by kernel_rfl) (by kernel_rfl) ?_
  simp only [List.take_succ_cons, List.take_zero, List.drop_succ_cons, List.drop_zero]
  repeat go_big_quiet_step (fail)
  refine wpQuiet_nil ?_
  go_wp2_with fail
  refine region_tail 10 (by kernel_rfl) (by kernel_rfl) ?_
  simp only [List.take_succ_cons, List.take_zero, List.drop_succ_cons, List.drop_zero]
  repeat go_big_quiet_step (fail)
  refine wpQuiet_nil ?_
  go_wp2_with fail
  refine Hclose.out.mono ?_
  rintro e w3 hm
  obtain ⟨rfl, hm⟩ : e = _ ∧ _ := ⟨hm.1, hm⟩
  obtain ⟨F3, f3, hP3, y5⟩ := Hq3.out w3 hm
  have hends := hide (pends_any _ _ _ _ _ _ w3 hP3)
  have HF3 := hide (F3.quiet ((Fr.refl (fun _ => False) _).drew))
  have Hf3 := hide f3.drew
  have HF4 := hide (F3.quiet ((Fr.refl (fun _ => False) _).drew.drew))
  have Hf4 := hide f3.drew.drew
  have y0 : w3.cell? ⟨L.db j, 0, none⟩ = w3.cell? ⟨L.db j, 0, none⟩ := rfl
  clear hm F3 f3 hP3 y0 Hq3 Hclose
  go_wp2_with fail
  refine hends.out.mono ?_
  rintro e w4 ⟨rfl, rfl⟩
  clear hends
  by_cases e0 : (pr : Nat) + (px - 1) = 0
  · obtain ⟨g5, w5, y2, y1, hdel5, hpost⟩ := Hpc.out _ _ HK3.out HF4.out Hf4.out e0
    have hpost := hide hpost
    have e1 : (((pr : Nat) : Int) + (((px - 1) : Nat) : Int)) = 0 := by omega
    go_wp2_with fail
    refine region_tail 10 (by kernel_rfl) (by kernel_rfl) ?_
    simp only [List.take_succ_cons, List.take_zero, List.drop_succ_cons, List.drop_zero]
    repeat go_big_quiet_step (fail)
    refine wpQuiet_nil ?_
    go_wp2_with fail
    go_returns
    exact hpost.out
  · have hpost := hide (Hpz.out _ HF3.out Hf3.out e0)
    have e1 : ¬ ((((pr : Nat) : Int) + (((px - 1) : Nat) : Int)) = 0) := by omega
    go_wp2_with fail
    go_returns
    exact hpost.out
end Go.Proofs.YtffekmjoenppaaaGreatDoor

/- gate.Kernel.drop, of any description; what the data keep. Conditions: each law's own premises. -/
namespace Go.Proofs.YtffekmjoenppaaaGreatDoor
open Go.RowKit

theorem kdrop_any (w : World) (k : Nat) (K : KQ) (L : KLay) (h : KF w k K L) (N : Nat) (hok : KOk K N) (hN : N ≤ 1000000) (j : Nat) (h1 : 1 ≤ j) (h2 : j ≤ K.dn) :
    Calls Tryz.prog 59 #[ptrAt k, ptrAt (L.db j)] w (dropPost w k K (dropQ K j) L) := by
  by_cases hr : 0 < (K.desc j).refs - 1
  · exact kdrop_more w k K L h N hok hN j h1 h2 hr
  · rcases kinds5 (hok.desc j h1 h2).kind with e | e | e | e | e
    · exact kdrop_con w k K L h N hok hN j h1 h2 hr e
    · exact kdrop_file w k K L h N hok hN j h1 h2 hr e
    · exact kdrop_pr w k K L h N hok hN j h1 h2 hr e
    · exact kdrop_px w k K L h N hok hN j h1 h2 hr e
    · exact kdrop_txt w k K L h N hok hN j h1 h2 hr e
theorem KF.live {w : World} {k : Nat} {K : KQ} {L : KLay} (h : KF w k K L) : Live K.σ := by
  obtain ⟨p, dv, ev, pv, lv, hF⟩ := h.files
  exact hF.live
theorem dropQ_pn (K : KQ) (j : Nat) : (dropQ K j).pn = K.pn ∧ (dropQ K j).dn = K.dn ∧ (dropQ K j).qn = K.qn := by
  unfold dropQ
  split
  · exact ⟨rfl, rfl, rfl⟩
  · split
    · exact ⟨rfl, rfl, rfl⟩
    · split <;> exact ⟨rfl, rfl, rfl⟩
theorem dropQ_proc (K : KQ) (j : Nat) : (dropQ K j).proc = K.proc := by
  unfold dropQ
  split
  · rfl
  · split
    · rfl
    · split <;> rfl
theorem closeP_ok {p : PipeQ} {N : Nat} (h : p.data.length ≤ 64 ∧ p.r ≤ N ∧ p.x ≤ N) (b : Bool) : (closeP p b).data.length ≤ 64 ∧ (closeP p b).r ≤ N ∧ (closeP p b).x ≤ N := by
  unfold closeP
  split
  · exact ⟨h.1, h.2.1, by show p.x - 1 ≤ N; omega⟩
  · exact ⟨h.1, by show p.r - 1 ≤ N; omega, h.2.2⟩
theorem KOk.dropQ {K : KQ} {N : Nat} (h : KOk K N) {j : Nat} (h1 : 1 ≤ j) (h2 : j ≤ K.dn) (hl : Live (dropQ K j).σ) : KOk (dropQ K j) (N + 1) := by
  have hd := h.desc j h1 h2
  have hm := h.mono (Nat.le_succ N)
  have hr1 : (K.desc j).refs - 1 ≤ ((N + 1 : Nat) : Int) := by have := hd.refs; omega
  have hr2 : -((N + 1 : Nat) : Int) ≤ (K.desc j).refs - 1 := by have := hd.refs; omega
  have ho : KOk (K.setD j { K.desc j with refs := (K.desc j).refs - 1, inn := false }) (N + 1) := hm.setD (hd.refs' hr1 hr2 (Nat.le_succ _))
  have ht : KOk (K.setD j { K.desc j with refs := (K.desc j).refs - 1 }) (N + 1) := hm.setD (DescOk.refs' (b := (K.desc j).inn) hd hr1 hr2 (Nat.le_succ _))
  unfold Go.Proofs.YtffekmjoenppaaaGreatDoor.dropQ at hl ⊢
  by_cases c1 : 0 < (K.desc j).refs - 1
  · rw [if_pos c1]
    exact ht
  · rw [if_neg c1] at hl ⊢
    by_cases c2 : (K.desc j).kind = 2
    · rw [if_pos c2] at hl ⊢
      exact ho.σ ((h.good.drop (K.desc j).n).good hl)
    · rw [if_neg c2] at hl ⊢
      by_cases c3 : (K.desc j).kind = 3 ∨ (K.desc j).kind = 4
      · rw [if_pos c3]
        have hp := hd.pip c3
        exact ho.setP (closeP_ok (by have := h.pipe _ hp.1 hp.2; exact ⟨this.1, Nat.le_succ_of_le this.2.1, Nat.le_succ_of_le this.2.2⟩) _)
      · rw [if_neg c3]
        exact ho
end Go.Proofs.YtffekmjoenppaaaGreatDoor
