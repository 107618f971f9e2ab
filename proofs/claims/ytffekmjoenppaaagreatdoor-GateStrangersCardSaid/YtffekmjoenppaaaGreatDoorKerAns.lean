/- gate.asked.answer, by the number of the call. Conditions: the contract's own premises. -/
import Derived.Test.YtffekmjoenppaaaGreatDoorKerLives
namespace Go.Proofs.YtffekmjoenppaaaGreatDoor
open Go.RowKit

attribute [local go_sem] Oper.semAt_some

set_option maxRecDepth 100000 in
set_option maxHeartbeats 1000000 in
theorem ans_read (w : World) (k : Nat) (K : KQ) (L : KLay) (h : KF w k K L) (q a : Nat) (c : SysQ) (r : ResV) (ha : AskAt w a k q c r) (hno : c.no = 1) (R : Bool → World → Prop) (hc : Calls Tryz.prog 22 #[ptrAt a] w fun e w' => ∃ b, e = .returned (.bool b) ∧ R b w') :
    Calls Tryz.prog 15 #[ptrAt a] w fun e w' => ∃ b, e = .returned (.bool b) ∧ R b w' := by
  have a0 : w.cell? ⟨a, 0, none⟩ = some (.pointer (some ⟨k, 0, none⟩)) := by rw [blk_cell ha]; rfl
  have a2 : w.cell? ⟨a, 2, none⟩ = some (.int .i64 1) := by rw [blk_cell ha, ← hno]; rfl
  have k0 : w.cell? ⟨k, 0, none⟩ = some (.pointer (some ⟨L.f, 0, none⟩)) := by rw [blk_cell h.hk]; rfl
  have hc := hide hc
  clear h ha hno
  unfold ptrAt at *
  go_enter Tryz.func15, Tryz.ntmps15
  go_wp2_with fail
  refine hc.out.mono ?_
  rintro e w2 ⟨b, rfl, hR⟩
  go_wp2_with fail
  go_ret
  exact ⟨b, rfl, hR⟩
set_option maxRecDepth 100000 in
set_option maxHeartbeats 1000000 in
theorem ans_write (w : World) (k : Nat) (K : KQ) (L : KLay) (h : KF w k K L) (q a : Nat) (c : SysQ) (r : ResV) (ha : AskAt w a k q c r) (hno : c.no = 2) (R : Bool → World → Prop) (hc : Calls Tryz.prog 23 #[ptrAt a] w fun e w' => ∃ b, e = .returned (.bool b) ∧ R b w') :
    Calls Tryz.prog 15 #[ptrAt a] w fun e w' => ∃ b, e = .returned (.bool b) ∧ R b w' := by
  have a0 : w.cell? ⟨a, 0, none⟩ = some (.pointer (some ⟨k, 0, none⟩)) := by rw [blk_cell ha]; rfl
  have a2 : w.cell? ⟨a, 2, none⟩ = some (.int .i64 2) := by rw [blk_cell ha, ← hno]; rfl
  have k0 : w.cell? ⟨k, 0, none⟩ = some (.pointer (some ⟨L.f, 0, none⟩)) := by rw [blk_cell h.hk]; rfl
  have hc := hide hc
  clear h ha hno
  unfold ptrAt at *
  go_enter Tryz.func15, Tryz.ntmps15
  go_wp2_with fail
  refine hc.out.mono ?_
  rintro e w2 ⟨b, rfl, hR⟩
  go_wp2_with fail
  go_ret
  exact ⟨b, rfl, hR⟩
set_option maxRecDepth 100000 in
set_option maxHeartbeats 1000000 in
theorem ans_dup (w : World) (k : Nat) (K : KQ) (L : KLay) (h : KF w k K L) (q a : Nat) (c : SysQ) (r : ResV) (ha : AskAt w a k q c r) (hno : c.no = 5) (R : Int → World → Prop) (hR : ∀ x w', R x w' → ∃ r', AskAt w' a k q c r') (hc : Calls Tryz.prog 26 #[ptrAt a, .bool true] w fun e w' => ∃ x, e = .returned (.int .i64 x) ∧ R x w') :
    Calls Tryz.prog 15 #[ptrAt a] w fun e w' => e = .returned (.bool false) ∧ ∃ x w2, R x w2 ∧ w' = w2.setCell ⟨a, 17, none⟩ (.int .i64 x) := by
  have a0 : w.cell? ⟨a, 0, none⟩ = some (.pointer (some ⟨k, 0, none⟩)) := by rw [blk_cell ha]; rfl
  have a2 : w.cell? ⟨a, 2, none⟩ = some (.int .i64 5) := by rw [blk_cell ha, ← hno]; rfl
  have k0 : w.cell? ⟨k, 0, none⟩ = some (.pointer (some ⟨L.f, 0, none⟩)) := by rw [blk_cell h.hk]; rfl
  have hc := hide hc
  have HR := hide hR
  clear h ha hno hR
  unfold ptrAt at *
  go_enter Tryz.func15, Tryz.ntmps15
  go_wp2_with fail
  refine hc.out.mono ?_
  rintro e w2 ⟨x, rfl, hx⟩
  obtain ⟨r', hr'⟩ := HR.out x w2 hx
  have t17 : w2.cell? ⟨a, 17, none⟩ = some (.int .i64 r'.err) := by rw [blk_cell hr']; rfl
  have z17 : w2.frozen? ⟨a, 17, none⟩ = false := blk_frozen hr' _
  have Hx := hide hx
  clear hx hr' HR
  go_wp2_with fail
  go_ret
  exact ⟨rfl, x, w2, Hx.out, rfl⟩
set_option maxRecDepth 100000 in
set_option maxHeartbeats 1000000 in
theorem ans_dup2 (w : World) (k : Nat) (K : KQ) (L : KLay) (h : KF w k K L) (q a : Nat) (c : SysQ) (r : ResV) (ha : AskAt w a k q c r) (hno : c.no = 6) (R : Int → World → Prop) (hR : ∀ x w', R x w' → ∃ r', AskAt w' a k q c r') (hc : Calls Tryz.prog 26 #[ptrAt a, .bool false] w fun e w' => ∃ x, e = .returned (.int .i64 x) ∧ R x w') :
    Calls Tryz.prog 15 #[ptrAt a] w fun e w' => e = .returned (.bool false) ∧ ∃ x w2, R x w2 ∧ w' = w2.setCell ⟨a, 17, none⟩ (.int .i64 x) := by
  have a0 : w.cell? ⟨a, 0, none⟩ = some (.pointer (some ⟨k, 0, none⟩)) := by rw [blk_cell ha]; rfl
  have a2 : w.cell? ⟨a, 2, none⟩ = some (.int .i64 6) := by rw [blk_cell ha, ← hno]; rfl
  have k0 : w.cell? ⟨k, 0, none⟩ = some (.pointer (some ⟨L.f, 0, none⟩)) := by rw [blk_cell h.hk]; rfl
  have hc := hide hc
  have HR := hide hR
  clear h ha hno hR
  unfold ptrAt at *
  go_enter Tryz.func15, Tryz.ntmps15
  go_wp2_with fail
  refine hc.out.mono ?_
  rintro e w2 ⟨x, rfl, hx⟩
  obtain ⟨r', hr'⟩ := HR.out x w2 hx
  have t17 : w2.cell? ⟨a, 17, none⟩ = some (.int .i64 r'.err) := by rw [blk_cell hr']; rfl
  have z17 : w2.frozen? ⟨a, 17, none⟩ = false := blk_frozen hr' _
  have Hx := hide hx
  clear hx hr' HR
  go_wp2_with fail
  go_ret
  exact ⟨rfl, x, w2, Hx.out, rfl⟩
set_option maxRecDepth 100000 in
set_option maxHeartbeats 1000000 in
theorem ans_pipe (w : World) (k : Nat) (K : KQ) (L : KLay) (h : KF w k K L) (q a : Nat) (c : SysQ) (r : ResV) (ha : AskAt w a k q c r) (hno : c.no = 7) (R : Int → World → Prop) (hR : ∀ x w', R x w' → ∃ r', AskAt w' a k q c r') (hc : Calls Tryz.prog 27 #[ptrAt a] w fun e w' => ∃ x, e = .returned (.int .i64 x) ∧ R x w') :
    Calls Tryz.prog 15 #[ptrAt a] w fun e w' => e = .returned (.bool false) ∧ ∃ x w2, R x w2 ∧ w' = w2.setCell ⟨a, 17, none⟩ (.int .i64 x) := by
  have a0 : w.cell? ⟨a, 0, none⟩ = some (.pointer (some ⟨k, 0, none⟩)) := by rw [blk_cell ha]; rfl
  have a2 : w.cell? ⟨a, 2, none⟩ = some (.int .i64 7) := by rw [blk_cell ha, ← hno]; rfl
  have k0 : w.cell? ⟨k, 0, none⟩ = some (.pointer (some ⟨L.f, 0, none⟩)) := by rw [blk_cell h.hk]; rfl
  have hc := hide hc
  have HR := hide hR
  clear h ha hno hR
  unfold ptrAt at *
  go_enter Tryz.func15, Tryz.ntmps15
  go_wp2_with fail
  refine hc.out.mono ?_
  rintro e w2 ⟨x, rfl, hx⟩
  obtain ⟨r', hr'⟩ := HR.out x w2 hx
  have t17 : w2.cell? ⟨a, 17, none⟩ = some (.int .i64 r'.err) := by rw [blk_cell hr']; rfl
  have z17 : w2.frozen? ⟨a, 17, none⟩ = false := blk_frozen hr' _
  have Hx := hide hx
  clear hx hr' HR
  go_wp2_with fail
  go_ret
  exact ⟨rfl, x, w2, Hx.out, rfl⟩
set_option maxRecDepth 100000 in
set_option maxHeartbeats 1000000 in
theorem ans_fork (w : World) (k : Nat) (K : KQ) (L : KLay) (h : KF w k K L) (q a : Nat) (c : SysQ) (r : ResV) (ha : AskAt w a k q c r) (hno : c.no = 8) (R : Int → World → Prop) (hR : ∀ x w', R x w' → ∃ r', AskAt w' a k q c r') (hc : Calls Tryz.prog 28 #[ptrAt a] w fun e w' => ∃ x, e = .returned (.int .i64 x) ∧ R x w') :
    Calls Tryz.prog 15 #[ptrAt a] w fun e w' => e = .returned (.bool false) ∧ ∃ x w2, R x w2 ∧ w' = w2.setCell ⟨a, 17, none⟩ (.int .i64 x) := by
  have a0 : w.cell? ⟨a, 0, none⟩ = some (.pointer (some ⟨k, 0, none⟩)) := by rw [blk_cell ha]; rfl
  have a2 : w.cell? ⟨a, 2, none⟩ = some (.int .i64 8) := by rw [blk_cell ha, ← hno]; rfl
  have k0 : w.cell? ⟨k, 0, none⟩ = some (.pointer (some ⟨L.f, 0, none⟩)) := by rw [blk_cell h.hk]; rfl
  have hc := hide hc
  have HR := hide hR
  clear h ha hno hR
  unfold ptrAt at *
  go_enter Tryz.func15, Tryz.ntmps15
  go_wp2_with fail
  refine hc.out.mono ?_
  rintro e w2 ⟨x, rfl, hx⟩
  obtain ⟨r', hr'⟩ := HR.out x w2 hx
  have t17 : w2.cell? ⟨a, 17, none⟩ = some (.int .i64 r'.err) := by rw [blk_cell hr']; rfl
  have z17 : w2.frozen? ⟨a, 17, none⟩ = false := blk_frozen hr' _
  have Hx := hide hx
  clear hx hr' HR
  go_wp2_with fail
  go_ret
  exact ⟨rfl, x, w2, Hx.out, rfl⟩
set_option maxRecDepth 100000 in
set_option maxHeartbeats 1000000 in
theorem ans_chdir (w : World) (k : Nat) (K : KQ) (L : KLay) (h : KF w k K L) (q a : Nat) (c : SysQ) (r : ResV) (ha : AskAt w a k q c r) (hno : c.no = 12) (R : Int → World → Prop) (hR : ∀ x w', R x w' → ∃ r', AskAt w' a k q c r') (hc : Calls Tryz.prog 29 #[ptrAt a] w fun e w' => ∃ x, e = .returned (.int .i64 x) ∧ R x w') :
    Calls Tryz.prog 15 #[ptrAt a] w fun e w' => e = .returned (.bool false) ∧ ∃ x w2, R x w2 ∧ w' = w2.setCell ⟨a, 17, none⟩ (.int .i64 x) := by
  have a0 : w.cell? ⟨a, 0, none⟩ = some (.pointer (some ⟨k, 0, none⟩)) := by rw [blk_cell ha]; rfl
  have a2 : w.cell? ⟨a, 2, none⟩ = some (.int .i64 12) := by rw [blk_cell ha, ← hno]; rfl
  have k0 : w.cell? ⟨k, 0, none⟩ = some (.pointer (some ⟨L.f, 0, none⟩)) := by rw [blk_cell h.hk]; rfl
  have hc := hide hc
  have HR := hide hR
  clear h ha hno hR
  unfold ptrAt at *
  go_enter Tryz.func15, Tryz.ntmps15
  go_wp2_with fail
  refine hc.out.mono ?_
  rintro e w2 ⟨x, rfl, hx⟩
  obtain ⟨r', hr'⟩ := HR.out x w2 hx
  have t17 : w2.cell? ⟨a, 17, none⟩ = some (.int .i64 r'.err) := by rw [blk_cell hr']; rfl
  have z17 : w2.frozen? ⟨a, 17, none⟩ = false := blk_frozen hr' _
  have Hx := hide hx
  clear hx hr' HR
  go_wp2_with fail
  go_ret
  exact ⟨rfl, x, w2, Hx.out, rfl⟩
set_option maxRecDepth 100000 in
set_option maxHeartbeats 1000000 in
theorem ans_close (w : World) (k : Nat) (K : KQ) (L : KLay) (h : KF w k K L) (q a : Nat) (c : SysQ) (r : ResV) (ha : AskAt w a k q c r) (hno : c.no = 4) (R : Int → World → Prop) (hR : ∀ x w', R x w' → ∃ r', AskAt w' a k q c r') (hc : Calls Tryz.prog 36 #[ptrAt a] w fun e w' => ∃ x, e = .returned (.int .i64 x) ∧ R x w') :
    Calls Tryz.prog 15 #[ptrAt a] w fun e w' => e = .returned (.bool false) ∧ ∃ x w2, R x w2 ∧ w' = w2.setCell ⟨a, 17, none⟩ (.int .i64 x) := by
  have a0 : w.cell? ⟨a, 0, none⟩ = some (.pointer (some ⟨k, 0, none⟩)) := by rw [blk_cell ha]; rfl
  have a2 : w.cell? ⟨a, 2, none⟩ = some (.int .i64 4) := by rw [blk_cell ha, ← hno]; rfl
  have k0 : w.cell? ⟨k, 0, none⟩ = some (.pointer (some ⟨L.f, 0, none⟩)) := by rw [blk_cell h.hk]; rfl
  have hc := hide hc
  have HR := hide hR
  clear h ha hno hR
  unfold ptrAt at *
  go_enter Tryz.func15, Tryz.ntmps15
  go_wp2_with fail
  refine hc.out.mono ?_
  rintro e w2 ⟨x, rfl, hx⟩
  obtain ⟨r', hr'⟩ := HR.out x w2 hx
  have t17 : w2.cell? ⟨a, 17, none⟩ = some (.int .i64 r'.err) := by rw [blk_cell hr']; rfl
  have z17 : w2.frozen? ⟨a, 17, none⟩ = false := blk_frozen hr' _
  have Hx := hide hx
  clear hx hr' HR
  go_wp2_with fail
  go_ret
  exact ⟨rfl, x, w2, Hx.out, rfl⟩
set_option maxRecDepth 100000 in
set_option maxHeartbeats 1000000 in
theorem ans_exec (w : World) (k : Nat) (K : KQ) (L : KLay) (h : KF w k K L) (q a : Nat) (c : SysQ) (r : ResV) (ha : AskAt w a k q c r) (hno : c.no = 9) (R : Int → World → Prop) (hR : ∀ x w', R x w' → ∃ r', AskAt w' a k q c r') (hc : Calls Tryz.prog 36 #[ptrAt a] w fun e w' => ∃ x, e = .returned (.int .i64 x) ∧ R x w') :
    Calls Tryz.prog 15 #[ptrAt a] w fun e w' => e = .returned (.bool false) ∧ ∃ x w2, R x w2 ∧ w' = w2.setCell ⟨a, 17, none⟩ (.int .i64 x) := by
  have a0 : w.cell? ⟨a, 0, none⟩ = some (.pointer (some ⟨k, 0, none⟩)) := by rw [blk_cell ha]; rfl
  have a2 : w.cell? ⟨a, 2, none⟩ = some (.int .i64 9) := by rw [blk_cell ha, ← hno]; rfl
  have k0 : w.cell? ⟨k, 0, none⟩ = some (.pointer (some ⟨L.f, 0, none⟩)) := by rw [blk_cell h.hk]; rfl
  have hc := hide hc
  have HR := hide hR
  clear h ha hno hR
  unfold ptrAt at *
  go_enter Tryz.func15, Tryz.ntmps15
  go_wp2_with fail
  refine hc.out.mono ?_
  rintro e w2 ⟨x, rfl, hx⟩
  obtain ⟨r', hr'⟩ := HR.out x w2 hx
  have t17 : w2.cell? ⟨a, 17, none⟩ = some (.int .i64 r'.err) := by rw [blk_cell hr']; rfl
  have z17 : w2.frozen? ⟨a, 17, none⟩ = false := blk_frozen hr' _
  have Hx := hide hx
  clear hx hr' HR
  go_wp2_with fail
  go_ret
  exact ⟨rfl, x, w2, Hx.out, rfl⟩
set_option maxRecDepth 100000 in
set_option maxHeartbeats 1000000 in
theorem ans_umask (w : World) (k : Nat) (K : KQ) (L : KLay) (h : KF w k K L) (q a : Nat) (c : SysQ) (r : ResV) (ha : AskAt w a k q c r) (hno : c.no = 13) (R : Int → World → Prop) (hR : ∀ x w', R x w' → ∃ r', AskAt w' a k q c r') (hc : Calls Tryz.prog 36 #[ptrAt a] w fun e w' => ∃ x, e = .returned (.int .i64 x) ∧ R x w') :
    Calls Tryz.prog 15 #[ptrAt a] w fun e w' => e = .returned (.bool false) ∧ ∃ x w2, R x w2 ∧ w' = w2.setCell ⟨a, 17, none⟩ (.int .i64 x) := by
  have a0 : w.cell? ⟨a, 0, none⟩ = some (.pointer (some ⟨k, 0, none⟩)) := by rw [blk_cell ha]; rfl
  have a2 : w.cell? ⟨a, 2, none⟩ = some (.int .i64 13) := by rw [blk_cell ha, ← hno]; rfl
  have k0 : w.cell? ⟨k, 0, none⟩ = some (.pointer (some ⟨L.f, 0, none⟩)) := by rw [blk_cell h.hk]; rfl
  have hc := hide hc
  have HR := hide hR
  clear h ha hno hR
  unfold ptrAt at *
  go_enter Tryz.func15, Tryz.ntmps15
  go_wp2_with fail
  refine hc.out.mono ?_
  rintro e w2 ⟨x, rfl, hx⟩
  obtain ⟨r', hr'⟩ := HR.out x w2 hx
  have t17 : w2.cell? ⟨a, 17, none⟩ = some (.int .i64 r'.err) := by rw [blk_cell hr']; rfl
  have z17 : w2.frozen? ⟨a, 17, none⟩ = false := blk_frozen hr' _
  have Hx := hide hx
  clear hx hr' HR
  go_wp2_with fail
  go_ret
  exact ⟨rfl, x, w2, Hx.out, rfl⟩
set_option maxRecDepth 100000 in
set_option maxHeartbeats 1000000 in
theorem ans_mark (w : World) (k : Nat) (K : KQ) (L : KLay) (h : KF w k K L) (q a : Nat) (c : SysQ) (r : ResV) (ha : AskAt w a k q c r) (hno : c.no = 24) (R : Int → World → Prop) (hR : ∀ x w', R x w' → ∃ r', AskAt w' a k q c r') (hc : Calls Tryz.prog 36 #[ptrAt a] w fun e w' => ∃ x, e = .returned (.int .i64 x) ∧ R x w') :
    Calls Tryz.prog 15 #[ptrAt a] w fun e w' => e = .returned (.bool false) ∧ ∃ x w2, R x w2 ∧ w' = w2.setCell ⟨a, 17, none⟩ (.int .i64 x) := by
  have a0 : w.cell? ⟨a, 0, none⟩ = some (.pointer (some ⟨k, 0, none⟩)) := by rw [blk_cell ha]; rfl
  have a2 : w.cell? ⟨a, 2, none⟩ = some (.int .i64 24) := by rw [blk_cell ha, ← hno]; rfl
  have k0 : w.cell? ⟨k, 0, none⟩ = some (.pointer (some ⟨L.f, 0, none⟩)) := by rw [blk_cell h.hk]; rfl
  have hc := hide hc
  have HR := hide hR
  clear h ha hno hR
  unfold ptrAt at *
  go_enter Tryz.func15, Tryz.ntmps15
  go_wp2_with fail
  refine hc.out.mono ?_
  rintro e w2 ⟨x, rfl, hx⟩
  obtain ⟨r', hr'⟩ := HR.out x w2 hx
  have t17 : w2.cell? ⟨a, 17, none⟩ = some (.int .i64 r'.err) := by rw [blk_cell hr']; rfl
  have z17 : w2.frozen? ⟨a, 17, none⟩ = false := blk_frozen hr' _
  have Hx := hide hx
  clear hx hr' HR
  go_wp2_with fail
  go_ret
  exact ⟨rfl, x, w2, Hx.out, rfl⟩
set_option maxRecDepth 100000 in
set_option maxHeartbeats 1000000 in
theorem ans_path (w : World) (k : Nat) (K : KQ) (L : KLay) (h : KF w k K L) (q a : Nat) (c : SysQ) (r : ResV) (ha : AskAt w a k q c r) (hno : c.no = 25) (R : Int → World → Prop) (hR : ∀ x w', R x w' → ∃ r', AskAt w' a k q c r') (hc : Calls Tryz.prog 36 #[ptrAt a] w fun e w' => ∃ x, e = .returned (.int .i64 x) ∧ R x w') :
    Calls Tryz.prog 15 #[ptrAt a] w fun e w' => e = .returned (.bool false) ∧ ∃ x w2, R x w2 ∧ w' = w2.setCell ⟨a, 17, none⟩ (.int .i64 x) := by
  have a0 : w.cell? ⟨a, 0, none⟩ = some (.pointer (some ⟨k, 0, none⟩)) := by rw [blk_cell ha]; rfl
  have a2 : w.cell? ⟨a, 2, none⟩ = some (.int .i64 25) := by rw [blk_cell ha, ← hno]; rfl
  have k0 : w.cell? ⟨k, 0, none⟩ = some (.pointer (some ⟨L.f, 0, none⟩)) := by rw [blk_cell h.hk]; rfl
  have hc := hide hc
  have HR := hide hR
  clear h ha hno hR
  unfold ptrAt at *
  go_enter Tryz.func15, Tryz.ntmps15
  go_wp2_with fail
  refine hc.out.mono ?_
  rintro e w2 ⟨x, rfl, hx⟩
  obtain ⟨r', hr'⟩ := HR.out x w2 hx
  have t17 : w2.cell? ⟨a, 17, none⟩ = some (.int .i64 r'.err) := by rw [blk_cell hr']; rfl
  have z17 : w2.frozen? ⟨a, 17, none⟩ = false := blk_frozen hr' _
  have Hx := hide hx
  clear hx hr' HR
  go_wp2_with fail
  go_ret
  exact ⟨rfl, x, w2, Hx.out, rfl⟩
set_option maxRecDepth 100000 in
set_option maxHeartbeats 1000000 in
theorem ans_text (w : World) (k : Nat) (K : KQ) (L : KLay) (h : KF w k K L) (q a : Nat) (c : SysQ) (r : ResV) (ha : AskAt w a k q c r) (hno : c.no = 28) (R : Int → World → Prop) (hR : ∀ x w', R x w' → ∃ r', AskAt w' a k q c r') (hc : Calls Tryz.prog 36 #[ptrAt a] w fun e w' => ∃ x, e = .returned (.int .i64 x) ∧ R x w') :
    Calls Tryz.prog 15 #[ptrAt a] w fun e w' => e = .returned (.bool false) ∧ ∃ x w2, R x w2 ∧ w' = w2.setCell ⟨a, 17, none⟩ (.int .i64 x) := by
  have a0 : w.cell? ⟨a, 0, none⟩ = some (.pointer (some ⟨k, 0, none⟩)) := by rw [blk_cell ha]; rfl
  have a2 : w.cell? ⟨a, 2, none⟩ = some (.int .i64 28) := by rw [blk_cell ha, ← hno]; rfl
  have k0 : w.cell? ⟨k, 0, none⟩ = some (.pointer (some ⟨L.f, 0, none⟩)) := by rw [blk_cell h.hk]; rfl
  have hc := hide hc
  have HR := hide hR
  clear h ha hno hR
  unfold ptrAt at *
  go_enter Tryz.func15, Tryz.ntmps15
  go_wp2_with fail
  refine hc.out.mono ?_
  rintro e w2 ⟨x, rfl, hx⟩
  obtain ⟨r', hr'⟩ := HR.out x w2 hx
  have t17 : w2.cell? ⟨a, 17, none⟩ = some (.int .i64 r'.err) := by rw [blk_cell hr']; rfl
  have z17 : w2.frozen? ⟨a, 17, none⟩ = false := blk_frozen hr' _
  have Hx := hide hx
  clear hx hr' HR
  go_wp2_with fail
  go_ret
  exact ⟨rfl, x, w2, Hx.out, rfl⟩
end Go.Proofs.YtffekmjoenppaaaGreatDoor
