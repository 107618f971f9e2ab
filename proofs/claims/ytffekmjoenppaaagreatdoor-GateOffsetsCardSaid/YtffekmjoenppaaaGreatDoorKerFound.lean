/- gate.asked.found. Conditions: the contract's own premises. -/
import Derived.Test.YtffekmjoenppaaaGreatDoorKerDrop
import Derived.Test.YtffekmjoenppaaaGreatDoorKerDropC
namespace Go.Proofs.YtffekmjoenppaaaGreatDoor
open Go.RowKit

attribute [local go_sem] Oper.semAt_some

/-- May an inode that is there be opened so? -/
def foundE (σ : FSt) (no : Int) (f : Nat) : Int :=
  if f / 4 % 2 = 1 ∧ f / 8 % 2 = 1 then 17
  else if (statT σ no).kind = 2 then 21
  else if (f % 2 = 1 ∧ mayR σ no 4 = false) ∨ (f / 2 % 2 = 1 ∧ mayR σ no 2 = false) then 13
  else 0
theorem and_fact4 : ∀ f : Fin 64, bits .and .i64 ((f.val : Nat) : Int) 4 = ((f.val / 4 % 2 * 4 : Nat) : Int) := by decide +kernel
theorem and_fact8 : ∀ f : Fin 64, bits .and .i64 ((f.val : Nat) : Int) 8 = ((f.val / 8 % 2 * 8 : Nat) : Int) := by decide +kernel
theorem and_fact16 : ∀ f : Fin 64, bits .and .i64 ((f.val : Nat) : Int) 16 = ((f.val / 16 % 2 * 16 : Nat) : Int) := by decide +kernel
theorem and_fact3 : ∀ f : Fin 64, bits .and .i64 ((f.val : Nat) : Int) 3 = ((f.val % 4 : Nat) : Int) := by decide +kernel
set_option maxRecDepth 100000 in
set_option maxHeartbeats 1000000 in
theorem afound_new (w : World) (k : Nat) (K : KQ) (L : KLay) (h : KF w k K L) (hcap : CapB K.σ) (q a : Nat) (c : SysQ) (r : ResV) (ha : AskAt w a k q c r) (no : Nat) (hno : no ≤ 9223372036854775807) (f : Nat) (hf : f < 64) (hca : c.a = f) (h4 : f / 4 % 2 = 1) (h8 : f / 8 % 2 = 1) :
    Calls Tryz.prog 56 #[ptrAt a, .int .i64 no] w fun e w' => e = .returned (.int .i64 17) ∧ Fr (fun _ => False) w w' := by
  obtain ⟨p, hA⟩ := h.files
  have hstat := Stat_any w L.f K.σ (L.S tFil w) p hA hcap no (by omega)
  have c0 : w.cell? ⟨a, 0, none⟩ = some (.pointer (some ⟨k, 0, none⟩)) := by rw [blk_cell ha]; rfl
  have c00 : w.cell? ⟨k, 0, none⟩ = some (.pointer (some ⟨L.f, 0, none⟩)) := by rw [blk_cell h.hk]; rfl
  have hw2 : ∀ w2, Fr (fun _ => False) w w2 → (∀ o, (w2.alloc o).cell? ⟨a, 3, none⟩ = some (.int .i64 f)) ∧ (∀ (kk : Int) o, -9223372036854775808 ≤ kk ∧ kk ≤ 9223372036854775807 → Calls Tryz.prog 64 #[.pointer (some ⟨L.f, 0, none⟩), .int .i64 no, .int .i64 kk] (w2.alloc o) fun e w' => e = .returned (.bool (mayR K.σ no kk)) ∧ w' = w2.alloc o) := fun w2 hf2 => by
    have ha2 : ∀ o, AskAt (w2.alloc o) a k q c r := fun o => (hf2.alloc o).get ha (fun e => e)
    have hA2 := fun o => hA.frame (hf2.alloc o) (fun _ _ _ e => e)
    exact ⟨fun o => by rw [blk_cell (ha2 o), ← hca]; rfl, fun kk o hk => May_any _ _ _ _ _ (hA2 o) no kk (by omega) hk⟩
  have g1 : bits .and .i64 (f : Int) 1 = ((f % 2 : Nat) : Int) := and_fact1 ⟨f, hf⟩
  have g2 : bits .and .i64 (f : Int) 2 = ((f / 2 % 2 * 2 : Nat) : Int) := and_fact2 ⟨f, hf⟩
  have g4 : bits .and .i64 (f : Int) 4 = ((f / 4 % 2 * 4 : Nat) : Int) := and_fact4 ⟨f, hf⟩
  have g8 : bits .and .i64 (f : Int) 8 = ((f / 8 % 2 * 8 : Nat) : Int) := and_fact8 ⟨f, hf⟩
  obtain ⟨st, hst⟩ : ∃ st, st = statT K.σ no := ⟨_, rfl⟩
  rw [← hst] at hstat
  rw [h4] at g4
  rw [h8] at g8
  clear hst
  have Hstat := hide hstat
  have Hw2 := hide hw2
  clear h ha hA hstat hw2 hcap hca
  unfold ptrAt
  go_enter Tryz.func56, Tryz.ntmps56
  go_wp2_with fail
  refine Hstat.out.mono ?_
  rintro e w2 ⟨rfl, hf2⟩
  obtain ⟨d3, hmm⟩ := Hw2.out w2 hf2
  have d3 := d3 (.cells #[.int .i64 st.ino, .int .i64 st.kind, .int .i64 st.mode, .int .i64 st.links, .int .i64 st.size] 28 (0, 0))
  have Hm := hide hmm
  have Hfr := hide (fun o => hf2.alloc o)
  unfold stV
  clear hf2 hmm Hstat Hw2
  go_wp2_with (go_at_call 64; refine (Hm.out _ _ (by decide)).mono ?_; rintro e w3 ⟨rfl, rfl⟩; skip)
  go_ret
  exact ⟨rfl, Hfr.out _⟩
set_option maxRecDepth 100000 in
set_option maxHeartbeats 1000000 in
theorem afound_dir1 (w : World) (k : Nat) (K : KQ) (L : KLay) (h : KF w k K L) (hcap : CapB K.σ) (q a : Nat) (c : SysQ) (r : ResV) (ha : AskAt w a k q c r) (no : Nat) (hno : no ≤ 9223372036854775807) (f : Nat) (hf : f < 64) (hca : c.a = f) (h4 : f / 4 % 2 = 0) (hkd : (statT K.σ no).kind = 2) :
    Calls Tryz.prog 56 #[ptrAt a, .int .i64 no] w fun e w' => e = .returned (.int .i64 21) ∧ Fr (fun _ => False) w w' := by
  obtain ⟨p, hA⟩ := h.files
  have hstat := Stat_any w L.f K.σ (L.S tFil w) p hA hcap no (by omega)
  have c0 : w.cell? ⟨a, 0, none⟩ = some (.pointer (some ⟨k, 0, none⟩)) := by rw [blk_cell ha]; rfl
  have c00 : w.cell? ⟨k, 0, none⟩ = some (.pointer (some ⟨L.f, 0, none⟩)) := by rw [blk_cell h.hk]; rfl
  have hw2 : ∀ w2, Fr (fun _ => False) w w2 → (∀ o, (w2.alloc o).cell? ⟨a, 3, none⟩ = some (.int .i64 f)) ∧ (∀ (kk : Int) o, -9223372036854775808 ≤ kk ∧ kk ≤ 9223372036854775807 → Calls Tryz.prog 64 #[.pointer (some ⟨L.f, 0, none⟩), .int .i64 no, .int .i64 kk] (w2.alloc o) fun e w' => e = .returned (.bool (mayR K.σ no kk)) ∧ w' = w2.alloc o) := fun w2 hf2 => by
    have ha2 : ∀ o, AskAt (w2.alloc o) a k q c r := fun o => (hf2.alloc o).get ha (fun e => e)
    have hA2 := fun o => hA.frame (hf2.alloc o) (fun _ _ _ e => e)
    exact ⟨fun o => by rw [blk_cell (ha2 o), ← hca]; rfl, fun kk o hk => May_any _ _ _ _ _ (hA2 o) no kk (by omega) hk⟩
  have g1 : bits .and .i64 (f : Int) 1 = ((f % 2 : Nat) : Int) := and_fact1 ⟨f, hf⟩
  have g2 : bits .and .i64 (f : Int) 2 = ((f / 2 % 2 * 2 : Nat) : Int) := and_fact2 ⟨f, hf⟩
  have g4 : bits .and .i64 (f : Int) 4 = ((f / 4 % 2 * 4 : Nat) : Int) := and_fact4 ⟨f, hf⟩
  have g8 : bits .and .i64 (f : Int) 8 = ((f / 8 % 2 * 8 : Nat) : Int) := and_fact8 ⟨f, hf⟩
  obtain ⟨st, hst⟩ : ∃ st, st = statT K.σ no := ⟨_, rfl⟩
  rw [← hst] at hstat
  rw [← hst] at hkd
  rw [h4] at g4
  clear hst
  have Hstat := hide hstat
  have Hw2 := hide hw2
  clear h ha hA hstat hw2 hcap hca
  unfold ptrAt
  go_enter Tryz.func56, Tryz.ntmps56
  go_wp2_with fail
  refine Hstat.out.mono ?_
  rintro e w2 ⟨rfl, hf2⟩
  obtain ⟨d3, hmm⟩ := Hw2.out w2 hf2
  have d3 := d3 (.cells #[.int .i64 st.ino, .int .i64 st.kind, .int .i64 st.mode, .int .i64 st.links, .int .i64 st.size] 28 (0, 0))
  have Hm := hide hmm
  have Hfr := hide (fun o => hf2.alloc o)
  unfold stV
  clear hf2 hmm Hstat Hw2
  go_wp2_with (go_at_call 64; refine (Hm.out _ _ (by decide)).mono ?_; rintro e w3 ⟨rfl, rfl⟩; skip)
  go_ret
  exact ⟨rfl, Hfr.out _⟩
set_option maxRecDepth 100000 in
set_option maxHeartbeats 1000000 in
theorem afound_r1 (w : World) (k : Nat) (K : KQ) (L : KLay) (h : KF w k K L) (hcap : CapB K.σ) (q a : Nat) (c : SysQ) (r : ResV) (ha : AskAt w a k q c r) (no : Nat) (hno : no ≤ 9223372036854775807) (f : Nat) (hf : f < 64) (hca : c.a = f) (h4 : f / 4 % 2 = 0) (h1 : f % 2 = 1) (hkd : ¬ (statT K.σ no).kind = 2) (hm4 : mayR K.σ no 4 = false) :
    Calls Tryz.prog 56 #[ptrAt a, .int .i64 no] w fun e w' => e = .returned (.int .i64 13) ∧ Fr (fun _ => False) w w' := by
  obtain ⟨p, hA⟩ := h.files
  have hstat := Stat_any w L.f K.σ (L.S tFil w) p hA hcap no (by omega)
  have c0 : w.cell? ⟨a, 0, none⟩ = some (.pointer (some ⟨k, 0, none⟩)) := by rw [blk_cell ha]; rfl
  have c00 : w.cell? ⟨k, 0, none⟩ = some (.pointer (some ⟨L.f, 0, none⟩)) := by rw [blk_cell h.hk]; rfl
  have hw2 : ∀ w2, Fr (fun _ => False) w w2 → (∀ o, (w2.alloc o).cell? ⟨a, 3, none⟩ = some (.int .i64 f)) ∧ (∀ (kk : Int) o, -9223372036854775808 ≤ kk ∧ kk ≤ 9223372036854775807 → Calls Tryz.prog 64 #[.pointer (some ⟨L.f, 0, none⟩), .int .i64 no, .int .i64 kk] (w2.alloc o) fun e w' => e = .returned (.bool (mayR K.σ no kk)) ∧ w' = w2.alloc o) := fun w2 hf2 => by
    have ha2 : ∀ o, AskAt (w2.alloc o) a k q c r := fun o => (hf2.alloc o).get ha (fun e => e)
    have hA2 := fun o => hA.frame (hf2.alloc o) (fun _ _ _ e => e)
    exact ⟨fun o => by rw [blk_cell (ha2 o), ← hca]; rfl, fun kk o hk => May_any _ _ _ _ _ (hA2 o) no kk (by omega) hk⟩
  have g1 : bits .and .i64 (f : Int) 1 = ((f % 2 : Nat) : Int) := and_fact1 ⟨f, hf⟩
  have g2 : bits .and .i64 (f : Int) 2 = ((f / 2 % 2 * 2 : Nat) : Int) := and_fact2 ⟨f, hf⟩
  have g4 : bits .and .i64 (f : Int) 4 = ((f / 4 % 2 * 4 : Nat) : Int) := and_fact4 ⟨f, hf⟩
  have g8 : bits .and .i64 (f : Int) 8 = ((f / 8 % 2 * 8 : Nat) : Int) := and_fact8 ⟨f, hf⟩
  obtain ⟨st, hst⟩ : ∃ st, st = statT K.σ no := ⟨_, rfl⟩
  rw [← hst] at hstat
  rw [← hst] at hkd
  rw [h4] at g4
  rw [h1] at g1
  have Hm4 := hide hm4
  clear hst
  clear hm4
  have Hstat := hide hstat
  have Hw2 := hide hw2
  clear h ha hA hstat hw2 hcap hca
  unfold ptrAt
  go_enter Tryz.func56, Tryz.ntmps56
  go_wp2_with fail
  refine Hstat.out.mono ?_
  rintro e w2 ⟨rfl, hf2⟩
  obtain ⟨d3, hmm⟩ := Hw2.out w2 hf2
  have d3 := d3 (.cells #[.int .i64 st.ino, .int .i64 st.kind, .int .i64 st.mode, .int .i64 st.links, .int .i64 st.size] 28 (0, 0))
  have Hm := hide hmm
  have Hfr := hide (fun o => hf2.alloc o)
  unfold stV
  clear hf2 hmm Hstat Hw2
  go_wp2_with (go_at_call 64; refine (Hm.out _ _ (by decide)).mono ?_; rintro e w3 ⟨rfl, rfl⟩; first | rw [Hm4.out])
  go_ret
  exact ⟨rfl, Hfr.out _⟩
set_option maxRecDepth 100000 in
set_option maxHeartbeats 1000000 in
theorem afound_w1a (w : World) (k : Nat) (K : KQ) (L : KLay) (h : KF w k K L) (hcap : CapB K.σ) (q a : Nat) (c : SysQ) (r : ResV) (ha : AskAt w a k q c r) (no : Nat) (hno : no ≤ 9223372036854775807) (f : Nat) (hf : f < 64) (hca : c.a = f) (h4 : f / 4 % 2 = 0) (h1 : f % 2 = 0) (h2 : f / 2 % 2 = 1) (hkd : ¬ (statT K.σ no).kind = 2) (hm2 : mayR K.σ no 2 = false) :
    Calls Tryz.prog 56 #[ptrAt a, .int .i64 no] w fun e w' => e = .returned (.int .i64 13) ∧ Fr (fun _ => False) w w' := by
  obtain ⟨p, hA⟩ := h.files
  have hstat := Stat_any w L.f K.σ (L.S tFil w) p hA hcap no (by omega)
  have c0 : w.cell? ⟨a, 0, none⟩ = some (.pointer (some ⟨k, 0, none⟩)) := by rw [blk_cell ha]; rfl
  have c00 : w.cell? ⟨k, 0, none⟩ = some (.pointer (some ⟨L.f, 0, none⟩)) := by rw [blk_cell h.hk]; rfl
  have hw2 : ∀ w2, Fr (fun _ => False) w w2 → (∀ o, (w2.alloc o).cell? ⟨a, 3, none⟩ = some (.int .i64 f)) ∧ (∀ (kk : Int) o, -9223372036854775808 ≤ kk ∧ kk ≤ 9223372036854775807 → Calls Tryz.prog 64 #[.pointer (some ⟨L.f, 0, none⟩), .int .i64 no, .int .i64 kk] (w2.alloc o) fun e w' => e = .returned (.bool (mayR K.σ no kk)) ∧ w' = w2.alloc o) := fun w2 hf2 => by
    have ha2 : ∀ o, AskAt (w2.alloc o) a k q c r := fun o => (hf2.alloc o).get ha (fun e => e)
    have hA2 := fun o => hA.frame (hf2.alloc o) (fun _ _ _ e => e)
    exact ⟨fun o => by rw [blk_cell (ha2 o), ← hca]; rfl, fun kk o hk => May_any _ _ _ _ _ (hA2 o) no kk (by omega) hk⟩
  have g1 : bits .and .i64 (f : Int) 1 = ((f % 2 : Nat) : Int) := and_fact1 ⟨f, hf⟩
  have g2 : bits .and .i64 (f : Int) 2 = ((f / 2 % 2 * 2 : Nat) : Int) := and_fact2 ⟨f, hf⟩
  have g4 : bits .and .i64 (f : Int) 4 = ((f / 4 % 2 * 4 : Nat) : Int) := and_fact4 ⟨f, hf⟩
  have g8 : bits .and .i64 (f : Int) 8 = ((f / 8 % 2 * 8 : Nat) : Int) := and_fact8 ⟨f, hf⟩
  obtain ⟨st, hst⟩ : ∃ st, st = statT K.σ no := ⟨_, rfl⟩
  rw [← hst] at hstat
  rw [← hst] at hkd
  rw [h4] at g4
  rw [h1] at g1
  rw [h2] at g2
  have Hm2 := hide hm2
  clear hst
  clear hm2
  have Hstat := hide hstat
  have Hw2 := hide hw2
  clear h ha hA hstat hw2 hcap hca
  unfold ptrAt
  go_enter Tryz.func56, Tryz.ntmps56
  go_wp2_with fail
  refine Hstat.out.mono ?_
  rintro e w2 ⟨rfl, hf2⟩
  obtain ⟨d3, hmm⟩ := Hw2.out w2 hf2
  have d3 := d3 (.cells #[.int .i64 st.ino, .int .i64 st.kind, .int .i64 st.mode, .int .i64 st.links, .int .i64 st.size] 28 (0, 0))
  have Hm := hide hmm
  have Hfr := hide (fun o => hf2.alloc o)
  unfold stV
  clear hf2 hmm Hstat Hw2
  go_wp2_with (go_at_call 64; refine (Hm.out _ _ (by decide)).mono ?_; rintro e w3 ⟨rfl, rfl⟩; first | rw [Hm2.out])
  go_ret
  exact ⟨rfl, Hfr.out _⟩
set_option maxRecDepth 100000 in
set_option maxHeartbeats 1000000 in
theorem afound_o1a (w : World) (k : Nat) (K : KQ) (L : KLay) (h : KF w k K L) (hcap : CapB K.σ) (q a : Nat) (c : SysQ) (r : ResV) (ha : AskAt w a k q c r) (no : Nat) (hno : no ≤ 9223372036854775807) (f : Nat) (hf : f < 64) (hca : c.a = f) (h4 : f / 4 % 2 = 0) (h1 : f % 2 = 0) (h2 : f / 2 % 2 = 0) (hkd : ¬ (statT K.σ no).kind = 2) :
    Calls Tryz.prog 56 #[ptrAt a, .int .i64 no] w fun e w' => e = .returned (.int .i64 0) ∧ Fr (fun _ => False) w w' := by
  obtain ⟨p, hA⟩ := h.files
  have hstat := Stat_any w L.f K.σ (L.S tFil w) p hA hcap no (by omega)
  have c0 : w.cell? ⟨a, 0, none⟩ = some (.pointer (some ⟨k, 0, none⟩)) := by rw [blk_cell ha]; rfl
  have c00 : w.cell? ⟨k, 0, none⟩ = some (.pointer (some ⟨L.f, 0, none⟩)) := by rw [blk_cell h.hk]; rfl
  have hw2 : ∀ w2, Fr (fun _ => False) w w2 → (∀ o, (w2.alloc o).cell? ⟨a, 3, none⟩ = some (.int .i64 f)) ∧ (∀ (kk : Int) o, -9223372036854775808 ≤ kk ∧ kk ≤ 9223372036854775807 → Calls Tryz.prog 64 #[.pointer (some ⟨L.f, 0, none⟩), .int .i64 no, .int .i64 kk] (w2.alloc o) fun e w' => e = .returned (.bool (mayR K.σ no kk)) ∧ w' = w2.alloc o) := fun w2 hf2 => by
    have ha2 : ∀ o, AskAt (w2.alloc o) a k q c r := fun o => (hf2.alloc o).get ha (fun e => e)
    have hA2 := fun o => hA.frame (hf2.alloc o) (fun _ _ _ e => e)
    exact ⟨fun o => by rw [blk_cell (ha2 o), ← hca]; rfl, fun kk o hk => May_any _ _ _ _ _ (hA2 o) no kk (by omega) hk⟩
  have g1 : bits .and .i64 (f : Int) 1 = ((f % 2 : Nat) : Int) := and_fact1 ⟨f, hf⟩
  have g2 : bits .and .i64 (f : Int) 2 = ((f / 2 % 2 * 2 : Nat) : Int) := and_fact2 ⟨f, hf⟩
  have g4 : bits .and .i64 (f : Int) 4 = ((f / 4 % 2 * 4 : Nat) : Int) := and_fact4 ⟨f, hf⟩
  have g8 : bits .and .i64 (f : Int) 8 = ((f / 8 % 2 * 8 : Nat) : Int) := and_fact8 ⟨f, hf⟩
  obtain ⟨st, hst⟩ : ∃ st, st = statT K.σ no := ⟨_, rfl⟩
  rw [← hst] at hstat
  rw [← hst] at hkd
  rw [h4] at g4
  rw [h1] at g1
  rw [h2] at g2
  clear hst
  have Hstat := hide hstat
  have Hw2 := hide hw2
  clear h ha hA hstat hw2 hcap hca
  unfold ptrAt
  go_enter Tryz.func56, Tryz.ntmps56
  go_wp2_with fail
  refine Hstat.out.mono ?_
  rintro e w2 ⟨rfl, hf2⟩
  obtain ⟨d3, hmm⟩ := Hw2.out w2 hf2
  have d3 := d3 (.cells #[.int .i64 st.ino, .int .i64 st.kind, .int .i64 st.mode, .int .i64 st.links, .int .i64 st.size] 28 (0, 0))
  have Hm := hide hmm
  have Hfr := hide (fun o => hf2.alloc o)
  unfold stV
  clear hf2 hmm Hstat Hw2
  go_wp2_with (go_at_call 64; refine (Hm.out _ _ (by decide)).mono ?_; rintro e w3 ⟨rfl, rfl⟩; skip)
  go_ret
  exact ⟨rfl, Hfr.out _⟩
set_option maxRecDepth 100000 in
set_option maxHeartbeats 1000000 in
theorem afound_p1a (w : World) (k : Nat) (K : KQ) (L : KLay) (h : KF w k K L) (hcap : CapB K.σ) (q a : Nat) (c : SysQ) (r : ResV) (ha : AskAt w a k q c r) (no : Nat) (hno : no ≤ 9223372036854775807) (f : Nat) (hf : f < 64) (hca : c.a = f) (h4 : f / 4 % 2 = 0) (h1 : f % 2 = 0) (h2 : f / 2 % 2 = 1) (hkd : ¬ (statT K.σ no).kind = 2) (hm2 : mayR K.σ no 2 = true) :
    Calls Tryz.prog 56 #[ptrAt a, .int .i64 no] w fun e w' => e = .returned (.int .i64 0) ∧ Fr (fun _ => False) w w' := by
  obtain ⟨p, hA⟩ := h.files
  have hstat := Stat_any w L.f K.σ (L.S tFil w) p hA hcap no (by omega)
  have c0 : w.cell? ⟨a, 0, none⟩ = some (.pointer (some ⟨k, 0, none⟩)) := by rw [blk_cell ha]; rfl
  have c00 : w.cell? ⟨k, 0, none⟩ = some (.pointer (some ⟨L.f, 0, none⟩)) := by rw [blk_cell h.hk]; rfl
  have hw2 : ∀ w2, Fr (fun _ => False) w w2 → (∀ o, (w2.alloc o).cell? ⟨a, 3, none⟩ = some (.int .i64 f)) ∧ (∀ (kk : Int) o, -9223372036854775808 ≤ kk ∧ kk ≤ 9223372036854775807 → Calls Tryz.prog 64 #[.pointer (some ⟨L.f, 0, none⟩), .int .i64 no, .int .i64 kk] (w2.alloc o) fun e w' => e = .returned (.bool (mayR K.σ no kk)) ∧ w' = w2.alloc o) := fun w2 hf2 => by
    have ha2 : ∀ o, AskAt (w2.alloc o) a k q c r := fun o => (hf2.alloc o).get ha (fun e => e)
    have hA2 := fun o => hA.frame (hf2.alloc o) (fun _ _ _ e => e)
    exact ⟨fun o => by rw [blk_cell (ha2 o), ← hca]; rfl, fun kk o hk => May_any _ _ _ _ _ (hA2 o) no kk (by omega) hk⟩
  have g1 : bits .and .i64 (f : Int) 1 = ((f % 2 : Nat) : Int) := and_fact1 ⟨f, hf⟩
  have g2 : bits .and .i64 (f : Int) 2 = ((f / 2 % 2 * 2 : Nat) : Int) := and_fact2 ⟨f, hf⟩
  have g4 : bits .and .i64 (f : Int) 4 = ((f / 4 % 2 * 4 : Nat) : Int) := and_fact4 ⟨f, hf⟩
  have g8 : bits .and .i64 (f : Int) 8 = ((f / 8 % 2 * 8 : Nat) : Int) := and_fact8 ⟨f, hf⟩
  obtain ⟨st, hst⟩ : ∃ st, st = statT K.σ no := ⟨_, rfl⟩
  rw [← hst] at hstat
  rw [← hst] at hkd
  rw [h4] at g4
  rw [h1] at g1
  rw [h2] at g2
  have Hm2 := hide hm2
  clear hst
  clear hm2
  have Hstat := hide hstat
  have Hw2 := hide hw2
  clear h ha hA hstat hw2 hcap hca
  unfold ptrAt
  go_enter Tryz.func56, Tryz.ntmps56
  go_wp2_with fail
  refine Hstat.out.mono ?_
  rintro e w2 ⟨rfl, hf2⟩
  obtain ⟨d3, hmm⟩ := Hw2.out w2 hf2
  have d3 := d3 (.cells #[.int .i64 st.ino, .int .i64 st.kind, .int .i64 st.mode, .int .i64 st.links, .int .i64 st.size] 28 (0, 0))
  have Hm := hide hmm
  have Hfr := hide (fun o => hf2.alloc o)
  unfold stV
  clear hf2 hmm Hstat Hw2
  go_wp2_with (go_at_call 64; refine (Hm.out _ _ (by decide)).mono ?_; rintro e w3 ⟨rfl, rfl⟩; first | rw [Hm2.out])
  go_ret
  exact ⟨rfl, Hfr.out _⟩
set_option maxRecDepth 100000 in
set_option maxHeartbeats 1000000 in
theorem afound_w1b (w : World) (k : Nat) (K : KQ) (L : KLay) (h : KF w k K L) (hcap : CapB K.σ) (q a : Nat) (c : SysQ) (r : ResV) (ha : AskAt w a k q c r) (no : Nat) (hno : no ≤ 9223372036854775807) (f : Nat) (hf : f < 64) (hca : c.a = f) (h4 : f / 4 % 2 = 0) (h1 : f % 2 = 1) (h2 : f / 2 % 2 = 1) (hkd : ¬ (statT K.σ no).kind = 2) (hm4 : mayR K.σ no 4 = true) (hm2 : mayR K.σ no 2 = false) :
    Calls Tryz.prog 56 #[ptrAt a, .int .i64 no] w fun e w' => e = .returned (.int .i64 13) ∧ Fr (fun _ => False) w w' := by
  obtain ⟨p, hA⟩ := h.files
  have hstat := Stat_any w L.f K.σ (L.S tFil w) p hA hcap no (by omega)
  have c0 : w.cell? ⟨a, 0, none⟩ = some (.pointer (some ⟨k, 0, none⟩)) := by rw [blk_cell ha]; rfl
  have c00 : w.cell? ⟨k, 0, none⟩ = some (.pointer (some ⟨L.f, 0, none⟩)) := by rw [blk_cell h.hk]; rfl
  have hw2 : ∀ w2, Fr (fun _ => False) w w2 → (∀ o, (w2.alloc o).cell? ⟨a, 3, none⟩ = some (.int .i64 f)) ∧ (∀ (kk : Int) o, -9223372036854775808 ≤ kk ∧ kk ≤ 9223372036854775807 → Calls Tryz.prog 64 #[.pointer (some ⟨L.f, 0, none⟩), .int .i64 no, .int .i64 kk] (w2.alloc o) fun e w' => e = .returned (.bool (mayR K.σ no kk)) ∧ w' = w2.alloc o) := fun w2 hf2 => by
    have ha2 : ∀ o, AskAt (w2.alloc o) a k q c r := fun o => (hf2.alloc o).get ha (fun e => e)
    have hA2 := fun o => hA.frame (hf2.alloc o) (fun _ _ _ e => e)
    exact ⟨fun o => by rw [blk_cell (ha2 o), ← hca]; rfl, fun kk o hk => May_any _ _ _ _ _ (hA2 o) no kk (by omega) hk⟩
  have g1 : bits .and .i64 (f : Int) 1 = ((f % 2 : Nat) : Int) := and_fact1 ⟨f, hf⟩
  have g2 : bits .and .i64 (f : Int) 2 = ((f / 2 % 2 * 2 : Nat) : Int) := and_fact2 ⟨f, hf⟩
  have g4 : bits .and .i64 (f : Int) 4 = ((f / 4 % 2 * 4 : Nat) : Int) := and_fact4 ⟨f, hf⟩
  have g8 : bits .and .i64 (f : Int) 8 = ((f / 8 % 2 * 8 : Nat) : Int) := and_fact8 ⟨f, hf⟩
  obtain ⟨st, hst⟩ : ∃ st, st = statT K.σ no := ⟨_, rfl⟩
  rw [← hst] at hstat
  rw [← hst] at hkd
  rw [h4] at g4
  rw [h1] at g1
  rw [h2] at g2
  have Hm4 := hide hm4
  have Hm2 := hide hm2
  clear hst
  clear hm4 hm2
  have Hstat := hide hstat
  have Hw2 := hide hw2
  clear h ha hA hstat hw2 hcap hca
  unfold ptrAt
  go_enter Tryz.func56, Tryz.ntmps56
  go_wp2_with fail
  refine Hstat.out.mono ?_
  rintro e w2 ⟨rfl, hf2⟩
  obtain ⟨d3, hmm⟩ := Hw2.out w2 hf2
  have d3 := d3 (.cells #[.int .i64 st.ino, .int .i64 st.kind, .int .i64 st.mode, .int .i64 st.links, .int .i64 st.size] 28 (0, 0))
  have Hm := hide hmm
  have Hfr := hide (fun o => hf2.alloc o)
  unfold stV
  clear hf2 hmm Hstat Hw2
  go_wp2_with (go_at_call 64; refine (Hm.out _ _ (by decide)).mono ?_; rintro e w3 ⟨rfl, rfl⟩; first | rw [Hm4.out] | rw [Hm2.out])
  go_ret
  exact ⟨rfl, Hfr.out _⟩
set_option maxRecDepth 100000 in
set_option maxHeartbeats 1000000 in
theorem afound_o1b (w : World) (k : Nat) (K : KQ) (L : KLay) (h : KF w k K L) (hcap : CapB K.σ) (q a : Nat) (c : SysQ) (r : ResV) (ha : AskAt w a k q c r) (no : Nat) (hno : no ≤ 9223372036854775807) (f : Nat) (hf : f < 64) (hca : c.a = f) (h4 : f / 4 % 2 = 0) (h1 : f % 2 = 1) (h2 : f / 2 % 2 = 0) (hkd : ¬ (statT K.σ no).kind = 2) (hm4 : mayR K.σ no 4 = true) :
    Calls Tryz.prog 56 #[ptrAt a, .int .i64 no] w fun e w' => e = .returned (.int .i64 0) ∧ Fr (fun _ => False) w w' := by
  obtain ⟨p, hA⟩ := h.files
  have hstat := Stat_any w L.f K.σ (L.S tFil w) p hA hcap no (by omega)
  have c0 : w.cell? ⟨a, 0, none⟩ = some (.pointer (some ⟨k, 0, none⟩)) := by rw [blk_cell ha]; rfl
  have c00 : w.cell? ⟨k, 0, none⟩ = some (.pointer (some ⟨L.f, 0, none⟩)) := by rw [blk_cell h.hk]; rfl
  have hw2 : ∀ w2, Fr (fun _ => False) w w2 → (∀ o, (w2.alloc o).cell? ⟨a, 3, none⟩ = some (.int .i64 f)) ∧ (∀ (kk : Int) o, -9223372036854775808 ≤ kk ∧ kk ≤ 9223372036854775807 → Calls Tryz.prog 64 #[.pointer (some ⟨L.f, 0, none⟩), .int .i64 no, .int .i64 kk] (w2.alloc o) fun e w' => e = .returned (.bool (mayR K.σ no kk)) ∧ w' = w2.alloc o) := fun w2 hf2 => by
    have ha2 : ∀ o, AskAt (w2.alloc o) a k q c r := fun o => (hf2.alloc o).get ha (fun e => e)
    have hA2 := fun o => hA.frame (hf2.alloc o) (fun _ _ _ e => e)
    exact ⟨fun o => by rw [blk_cell (ha2 o), ← hca]; rfl, fun kk o hk => May_any _ _ _ _ _ (hA2 o) no kk (by omega) hk⟩
  have g1 : bits .and .i64 (f : Int) 1 = ((f % 2 : Nat) : Int) := and_fact1 ⟨f, hf⟩
  have g2 : bits .and .i64 (f : Int) 2 = ((f / 2 % 2 * 2 : Nat) : Int) := and_fact2 ⟨f, hf⟩
  have g4 : bits .and .i64 (f : Int) 4 = ((f / 4 % 2 * 4 : Nat) : Int) := and_fact4 ⟨f, hf⟩
  have g8 : bits .and .i64 (f : Int) 8 = ((f / 8 % 2 * 8 : Nat) : Int) := and_fact8 ⟨f, hf⟩
  obtain ⟨st, hst⟩ : ∃ st, st = statT K.σ no := ⟨_, rfl⟩
  rw [← hst] at hstat
  rw [← hst] at hkd
  rw [h4] at g4
  rw [h1] at g1
  rw [h2] at g2
  have Hm4 := hide hm4
  clear hst
  clear hm4
  have Hstat := hide hstat
  have Hw2 := hide hw2
  clear h ha hA hstat hw2 hcap hca
  unfold ptrAt
  go_enter Tryz.func56, Tryz.ntmps56
  go_wp2_with fail
  refine Hstat.out.mono ?_
  rintro e w2 ⟨rfl, hf2⟩
  obtain ⟨d3, hmm⟩ := Hw2.out w2 hf2
  have d3 := d3 (.cells #[.int .i64 st.ino, .int .i64 st.kind, .int .i64 st.mode, .int .i64 st.links, .int .i64 st.size] 28 (0, 0))
  have Hm := hide hmm
  have Hfr := hide (fun o => hf2.alloc o)
  unfold stV
  clear hf2 hmm Hstat Hw2
  go_wp2_with (go_at_call 64; refine (Hm.out _ _ (by decide)).mono ?_; rintro e w3 ⟨rfl, rfl⟩; first | rw [Hm4.out])
  go_ret
  exact ⟨rfl, Hfr.out _⟩
set_option maxRecDepth 100000 in
set_option maxHeartbeats 1000000 in
theorem afound_p1b (w : World) (k : Nat) (K : KQ) (L : KLay) (h : KF w k K L) (hcap : CapB K.σ) (q a : Nat) (c : SysQ) (r : ResV) (ha : AskAt w a k q c r) (no : Nat) (hno : no ≤ 9223372036854775807) (f : Nat) (hf : f < 64) (hca : c.a = f) (h4 : f / 4 % 2 = 0) (h1 : f % 2 = 1) (h2 : f / 2 % 2 = 1) (hkd : ¬ (statT K.σ no).kind = 2) (hm4 : mayR K.σ no 4 = true) (hm2 : mayR K.σ no 2 = true) :
    Calls Tryz.prog 56 #[ptrAt a, .int .i64 no] w fun e w' => e = .returned (.int .i64 0) ∧ Fr (fun _ => False) w w' := by
  obtain ⟨p, hA⟩ := h.files
  have hstat := Stat_any w L.f K.σ (L.S tFil w) p hA hcap no (by omega)
  have c0 : w.cell? ⟨a, 0, none⟩ = some (.pointer (some ⟨k, 0, none⟩)) := by rw [blk_cell ha]; rfl
  have c00 : w.cell? ⟨k, 0, none⟩ = some (.pointer (some ⟨L.f, 0, none⟩)) := by rw [blk_cell h.hk]; rfl
  have hw2 : ∀ w2, Fr (fun _ => False) w w2 → (∀ o, (w2.alloc o).cell? ⟨a, 3, none⟩ = some (.int .i64 f)) ∧ (∀ (kk : Int) o, -9223372036854775808 ≤ kk ∧ kk ≤ 9223372036854775807 → Calls Tryz.prog 64 #[.pointer (some ⟨L.f, 0, none⟩), .int .i64 no, .int .i64 kk] (w2.alloc o) fun e w' => e = .returned (.bool (mayR K.σ no kk)) ∧ w' = w2.alloc o) := fun w2 hf2 => by
    have ha2 : ∀ o, AskAt (w2.alloc o) a k q c r := fun o => (hf2.alloc o).get ha (fun e => e)
    have hA2 := fun o => hA.frame (hf2.alloc o) (fun _ _ _ e => e)
    exact ⟨fun o => by rw [blk_cell (ha2 o), ← hca]; rfl, fun kk o hk => May_any _ _ _ _ _ (hA2 o) no kk (by omega) hk⟩
  have g1 : bits .and .i64 (f : Int) 1 = ((f % 2 : Nat) : Int) := and_fact1 ⟨f, hf⟩
  have g2 : bits .and .i64 (f : Int) 2 = ((f / 2 % 2 * 2 : Nat) : Int) := and_fact2 ⟨f, hf⟩
  have g4 : bits .and .i64 (f : Int) 4 = ((f / 4 % 2 * 4 : Nat) : Int) := and_fact4 ⟨f, hf⟩
  have g8 : bits .and .i64 (f : Int) 8 = ((f / 8 % 2 * 8 : Nat) : Int) := and_fact8 ⟨f, hf⟩
  obtain ⟨st, hst⟩ : ∃ st, st = statT K.σ no := ⟨_, rfl⟩
  rw [← hst] at hstat
  rw [← hst] at hkd
  rw [h4] at g4
  rw [h1] at g1
  rw [h2] at g2
  have Hm4 := hide hm4
  have Hm2 := hide hm2
  clear hst
  clear hm4 hm2
  have Hstat := hide hstat
  have Hw2 := hide hw2
  clear h ha hA hstat hw2 hcap hca
  unfold ptrAt
  go_enter Tryz.func56, Tryz.ntmps56
  go_wp2_with fail
  refine Hstat.out.mono ?_
  rintro e w2 ⟨rfl, hf2⟩
  obtain ⟨d3, hmm⟩ := Hw2.out w2 hf2
  have d3 := d3 (.cells #[.int .i64 st.ino, .int .i64 st.kind, .int .i64 st.mode, .int .i64 st.links, .int .i64 st.size] 28 (0, 0))
  have Hm := hide hmm
  have Hfr := hide (fun o => hf2.alloc o)
  unfold stV
  clear hf2 hmm Hstat Hw2
  go_wp2_with (go_at_call 64; refine (Hm.out _ _ (by decide)).mono ?_; rintro e w3 ⟨rfl, rfl⟩; first | rw [Hm4.out] | rw [Hm2.out])
  go_ret
  exact ⟨rfl, Hfr.out _⟩
set_option maxRecDepth 100000 in
set_option maxHeartbeats 1000000 in
theorem afound_dir2 (w : World) (k : Nat) (K : KQ) (L : KLay) (h : KF w k K L) (hcap : CapB K.σ) (q a : Nat) (c : SysQ) (r : ResV) (ha : AskAt w a k q c r) (no : Nat) (hno : no ≤ 9223372036854775807) (f : Nat) (hf : f < 64) (hca : c.a = f) (h4 : f / 4 % 2 = 1) (h8 : f / 8 % 2 = 0) (hkd : (statT K.σ no).kind = 2) :
    Calls Tryz.prog 56 #[ptrAt a, .int .i64 no] w fun e w' => e = .returned (.int .i64 21) ∧ Fr (fun _ => False) w w' := by
  obtain ⟨p, hA⟩ := h.files
  have hstat := Stat_any w L.f K.σ (L.S tFil w) p hA hcap no (by omega)
  have c0 : w.cell? ⟨a, 0, none⟩ = some (.pointer (some ⟨k, 0, none⟩)) := by rw [blk_cell ha]; rfl
  have c00 : w.cell? ⟨k, 0, none⟩ = some (.pointer (some ⟨L.f, 0, none⟩)) := by rw [blk_cell h.hk]; rfl
  have hw2 : ∀ w2, Fr (fun _ => False) w w2 → (∀ o, (w2.alloc o).cell? ⟨a, 3, none⟩ = some (.int .i64 f)) ∧ (∀ (kk : Int) o, -9223372036854775808 ≤ kk ∧ kk ≤ 9223372036854775807 → Calls Tryz.prog 64 #[.pointer (some ⟨L.f, 0, none⟩), .int .i64 no, .int .i64 kk] (w2.alloc o) fun e w' => e = .returned (.bool (mayR K.σ no kk)) ∧ w' = w2.alloc o) := fun w2 hf2 => by
    have ha2 : ∀ o, AskAt (w2.alloc o) a k q c r := fun o => (hf2.alloc o).get ha (fun e => e)
    have hA2 := fun o => hA.frame (hf2.alloc o) (fun _ _ _ e => e)
    exact ⟨fun o => by rw [blk_cell (ha2 o), ← hca]; rfl, fun kk o hk => May_any _ _ _ _ _ (hA2 o) no kk (by omega) hk⟩
  have g1 : bits .and .i64 (f : Int) 1 = ((f % 2 : Nat) : Int) := and_fact1 ⟨f, hf⟩
  have g2 : bits .and .i64 (f : Int) 2 = ((f / 2 % 2 * 2 : Nat) : Int) := and_fact2 ⟨f, hf⟩
  have g4 : bits .and .i64 (f : Int) 4 = ((f / 4 % 2 * 4 : Nat) : Int) := and_fact4 ⟨f, hf⟩
  have g8 : bits .and .i64 (f : Int) 8 = ((f / 8 % 2 * 8 : Nat) : Int) := and_fact8 ⟨f, hf⟩
  obtain ⟨st, hst⟩ : ∃ st, st = statT K.σ no := ⟨_, rfl⟩
  rw [← hst] at hstat
  rw [← hst] at hkd
  rw [h4] at g4
  rw [h8] at g8
  clear hst
  have Hstat := hide hstat
  have Hw2 := hide hw2
  clear h ha hA hstat hw2 hcap hca
  unfold ptrAt
  go_enter Tryz.func56, Tryz.ntmps56
  go_wp2_with fail
  refine Hstat.out.mono ?_
  rintro e w2 ⟨rfl, hf2⟩
  obtain ⟨d3, hmm⟩ := Hw2.out w2 hf2
  have d3 := d3 (.cells #[.int .i64 st.ino, .int .i64 st.kind, .int .i64 st.mode, .int .i64 st.links, .int .i64 st.size] 28 (0, 0))
  have Hm := hide hmm
  have Hfr := hide (fun o => hf2.alloc o)
  unfold stV
  clear hf2 hmm Hstat Hw2
  go_wp2_with (go_at_call 64; refine (Hm.out _ _ (by decide)).mono ?_; rintro e w3 ⟨rfl, rfl⟩; skip)
  go_ret
  exact ⟨rfl, Hfr.out _⟩
set_option maxRecDepth 100000 in
set_option maxHeartbeats 1000000 in
theorem afound_r2 (w : World) (k : Nat) (K : KQ) (L : KLay) (h : KF w k K L) (hcap : CapB K.σ) (q a : Nat) (c : SysQ) (r : ResV) (ha : AskAt w a k q c r) (no : Nat) (hno : no ≤ 9223372036854775807) (f : Nat) (hf : f < 64) (hca : c.a = f) (h4 : f / 4 % 2 = 1) (h8 : f / 8 % 2 = 0) (h1 : f % 2 = 1) (hkd : ¬ (statT K.σ no).kind = 2) (hm4 : mayR K.σ no 4 = false) :
    Calls Tryz.prog 56 #[ptrAt a, .int .i64 no] w fun e w' => e = .returned (.int .i64 13) ∧ Fr (fun _ => False) w w' := by
  obtain ⟨p, hA⟩ := h.files
  have hstat := Stat_any w L.f K.σ (L.S tFil w) p hA hcap no (by omega)
  have c0 : w.cell? ⟨a, 0, none⟩ = some (.pointer (some ⟨k, 0, none⟩)) := by rw [blk_cell ha]; rfl
  have c00 : w.cell? ⟨k, 0, none⟩ = some (.pointer (some ⟨L.f, 0, none⟩)) := by rw [blk_cell h.hk]; rfl
  have hw2 : ∀ w2, Fr (fun _ => False) w w2 → (∀ o, (w2.alloc o).cell? ⟨a, 3, none⟩ = some (.int .i64 f)) ∧ (∀ (kk : Int) o, -9223372036854775808 ≤ kk ∧ kk ≤ 9223372036854775807 → Calls Tryz.prog 64 #[.pointer (some ⟨L.f, 0, none⟩), .int .i64 no, .int .i64 kk] (w2.alloc o) fun e w' => e = .returned (.bool (mayR K.σ no kk)) ∧ w' = w2.alloc o) := fun w2 hf2 => by
    have ha2 : ∀ o, AskAt (w2.alloc o) a k q c r := fun o => (hf2.alloc o).get ha (fun e => e)
    have hA2 := fun o => hA.frame (hf2.alloc o) (fun _ _ _ e => e)
    exact ⟨fun o => by rw [blk_cell (ha2 o), ← hca]; rfl, fun kk o hk => May_any _ _ _ _ _ (hA2 o) no kk (by omega) hk⟩
  have g1 : bits .and .i64 (f : Int) 1 = ((f % 2 : Nat) : Int) := and_fact1 ⟨f, hf⟩
  have g2 : bits .and .i64 (f : Int) 2 = ((f / 2 % 2 * 2 : Nat) : Int) := and_fact2 ⟨f, hf⟩
  have g4 : bits .and .i64 (f : Int) 4 = ((f / 4 % 2 * 4 : Nat) : Int) := and_fact4 ⟨f, hf⟩
  have g8 : bits .and .i64 (f : Int) 8 = ((f / 8 % 2 * 8 : Nat) : Int) := and_fact8 ⟨f, hf⟩
  obtain ⟨st, hst⟩ : ∃ st, st = statT K.σ no := ⟨_, rfl⟩
  rw [← hst] at hstat
  rw [← hst] at hkd
  rw [h4] at g4
  rw [h8] at g8
  rw [h1] at g1
  have Hm4 := hide hm4
  clear hst
  clear hm4
  have Hstat := hide hstat
  have Hw2 := hide hw2
  clear h ha hA hstat hw2 hcap hca
  unfold ptrAt
  go_enter Tryz.func56, Tryz.ntmps56
  go_wp2_with fail
  refine Hstat.out.mono ?_
  rintro e w2 ⟨rfl, hf2⟩
  obtain ⟨d3, hmm⟩ := Hw2.out w2 hf2
  have d3 := d3 (.cells #[.int .i64 st.ino, .int .i64 st.kind, .int .i64 st.mode, .int .i64 st.links, .int .i64 st.size] 28 (0, 0))
  have Hm := hide hmm
  have Hfr := hide (fun o => hf2.alloc o)
  unfold stV
  clear hf2 hmm Hstat Hw2
  go_wp2_with (go_at_call 64; refine (Hm.out _ _ (by decide)).mono ?_; rintro e w3 ⟨rfl, rfl⟩; first | rw [Hm4.out])
  go_ret
  exact ⟨rfl, Hfr.out _⟩
set_option maxRecDepth 100000 in
set_option maxHeartbeats 1000000 in
theorem afound_w2a (w : World) (k : Nat) (K : KQ) (L : KLay) (h : KF w k K L) (hcap : CapB K.σ) (q a : Nat) (c : SysQ) (r : ResV) (ha : AskAt w a k q c r) (no : Nat) (hno : no ≤ 9223372036854775807) (f : Nat) (hf : f < 64) (hca : c.a = f) (h4 : f / 4 % 2 = 1) (h8 : f / 8 % 2 = 0) (h1 : f % 2 = 0) (h2 : f / 2 % 2 = 1) (hkd : ¬ (statT K.σ no).kind = 2) (hm2 : mayR K.σ no 2 = false) :
    Calls Tryz.prog 56 #[ptrAt a, .int .i64 no] w fun e w' => e = .returned (.int .i64 13) ∧ Fr (fun _ => False) w w' := by
  obtain ⟨p, hA⟩ := h.files
  have hstat := Stat_any w L.f K.σ (L.S tFil w) p hA hcap no (by omega)
  have c0 : w.cell? ⟨a, 0, none⟩ = some (.pointer (some ⟨k, 0, none⟩)) := by rw [blk_cell ha]; rfl
  have c00 : w.cell? ⟨k, 0, none⟩ = some (.pointer (some ⟨L.f, 0, none⟩)) := by rw [blk_cell h.hk]; rfl
  have hw2 : ∀ w2, Fr (fun _ => False) w w2 → (∀ o, (w2.alloc o).cell? ⟨a, 3, none⟩ = some (.int .i64 f)) ∧ (∀ (kk : Int) o, -9223372036854775808 ≤ kk ∧ kk ≤ 9223372036854775807 → Calls Tryz.prog 64 #[.pointer (some ⟨L.f, 0, none⟩), .int .i64 no, .int .i64 kk] (w2.alloc o) fun e w' => e = .returned (.bool (mayR K.σ no kk)) ∧ w' = w2.alloc o) := fun w2 hf2 => by
    have ha2 : ∀ o, AskAt (w2.alloc o) a k q c r := fun o => (hf2.alloc o).get ha (fun e => e)
    have hA2 := fun o => hA.frame (hf2.alloc o) (fun _ _ _ e => e)
    exact ⟨fun o => by rw [blk_cell (ha2 o), ← hca]; rfl, fun kk o hk => May_any _ _ _ _ _ (hA2 o) no kk (by omega) hk⟩
  have g1 : bits .and .i64 (f : Int) 1 = ((f % 2 : Nat) : Int) := and_fact1 ⟨f, hf⟩
  have g2 : bits .and .i64 (f : Int) 2 = ((f / 2 % 2 * 2 : Nat) : Int) := and_fact2 ⟨f, hf⟩
  have g4 : bits .and .i64 (f : Int) 4 = ((f / 4 % 2 * 4 : Nat) : Int) := and_fact4 ⟨f, hf⟩
  have g8 : bits .and .i64 (f : Int) 8 = ((f / 8 % 2 * 8 : Nat) : Int) := and_fact8 ⟨f, hf⟩
  obtain ⟨st, hst⟩ : ∃ st, st = statT K.σ no := ⟨_, rfl⟩
  rw [← hst] at hstat
  rw [← hst] at hkd
  rw [h4] at g4
  rw [h8] at g8
  rw [h1] at g1
  rw [h2] at g2
  have Hm2 := hide hm2
  clear hst
  clear hm2
  have Hstat := hide hstat
  have Hw2 := hide hw2
  clear h ha hA hstat hw2 hcap hca
  unfold ptrAt
  go_enter Tryz.func56, Tryz.ntmps56
  go_wp2_with fail
  refine Hstat.out.mono ?_
  rintro e w2 ⟨rfl, hf2⟩
  obtain ⟨d3, hmm⟩ := Hw2.out w2 hf2
  have d3 := d3 (.cells #[.int .i64 st.ino, .int .i64 st.kind, .int .i64 st.mode, .int .i64 st.links, .int .i64 st.size] 28 (0, 0))
  have Hm := hide hmm
  have Hfr := hide (fun o => hf2.alloc o)
  unfold stV
  clear hf2 hmm Hstat Hw2
  go_wp2_with (go_at_call 64; refine (Hm.out _ _ (by decide)).mono ?_; rintro e w3 ⟨rfl, rfl⟩; first | rw [Hm2.out])
  go_ret
  exact ⟨rfl, Hfr.out _⟩
set_option maxRecDepth 100000 in
set_option maxHeartbeats 1000000 in
theorem afound_o2a (w : World) (k : Nat) (K : KQ) (L : KLay) (h : KF w k K L) (hcap : CapB K.σ) (q a : Nat) (c : SysQ) (r : ResV) (ha : AskAt w a k q c r) (no : Nat) (hno : no ≤ 9223372036854775807) (f : Nat) (hf : f < 64) (hca : c.a = f) (h4 : f / 4 % 2 = 1) (h8 : f / 8 % 2 = 0) (h1 : f % 2 = 0) (h2 : f / 2 % 2 = 0) (hkd : ¬ (statT K.σ no).kind = 2) :
    Calls Tryz.prog 56 #[ptrAt a, .int .i64 no] w fun e w' => e = .returned (.int .i64 0) ∧ Fr (fun _ => False) w w' := by
  obtain ⟨p, hA⟩ := h.files
  have hstat := Stat_any w L.f K.σ (L.S tFil w) p hA hcap no (by omega)
  have c0 : w.cell? ⟨a, 0, none⟩ = some (.pointer (some ⟨k, 0, none⟩)) := by rw [blk_cell ha]; rfl
  have c00 : w.cell? ⟨k, 0, none⟩ = some (.pointer (some ⟨L.f, 0, none⟩)) := by rw [blk_cell h.hk]; rfl
  have hw2 : ∀ w2, Fr (fun _ => False) w w2 → (∀ o, (w2.alloc o).cell? ⟨a, 3, none⟩ = some (.int .i64 f)) ∧ (∀ (kk : Int) o, -9223372036854775808 ≤ kk ∧ kk ≤ 9223372036854775807 → Calls Tryz.prog 64 #[.pointer (some ⟨L.f, 0, none⟩), .int .i64 no, .int .i64 kk] (w2.alloc o) fun e w' => e = .returned (.bool (mayR K.σ no kk)) ∧ w' = w2.alloc o) := fun w2 hf2 => by
    have ha2 : ∀ o, AskAt (w2.alloc o) a k q c r := fun o => (hf2.alloc o).get ha (fun e => e)
    have hA2 := fun o => hA.frame (hf2.alloc o) (fun _ _ _ e => e)
    exact ⟨fun o => by rw [blk_cell (ha2 o), ← hca]; rfl, fun kk o hk => May_any _ _ _ _ _ (hA2 o) no kk (by omega) hk⟩
  have g1 : bits .and .i64 (f : Int) 1 = ((f % 2 : Nat) : Int) := and_fact1 ⟨f, hf⟩
  have g2 : bits .and .i64 (f : Int) 2 = ((f / 2 % 2 * 2 : Nat) : Int) := and_fact2 ⟨f, hf⟩
  have g4 : bits .and .i64 (f : Int) 4 = ((f / 4 % 2 * 4 : Nat) : Int) := and_fact4 ⟨f, hf⟩
  have g8 : bits .and .i64 (f : Int) 8 = ((f / 8 % 2 * 8 : Nat) : Int) := and_fact8 ⟨f, hf⟩
  obtain ⟨st, hst⟩ : ∃ st, st = statT K.σ no := ⟨_, rfl⟩
  rw [← hst] at hstat
  rw [← hst] at hkd
  rw [h4] at g4
  rw [h8] at g8
  rw [h1] at g1
  rw [h2] at g2
  clear hst
  have Hstat := hide hstat
  have Hw2 := hide hw2
  clear h ha hA hstat hw2 hcap hca
  unfold ptrAt
  go_enter Tryz.func56, Tryz.ntmps56
  go_wp2_with fail
  refine Hstat.out.mono ?_
  rintro e w2 ⟨rfl, hf2⟩
  obtain ⟨d3, hmm⟩ := Hw2.out w2 hf2
  have d3 := d3 (.cells #[.int .i64 st.ino, .int .i64 st.kind, .int .i64 st.mode, .int .i64 st.links, .int .i64 st.size] 28 (0, 0))
  have Hm := hide hmm
  have Hfr := hide (fun o => hf2.alloc o)
  unfold stV
  clear hf2 hmm Hstat Hw2
  go_wp2_with (go_at_call 64; refine (Hm.out _ _ (by decide)).mono ?_; rintro e w3 ⟨rfl, rfl⟩; skip)
  go_ret
  exact ⟨rfl, Hfr.out _⟩
set_option maxRecDepth 100000 in
set_option maxHeartbeats 1000000 in
theorem afound_p2a (w : World) (k : Nat) (K : KQ) (L : KLay) (h : KF w k K L) (hcap : CapB K.σ) (q a : Nat) (c : SysQ) (r : ResV) (ha : AskAt w a k q c r) (no : Nat) (hno : no ≤ 9223372036854775807) (f : Nat) (hf : f < 64) (hca : c.a = f) (h4 : f / 4 % 2 = 1) (h8 : f / 8 % 2 = 0) (h1 : f % 2 = 0) (h2 : f / 2 % 2 = 1) (hkd : ¬ (statT K.σ no).kind = 2) (hm2 : mayR K.σ no 2 = true) :
    Calls Tryz.prog 56 #[ptrAt a, .int .i64 no] w fun e w' => e = .returned (.int .i64 0) ∧ Fr (fun _ => False) w w' := by
  obtain ⟨p, hA⟩ := h.files
  have hstat := Stat_any w L.f K.σ (L.S tFil w) p hA hcap no (by omega)
  have c0 : w.cell? ⟨a, 0, none⟩ = some (.pointer (some ⟨k, 0, none⟩)) := by rw [blk_cell ha]; rfl
  have c00 : w.cell? ⟨k, 0, none⟩ = some (.pointer (some ⟨L.f, 0, none⟩)) := by rw [blk_cell h.hk]; rfl
  have hw2 : ∀ w2, Fr (fun _ => False) w w2 → (∀ o, (w2.alloc o).cell? ⟨a, 3, none⟩ = some (.int .i64 f)) ∧ (∀ (kk : Int) o, -9223372036854775808 ≤ kk ∧ kk ≤ 9223372036854775807 → Calls Tryz.prog 64 #[.pointer (some ⟨L.f, 0, none⟩), .int .i64 no, .int .i64 kk] (w2.alloc o) fun e w' => e = .returned (.bool (mayR K.σ no kk)) ∧ w' = w2.alloc o) := fun w2 hf2 => by
    have ha2 : ∀ o, AskAt (w2.alloc o) a k q c r := fun o => (hf2.alloc o).get ha (fun e => e)
    have hA2 := fun o => hA.frame (hf2.alloc o) (fun _ _ _ e => e)
    exact ⟨fun o => by rw [blk_cell (ha2 o), ← hca]; rfl, fun kk o hk => May_any _ _ _ _ _ (hA2 o) no kk (by omega) hk⟩
  have g1 : bits .and .i64 (f : Int) 1 = ((f % 2 : Nat) : Int) := and_fact1 ⟨f, hf⟩
  have g2 : bits .and .i64 (f : Int) 2 = ((f / 2 % 2 * 2 : Nat) : Int) := and_fact2 ⟨f, hf⟩
  have g4 : bits .and .i64 (f : Int) 4 = ((f / 4 % 2 * 4 : Nat) : Int) := and_fact4 ⟨f, hf⟩
  have g8 : bits .and .i64 (f : Int) 8 = ((f / 8 % 2 * 8 : Nat) : Int) := and_fact8 ⟨f, hf⟩
  obtain ⟨st, hst⟩ : ∃ st, st = statT K.σ no := ⟨_, rfl⟩
  rw [← hst] at hstat
  rw [← hst] at hkd
  rw [h4] at g4
  rw [h8] at g8
  rw [h1] at g1
  rw [h2] at g2
  have Hm2 := hide hm2
  clear hst
  clear hm2
  have Hstat := hide hstat
  have Hw2 := hide hw2
  clear h ha hA hstat hw2 hcap hca
  unfold ptrAt
  go_enter Tryz.func56, Tryz.ntmps56
  go_wp2_with fail
  refine Hstat.out.mono ?_
  rintro e w2 ⟨rfl, hf2⟩
  obtain ⟨d3, hmm⟩ := Hw2.out w2 hf2
  have d3 := d3 (.cells #[.int .i64 st.ino, .int .i64 st.kind, .int .i64 st.mode, .int .i64 st.links, .int .i64 st.size] 28 (0, 0))
  have Hm := hide hmm
  have Hfr := hide (fun o => hf2.alloc o)
  unfold stV
  clear hf2 hmm Hstat Hw2
  go_wp2_with (go_at_call 64; refine (Hm.out _ _ (by decide)).mono ?_; rintro e w3 ⟨rfl, rfl⟩; first | rw [Hm2.out])
  go_ret
  exact ⟨rfl, Hfr.out _⟩
set_option maxRecDepth 100000 in
set_option maxHeartbeats 1000000 in
theorem afound_w2b (w : World) (k : Nat) (K : KQ) (L : KLay) (h : KF w k K L) (hcap : CapB K.σ) (q a : Nat) (c : SysQ) (r : ResV) (ha : AskAt w a k q c r) (no : Nat) (hno : no ≤ 9223372036854775807) (f : Nat) (hf : f < 64) (hca : c.a = f) (h4 : f / 4 % 2 = 1) (h8 : f / 8 % 2 = 0) (h1 : f % 2 = 1) (h2 : f / 2 % 2 = 1) (hkd : ¬ (statT K.σ no).kind = 2) (hm4 : mayR K.σ no 4 = true) (hm2 : mayR K.σ no 2 = false) :
    Calls Tryz.prog 56 #[ptrAt a, .int .i64 no] w fun e w' => e = .returned (.int .i64 13) ∧ Fr (fun _ => False) w w' := by
  obtain ⟨p, hA⟩ := h.files
  have hstat := Stat_any w L.f K.σ (L.S tFil w) p hA hcap no (by omega)
  have c0 : w.cell? ⟨a, 0, none⟩ = some (.pointer (some ⟨k, 0, none⟩)) := by rw [blk_cell ha]; rfl
  have c00 : w.cell? ⟨k, 0, none⟩ = some (.pointer (some ⟨L.f, 0, none⟩)) := by rw [blk_cell h.hk]; rfl
  have hw2 : ∀ w2, Fr (fun _ => False) w w2 → (∀ o, (w2.alloc o).cell? ⟨a, 3, none⟩ = some (.int .i64 f)) ∧ (∀ (kk : Int) o, -9223372036854775808 ≤ kk ∧ kk ≤ 9223372036854775807 → Calls Tryz.prog 64 #[.pointer (some ⟨L.f, 0, none⟩), .int .i64 no, .int .i64 kk] (w2.alloc o) fun e w' => e = .returned (.bool (mayR K.σ no kk)) ∧ w' = w2.alloc o) := fun w2 hf2 => by
    have ha2 : ∀ o, AskAt (w2.alloc o) a k q c r := fun o => (hf2.alloc o).get ha (fun e => e)
    have hA2 := fun o => hA.frame (hf2.alloc o) (fun _ _ _ e => e)
    exact ⟨fun o => by rw [blk_cell (ha2 o), ← hca]; rfl, fun kk o hk => May_any _ _ _ _ _ (hA2 o) no kk (by omega) hk⟩
  have g1 : bits .and .i64 (f : Int) 1 = ((f % 2 : Nat) : Int) := and_fact1 ⟨f, hf⟩
  have g2 : bits .and .i64 (f : Int) 2 = ((f / 2 % 2 * 2 : Nat) : Int) := and_fact2 ⟨f, hf⟩
  have g4 : bits .and .i64 (f : Int) 4 = ((f / 4 % 2 * 4 : Nat) : Int) := and_fact4 ⟨f, hf⟩
  have g8 : bits .and .i64 (f : Int) 8 = ((f / 8 % 2 * 8 : Nat) : Int) := and_fact8 ⟨f, hf⟩
  obtain ⟨st, hst⟩ : ∃ st, st = statT K.σ no := ⟨_, rfl⟩
  rw [← hst] at hstat
  rw [← hst] at hkd
  rw [h4] at g4
  rw [h8] at g8
  rw [h1] at g1
  rw [h2] at g2
  have Hm4 := hide hm4
  have Hm2 := hide hm2
  clear hst
  clear hm4 hm2
  have Hstat := hide hstat
  have Hw2 := hide hw2
  clear h ha hA hstat hw2 hcap hca
  unfold ptrAt
  go_enter Tryz.func56, Tryz.ntmps56
  go_wp2_with fail
  refine Hstat.out.mono ?_
  rintro e w2 ⟨rfl, hf2⟩
  obtain ⟨d3, hmm⟩ := Hw2.out w2 hf2
  have d3 := d3 (.cells #[.int .i64 st.ino, .int .i64 st.kind, .int .i64 st.mode, .int .i64 st.links, .int .i64 st.size] 28 (0, 0))
  have Hm := hide hmm
  have Hfr := hide (fun o => hf2.alloc o)
  unfold stV
  clear hf2 hmm Hstat Hw2
  go_wp2_with (go_at_call 64; refine (Hm.out _ _ (by decide)).mono ?_; rintro e w3 ⟨rfl, rfl⟩; first | rw [Hm4.out] | rw [Hm2.out])
  go_ret
  exact ⟨rfl, Hfr.out _⟩
set_option maxRecDepth 100000 in
set_option maxHeartbeats 1000000 in
theorem afound_o2b (w : World) (k : Nat) (K : KQ) (L : KLay) (h : KF w k K L) (hcap : CapB K.σ) (q a : Nat) (c : SysQ) (r : ResV) (ha : AskAt w a k q c r) (no : Nat) (hno : no ≤ 9223372036854775807) (f : Nat) (hf : f < 64) (hca : c.a = f) (h4 : f / 4 % 2 = 1) (h8 : f / 8 % 2 = 0) (h1 : f % 2 = 1) (h2 : f / 2 % 2 = 0) (hkd : ¬ (statT K.σ no).kind = 2) (hm4 : mayR K.σ no 4 = true) :
    Calls Tryz.prog 56 #[ptrAt a, .int .i64 no] w fun e w' => e = .returned (.int .i64 0) ∧ Fr (fun _ => False) w w' := by
  obtain ⟨p, hA⟩ := h.files
  have hstat := Stat_any w L.f K.σ (L.S tFil w) p hA hcap no (by omega)
  have c0 : w.cell? ⟨a, 0, none⟩ = some (.pointer (some ⟨k, 0, none⟩)) := by rw [blk_cell ha]; rfl
  have c00 : w.cell? ⟨k, 0, none⟩ = some (.pointer (some ⟨L.f, 0, none⟩)) := by rw [blk_cell h.hk]; rfl
  have hw2 : ∀ w2, Fr (fun _ => False) w w2 → (∀ o, (w2.alloc o).cell? ⟨a, 3, none⟩ = some (.int .i64 f)) ∧ (∀ (kk : Int) o, -9223372036854775808 ≤ kk ∧ kk ≤ 9223372036854775807 → Calls Tryz.prog 64 #[.pointer (some ⟨L.f, 0, none⟩), .int .i64 no, .int .i64 kk] (w2.alloc o) fun e w' => e = .returned (.bool (mayR K.σ no kk)) ∧ w' = w2.alloc o) := fun w2 hf2 => by
    have ha2 : ∀ o, AskAt (w2.alloc o) a k q c r := fun o => (hf2.alloc o).get ha (fun e => e)
    have hA2 := fun o => hA.frame (hf2.alloc o) (fun _ _ _ e => e)
    exact ⟨fun o => by rw [blk_cell (ha2 o), ← hca]; rfl, fun kk o hk => May_any _ _ _ _ _ (hA2 o) no kk (by omega) hk⟩
  have g1 : bits .and .i64 (f : Int) 1 = ((f % 2 : Nat) : Int) := and_fact1 ⟨f, hf⟩
  have g2 : bits .and .i64 (f : Int) 2 = ((f / 2 % 2 * 2 : Nat) : Int) := and_fact2 ⟨f, hf⟩
  have g4 : bits .and .i64 (f : Int) 4 = ((f / 4 % 2 * 4 : Nat) : Int) := and_fact4 ⟨f, hf⟩
  have g8 : bits .and .i64 (f : Int) 8 = ((f / 8 % 2 * 8 : Nat) : Int) := and_fact8 ⟨f, hf⟩
  obtain ⟨st, hst⟩ : ∃ st, st = statT K.σ no := ⟨_, rfl⟩
  rw [← hst] at hstat
  rw [← hst] at hkd
  rw [h4] at g4
  rw [h8] at g8
  rw [h1] at g1
  rw [h2] at g2
  have Hm4 := hide hm4
  clear hst
  clear hm4
  have Hstat := hide hstat
  have Hw2 := hide hw2
  clear h ha hA hstat hw2 hcap hca
  unfold ptrAt
  go_enter Tryz.func56, Tryz.ntmps56
  go_wp2_with fail
  refine Hstat.out.mono ?_
  rintro e w2 ⟨rfl, hf2⟩
  obtain ⟨d3, hmm⟩ := Hw2.out w2 hf2
  have d3 := d3 (.cells #[.int .i64 st.ino, .int .i64 st.kind, .int .i64 st.mode, .int .i64 st.links, .int .i64 st.size] 28 (0, 0))
  have Hm := hide hmm
  have Hfr := hide (fun o => hf2.alloc o)
  unfold stV
  clear hf2 hmm Hstat Hw2
  go_wp2_with (go_at_call 64; refine (Hm.out _ _ (by decide)).mono ?_; rintro e w3 ⟨rfl, rfl⟩; first | rw [Hm4.out])
  go_ret
  exact ⟨rfl, Hfr.out _⟩
set_option maxRecDepth 100000 in
set_option maxHeartbeats 1000000 in
theorem afound_p2b (w : World) (k : Nat) (K : KQ) (L : KLay) (h : KF w k K L) (hcap : CapB K.σ) (q a : Nat) (c : SysQ) (r : ResV) (ha : AskAt w a k q c r) (no : Nat) (hno : no ≤ 9223372036854775807) (f : Nat) (hf : f < 64) (hca : c.a = f) (h4 : f / 4 % 2 = 1) (h8 : f / 8 % 2 = 0) (h1 : f % 2 = 1) (h2 : f / 2 % 2 = 1) (hkd : ¬ (statT K.σ no).kind = 2) (hm4 : mayR K.σ no 4 = true) (hm2 : mayR K.σ no 2 = true) :
    Calls Tryz.prog 56 #[ptrAt a, .int .i64 no] w fun e w' => e = .returned (.int .i64 0) ∧ Fr (fun _ => False) w w' := by
  obtain ⟨p, hA⟩ := h.files
  have hstat := Stat_any w L.f K.σ (L.S tFil w) p hA hcap no (by omega)
  have c0 : w.cell? ⟨a, 0, none⟩ = some (.pointer (some ⟨k, 0, none⟩)) := by rw [blk_cell ha]; rfl
  have c00 : w.cell? ⟨k, 0, none⟩ = some (.pointer (some ⟨L.f, 0, none⟩)) := by rw [blk_cell h.hk]; rfl
  have hw2 : ∀ w2, Fr (fun _ => False) w w2 → (∀ o, (w2.alloc o).cell? ⟨a, 3, none⟩ = some (.int .i64 f)) ∧ (∀ (kk : Int) o, -9223372036854775808 ≤ kk ∧ kk ≤ 9223372036854775807 → Calls Tryz.prog 64 #[.pointer (some ⟨L.f, 0, none⟩), .int .i64 no, .int .i64 kk] (w2.alloc o) fun e w' => e = .returned (.bool (mayR K.σ no kk)) ∧ w' = w2.alloc o) := fun w2 hf2 => by
    have ha2 : ∀ o, AskAt (w2.alloc o) a k q c r := fun o => (hf2.alloc o).get ha (fun e => e)
    have hA2 := fun o => hA.frame (hf2.alloc o) (fun _ _ _ e => e)
    exact ⟨fun o => by rw [blk_cell (ha2 o), ← hca]; rfl, fun kk o hk => May_any _ _ _ _ _ (hA2 o) no kk (by omega) hk⟩
  have g1 : bits .and .i64 (f : Int) 1 = ((f % 2 : Nat) : Int) := and_fact1 ⟨f, hf⟩
  have g2 : bits .and .i64 (f : Int) 2 = ((f / 2 % 2 * 2 : Nat) : Int) := and_fact2 ⟨f, hf⟩
  have g4 : bits .and .i64 (f : Int) 4 = ((f / 4 % 2 * 4 : Nat) : Int) := and_fact4 ⟨f, hf⟩
  have g8 : bits .and .i64 (f : Int) 8 = ((f / 8 % 2 * 8 : Nat) : Int) := and_fact8 ⟨f, hf⟩
  obtain ⟨st, hst⟩ : ∃ st, st = statT K.σ no := ⟨_, rfl⟩
  rw [← hst] at hstat
  rw [← hst] at hkd
  rw [h4] at g4
  rw [h8] at g8
  rw [h1] at g1
  rw [h2] at g2
  have Hm4 := hide hm4
  have Hm2 := hide hm2
  clear hst
  clear hm4 hm2
  have Hstat := hide hstat
  have Hw2 := hide hw2
  clear h ha hA hstat hw2 hcap hca
  unfold ptrAt
  go_enter Tryz.func56, Tryz.ntmps56
  go_wp2_with fail
  refine Hstat.out.mono ?_
  rintro e w2 ⟨rfl, hf2⟩
  obtain ⟨d3, hmm⟩ := Hw2.out w2 hf2
  have d3 := d3 (.cells #[.int .i64 st.ino, .int .i64 st.kind, .int .i64 st.mode, .int .i64 st.links, .int .i64 st.size] 28 (0, 0))
  have Hm := hide hmm
  have Hfr := hide (fun o => hf2.alloc o)
  unfold stV
  clear hf2 hmm Hstat Hw2
  go_wp2_with (go_at_call 64; refine (Hm.out _ _ (by decide)).mono ?_; rintro e w3 ⟨rfl, rfl⟩; first | rw [Hm4.out] | rw [Hm2.out])
  go_ret
  exact ⟨rfl, Hfr.out _⟩
theorem afound_any (w : World) (k : Nat) (K : KQ) (L : KLay) (h : KF w k K L) (hcap : CapB K.σ) (q a : Nat) (c : SysQ) (r : ResV) (ha : AskAt w a k q c r) (no : Nat) (hno : no ≤ 9223372036854775807) (f : Nat) (hf : f < 64) (hca : c.a = f) :
    Calls Tryz.prog 56 #[ptrAt a, .int .i64 no] w fun e w' => e = .returned (.int .i64 (foundE K.σ no f)) ∧ Fr (fun _ => False) w w' := by
  have m2 : ∀ x : Nat, x % 2 = 0 ∨ x % 2 = 1 := fun x => by omega
  unfold foundE
  rcases m2 (f / 4) with e4 | e4
  · rw [if_neg (by omega)]
    by_cases hk : (statT K.σ no).kind = 2
    · rw [if_pos hk]
      exact afound_dir1 w k K L h hcap q a c r ha no hno f hf hca e4 hk
    · rw [if_neg hk]
      rcases m2 f with e1 | e1
      · rcases m2 (f / 2) with e2 | e2
        · rw [if_neg (by rintro (⟨x, _⟩ | ⟨x, _⟩) <;> omega)]
          exact afound_o1a w k K L h hcap q a c r ha no hno f hf hca e4 e1 e2 hk
        · cases h2 : mayR K.σ no 2 with
          | false =>
            rw [if_pos (.inr ⟨e2, rfl⟩)]
            exact afound_w1a w k K L h hcap q a c r ha no hno f hf hca e4 e1 e2 hk h2
          | true =>
            rw [if_neg (by rintro (⟨x, _⟩ | ⟨_, x⟩); (· omega); (· cases x))]
            exact afound_p1a w k K L h hcap q a c r ha no hno f hf hca e4 e1 e2 hk h2
      · cases h4 : mayR K.σ no 4 with
        | false =>
          rw [if_pos (.inl ⟨e1, rfl⟩)]
          exact afound_r1 w k K L h hcap q a c r ha no hno f hf hca e4 e1 hk h4
        | true =>
          rcases m2 (f / 2) with e2 | e2
          · rw [if_neg (by rintro (⟨_, x⟩ | ⟨x, _⟩); (· cases x); (· omega))]
            exact afound_o1b w k K L h hcap q a c r ha no hno f hf hca e4 e1 e2 hk h4
          · cases h2 : mayR K.σ no 2 with
            | false =>
              rw [if_pos (.inr ⟨e2, rfl⟩)]
              exact afound_w1b w k K L h hcap q a c r ha no hno f hf hca e4 e1 e2 hk h4 h2
            | true =>
              rw [if_neg (by rintro (⟨_, x⟩ | ⟨_, x⟩) <;> cases x)]
              exact afound_p1b w k K L h hcap q a c r ha no hno f hf hca e4 e1 e2 hk h4 h2
  · rcases m2 (f / 8) with e8 | e8
    · rw [if_neg (by omega)]
      by_cases hk : (statT K.σ no).kind = 2
      · rw [if_pos hk]
        exact afound_dir2 w k K L h hcap q a c r ha no hno f hf hca e4 e8 hk
      · rw [if_neg hk]
        rcases m2 f with e1 | e1
        · rcases m2 (f / 2) with e2 | e2
          · rw [if_neg (by rintro (⟨x, _⟩ | ⟨x, _⟩) <;> omega)]
            exact afound_o2a w k K L h hcap q a c r ha no hno f hf hca e4 e8 e1 e2 hk
          · cases h2 : mayR K.σ no 2 with
            | false =>
              rw [if_pos (.inr ⟨e2, rfl⟩)]
              exact afound_w2a w k K L h hcap q a c r ha no hno f hf hca e4 e8 e1 e2 hk h2
            | true =>
              rw [if_neg (by rintro (⟨x, _⟩ | ⟨_, x⟩); (· omega); (· cases x))]
              exact afound_p2a w k K L h hcap q a c r ha no hno f hf hca e4 e8 e1 e2 hk h2
        · cases h4 : mayR K.σ no 4 with
          | false =>
            rw [if_pos (.inl ⟨e1, rfl⟩)]
            exact afound_r2 w k K L h hcap q a c r ha no hno f hf hca e4 e8 e1 hk h4
          | true =>
            rcases m2 (f / 2) with e2 | e2
            · rw [if_neg (by rintro (⟨_, x⟩ | ⟨x, _⟩); (· cases x); (· omega))]
              exact afound_o2b w k K L h hcap q a c r ha no hno f hf hca e4 e8 e1 e2 hk h4
            · cases h2 : mayR K.σ no 2 with
              | false =>
                rw [if_pos (.inr ⟨e2, rfl⟩)]
                exact afound_w2b w k K L h hcap q a c r ha no hno f hf hca e4 e8 e1 e2 hk h4 h2
              | true =>
                rw [if_neg (by rintro (⟨_, x⟩ | ⟨_, x⟩) <;> cases x)]
                exact afound_p2b w k K L h hcap q a c r ha no hno f hf hca e4 e8 e1 e2 hk h4 h2
    · rw [if_pos ⟨e4, e8⟩]
      exact afound_new w k K L h hcap q a c r ha no hno f hf hca e4 e8
end Go.Proofs.YtffekmjoenppaaaGreatDoor
