/- gate.asked.open. Conditions: the contracts' own premises. -/
import Derived.Test.YtffekmjoenppaaaGreatDoorKerFound
import Derived.Test.YtffekmjoenppaaaGreatDoorKerPipe
import Derived.Laws.Closers25b
namespace Go.Proofs.YtffekmjoenppaaaGreatDoor
open Go.RowKit

attribute [local go_sem] Oper.semAt_some

def fileD (no f : Nat) : DescQ := ⟨2, no, 0, 0, f, noBy, true⟩
def modeC (b : Int) (m : Nat) : Int := bits .andNot .i64 (bits .and .i64 b 511) m
/-- An inode is held, and has a description. -/
def openT (K : KQ) (i f no : Nat) : ResQ × KQ := ({ noRes with n := (openQ { K with σ := (holdR K.σ no).2 } i (fileD no f)).1 }, (openQ { K with σ := (holdR K.σ no).2 } i (fileD no f)).2)
def openEnd (K : KQ) (i f no : Nat) : ResQ × KQ := if f / 16 % 2 = 1 ∧ f / 2 % 2 = 1 then openT { K with σ := (truncR K.σ no 0).2 } i f no else openT K i f no
def openM (K : KQ) (i : Nat) (_s : ByteArray) (f : Nat) (cr : Int × Int × FSt) : ResQ × KQ :=
  if cr.2.1 ≠ 0 then (errR cr.2.1, { K with σ := cr.2.2 }) else openEnd { K with σ := cr.2.2 } i f K.σ.free
def openF (K : KQ) (i : Nat) (f : Nat) (wk : Int × Nat) : ResQ × KQ :=
  if wk.1 ≠ 0 then (errR wk.1, K) else if foundE K.σ wk.2 f ≠ 0 then (errR (foundE K.σ wk.2 f), K) else openEnd K i f wk.2
/-- SysOpen. -/
def openA (K : KQ) (i : Nat) (s : ByteArray) (fa fb : Int) : ResQ × KQ :=
  if fa < 0 ∨ 63 < fa ∨ fa.toNat % 4 = 0 then (errR 22, K)
  else if 32 - used (K.proc i).fds 32 = 0 then (errR 24, K)
  else if (walkE K.σ (K.proc i).dir s.data.toList).1 = 2 ∧ fa.toNat / 4 % 2 = 1 then openM K i s fa.toNat (createR K.σ (K.proc i).dir s.data.toList (modeC fb (K.proc i).mask))
  else openF K i fa.toNat (walkE K.σ (K.proc i).dir s.data.toList)
abbrev glB : Nat := Tryz.laysSplit_ren.g 1
theorem KIn.ml {w w1 : World} {k : Nat} {K K1 : KQ} {L L1 : KLay} {i a : Nat} {c : SysQ} {r : ResV} (h : KIn w k K L i a c w1 K1 L1 r) (hm : Ml w) (ho : L.o glB = none) (ha : glB ≠ a) : Ml w1 := hm.frame h.R (fun e => e.elim (fun x => x ho) ha)
set_option maxRecDepth 100000 in
set_option maxHeartbeats 1000000 in
theorem aopen_bad (w : World) (k : Nat) (K : KQ) (L : KLay) (h : KF w k K L) (N : Nat) (_hok : KOk K N) (_hN : N + 4 ≤ 1000000) (i : Nat) (_h1 : 1 ≤ i) (_h2 : i ≤ K.qn) (a : Nat) (c : SysQ) (ha : AskAt w a k (L.qb i) c noResV) (hao : L.o a = none) (_hml : Ml w) (_hgo : L.o glB = none) (_hga : glB ≠ a) (_hsz : c.s.size ≤ 9223372036854775807) (hb : c.a < 0 ∨ 63 < c.a ∨ c.a.toNat % 4 = 0) :
    Calls Tryz.prog 25 #[ptrAt a] w (KErrPost w k K L i a c (openA K i c.s c.a c.b)) := by
  have I0 := KIn.start h ha hao
  have hfin : KErrPost w k K L i a c (openA K i c.s c.a c.b) (.returned (.int .i64 22)) w := by
    unfold openA
    rw [if_pos hb]
    exact ⟨rfl, L, _, I0, rfl⟩
  have Hfin := hide hfin
  have c3 : w.cell? ⟨a, 3, none⟩ = some (.int .i64 c.a) := by rw [blk_cell ha]; rfl
  have hg : c.a < 0 ∨ (¬ c.a < 0 ∧ 63 < c.a) ∨ (¬ c.a < 0 ∧ ¬ 63 < c.a ∧ bits .and .i64 c.a 3 = 0) := by
    by_cases e0 : c.a < 0
    · exact .inl e0
    · by_cases e1 : 63 < c.a
      · exact .inr (.inl ⟨e0, e1⟩)
      · refine .inr (.inr ⟨e0, e1, ?_⟩)
        obtain ⟨f, hf⟩ : ∃ f : Nat, c.a = f := ⟨c.a.toNat, by omega⟩
        have := and_fact3 ⟨f, by omega⟩
        rw [hf] at hb ⊢
        rw [this]
        have e3 : f % 4 = 0 := by omega
        rw [e3]; rfl
  clear h _hok ha hao I0 hfin hb _hml _hgo _hga _hsz
  unfold ptrAt
  rcases hg with e0 | ⟨e0, e1⟩ | ⟨e0, e1, e2⟩
  · go_enter Tryz.func25, Tryz.ntmps25
    go_wp2_with fail
    go_ret
    exact Hfin.out
  · go_enter Tryz.func25, Tryz.ntmps25
    go_wp2_with fail
    go_ret
    exact Hfin.out
  · go_enter Tryz.func25, Tryz.ntmps25
    go_wp2_with fail
    go_ret
    exact Hfin.out
set_option maxRecDepth 100000 in
set_option maxHeartbeats 1000000 in
theorem aopen_full (w : World) (k : Nat) (K : KQ) (L : KLay) (h : KF w k K L) (N : Nat) (_hok : KOk K N) (_hN : N + 4 ≤ 1000000) (i : Nat) (h1 : 1 ≤ i) (h2 : i ≤ K.qn) (a : Nat) (c : SysQ) (ha : AskAt w a k (L.qb i) c noResV) (hao : L.o a = none) (_hml : Ml w) (_hgo : L.o glB = none) (_hga : glB ≠ a) (_hsz : c.s.size ≤ 9223372036854775807)  (f : Nat) (hf : f < 64) (hca : c.a = f) (hf4 : ¬ f % 4 = 0) (hu : 32 - used (K.proc i).fds 32 = 0) :
    Calls Tryz.prog 25 #[ptrAt a] w (KErrPost w k K L i a c (openA K i c.s c.a c.b)) := by
  have I0 := KIn.start h ha hao
  have hfree := free_any w (L.tb i) _ _ (h.ht i h1 h2)
  unfold FreePost at hfree
  have g1 : bits .and .i64 (f : Int) 1 = ((f % 2 : Nat) : Int) := and_fact1 ⟨f, hf⟩
  have g2 : bits .and .i64 (f : Int) 2 = ((f / 2 % 2 * 2 : Nat) : Int) := and_fact2 ⟨f, hf⟩
  have g3 : bits .and .i64 (f : Int) 3 = ((f % 4 : Nat) : Int) := and_fact3 ⟨f, hf⟩
  have g4 : bits .and .i64 (f : Int) 4 = ((f / 4 % 2 * 4 : Nat) : Int) := and_fact4 ⟨f, hf⟩
  have g16 : bits .and .i64 (f : Int) 16 = ((f / 16 % 2 * 16 : Nat) : Int) := and_fact16 ⟨f, hf⟩
  have g3n : (bits .and .i64 (f : Int) 3 == 0) = false := by rw [g3]; simp; omega
  have hf0 : ¬ (f : Int) < 0 := by omega
  have hf63 : ¬ (63 : Int) < (f : Int) := by omega
  have c3 : w.cell? ⟨a, 3, none⟩ = some (.int .i64 f) := by rw [blk_cell ha, ← hca]; rfl
  have c1 : w.cell? ⟨a, 1, none⟩ = some (.pointer (some ⟨L.qb i, 0, none⟩)) := by rw [blk_cell ha]; rfl
  have c6 : w.cell? ⟨L.qb i, 6, none⟩ = some (.pointer (some ⟨L.tb i, 0, none⟩)) := by rw [blk_cell (h.hq i h1 h2)]; rfl
  have hfin : ∀ w1, Fr (fun _ => False) w w1 → KErrPost w k K L i a c (openA K i c.s c.a c.b) (.returned (.int .i64 24)) w1 := fun w1 hf1 => by
    unfold openA
    rw [if_neg (by rw [hca]; omega), if_pos hu]
    exact ⟨rfl, L, _, I0.quiet hf1, rfl⟩
  have Hfin := hide hfin
  have hfree := hide hfree
  have hfr0 : (((32 - used (tabS L (K.proc i).fds) 32 : Nat) : Int) == 0) = true := by rw [used_tabS, hu]; rfl
  generalize ((32 - used (tabS L (K.proc i).fds) 32 : Nat) : Int) = fr at *
  clear h _hok ha hao I0 hfin _hml _hgo _hga _hsz hca hf4 g1 g2 g3 g4 g16 hu
  unfold ptrAt at *
  go_enter Tryz.func25, Tryz.ntmps25
  go_wp2_with fail
  refine hfree.out.mono ?_
  rintro e w1 ⟨rfl, hf1⟩
  have hl := hide (Hfin.out w1 hf1)
  clear hf1 Hfin hfree
  go_wp2_with fail
  go_ret
  exact hl.out
set_option maxRecDepth 100000 in
set_option maxHeartbeats 1000000 in
theorem aopen_err (w : World) (k : Nat) (K : KQ) (L : KLay) (h : KF w k K L) (N : Nat) (hok : KOk K N) (_hN : N + 4 ≤ 1000000) (i : Nat) (h1 : 1 ≤ i) (h2 : i ≤ K.qn) (a : Nat) (c : SysQ) (ha : AskAt w a k (L.qb i) c noResV) (hao : L.o a = none) (hml : Ml w) (_hgo : L.o glB = none) (_hga : glB ≠ a) (hsz : c.s.size ≤ 9223372036854775807)  (f : Nat) (hf : f < 64) (hca : c.a = f) (hf4 : ¬ f % 4 = 0) (hu : ¬ 32 - used (K.proc i).fds 32 = 0) (hnc : ¬ ((walkE K.σ (K.proc i).dir c.s.data.toList).1 = 2 ∧ f / 4 % 2 = 1)) (he : (walkE K.σ (K.proc i).dir c.s.data.toList).1 ≠ 0) :
    Calls Tryz.prog 25 #[ptrAt a] w (KErrPost w k K L i a c (openA K i c.s c.a c.b)) := by
  have I0 := KIn.start h ha hao
  have hfree := free_any w (L.tb i) _ _ (h.ht i h1 h2)
  unfold FreePost at hfree
  have g1 : bits .and .i64 (f : Int) 1 = ((f % 2 : Nat) : Int) := and_fact1 ⟨f, hf⟩
  have g2 : bits .and .i64 (f : Int) 2 = ((f / 2 % 2 * 2 : Nat) : Int) := and_fact2 ⟨f, hf⟩
  have g3 : bits .and .i64 (f : Int) 3 = ((f % 4 : Nat) : Int) := and_fact3 ⟨f, hf⟩
  have g4 : bits .and .i64 (f : Int) 4 = ((f / 4 % 2 * 4 : Nat) : Int) := and_fact4 ⟨f, hf⟩
  have g16 : bits .and .i64 (f : Int) 16 = ((f / 16 % 2 * 16 : Nat) : Int) := and_fact16 ⟨f, hf⟩
  have g3n : (bits .and .i64 (f : Int) 3 == 0) = false := by rw [g3]; simp; omega
  have hf0 : ¬ (f : Int) < 0 := by omega
  have hf63 : ¬ (63 : Int) < (f : Int) := by omega
  have c3 : w.cell? ⟨a, 3, none⟩ = some (.int .i64 f) := by rw [blk_cell ha, ← hca]; rfl
  have c1 : w.cell? ⟨a, 1, none⟩ = some (.pointer (some ⟨L.qb i, 0, none⟩)) := by rw [blk_cell ha]; rfl
  have c6 : w.cell? ⟨L.qb i, 6, none⟩ = some (.pointer (some ⟨L.tb i, 0, none⟩)) := by rw [blk_cell (h.hq i h1 h2)]; rfl
  have hdir := (hok.proc i h1 h2).dir
  have hfr0 : (((32 - used (tabS L (K.proc i).fds) 32 : Nat) : Int) == 0) = false := by rw [used_tabS]; simp; omega
  have hSA : ∀ w', Fr (fun _ => False) w w' → AskAt w' a k (L.qb i) c noResV ∧ w'.cell? ⟨L.qb i, 4, none⟩ = some (.int .i64 (K.proc i).dir) ∧ w'.cell? ⟨L.qb i, 5, none⟩ = some (.int .i64 (K.proc i).mask) := fun w' hf' => by
    have h' := h.quiet hf'
    exact ⟨hf'.get ha (fun e => e), by rw [blk_cell (h'.hq i h1 h2)]; rfl, by rw [blk_cell (h'.hq i h1 h2)]; rfl⟩
  have hFQ : ∀ w', Fr (fun _ => False) w w' → w'.cell? ⟨a, 0, none⟩ = some (.pointer (some ⟨k, 0, none⟩)) ∧ w'.cell? ⟨k, 0, none⟩ = some (.pointer (some ⟨L.f, 0, none⟩)) := fun w' hf' => ⟨by rw [blk_cell (hSA w' hf').1]; rfl, by rw [blk_cell (h.quiet hf').hk]; rfl⟩
  have hwk : ∀ w', Fr (fun _ => False) w w' → Calls Tryz.prog 54 #[.pointer (some ⟨L.f, 0, none⟩), .int .i64 (K.proc i).dir, .string c.s] w' fun e w2 =>
      e = .returned (.tuple #[.int .i64 (if (walkE K.σ (K.proc i).dir c.s.data.toList).1 = 0 then ((walkE K.σ (K.proc i).dir c.s.data.toList).2 : Int) else 0), .int .i64 (walkE K.σ (K.proc i).dir c.s.data.toList).1]) ∧ Fr (fun _ => False) w' w2 := fun w' hf' => by
    obtain ⟨p, hA⟩ := (h.quiet hf').files
    exact Walk_any w' L.f K.σ _ p hA (hml.frame hf' (fun e => e)) (K.proc i).dir (by omega) c.s hsz
  have hfin : ∀ w2, Fr (fun _ => False) w w2 → KErrPost w k K L i a c (openA K i c.s c.a c.b) (.returned (.int .i64 (walkE K.σ (K.proc i).dir c.s.data.toList).1)) w2 := fun w2 hf2 => by
    unfold openA openF
    rw [if_neg (by rw [hca]; omega), if_neg hu, if_neg (by rw [hca]; exact hnc), if_pos he]
    exact ⟨rfl, L, _, I0.quiet hf2, rfl⟩
  have Hfin := hide hfin
  have HSA := hide hSA
  have HFQ := hide hFQ
  have HWK := hide hwk
  have hfree := hide hfree
  generalize ((32 - used (tabS L (K.proc i).fds) 32 : Nat) : Int) = fr at *
  generalize (if (walkE K.σ (K.proc i).dir c.s.data.toList).1 = 0 then ((walkE K.σ (K.proc i).dir c.s.data.toList).2 : Int) else 0) = wv at *
  generalize (walkE K.σ (K.proc i).dir c.s.data.toList).1 = we at *
  have hx : (we == 0) = false := by simpa using he
  have hx' : (we != 0) = true := by simpa using he
  have hnc2 : (we == 2) = false ∨ ((we == 2) = true ∧ (bits .and .i64 (f : Int) 4 != 0) = false) := by
    by_cases e : we = 2
    · refine .inr ⟨by simp [e], ?_⟩
      have : f / 4 % 2 = 0 := by omega
      rw [g4, this]; rfl
    · exact .inl (by simpa using e)
  clear hnc hfin
  clear h hok ha hao I0 hSA hFQ hwk hml _hgo _hga hsz hca hf4 g1 g2 g3 g4 g16 hu hdir
  unfold ptrAt at *
  go_enter Tryz.func25, Tryz.ntmps25
  go_wp2_with fail
  refine hfree.out.mono ?_
  rintro e w1 ⟨rfl, hf1⟩
  obtain ⟨y0, yk⟩ := HFQ.out w1 hf1
  have s1 := HSA.out w1.drew hf1.drew
  have hwalk := hide (HWK.out w1.drew hf1.drew)
  have Hf1 := hide hf1
  clear hf1 hfree
  go_upto_region 7 with (fail)
  refine region_tree (fun w' => AskAt w' a k (L.qb i) c noResV ∧ w'.cell? ⟨L.qb i, 4, none⟩ = some (.int .i64 (K.proc i).dir) ∧ w'.cell? ⟨L.qb i, 5, none⟩ = some (.int .i64 (K.proc i).mask)) [0, 1, 2, 3, 4, 5, 6, 7, 8, 9, 10, 11, 12] 5 18 (by kernel_rfl) (by kernel_rfl) (fun _ _ d _ _ h => by cases d <;> exact h) s1 ?_
  simp only [List.map_cons, List.map_nil, List.getD_cons_zero, List.getD_cons_succ, List.drop_succ_cons, List.drop_zero]
  go_big_quiet_step (fail)
  go_big_quiet_step (fail)
  refine wpQuiet_val (.pointer (some ⟨a, 0, none⟩)) rfl (fun w' hS => by (go_simp)) ?_
  simp only [Act.put, List.setIfInBounds_toArray, List.set_cons_succ, List.set_cons_zero]
  refine wpQuiet_val (.pointer (some ⟨a, 1, none⟩)) rfl (fun w' hS => by (go_simp)) ?_
  simp only [Act.put, List.setIfInBounds_toArray, List.set_cons_succ, List.set_cons_zero]
  refine wpQuiet_val (.pointer (some ⟨L.qb i, 0, none⟩)) rfl (fun w' hS => by
      have e : w'.cell? ⟨a, 1, none⟩ = some (.pointer (some ⟨L.qb i, 0, none⟩)) := by rw [blk_cell hS.1]; rfl
      go_simp) ?_
  simp only [Act.put, List.setIfInBounds_toArray, List.set_cons_succ, List.set_cons_zero]
  refine wpQuiet_val (.pointer (some ⟨L.qb i, 0, none⟩)) rfl (fun w' hS => by (go_simp)) ?_
  simp only [Act.put, List.setIfInBounds_toArray, List.set_cons_succ, List.set_cons_zero]
  refine wpQuiet_val (.pointer (some ⟨L.qb i, 4, none⟩)) rfl (fun w' hS => by (go_simp)) ?_
  simp only [Act.put, List.setIfInBounds_toArray, List.set_cons_succ, List.set_cons_zero]
  refine wpQuiet_val (.int .i64 (K.proc i).dir) rfl (fun w' hS => by
      have e : w'.cell? ⟨L.qb i, 4, none⟩ = some (.int .i64 (K.proc i).dir) := hS.2.1
      go_simp) ?_
  simp only [Act.put, List.setIfInBounds_toArray, List.set_cons_succ, List.set_cons_zero]
  go_big_quiet_step (fail)
  refine wpQuiet_val (.pointer (some ⟨a, 0, none⟩)) rfl (fun w' hS => by (go_simp)) ?_
  simp only [Act.put, List.setIfInBounds_toArray, List.set_cons_succ, List.set_cons_zero]
  refine wpQuiet_val (.pointer (some ⟨a, 2, none⟩)) rfl (fun w' hS => by (go_simp)) ?_
  simp only [Act.put, List.setIfInBounds_toArray, List.set_cons_succ, List.set_cons_zero]
  refine wpQuiet_val (.pointer (some ⟨a, 5, none⟩)) rfl (fun w' hS => by (go_simp)) ?_
  simp only [Act.put, List.setIfInBounds_toArray, List.set_cons_succ, List.set_cons_zero]
  refine wpQuiet_val (.string c.s) rfl (fun w' hS => by
      have e : w'.cell? ⟨a, 5, none⟩ = some (.string c.s) := by rw [blk_cell hS.1]; rfl
      go_simp) ?_
  simp only [Act.put, List.setIfInBounds_toArray, List.set_cons_succ, List.set_cons_zero]
  refine wpQuiet_nil ?_
  refine tree_one' 13 (by kernel_rfl) (by decide) (by simp) rfl (fun Kc hK => ?_)
  simp only [List.getD_cons_zero, List.getD_cons_succ]
  go_wp2_with fail
  refine hwalk.out.mono ?_
  rintro e w2 ⟨rfl, hf2⟩
  have hf2 := Hf1.out.drew.trans hf2
  have s2 := HSA.out w2 hf2
  have Hf2 := hide hf2
  refine hK _ _ s2 ?_
  clear hK Kc s1 y0 yk hwalk hf2
  refine tree_heads (f := 0) [14, 15, 16, 17] (by kernel_rfl) (fun _ _ d _ _ h => by cases d <;> exact h) s2 ?_
  simp only [List.map_cons, List.map_nil, List.getD_cons_zero, List.getD_cons_succ]
  go_big_quiet_step (fail)
  refine wpQuiet_val (.int .i64 wv) rfl (fun w' hS => by (go_simp)) ?_
  simp only [Act.put, List.setIfInBounds_toArray, List.set_cons_succ, List.set_cons_zero]
  refine wpQuiet_val (.int .i64 we) rfl (fun w' hS => by (go_simp)) ?_
  simp only [Act.put, List.setIfInBounds_toArray, List.set_cons_succ, List.set_cons_zero]
  go_big_quiet_step (fail)
  refine wpQuiet_nil ?_
  refine tree_end (by kernel_rfl) ?_
  try (simp only [List.map_cons, List.map_nil, List.getD_cons_zero, List.getD_cons_succ, List.drop_succ_cons, List.drop_zero])
  have hlast := hide (Hfin.out w2 Hf2.out)
  clear Hfin Hf1 Hf2 s2 HSA HFQ HWK
  rcases hnc2 with e2 | ⟨e2, e3⟩
  · go_wp2_with fail
    go_ret
    exact hlast.out
  · go_wp2_with fail
    go_ret
    exact hlast.out
set_option maxRecDepth 100000 in
set_option maxHeartbeats 1000000 in
theorem aopen_nofound (w : World) (k : Nat) (K : KQ) (L : KLay) (h : KF w k K L) (N : Nat) (hok : KOk K N) (hN : N + 4 ≤ 1000000) (i : Nat) (h1 : 1 ≤ i) (h2 : i ≤ K.qn) (a : Nat) (c : SysQ) (ha : AskAt w a k (L.qb i) c noResV) (hao : L.o a = none) (hml : Ml w) (_hgo : L.o glB = none) (_hga : glB ≠ a) (hsz : c.s.size ≤ 9223372036854775807)  (f : Nat) (hf : f < 64) (hca : c.a = f) (hf4 : ¬ f % 4 = 0) (hu : ¬ 32 - used (K.proc i).fds 32 = 0) (hwe : (walkE K.σ (K.proc i).dir c.s.data.toList).1 = 0) (hfe : foundE K.σ (walkE K.σ (K.proc i).dir c.s.data.toList).2 f ≠ 0) :
    Calls Tryz.prog 25 #[ptrAt a] w (KErrPost w k K L i a c (openA K i c.s c.a c.b)) := by
  have I0 := KIn.start h ha hao
  have hfree := free_any w (L.tb i) _ _ (h.ht i h1 h2)
  unfold FreePost at hfree
  have g1 : bits .and .i64 (f : Int) 1 = ((f % 2 : Nat) : Int) := and_fact1 ⟨f, hf⟩
  have g2 : bits .and .i64 (f : Int) 2 = ((f / 2 % 2 * 2 : Nat) : Int) := and_fact2 ⟨f, hf⟩
  have g3 : bits .and .i64 (f : Int) 3 = ((f % 4 : Nat) : Int) := and_fact3 ⟨f, hf⟩
  have g4 : bits .and .i64 (f : Int) 4 = ((f / 4 % 2 * 4 : Nat) : Int) := and_fact4 ⟨f, hf⟩
  have g16 : bits .and .i64 (f : Int) 16 = ((f / 16 % 2 * 16 : Nat) : Int) := and_fact16 ⟨f, hf⟩
  have g3n : (bits .and .i64 (f : Int) 3 == 0) = false := by rw [g3]; simp; omega
  have hf0 : ¬ (f : Int) < 0 := by omega
  have hf63 : ¬ (63 : Int) < (f : Int) := by omega
  have c3 : w.cell? ⟨a, 3, none⟩ = some (.int .i64 f) := by rw [blk_cell ha, ← hca]; rfl
  have c1 : w.cell? ⟨a, 1, none⟩ = some (.pointer (some ⟨L.qb i, 0, none⟩)) := by rw [blk_cell ha]; rfl
  have c6 : w.cell? ⟨L.qb i, 6, none⟩ = some (.pointer (some ⟨L.tb i, 0, none⟩)) := by rw [blk_cell (h.hq i h1 h2)]; rfl
  have hdir := (hok.proc i h1 h2).dir
  have hfr0 : (((32 - used (tabS L (K.proc i).fds) 32 : Nat) : Int) == 0) = false := by rw [used_tabS]; simp; omega
  have hSA : ∀ w', Fr (fun _ => False) w w' → AskAt w' a k (L.qb i) c noResV ∧ w'.cell? ⟨L.qb i, 4, none⟩ = some (.int .i64 (K.proc i).dir) ∧ w'.cell? ⟨L.qb i, 5, none⟩ = some (.int .i64 (K.proc i).mask) := fun w' hf' => by
    have h' := h.quiet hf'
    exact ⟨hf'.get ha (fun e => e), by rw [blk_cell (h'.hq i h1 h2)]; rfl, by rw [blk_cell (h'.hq i h1 h2)]; rfl⟩
  have hFQ : ∀ w', Fr (fun _ => False) w w' → w'.cell? ⟨a, 0, none⟩ = some (.pointer (some ⟨k, 0, none⟩)) ∧ w'.cell? ⟨k, 0, none⟩ = some (.pointer (some ⟨L.f, 0, none⟩)) := fun w' hf' => ⟨by rw [blk_cell (hSA w' hf').1]; rfl, by rw [blk_cell (h.quiet hf').hk]; rfl⟩
  have hwk : ∀ w', Fr (fun _ => False) w w' → Calls Tryz.prog 54 #[.pointer (some ⟨L.f, 0, none⟩), .int .i64 (K.proc i).dir, .string c.s] w' fun e w2 =>
      e = .returned (.tuple #[.int .i64 (if (walkE K.σ (K.proc i).dir c.s.data.toList).1 = 0 then ((walkE K.σ (K.proc i).dir c.s.data.toList).2 : Int) else 0), .int .i64 (walkE K.σ (K.proc i).dir c.s.data.toList).1]) ∧ Fr (fun _ => False) w' w2 := fun w' hf' => by
    obtain ⟨p, hA⟩ := (h.quiet hf').files
    exact Walk_any w' L.f K.σ _ p hA (hml.frame hf' (fun e => e)) (K.proc i).dir (by omega) c.s hsz
  have hok0 := walk_ok hok.good.live hwe
  obtain ⟨no, hnoe⟩ : ∃ no, no = (walkE K.σ (K.proc i).dir c.s.data.toList).2 := ⟨_, rfl⟩
  simp only [hwe, if_true, ← hnoe] at hwk
  rw [← hnoe] at hok0
  have hno : no ≤ 9223372036854775807 := by have := (FSt.nd_lt hok0).2; have := hok.good.live.len; omega
  have hfo : ∀ w2, Fr (fun _ => False) w w2 → Calls Tryz.prog 56 #[ptrAt a, .int .i64 no] w2 fun e w' => e = .returned (.int .i64 (foundE K.σ no f)) ∧ Fr (fun _ => False) w2 w' := fun w2 hf2 => afound_any w2 k K L (h.quiet hf2) (hok.good.b (by omega)) (L.qb i) a c noResV (hf2.get ha (fun e => e)) no hno f hf hca
  have hfin : ∀ w2, Fr (fun _ => False) w w2 → KErrPost w k K L i a c (openA K i c.s c.a c.b) (.returned (.int .i64 (foundE K.σ no f))) w2 := fun w2 hf2 => by
    unfold openA openF
    rw [if_neg (by rw [hca]; omega), if_neg hu, if_neg (by rw [hwe]; omega), if_neg (by rw [hwe]; simp), ← hnoe, show c.a.toNat = f by rw [hca]; rfl, if_pos (by rw [hnoe]; exact hfe)]
    exact ⟨rfl, L, _, I0.quiet hf2, rfl⟩
  have hx : foundE K.σ no f ≠ 0 := by rw [hnoe]; exact hfe
  have Hfin := hide hfin
  have Hfo := hide hfo
  generalize foundE K.σ no f = fe at *
  have hx' : (fe != 0) = true := by simpa using hx
  have HSA := hide hSA
  have HFQ := hide hFQ
  have HWK := hide hwk
  have hfree := hide hfree
  generalize ((32 - used (tabS L (K.proc i).fds) 32 : Nat) : Int) = fr at *
  clear h hok ha hao I0 hSA hFQ hwk hml _hgo _hga hsz hca hf4 g1 g2 g3 g4 g16 hu hdir hfo hfin hfe hwe hok0 hnoe hx
  unfold ptrAt at *
  go_enter Tryz.func25, Tryz.ntmps25
  go_wp2_with fail
  refine hfree.out.mono ?_
  rintro e w1 ⟨rfl, hf1⟩
  obtain ⟨y0, yk⟩ := HFQ.out w1 hf1
  have s1 := HSA.out w1.drew hf1.drew
  have hwalk := hide (HWK.out w1.drew hf1.drew)
  have Hf1 := hide hf1
  clear hf1 hfree
  go_upto_region 7 with (fail)
  refine region_tree (fun w' => AskAt w' a k (L.qb i) c noResV ∧ w'.cell? ⟨L.qb i, 4, none⟩ = some (.int .i64 (K.proc i).dir) ∧ w'.cell? ⟨L.qb i, 5, none⟩ = some (.int .i64 (K.proc i).mask)) [0, 1, 2, 3, 4, 5, 6, 7, 8, 9, 10, 11, 12] 5 18 (by kernel_rfl) (by kernel_rfl) (fun _ _ d _ _ h => by cases d <;> exact h) s1 ?_
  simp only [List.map_cons, List.map_nil, List.getD_cons_zero, List.getD_cons_succ, List.drop_succ_cons, List.drop_zero]
  go_big_quiet_step (fail)
  go_big_quiet_step (fail)
  refine wpQuiet_val (.pointer (some ⟨a, 0, none⟩)) rfl (fun w' hS => by (go_simp)) ?_
  simp only [Act.put, List.setIfInBounds_toArray, List.set_cons_succ, List.set_cons_zero]
  refine wpQuiet_val (.pointer (some ⟨a, 1, none⟩)) rfl (fun w' hS => by (go_simp)) ?_
  simp only [Act.put, List.setIfInBounds_toArray, List.set_cons_succ, List.set_cons_zero]
  refine wpQuiet_val (.pointer (some ⟨L.qb i, 0, none⟩)) rfl (fun w' hS => by
      have e : w'.cell? ⟨a, 1, none⟩ = some (.pointer (some ⟨L.qb i, 0, none⟩)) := by rw [blk_cell hS.1]; rfl
      go_simp) ?_
  simp only [Act.put, List.setIfInBounds_toArray, List.set_cons_succ, List.set_cons_zero]
  refine wpQuiet_val (.pointer (some ⟨L.qb i, 0, none⟩)) rfl (fun w' hS => by (go_simp)) ?_
  simp only [Act.put, List.setIfInBounds_toArray, List.set_cons_succ, List.set_cons_zero]
  refine wpQuiet_val (.pointer (some ⟨L.qb i, 4, none⟩)) rfl (fun w' hS => by (go_simp)) ?_
  simp only [Act.put, List.setIfInBounds_toArray, List.set_cons_succ, List.set_cons_zero]
  refine wpQuiet_val (.int .i64 (K.proc i).dir) rfl (fun w' hS => by
      have e : w'.cell? ⟨L.qb i, 4, none⟩ = some (.int .i64 (K.proc i).dir) := hS.2.1
      go_simp) ?_
  simp only [Act.put, List.setIfInBounds_toArray, List.set_cons_succ, List.set_cons_zero]
  go_big_quiet_step (fail)
  refine wpQuiet_val (.pointer (some ⟨a, 0, none⟩)) rfl (fun w' hS => by (go_simp)) ?_
  simp only [Act.put, List.setIfInBounds_toArray, List.set_cons_succ, List.set_cons_zero]
  refine wpQuiet_val (.pointer (some ⟨a, 2, none⟩)) rfl (fun w' hS => by (go_simp)) ?_
  simp only [Act.put, List.setIfInBounds_toArray, List.set_cons_succ, List.set_cons_zero]
  refine wpQuiet_val (.pointer (some ⟨a, 5, none⟩)) rfl (fun w' hS => by (go_simp)) ?_
  simp only [Act.put, List.setIfInBounds_toArray, List.set_cons_succ, List.set_cons_zero]
  refine wpQuiet_val (.string c.s) rfl (fun w' hS => by
      have e : w'.cell? ⟨a, 5, none⟩ = some (.string c.s) := by rw [blk_cell hS.1]; rfl
      go_simp) ?_
  simp only [Act.put, List.setIfInBounds_toArray, List.set_cons_succ, List.set_cons_zero]
  refine wpQuiet_nil ?_
  refine tree_one' 13 (by kernel_rfl) (by decide) (by simp) rfl (fun Kc hK => ?_)
  simp only [List.getD_cons_zero, List.getD_cons_succ]
  go_wp2_with fail
  refine hwalk.out.mono ?_
  rintro e w2 ⟨rfl, hf2⟩
  have hf2 := Hf1.out.drew.trans hf2
  have s2 := HSA.out w2 hf2
  have Hf2 := hide hf2
  refine hK _ _ s2 ?_
  clear hK Kc s1 y0 yk hwalk hf2
  refine tree_heads (f := 0) [14, 15, 16, 17] (by kernel_rfl) (fun _ _ d _ _ h => by cases d <;> exact h) s2 ?_
  simp only [List.map_cons, List.map_nil, List.getD_cons_zero, List.getD_cons_succ]
  go_big_quiet_step (fail)
  refine wpQuiet_val (.int .i64 no) rfl (fun w' hS => by (go_simp)) ?_
  simp only [Act.put, List.setIfInBounds_toArray, List.set_cons_succ, List.set_cons_zero]
  refine wpQuiet_val (.int .i64 0) rfl (fun w' hS => by (go_simp)) ?_
  simp only [Act.put, List.setIfInBounds_toArray, List.set_cons_succ, List.set_cons_zero]
  go_big_quiet_step (fail)
  refine wpQuiet_nil ?_
  refine tree_end (by kernel_rfl) ?_
  try (simp only [List.map_cons, List.map_nil, List.getD_cons_zero, List.getD_cons_succ, List.drop_succ_cons, List.drop_zero])
  go_wp2_with fail
  refine (Hfo.out w2 Hf2.out).mono ?_
  rintro e w3 ⟨rfl, hf3⟩
  have hlast := hide (Hfin.out w3 (Hf2.out.trans hf3))
  clear hf3 Hfin Hf1 Hf2 s2 HSA HFQ HWK Hfo
  go_wp2_with fail
  go_ret
  exact hlast.out
set_option maxRecDepth 100000 in
set_option maxHeartbeats 1000000 in
theorem aopen_found0 (w : World) (k : Nat) (K : KQ) (L : KLay) (h : KF w k K L) (N : Nat) (hok : KOk K N) (hN : N + 4 ≤ 1000000) (i : Nat) (h1 : 1 ≤ i) (h2 : i ≤ K.qn) (a : Nat) (c : SysQ) (ha : AskAt w a k (L.qb i) c noResV) (hao : L.o a = none) (hml : Ml w) (_hgo : L.o glB = none) (_hga : glB ≠ a) (hsz : c.s.size ≤ 9223372036854775807)  (f : Nat) (hf : f < 64) (hca : c.a = f) (hf4 : ¬ f % 4 = 0) (hu : ¬ 32 - used (K.proc i).fds 32 = 0) (hwe : (walkE K.σ (K.proc i).dir c.s.data.toList).1 = 0) (hfe : foundE K.σ (walkE K.σ (K.proc i).dir c.s.data.toList).2 f = 0) (h16 : f / 16 % 2 = 0) :
    Calls Tryz.prog 25 #[ptrAt a] w (KErrPost w k K L i a c (openA K i c.s c.a c.b)) := by
  have I0 := KIn.start h ha hao
  have hfree := free_any w (L.tb i) _ _ (h.ht i h1 h2)
  unfold FreePost at hfree
  have g1 : bits .and .i64 (f : Int) 1 = ((f % 2 : Nat) : Int) := and_fact1 ⟨f, hf⟩
  have g2 : bits .and .i64 (f : Int) 2 = ((f / 2 % 2 * 2 : Nat) : Int) := and_fact2 ⟨f, hf⟩
  have g3 : bits .and .i64 (f : Int) 3 = ((f % 4 : Nat) : Int) := and_fact3 ⟨f, hf⟩
  have g4 : bits .and .i64 (f : Int) 4 = ((f / 4 % 2 * 4 : Nat) : Int) := and_fact4 ⟨f, hf⟩
  have g16 : bits .and .i64 (f : Int) 16 = ((f / 16 % 2 * 16 : Nat) : Int) := and_fact16 ⟨f, hf⟩
  have g3n : (bits .and .i64 (f : Int) 3 == 0) = false := by rw [g3]; simp; omega
  have hf0 : ¬ (f : Int) < 0 := by omega
  have hf63 : ¬ (63 : Int) < (f : Int) := by omega
  have c3 : w.cell? ⟨a, 3, none⟩ = some (.int .i64 f) := by rw [blk_cell ha, ← hca]; rfl
  have c1 : w.cell? ⟨a, 1, none⟩ = some (.pointer (some ⟨L.qb i, 0, none⟩)) := by rw [blk_cell ha]; rfl
  have c6 : w.cell? ⟨L.qb i, 6, none⟩ = some (.pointer (some ⟨L.tb i, 0, none⟩)) := by rw [blk_cell (h.hq i h1 h2)]; rfl
  have hdir := (hok.proc i h1 h2).dir
  have hfr0 : (((32 - used (tabS L (K.proc i).fds) 32 : Nat) : Int) == 0) = false := by rw [used_tabS]; simp; omega
  have hSA : ∀ w', Fr (fun _ => False) w w' → AskAt w' a k (L.qb i) c noResV ∧ w'.cell? ⟨L.qb i, 4, none⟩ = some (.int .i64 (K.proc i).dir) ∧ w'.cell? ⟨L.qb i, 5, none⟩ = some (.int .i64 (K.proc i).mask) := fun w' hf' => by
    have h' := h.quiet hf'
    exact ⟨hf'.get ha (fun e => e), by rw [blk_cell (h'.hq i h1 h2)]; rfl, by rw [blk_cell (h'.hq i h1 h2)]; rfl⟩
  have hFQ : ∀ w', Fr (fun _ => False) w w' → w'.cell? ⟨a, 0, none⟩ = some (.pointer (some ⟨k, 0, none⟩)) ∧ w'.cell? ⟨k, 0, none⟩ = some (.pointer (some ⟨L.f, 0, none⟩)) := fun w' hf' => ⟨by rw [blk_cell (hSA w' hf').1]; rfl, by rw [blk_cell (h.quiet hf').hk]; rfl⟩
  have hwk : ∀ w', Fr (fun _ => False) w w' → Calls Tryz.prog 54 #[.pointer (some ⟨L.f, 0, none⟩), .int .i64 (K.proc i).dir, .string c.s] w' fun e w2 =>
      e = .returned (.tuple #[.int .i64 (if (walkE K.σ (K.proc i).dir c.s.data.toList).1 = 0 then ((walkE K.σ (K.proc i).dir c.s.data.toList).2 : Int) else 0), .int .i64 (walkE K.σ (K.proc i).dir c.s.data.toList).1]) ∧ Fr (fun _ => False) w' w2 := fun w' hf' => by
    obtain ⟨p, hA⟩ := (h.quiet hf').files
    exact Walk_any w' L.f K.σ _ p hA (hml.frame hf' (fun e => e)) (K.proc i).dir (by omega) c.s hsz
  have hok0 := walk_ok hok.good.live hwe
  obtain ⟨no, hnoe⟩ : ∃ no, no = (walkE K.σ (K.proc i).dir c.s.data.toList).2 := ⟨_, rfl⟩
  simp only [hwe, if_true, ← hnoe] at hwk
  rw [← hnoe] at hok0
  have hno : no ≤ 9223372036854775807 := by have := (FSt.nd_lt hok0).2; have := hok.good.live.len; omega
  have hfo : ∀ w2, Fr (fun _ => False) w w2 → Calls Tryz.prog 56 #[ptrAt a, .int .i64 no] w2 fun e w' => e = .returned (.int .i64 (foundE K.σ no f)) ∧ Fr (fun _ => False) w2 w' := fun w2 hf2 => afound_any w2 k K L (h.quiet hf2) (hok.good.b (by omega)) (L.qb i) a c noResV (hf2.get ha (fun e => e)) no hno f hf hca
  have hqE : openA K i c.s c.a c.b = openEnd K i f no := by
    unfold openA openF
    rw [if_neg (by rw [hca]; omega), if_neg hu, if_neg (by rw [hwe]; omega), if_neg (by rw [hwe]; simp), ← hnoe, show c.a.toNat = f by rw [hca]; rfl, if_neg (by rw [hnoe, hfe]; simp)]
  have HqE := hide hqE
  have Hfo := hide hfo
  rw [show foundE K.σ no f = 0 by rw [hnoe]; exact hfe] at Hfo
  have HI0 := hide I0
  have HgE := hide (hok.good.mono (Nat.le_succ N))
  have HfE := hide hok.fds
  have HdE := hide hok.dn
  rw [h16] at g16
  have HSA := hide hSA
  have HFQ := hide hFQ
  have HWK := hide hwk
  have hfree := hide hfree
  generalize ((32 - used (tabS L (K.proc i).fds) 32 : Nat) : Int) = fr at *
  clear h hok ha hao I0 hSA hFQ hwk hml _hgo _hga hsz hca hf4 g1 g3 g4 hu hdir hfo hqE hfe hwe hok0 hnoe
  unfold ptrAt at *
  go_enter Tryz.func25, Tryz.ntmps25
  go_wp2_with fail
  refine hfree.out.mono ?_
  rintro e w1 ⟨rfl, hf1⟩
  obtain ⟨y0, yk⟩ := HFQ.out w1 hf1
  have s1 := HSA.out w1.drew hf1.drew
  have hwalk := hide (HWK.out w1.drew hf1.drew)
  have Hf1 := hide hf1
  clear hf1 hfree
  go_upto_region 7 with (fail)
  refine region_tree (fun w' => AskAt w' a k (L.qb i) c noResV ∧ w'.cell? ⟨L.qb i, 4, none⟩ = some (.int .i64 (K.proc i).dir) ∧ w'.cell? ⟨L.qb i, 5, none⟩ = some (.int .i64 (K.proc i).mask)) [0, 1, 2, 3, 4, 5, 6, 7, 8, 9, 10, 11, 12] 5 18 (by kernel_rfl) (by kernel_rfl) (fun _ _ d _ _ h => by cases d <;> exact h) s1 ?_
  simp only [List.map_cons, List.map_nil, List.getD_cons_zero, List.getD_cons_succ, List.drop_succ_cons, List.drop_zero]
  go_big_quiet_step (fail)
  go_big_quiet_step (fail)
  refine wpQuiet_val (.pointer (some ⟨a, 0, none⟩)) rfl (fun w' hS => by (go_simp)) ?_
  simp only [Act.put, List.setIfInBounds_toArray, List.set_cons_succ, List.set_cons_zero]
  refine wpQuiet_val (.pointer (some ⟨a, 1, none⟩)) rfl (fun w' hS => by (go_simp)) ?_
  simp only [Act.put, List.setIfInBounds_toArray, List.set_cons_succ, List.set_cons_zero]
  refine wpQuiet_val (.pointer (some ⟨L.qb i, 0, none⟩)) rfl (fun w' hS => by
      have e : w'.cell? ⟨a, 1, none⟩ = some (.pointer (some ⟨L.qb i, 0, none⟩)) := by rw [blk_cell hS.1]; rfl
      go_simp) ?_
  simp only [Act.put, List.setIfInBounds_toArray, List.set_cons_succ, List.set_cons_zero]
  refine wpQuiet_val (.pointer (some ⟨L.qb i, 0, none⟩)) rfl (fun w' hS => by (go_simp)) ?_
  simp only [Act.put, List.setIfInBounds_toArray, List.set_cons_succ, List.set_cons_zero]
  refine wpQuiet_val (.pointer (some ⟨L.qb i, 4, none⟩)) rfl (fun w' hS => by (go_simp)) ?_
  simp only [Act.put, List.setIfInBounds_toArray, List.set_cons_succ, List.set_cons_zero]
  refine wpQuiet_val (.int .i64 (K.proc i).dir) rfl (fun w' hS => by
      have e : w'.cell? ⟨L.qb i, 4, none⟩ = some (.int .i64 (K.proc i).dir) := hS.2.1
      go_simp) ?_
  simp only [Act.put, List.setIfInBounds_toArray, List.set_cons_succ, List.set_cons_zero]
  go_big_quiet_step (fail)
  refine wpQuiet_val (.pointer (some ⟨a, 0, none⟩)) rfl (fun w' hS => by (go_simp)) ?_
  simp only [Act.put, List.setIfInBounds_toArray, List.set_cons_succ, List.set_cons_zero]
  refine wpQuiet_val (.pointer (some ⟨a, 2, none⟩)) rfl (fun w' hS => by (go_simp)) ?_
  simp only [Act.put, List.setIfInBounds_toArray, List.set_cons_succ, List.set_cons_zero]
  refine wpQuiet_val (.pointer (some ⟨a, 5, none⟩)) rfl (fun w' hS => by (go_simp)) ?_
  simp only [Act.put, List.setIfInBounds_toArray, List.set_cons_succ, List.set_cons_zero]
  refine wpQuiet_val (.string c.s) rfl (fun w' hS => by
      have e : w'.cell? ⟨a, 5, none⟩ = some (.string c.s) := by rw [blk_cell hS.1]; rfl
      go_simp) ?_
  simp only [Act.put, List.setIfInBounds_toArray, List.set_cons_succ, List.set_cons_zero]
  refine wpQuiet_nil ?_
  refine tree_one' 13 (by kernel_rfl) (by decide) (by simp) rfl (fun Kc hK => ?_)
  simp only [List.getD_cons_zero, List.getD_cons_succ]
  go_wp2_with fail
  refine hwalk.out.mono ?_
  rintro e w2 ⟨rfl, hf2⟩
  have hf2 := Hf1.out.drew.trans hf2
  have s2 := HSA.out w2 hf2
  have Hf2 := hide hf2
  refine hK _ _ s2 ?_
  clear hK Kc s1 y0 yk hwalk hf2
  refine tree_heads (f := 0) [14, 15, 16, 17] (by kernel_rfl) (fun _ _ d _ _ h => by cases d <;> exact h) s2 ?_
  simp only [List.map_cons, List.map_nil, List.getD_cons_zero, List.getD_cons_succ]
  go_big_quiet_step (fail)
  refine wpQuiet_val (.int .i64 no) rfl (fun w' hS => by (go_simp)) ?_
  simp only [Act.put, List.setIfInBounds_toArray, List.set_cons_succ, List.set_cons_zero]
  refine wpQuiet_val (.int .i64 0) rfl (fun w' hS => by (go_simp)) ?_
  simp only [Act.put, List.setIfInBounds_toArray, List.set_cons_succ, List.set_cons_zero]
  go_big_quiet_step (fail)
  refine wpQuiet_nil ?_
  refine tree_end (by kernel_rfl) ?_
  try (simp only [List.map_cons, List.map_nil, List.getD_cons_zero, List.getD_cons_succ, List.drop_succ_cons, List.drop_zero])
  go_wp2_with fail
  refine (Hfo.out w2 Hf2.out).mono ?_
  rintro e w3 ⟨rfl, hf3⟩
  have IE := HI0.out.quiet (Hf2.out.trans hf3)
  have hgE := HgE.out
  have hfE := HfE.out
  have hdE := HdE.out
  clear hf3 Hf1 Hf2 s2 HSA HFQ HWK Hfo HI0 HgE HfE HdE
  obtain ⟨KT, hKT⟩ : ∃ KT : KQ, KT = K := ⟨_, rfl⟩
  have hqT : openA K i c.s c.a c.b = openT KT i f no := by rw [HqE.out]; unfold openEnd; rw [if_neg (by omega), hKT]
  have hfT : FdsOk KT := by rw [hKT]; exact hfE
  have hdT : KT.dn ≤ N := by rw [hKT]; exact hdE
  have HqT := hide hqT
  have HfT := hide hfT
  have HdT := hide hdT
  obtain ⟨wT, hwT⟩ : ∃ x, x = w3 := ⟨_, rfl⟩
  obtain ⟨LT, hLT⟩ : ∃ x, x = L := ⟨_, rfl⟩
  have IT : KIn w k K L i a c wT KT LT noResV := by rw [hwT, hLT, hKT]; exact IE
  have gT : Good KT.σ (N + 2) := by rw [hKT]; exact hgE.mono (Nat.le_succ _)
  rw [← hwT]
  clear hKT hqT hfT hdT hgE hfE hdE HqE hwT hLT IE
  obtain ⟨pH, hAH⟩ := IT.F.files
  have hh0 := Hold_any wT LT.f KT.σ (LT.S tFil wT) pH hAH (gT.b (by omega)) no (by omega)
  rw [IT.E.f] at hh0
  have hh : Calls Tryz.prog 12 #[.pointer (some ⟨L.f, 0, none⟩), .int .i64 no] wT fun e w' => e = .returned (.int .i64 (holdR KT.σ no).1) ∧ ∃ LH, KIn w k K L i a c w' { KT with σ := (holdR KT.σ no).2 } LH noResV := hh0.mono fun e w' hm => ⟨hm.1, _, IT.files hm.2.2 (by rw [IT.E.f]; exact hm.2.1)⟩
  have Hh := hide hh
  obtain ⟨KH, hKH⟩ : ∃ KH : KQ, KH = { KT with σ := (holdR KT.σ no).2 } := ⟨_, rfl⟩
  rw [← hKH] at Hh
  have HKH := hide hKH
  generalize (holdR KT.σ no).1 = he at *
  clear hh0 hh hKH hAH gT IT
  go_wp2_with fail
  refine Hh.out.mono ?_
  rintro e wH ⟨rfl, LH, IH⟩
  clear Hh
  have hfH : FdsOk KH := by rw [HKH.out]; exact HfT.out
  have hdH : KH.dn ≤ N := by rw [HKH.out]; exact HdT.out
  obtain ⟨ux, hux⟩ : ∃ x, x = wH.drew.heap.size := ⟨_, rfl⟩
  obtain ⟨w6, hw6⟩ : ∃ w', w' = wH.drew.alloc (.cells #[.int .i64 2, .int .i64 no, .int .i64 0, .int .i64 0, .int .i64 f, .pointer none, .string ⟨#[]⟩, .int .i64 0] 72 (0, 0)) := ⟨_, rfl⟩
  have I6 : KIn w k K L i a c w6 KH LH noResV := by rw [hw6]; exact IH.drew.alloc _
  have uraw : w6.heap[ux]? = some (.cells (rawD LH (fileD no f) 0 0) 72 (0, 0)) := by
    rw [hw6, hux]
    unfold rawD pipeV fileD
    rw [if_neg (by simp)]
    exact blk_new _ _
  have hX : ∀ b, b = ux → w.heap.size ≤ b := fun b e => by rw [e, hux]; exact IH.drew.R.size
  have up := kopen_any w6 k KH LH I6.F i h1 (Nat.le_trans h2 I6.E.qn) ux (fileD no f) uraw (IH.drew.F.new _ (by rw [hux]; exact Nat.le_refl _)) hfH (by omega)
  rw [I6.qb h1 h2] at up
  have ua := IH.drew.A
  have ub := I6.A
  obtain ⟨uf, K6, hoq⟩ : ∃ x y, openQ KH i (fileD no f) = (x, y) := ⟨_, _, rfl⟩
  rw [hoq] at up
  have hlast : ∀ w7 L7, KIn w k K L i a c w7 K6 L7 noResV → KErrPost w k K L i a c (openA K i c.s c.a c.b) (.returned (.int .i64 0)) (w7.setCell ⟨a, 8, none⟩ (.int .i64 uf)) := fun w7 L7 I7 => by
    rw [HqT.out]
    unfold openT
    rw [← HKH.out, hoq]
    exact ⟨rfl, L7, _, I7.n uf, rfl⟩
  have Hlast := hide hlast
  have uz := hide hux
  have uw := hide hw6
  have uI := hide I6
  have uX := hide hX
  have uop := hide up
  clear hoq hlast hux uraw up hX I6 hw6 hfH hdH IH HqT HfT HdT HKH
  unfold ptrAt at *
  go_upto_region 17 with (fail)
  refine region_tree (fun w' => AskAt w' a k (L.qb i) c noResV) [0, 1, 2, 3, 4, 5, 6, 7, 8, 9, 10, 11, 12] 2 15 (by kernel_rfl) (by kernel_rfl) (fun _ _ d _ _ h => by cases d <;> exact h) ua ?_
  simp only [List.map_cons, List.map_nil, List.getD_cons_zero, List.getD_cons_succ, List.drop_succ_cons, List.drop_zero]
  generalize wH.drew = wd at *
  go_big_quiet_step (fail)
  go_big_quiet_step (fail)
  refine wpQuiet_val (.pointer (some ⟨a, 0, none⟩)) rfl (fun w' hS => by (go_simp)) ?_
  simp only [Act.put, List.setIfInBounds_toArray, List.set_cons_succ, List.set_cons_zero]
  refine wpQuiet_val (.pointer (some ⟨a, 0, none⟩)) rfl (fun w' hS => by (go_simp)) ?_
  simp only [Act.put, List.setIfInBounds_toArray, List.set_cons_succ, List.set_cons_zero]
  refine wpQuiet_val (.pointer (some ⟨k, 0, none⟩)) rfl (fun w' hS => by
      have e : w'.cell? ⟨a, 0, none⟩ = some (.pointer (some ⟨k, 0, none⟩)) := by rw [blk_cell (hS)]; rfl
      go_simp) ?_
  simp only [Act.put, List.setIfInBounds_toArray, List.set_cons_succ, List.set_cons_zero]
  go_big_quiet_step (fail)
  refine wpQuiet_val (.pointer (some ⟨a, 0, none⟩)) rfl (fun w' hS => by (go_simp)) ?_
  simp only [Act.put, List.setIfInBounds_toArray, List.set_cons_succ, List.set_cons_zero]
  refine wpQuiet_val (.pointer (some ⟨a, 1, none⟩)) rfl (fun w' hS => by (go_simp)) ?_
  simp only [Act.put, List.setIfInBounds_toArray, List.set_cons_succ, List.set_cons_zero]
  refine wpQuiet_val (.pointer (some ⟨L.qb i, 0, none⟩)) rfl (fun w' hS => by
      have e : w'.cell? ⟨a, 1, none⟩ = some (.pointer (some ⟨L.qb i, 0, none⟩)) := by rw [blk_cell (hS)]; rfl
      go_simp) ?_
  simp only [Act.put, List.setIfInBounds_toArray, List.set_cons_succ, List.set_cons_zero]
  go_big_quiet_step (fail)
  refine wpQuiet_val (.agg #[.int .i64 2, .int .i64 no, .int .i64 0, .int .i64 0]) rfl (fun w' hS => by (go_simp)) ?_
  simp only [Act.put, List.setIfInBounds_toArray, List.set_cons_succ, List.set_cons_zero]
  go_big_quiet_step (fail)
  refine wpQuiet_val (.agg #[.int .i64 2, .int .i64 no, .int .i64 0, .int .i64 0, .int .i64 f, .pointer none, .string ⟨#[]⟩, .int .i64 0]) rfl (fun w' hS => by (go_simp)) ?_
  simp only [Act.put, List.setIfInBounds_toArray, List.set_cons_succ, List.set_cons_zero]
  refine wpQuiet_nil ?_
  refine tree_one' 13 (by kernel_rfl) (by decide) (by simp) rfl (fun Kc hK => ?_)
  simp only [List.getD_cons_zero, List.getD_cons_succ]
  go_wp2_with fail
  rw [← uw.out, ← uz.out]
  refine hK _ _ ub ?_
  clear hK Kc
  refine tree_one' 14 (by kernel_rfl) (by decide) (by simp) rfl (fun Kc hK => ?_)
  simp only [List.getD_cons_zero, List.getD_cons_succ]
  go_wp2_with fail
  refine uop.out.mono ?_
  rintro e w7 ⟨rfl, hm⟩
  obtain ⟨L7, I7, _⟩ := uI.out.mut hm uX.out uX.out
  have uc := I7.A
  have HI7 := hide I7
  refine hK _ _ uc ?_
  clear hK Kc hm I7
  refine tree_end (by kernel_rfl) ?_
  try (simp only [List.map_cons, List.map_nil, List.getD_cons_zero, List.getD_cons_succ, List.drop_succ_cons, List.drop_zero])
  have q8 : w7.cell? ⟨a, 8, none⟩ = some (.int .i64 0) := by rw [blk_cell uc]; rfl
  have z8 : w7.frozen? ⟨a, 8, none⟩ = false := blk_frozen uc _
  have hl := hide (Hlast.out w7 L7 HI7.out)
  clear uc HI7 Hlast uI uop uw uz uX
  go_wp2_with fail
  go_ret
  exact hl.out
set_option maxRecDepth 100000 in
set_option maxHeartbeats 1000000 in
theorem aopen_found1 (w : World) (k : Nat) (K : KQ) (L : KLay) (h : KF w k K L) (N : Nat) (hok : KOk K N) (hN : N + 4 ≤ 1000000) (i : Nat) (h1 : 1 ≤ i) (h2 : i ≤ K.qn) (a : Nat) (c : SysQ) (ha : AskAt w a k (L.qb i) c noResV) (hao : L.o a = none) (hml : Ml w) (_hgo : L.o glB = none) (_hga : glB ≠ a) (hsz : c.s.size ≤ 9223372036854775807)  (f : Nat) (hf : f < 64) (hca : c.a = f) (hf4 : ¬ f % 4 = 0) (hu : ¬ 32 - used (K.proc i).fds 32 = 0) (hwe : (walkE K.σ (K.proc i).dir c.s.data.toList).1 = 0) (hfe : foundE K.σ (walkE K.σ (K.proc i).dir c.s.data.toList).2 f = 0) (h16 : f / 16 % 2 = 1) (h2b : f / 2 % 2 = 0) :
    Calls Tryz.prog 25 #[ptrAt a] w (KErrPost w k K L i a c (openA K i c.s c.a c.b)) := by
  have I0 := KIn.start h ha hao
  have hfree := free_any w (L.tb i) _ _ (h.ht i h1 h2)
  unfold FreePost at hfree
  have g1 : bits .and .i64 (f : Int) 1 = ((f % 2 : Nat) : Int) := and_fact1 ⟨f, hf⟩
  have g2 : bits .and .i64 (f : Int) 2 = ((f / 2 % 2 * 2 : Nat) : Int) := and_fact2 ⟨f, hf⟩
  have g3 : bits .and .i64 (f : Int) 3 = ((f % 4 : Nat) : Int) := and_fact3 ⟨f, hf⟩
  have g4 : bits .and .i64 (f : Int) 4 = ((f / 4 % 2 * 4 : Nat) : Int) := and_fact4 ⟨f, hf⟩
  have g16 : bits .and .i64 (f : Int) 16 = ((f / 16 % 2 * 16 : Nat) : Int) := and_fact16 ⟨f, hf⟩
  have g3n : (bits .and .i64 (f : Int) 3 == 0) = false := by rw [g3]; simp; omega
  have hf0 : ¬ (f : Int) < 0 := by omega
  have hf63 : ¬ (63 : Int) < (f : Int) := by omega
  have c3 : w.cell? ⟨a, 3, none⟩ = some (.int .i64 f) := by rw [blk_cell ha, ← hca]; rfl
  have c1 : w.cell? ⟨a, 1, none⟩ = some (.pointer (some ⟨L.qb i, 0, none⟩)) := by rw [blk_cell ha]; rfl
  have c6 : w.cell? ⟨L.qb i, 6, none⟩ = some (.pointer (some ⟨L.tb i, 0, none⟩)) := by rw [blk_cell (h.hq i h1 h2)]; rfl
  have hdir := (hok.proc i h1 h2).dir
  have hfr0 : (((32 - used (tabS L (K.proc i).fds) 32 : Nat) : Int) == 0) = false := by rw [used_tabS]; simp; omega
  have hSA : ∀ w', Fr (fun _ => False) w w' → AskAt w' a k (L.qb i) c noResV ∧ w'.cell? ⟨L.qb i, 4, none⟩ = some (.int .i64 (K.proc i).dir) ∧ w'.cell? ⟨L.qb i, 5, none⟩ = some (.int .i64 (K.proc i).mask) := fun w' hf' => by
    have h' := h.quiet hf'
    exact ⟨hf'.get ha (fun e => e), by rw [blk_cell (h'.hq i h1 h2)]; rfl, by rw [blk_cell (h'.hq i h1 h2)]; rfl⟩
  have hFQ : ∀ w', Fr (fun _ => False) w w' → w'.cell? ⟨a, 0, none⟩ = some (.pointer (some ⟨k, 0, none⟩)) ∧ w'.cell? ⟨k, 0, none⟩ = some (.pointer (some ⟨L.f, 0, none⟩)) := fun w' hf' => ⟨by rw [blk_cell (hSA w' hf').1]; rfl, by rw [blk_cell (h.quiet hf').hk]; rfl⟩
  have hwk : ∀ w', Fr (fun _ => False) w w' → Calls Tryz.prog 54 #[.pointer (some ⟨L.f, 0, none⟩), .int .i64 (K.proc i).dir, .string c.s] w' fun e w2 =>
      e = .returned (.tuple #[.int .i64 (if (walkE K.σ (K.proc i).dir c.s.data.toList).1 = 0 then ((walkE K.σ (K.proc i).dir c.s.data.toList).2 : Int) else 0), .int .i64 (walkE K.σ (K.proc i).dir c.s.data.toList).1]) ∧ Fr (fun _ => False) w' w2 := fun w' hf' => by
    obtain ⟨p, hA⟩ := (h.quiet hf').files
    exact Walk_any w' L.f K.σ _ p hA (hml.frame hf' (fun e => e)) (K.proc i).dir (by omega) c.s hsz
  have hok0 := walk_ok hok.good.live hwe
  obtain ⟨no, hnoe⟩ : ∃ no, no = (walkE K.σ (K.proc i).dir c.s.data.toList).2 := ⟨_, rfl⟩
  simp only [hwe, if_true, ← hnoe] at hwk
  rw [← hnoe] at hok0
  have hno : no ≤ 9223372036854775807 := by have := (FSt.nd_lt hok0).2; have := hok.good.live.len; omega
  have hfo : ∀ w2, Fr (fun _ => False) w w2 → Calls Tryz.prog 56 #[ptrAt a, .int .i64 no] w2 fun e w' => e = .returned (.int .i64 (foundE K.σ no f)) ∧ Fr (fun _ => False) w2 w' := fun w2 hf2 => afound_any w2 k K L (h.quiet hf2) (hok.good.b (by omega)) (L.qb i) a c noResV (hf2.get ha (fun e => e)) no hno f hf hca
  have hqE : openA K i c.s c.a c.b = openEnd K i f no := by
    unfold openA openF
    rw [if_neg (by rw [hca]; omega), if_neg hu, if_neg (by rw [hwe]; omega), if_neg (by rw [hwe]; simp), ← hnoe, show c.a.toNat = f by rw [hca]; rfl, if_neg (by rw [hnoe, hfe]; simp)]
  have HqE := hide hqE
  have Hfo := hide hfo
  rw [show foundE K.σ no f = 0 by rw [hnoe]; exact hfe] at Hfo
  have HI0 := hide I0
  have HgE := hide (hok.good.mono (Nat.le_succ N))
  have HfE := hide hok.fds
  have HdE := hide hok.dn
  rw [h16] at g16
  rw [h2b] at g2
  have HSA := hide hSA
  have HFQ := hide hFQ
  have HWK := hide hwk
  have hfree := hide hfree
  generalize ((32 - used (tabS L (K.proc i).fds) 32 : Nat) : Int) = fr at *
  clear h hok ha hao I0 hSA hFQ hwk hml _hgo _hga hsz hca hf4 g1 g3 g4 hu hdir hfo hqE hfe hwe hok0 hnoe
  unfold ptrAt at *
  go_enter Tryz.func25, Tryz.ntmps25
  go_wp2_with fail
  refine hfree.out.mono ?_
  rintro e w1 ⟨rfl, hf1⟩
  obtain ⟨y0, yk⟩ := HFQ.out w1 hf1
  have s1 := HSA.out w1.drew hf1.drew
  have hwalk := hide (HWK.out w1.drew hf1.drew)
  have Hf1 := hide hf1
  clear hf1 hfree
  go_upto_region 7 with (fail)
  refine region_tree (fun w' => AskAt w' a k (L.qb i) c noResV ∧ w'.cell? ⟨L.qb i, 4, none⟩ = some (.int .i64 (K.proc i).dir) ∧ w'.cell? ⟨L.qb i, 5, none⟩ = some (.int .i64 (K.proc i).mask)) [0, 1, 2, 3, 4, 5, 6, 7, 8, 9, 10, 11, 12] 5 18 (by kernel_rfl) (by kernel_rfl) (fun _ _ d _ _ h => by cases d <;> exact h) s1 ?_
  simp only [List.map_cons, List.map_nil, List.getD_cons_zero, List.getD_cons_succ, List.drop_succ_cons, List.drop_zero]
  go_big_quiet_step (fail)
  go_big_quiet_step (fail)
  refine wpQuiet_val (.pointer (some ⟨a, 0, none⟩)) rfl (fun w' hS => by (go_simp)) ?_
  simp only [Act.put, List.setIfInBounds_toArray, List.set_cons_succ, List.set_cons_zero]
  refine wpQuiet_val (.pointer (some ⟨a, 1, none⟩)) rfl (fun w' hS => by (go_simp)) ?_
  simp only [Act.put, List.setIfInBounds_toArray, List.set_cons_succ, List.set_cons_zero]
  refine wpQuiet_val (.pointer (some ⟨L.qb i, 0, none⟩)) rfl (fun w' hS => by
      have e : w'.cell? ⟨a, 1, none⟩ = some (.pointer (some ⟨L.qb i, 0, none⟩)) := by rw [blk_cell hS.1]; rfl
      go_simp) ?_
  simp only [Act.put, List.setIfInBounds_toArray, List.set_cons_succ, List.set_cons_zero]
  refine wpQuiet_val (.pointer (some ⟨L.qb i, 0, none⟩)) rfl (fun w' hS => by (go_simp)) ?_
  simp only [Act.put, List.setIfInBounds_toArray, List.set_cons_succ, List.set_cons_zero]
  refine wpQuiet_val (.pointer (some ⟨L.qb i, 4, none⟩)) rfl (fun w' hS => by (go_simp)) ?_
  simp only [Act.put, List.setIfInBounds_toArray, List.set_cons_succ, List.set_cons_zero]
  refine wpQuiet_val (.int .i64 (K.proc i).dir) rfl (fun w' hS => by
      have e : w'.cell? ⟨L.qb i, 4, none⟩ = some (.int .i64 (K.proc i).dir) := hS.2.1
      go_simp) ?_
  simp only [Act.put, List.setIfInBounds_toArray, List.set_cons_succ, List.set_cons_zero]
  go_big_quiet_step (fail)
  refine wpQuiet_val (.pointer (some ⟨a, 0, none⟩)) rfl (fun w' hS => by (go_simp)) ?_
  simp only [Act.put, List.setIfInBounds_toArray, List.set_cons_succ, List.set_cons_zero]
  refine wpQuiet_val (.pointer (some ⟨a, 2, none⟩)) rfl (fun w' hS => by (go_simp)) ?_
  simp only [Act.put, List.setIfInBounds_toArray, List.set_cons_succ, List.set_cons_zero]
  refine wpQuiet_val (.pointer (some ⟨a, 5, none⟩)) rfl (fun w' hS => by (go_simp)) ?_
  simp only [Act.put, List.setIfInBounds_toArray, List.set_cons_succ, List.set_cons_zero]
  refine wpQuiet_val (.string c.s) rfl (fun w' hS => by
      have e : w'.cell? ⟨a, 5, none⟩ = some (.string c.s) := by rw [blk_cell hS.1]; rfl
      go_simp) ?_
  simp only [Act.put, List.setIfInBounds_toArray, List.set_cons_succ, List.set_cons_zero]
  refine wpQuiet_nil ?_
  refine tree_one' 13 (by kernel_rfl) (by decide) (by simp) rfl (fun Kc hK => ?_)
  simp only [List.getD_cons_zero, List.getD_cons_succ]
  go_wp2_with fail
  refine hwalk.out.mono ?_
  rintro e w2 ⟨rfl, hf2⟩
  have hf2 := Hf1.out.drew.trans hf2
  have s2 := HSA.out w2 hf2
  have Hf2 := hide hf2
  refine hK _ _ s2 ?_
  clear hK Kc s1 y0 yk hwalk hf2
  refine tree_heads (f := 0) [14, 15, 16, 17] (by kernel_rfl) (fun _ _ d _ _ h => by cases d <;> exact h) s2 ?_
  simp only [List.map_cons, List.map_nil, List.getD_cons_zero, List.getD_cons_succ]
  go_big_quiet_step (fail)
  refine wpQuiet_val (.int .i64 no) rfl (fun w' hS => by (go_simp)) ?_
  simp only [Act.put, List.setIfInBounds_toArray, List.set_cons_succ, List.set_cons_zero]
  refine wpQuiet_val (.int .i64 0) rfl (fun w' hS => by (go_simp)) ?_
  simp only [Act.put, List.setIfInBounds_toArray, List.set_cons_succ, List.set_cons_zero]
  go_big_quiet_step (fail)
  refine wpQuiet_nil ?_
  refine tree_end (by kernel_rfl) ?_
  try (simp only [List.map_cons, List.map_nil, List.getD_cons_zero, List.getD_cons_succ, List.drop_succ_cons, List.drop_zero])
  go_wp2_with fail
  refine (Hfo.out w2 Hf2.out).mono ?_
  rintro e w3 ⟨rfl, hf3⟩
  have IE := HI0.out.quiet (Hf2.out.trans hf3)
  have hgE := HgE.out
  have hfE := HfE.out
  have hdE := HdE.out
  clear hf3 Hf1 Hf2 s2 HSA HFQ HWK Hfo HI0 HgE HfE HdE
  obtain ⟨KT, hKT⟩ : ∃ KT : KQ, KT = K := ⟨_, rfl⟩
  have hqT : openA K i c.s c.a c.b = openT KT i f no := by rw [HqE.out]; unfold openEnd; rw [if_neg (by omega), hKT]
  have hfT : FdsOk KT := by rw [hKT]; exact hfE
  have hdT : KT.dn ≤ N := by rw [hKT]; exact hdE
  have HqT := hide hqT
  have HfT := hide hfT
  have HdT := hide hdT
  obtain ⟨wT, hwT⟩ : ∃ x, x = w3 := ⟨_, rfl⟩
  obtain ⟨LT, hLT⟩ : ∃ x, x = L := ⟨_, rfl⟩
  have IT : KIn w k K L i a c wT KT LT noResV := by rw [hwT, hLT, hKT]; exact IE
  have gT : Good KT.σ (N + 2) := by rw [hKT]; exact hgE.mono (Nat.le_succ _)
  rw [← hwT]
  clear hKT hqT hfT hdT hgE hfE hdE HqE hwT hLT IE
  obtain ⟨pH, hAH⟩ := IT.F.files
  have hh0 := Hold_any wT LT.f KT.σ (LT.S tFil wT) pH hAH (gT.b (by omega)) no (by omega)
  rw [IT.E.f] at hh0
  have hh : Calls Tryz.prog 12 #[.pointer (some ⟨L.f, 0, none⟩), .int .i64 no] wT fun e w' => e = .returned (.int .i64 (holdR KT.σ no).1) ∧ ∃ LH, KIn w k K L i a c w' { KT with σ := (holdR KT.σ no).2 } LH noResV := hh0.mono fun e w' hm => ⟨hm.1, _, IT.files hm.2.2 (by rw [IT.E.f]; exact hm.2.1)⟩
  have Hh := hide hh
  obtain ⟨KH, hKH⟩ : ∃ KH : KQ, KH = { KT with σ := (holdR KT.σ no).2 } := ⟨_, rfl⟩
  rw [← hKH] at Hh
  have HKH := hide hKH
  generalize (holdR KT.σ no).1 = he at *
  clear hh0 hh hKH hAH gT IT
  go_wp2_with fail
  refine Hh.out.mono ?_
  rintro e wH ⟨rfl, LH, IH⟩
  clear Hh
  have hfH : FdsOk KH := by rw [HKH.out]; exact HfT.out
  have hdH : KH.dn ≤ N := by rw [HKH.out]; exact HdT.out
  obtain ⟨ux, hux⟩ : ∃ x, x = wH.drew.heap.size := ⟨_, rfl⟩
  obtain ⟨w6, hw6⟩ : ∃ w', w' = wH.drew.alloc (.cells #[.int .i64 2, .int .i64 no, .int .i64 0, .int .i64 0, .int .i64 f, .pointer none, .string ⟨#[]⟩, .int .i64 0] 72 (0, 0)) := ⟨_, rfl⟩
  have I6 : KIn w k K L i a c w6 KH LH noResV := by rw [hw6]; exact IH.drew.alloc _
  have uraw : w6.heap[ux]? = some (.cells (rawD LH (fileD no f) 0 0) 72 (0, 0)) := by
    rw [hw6, hux]
    unfold rawD pipeV fileD
    rw [if_neg (by simp)]
    exact blk_new _ _
  have hX : ∀ b, b = ux → w.heap.size ≤ b := fun b e => by rw [e, hux]; exact IH.drew.R.size
  have up := kopen_any w6 k KH LH I6.F i h1 (Nat.le_trans h2 I6.E.qn) ux (fileD no f) uraw (IH.drew.F.new _ (by rw [hux]; exact Nat.le_refl _)) hfH (by omega)
  rw [I6.qb h1 h2] at up
  have ua := IH.drew.A
  have ub := I6.A
  obtain ⟨uf, K6, hoq⟩ : ∃ x y, openQ KH i (fileD no f) = (x, y) := ⟨_, _, rfl⟩
  rw [hoq] at up
  have hlast : ∀ w7 L7, KIn w k K L i a c w7 K6 L7 noResV → KErrPost w k K L i a c (openA K i c.s c.a c.b) (.returned (.int .i64 0)) (w7.setCell ⟨a, 8, none⟩ (.int .i64 uf)) := fun w7 L7 I7 => by
    rw [HqT.out]
    unfold openT
    rw [← HKH.out, hoq]
    exact ⟨rfl, L7, _, I7.n uf, rfl⟩
  have Hlast := hide hlast
  have uz := hide hux
  have uw := hide hw6
  have uI := hide I6
  have uX := hide hX
  have uop := hide up
  clear hoq hlast hux uraw up hX I6 hw6 hfH hdH IH HqT HfT HdT HKH
  unfold ptrAt at *
  go_upto_region 17 with (fail)
  refine region_tree (fun w' => AskAt w' a k (L.qb i) c noResV) [0, 1, 2, 3, 4, 5, 6, 7, 8, 9, 10, 11, 12] 2 15 (by kernel_rfl) (by kernel_rfl) (fun _ _ d _ _ h => by cases d <;> exact h) ua ?_
  simp only [List.map_cons, List.map_nil, List.getD_cons_zero, List.getD_cons_succ, List.drop_succ_cons, List.drop_zero]
  generalize wH.drew = wd at *
  go_big_quiet_step (fail)
  go_big_quiet_step (fail)
  refine wpQuiet_val (.pointer (some ⟨a, 0, none⟩)) rfl (fun w' hS => by (go_simp)) ?_
  simp only [Act.put, List.setIfInBounds_toArray, List.set_cons_succ, List.set_cons_zero]
  refine wpQuiet_val (.pointer (some ⟨a, 0, none⟩)) rfl (fun w' hS => by (go_simp)) ?_
  simp only [Act.put, List.setIfInBounds_toArray, List.set_cons_succ, List.set_cons_zero]
  refine wpQuiet_val (.pointer (some ⟨k, 0, none⟩)) rfl (fun w' hS => by
      have e : w'.cell? ⟨a, 0, none⟩ = some (.pointer (some ⟨k, 0, none⟩)) := by rw [blk_cell (hS)]; rfl
      go_simp) ?_
  simp only [Act.put, List.setIfInBounds_toArray, List.set_cons_succ, List.set_cons_zero]
  go_big_quiet_step (fail)
  refine wpQuiet_val (.pointer (some ⟨a, 0, none⟩)) rfl (fun w' hS => by (go_simp)) ?_
  simp only [Act.put, List.setIfInBounds_toArray, List.set_cons_succ, List.set_cons_zero]
  refine wpQuiet_val (.pointer (some ⟨a, 1, none⟩)) rfl (fun w' hS => by (go_simp)) ?_
  simp only [Act.put, List.setIfInBounds_toArray, List.set_cons_succ, List.set_cons_zero]
  refine wpQuiet_val (.pointer (some ⟨L.qb i, 0, none⟩)) rfl (fun w' hS => by
      have e : w'.cell? ⟨a, 1, none⟩ = some (.pointer (some ⟨L.qb i, 0, none⟩)) := by rw [blk_cell (hS)]; rfl
      go_simp) ?_
  simp only [Act.put, List.setIfInBounds_toArray, List.set_cons_succ, List.set_cons_zero]
  go_big_quiet_step (fail)
  refine wpQuiet_val (.agg #[.int .i64 2, .int .i64 no, .int .i64 0, .int .i64 0]) rfl (fun w' hS => by (go_simp)) ?_
  simp only [Act.put, List.setIfInBounds_toArray, List.set_cons_succ, List.set_cons_zero]
  go_big_quiet_step (fail)
  refine wpQuiet_val (.agg #[.int .i64 2, .int .i64 no, .int .i64 0, .int .i64 0, .int .i64 f, .pointer none, .string ⟨#[]⟩, .int .i64 0]) rfl (fun w' hS => by (go_simp)) ?_
  simp only [Act.put, List.setIfInBounds_toArray, List.set_cons_succ, List.set_cons_zero]
  refine wpQuiet_nil ?_
  refine tree_one' 13 (by kernel_rfl) (by decide) (by simp) rfl (fun Kc hK => ?_)
  simp only [List.getD_cons_zero, List.getD_cons_succ]
  go_wp2_with fail
  rw [← uw.out, ← uz.out]
  refine hK _ _ ub ?_
  clear hK Kc
  refine tree_one' 14 (by kernel_rfl) (by decide) (by simp) rfl (fun Kc hK => ?_)
  simp only [List.getD_cons_zero, List.getD_cons_succ]
  go_wp2_with fail
  refine uop.out.mono ?_
  rintro e w7 ⟨rfl, hm⟩
  obtain ⟨L7, I7, _⟩ := uI.out.mut hm uX.out uX.out
  have uc := I7.A
  have HI7 := hide I7
  refine hK _ _ uc ?_
  clear hK Kc hm I7
  refine tree_end (by kernel_rfl) ?_
  try (simp only [List.map_cons, List.map_nil, List.getD_cons_zero, List.getD_cons_succ, List.drop_succ_cons, List.drop_zero])
  have q8 : w7.cell? ⟨a, 8, none⟩ = some (.int .i64 0) := by rw [blk_cell uc]; rfl
  have z8 : w7.frozen? ⟨a, 8, none⟩ = false := blk_frozen uc _
  have hl := hide (Hlast.out w7 L7 HI7.out)
  clear uc HI7 Hlast uI uop uw uz uX
  go_wp2_with fail
  go_ret
  exact hl.out
set_option maxRecDepth 100000 in
set_option maxHeartbeats 1000000 in
theorem aopen_found2 (w : World) (k : Nat) (K : KQ) (L : KLay) (h : KF w k K L) (N : Nat) (hok : KOk K N) (hN : N + 4 ≤ 1000000) (i : Nat) (h1 : 1 ≤ i) (h2 : i ≤ K.qn) (a : Nat) (c : SysQ) (ha : AskAt w a k (L.qb i) c noResV) (hao : L.o a = none) (hml : Ml w) (_hgo : L.o glB = none) (_hga : glB ≠ a) (hsz : c.s.size ≤ 9223372036854775807)  (f : Nat) (hf : f < 64) (hca : c.a = f) (_hf4 : ¬ f % 4 = 0) (hu : ¬ 32 - used (K.proc i).fds 32 = 0) (hwe : (walkE K.σ (K.proc i).dir c.s.data.toList).1 = 0) (hfe : foundE K.σ (walkE K.σ (K.proc i).dir c.s.data.toList).2 f = 0) (h16 : f / 16 % 2 = 1) (h2b : f / 2 % 2 = 1) :
    Calls Tryz.prog 25 #[ptrAt a] w (KErrPost w k K L i a c (openA K i c.s c.a c.b)) := by
  have I0 := KIn.start h ha hao
  have hfree := free_any w (L.tb i) _ _ (h.ht i h1 h2)
  unfold FreePost at hfree
  have g1 : bits .and .i64 (f : Int) 1 = ((f % 2 : Nat) : Int) := and_fact1 ⟨f, hf⟩
  have g2 : bits .and .i64 (f : Int) 2 = ((f / 2 % 2 * 2 : Nat) : Int) := and_fact2 ⟨f, hf⟩
  have g3 : bits .and .i64 (f : Int) 3 = ((f % 4 : Nat) : Int) := and_fact3 ⟨f, hf⟩
  have g4 : bits .and .i64 (f : Int) 4 = ((f / 4 % 2 * 4 : Nat) : Int) := and_fact4 ⟨f, hf⟩
  have g16 : bits .and .i64 (f : Int) 16 = ((f / 16 % 2 * 16 : Nat) : Int) := and_fact16 ⟨f, hf⟩
  have g3n : (bits .and .i64 (f : Int) 3 == 0) = false := by rw [g3]; simp; omega
  have hf0 : ¬ (f : Int) < 0 := by omega
  have hf63 : ¬ (63 : Int) < (f : Int) := by omega
  have c3 : w.cell? ⟨a, 3, none⟩ = some (.int .i64 f) := by rw [blk_cell ha, ← hca]; rfl
  have c1 : w.cell? ⟨a, 1, none⟩ = some (.pointer (some ⟨L.qb i, 0, none⟩)) := by rw [blk_cell ha]; rfl
  have c6 : w.cell? ⟨L.qb i, 6, none⟩ = some (.pointer (some ⟨L.tb i, 0, none⟩)) := by rw [blk_cell (h.hq i h1 h2)]; rfl
  have hdir := (hok.proc i h1 h2).dir
  have hfr0 : (((32 - used (tabS L (K.proc i).fds) 32 : Nat) : Int) == 0) = false := by rw [used_tabS]; simp; omega
  have hSA : ∀ w', Fr (fun _ => False) w w' → AskAt w' a k (L.qb i) c noResV ∧ w'.cell? ⟨L.qb i, 4, none⟩ = some (.int .i64 (K.proc i).dir) ∧ w'.cell? ⟨L.qb i, 5, none⟩ = some (.int .i64 (K.proc i).mask) := fun w' hf' => by
    have h' := h.quiet hf'
    exact ⟨hf'.get ha (fun e => e), by rw [blk_cell (h'.hq i h1 h2)]; rfl, by rw [blk_cell (h'.hq i h1 h2)]; rfl⟩
  have hFQ : ∀ w', Fr (fun _ => False) w w' → w'.cell? ⟨a, 0, none⟩ = some (.pointer (some ⟨k, 0, none⟩)) ∧ w'.cell? ⟨k, 0, none⟩ = some (.pointer (some ⟨L.f, 0, none⟩)) := fun w' hf' => ⟨by rw [blk_cell (hSA w' hf').1]; rfl, by rw [blk_cell (h.quiet hf').hk]; rfl⟩
  have hwk : ∀ w', Fr (fun _ => False) w w' → Calls Tryz.prog 54 #[.pointer (some ⟨L.f, 0, none⟩), .int .i64 (K.proc i).dir, .string c.s] w' fun e w2 =>
      e = .returned (.tuple #[.int .i64 (if (walkE K.σ (K.proc i).dir c.s.data.toList).1 = 0 then ((walkE K.σ (K.proc i).dir c.s.data.toList).2 : Int) else 0), .int .i64 (walkE K.σ (K.proc i).dir c.s.data.toList).1]) ∧ Fr (fun _ => False) w' w2 := fun w' hf' => by
    obtain ⟨p, hA⟩ := (h.quiet hf').files
    exact Walk_any w' L.f K.σ _ p hA (hml.frame hf' (fun e => e)) (K.proc i).dir (by omega) c.s hsz
  have hok0 := walk_ok hok.good.live hwe
  obtain ⟨no, hnoe⟩ : ∃ no, no = (walkE K.σ (K.proc i).dir c.s.data.toList).2 := ⟨_, rfl⟩
  simp only [hwe, if_true, ← hnoe] at hwk
  rw [← hnoe] at hok0
  have hno : no ≤ 9223372036854775807 := by have := (FSt.nd_lt hok0).2; have := hok.good.live.len; omega
  have hfo : ∀ w2, Fr (fun _ => False) w w2 → Calls Tryz.prog 56 #[ptrAt a, .int .i64 no] w2 fun e w' => e = .returned (.int .i64 (foundE K.σ no f)) ∧ Fr (fun _ => False) w2 w' := fun w2 hf2 => afound_any w2 k K L (h.quiet hf2) (hok.good.b (by omega)) (L.qb i) a c noResV (hf2.get ha (fun e => e)) no hno f hf hca
  have hqE : openA K i c.s c.a c.b = openEnd K i f no := by
    unfold openA openF
    rw [if_neg (by rw [hca]; omega), if_neg hu, if_neg (by rw [hwe]; omega), if_neg (by rw [hwe]; simp), ← hnoe, show c.a.toNat = f by rw [hca]; rfl, if_neg (by rw [hnoe, hfe]; simp)]
  have HqE := hide hqE
  have Hfo := hide hfo
  rw [show foundE K.σ no f = 0 by rw [hnoe]; exact hfe] at Hfo
  have HI0 := hide I0
  have HgE := hide (hok.good.mono (Nat.le_succ N))
  have HfE := hide hok.fds
  have HdE := hide hok.dn
  rw [h16] at g16
  rw [h2b] at g2
  have HSA := hide hSA
  have HFQ := hide hFQ
  have HWK := hide hwk
  have hfree := hide hfree
  generalize ((32 - used (tabS L (K.proc i).fds) 32 : Nat) : Int) = fr at *
  clear h hok ha hao I0 hSA hFQ hwk hml _hgo _hga hsz hca _hf4 g1 g3 g4 hu hdir hfo hqE hfe hwe hok0 hnoe
  unfold ptrAt at *
  go_enter Tryz.func25, Tryz.ntmps25
  go_wp2_with fail
  refine hfree.out.mono ?_
  rintro e w1 ⟨rfl, hf1⟩
  obtain ⟨y0, yk⟩ := HFQ.out w1 hf1
  have s1 := HSA.out w1.drew hf1.drew
  have hwalk := hide (HWK.out w1.drew hf1.drew)
  have Hf1 := hide hf1
  clear hf1 hfree
  go_upto_region 7 with (fail)
  refine region_tree (fun w' => AskAt w' a k (L.qb i) c noResV ∧ w'.cell? ⟨L.qb i, 4, none⟩ = some (.int .i64 (K.proc i).dir) ∧ w'.cell? ⟨L.qb i, 5, none⟩ = some (.int .i64 (K.proc i).mask)) [0, 1, 2, 3, 4, 5, 6, 7, 8, 9, 10, 11, 12] 5 18 (by kernel_rfl) (by kernel_rfl) (fun _ _ d _ _ h => by cases d <;> exact h) s1 ?_
  simp only [List.map_cons, List.map_nil, List.getD_cons_zero, List.getD_cons_succ, List.drop_succ_cons, List.drop_zero]
  go_big_quiet_step (fail)
  go_big_quiet_step (fail)
  refine wpQuiet_val (.pointer (some ⟨a, 0, none⟩)) rfl (fun w' hS => by (go_simp)) ?_
  simp only [Act.put, List.setIfInBounds_toArray, List.set_cons_succ, List.set_cons_zero]
  refine wpQuiet_val (.pointer (some ⟨a, 1, none⟩)) rfl (fun w' hS => by (go_simp)) ?_
  simp only [Act.put, List.setIfInBounds_toArray, List.set_cons_succ, List.set_cons_zero]
  refine wpQuiet_val (.pointer (some ⟨L.qb i, 0, none⟩)) rfl (fun w' hS => by
      have e : w'.cell? ⟨a, 1, none⟩ = some (.pointer (some ⟨L.qb i, 0, none⟩)) := by rw [blk_cell hS.1]; rfl
      go_simp) ?_
  simp only [Act.put, List.setIfInBounds_toArray, List.set_cons_succ, List.set_cons_zero]
  refine wpQuiet_val (.pointer (some ⟨L.qb i, 0, none⟩)) rfl (fun w' hS => by (go_simp)) ?_
  simp only [Act.put, List.setIfInBounds_toArray, List.set_cons_succ, List.set_cons_zero]
  refine wpQuiet_val (.pointer (some ⟨L.qb i, 4, none⟩)) rfl (fun w' hS => by (go_simp)) ?_
  simp only [Act.put, List.setIfInBounds_toArray, List.set_cons_succ, List.set_cons_zero]
  refine wpQuiet_val (.int .i64 (K.proc i).dir) rfl (fun w' hS => by
      have e : w'.cell? ⟨L.qb i, 4, none⟩ = some (.int .i64 (K.proc i).dir) := hS.2.1
      go_simp) ?_
  simp only [Act.put, List.setIfInBounds_toArray, List.set_cons_succ, List.set_cons_zero]
  go_big_quiet_step (fail)
  refine wpQuiet_val (.pointer (some ⟨a, 0, none⟩)) rfl (fun w' hS => by (go_simp)) ?_
  simp only [Act.put, List.setIfInBounds_toArray, List.set_cons_succ, List.set_cons_zero]
  refine wpQuiet_val (.pointer (some ⟨a, 2, none⟩)) rfl (fun w' hS => by (go_simp)) ?_
  simp only [Act.put, List.setIfInBounds_toArray, List.set_cons_succ, List.set_cons_zero]
  refine wpQuiet_val (.pointer (some ⟨a, 5, none⟩)) rfl (fun w' hS => by (go_simp)) ?_
  simp only [Act.put, List.setIfInBounds_toArray, List.set_cons_succ, List.set_cons_zero]
  refine wpQuiet_val (.string c.s) rfl (fun w' hS => by
      have e : w'.cell? ⟨a, 5, none⟩ = some (.string c.s) := by rw [blk_cell hS.1]; rfl
      go_simp) ?_
  simp only [Act.put, List.setIfInBounds_toArray, List.set_cons_succ, List.set_cons_zero]
  refine wpQuiet_nil ?_
  refine tree_one' 13 (by kernel_rfl) (by decide) (by simp) rfl (fun Kc hK => ?_)
  simp only [List.getD_cons_zero, List.getD_cons_succ]
  go_wp2_with fail
  refine hwalk.out.mono ?_
  rintro e w2 ⟨rfl, hf2⟩
  have hf2 := Hf1.out.drew.trans hf2
  have s2 := HSA.out w2 hf2
  have Hf2 := hide hf2
  refine hK _ _ s2 ?_
  clear hK Kc s1 y0 yk hwalk hf2
  refine tree_heads (f := 0) [14, 15, 16, 17] (by kernel_rfl) (fun _ _ d _ _ h => by cases d <;> exact h) s2 ?_
  simp only [List.map_cons, List.map_nil, List.getD_cons_zero, List.getD_cons_succ]
  go_big_quiet_step (fail)
  refine wpQuiet_val (.int .i64 no) rfl (fun w' hS => by (go_simp)) ?_
  simp only [Act.put, List.setIfInBounds_toArray, List.set_cons_succ, List.set_cons_zero]
  refine wpQuiet_val (.int .i64 0) rfl (fun w' hS => by (go_simp)) ?_
  simp only [Act.put, List.setIfInBounds_toArray, List.set_cons_succ, List.set_cons_zero]
  go_big_quiet_step (fail)
  refine wpQuiet_nil ?_
  refine tree_end (by kernel_rfl) ?_
  try (simp only [List.map_cons, List.map_nil, List.getD_cons_zero, List.getD_cons_succ, List.drop_succ_cons, List.drop_zero])
  go_wp2_with fail
  refine (Hfo.out w2 Hf2.out).mono ?_
  rintro e w3 ⟨rfl, hf3⟩
  have IE := HI0.out.quiet (Hf2.out.trans hf3)
  have hgE := HgE.out
  have hfE := HfE.out
  have hdE := HdE.out
  clear hf3 Hf1 Hf2 s2 HSA HFQ HWK Hfo HI0 HgE HfE HdE
  obtain ⟨pT, hAT⟩ := IE.F.files
  have htr0 := Truncate_any w3 L.f (K).σ (L.S tFil w3) pT hAT no 0 (by omega) (by decide)
  rw [IE.E.f] at htr0
  have htr : Calls Tryz.prog 57 #[.pointer (some ⟨L.f, 0, none⟩), .int .i64 no, .int .i64 0] w3 fun e w' => e = .returned (.int .i64 (truncR (K).σ no 0).1) ∧ ∃ LT, KIn w k K L i a c w' { K with σ := (truncR (K).σ no 0).2 } LT noResV := htr0.mono fun e w' hm => ⟨hm.1, _, IE.files hm.2.2 (by rw [IE.E.f]; exact hm.2.1)⟩
  have Htr := hide htr
  obtain ⟨KT, hKT⟩ : ∃ KT : KQ, KT = { K with σ := (truncR (K).σ no 0).2 } := ⟨_, rfl⟩
  rw [← hKT] at Htr
  have hkT : Kept KT.σ (N + 2) := by rw [hKT]; exact hgE.trunc no 0
  have hqT : openA K i c.s c.a c.b = openT KT i f no := by rw [HqE.out]; unfold openEnd; rw [if_pos ⟨h16, h2b⟩, hKT]
  have hfT : FdsOk KT := by rw [hKT]; exact hfE
  have hdT : KT.dn ≤ N := by rw [hKT]; exact hdE
  have HkT := hide hkT
  have HqT := hide hqT
  have HfT := hide hfT
  have HdT := hide hdT
  generalize (truncR (K).σ no 0).1 = te at *
  clear htr0 htr hKT hkT hqT hfT hdT hAT hgE hfE hdE IE HqE
  go_wp2_with fail
  refine Htr.out.mono ?_
  rintro e wT ⟨rfl, LT, IT⟩
  clear Htr
  have gT : Good KT.σ (N + 2) := HkT.out.good IT.F.live
  obtain ⟨pH, hAH⟩ := IT.F.files
  have hh0 := Hold_any wT LT.f KT.σ (LT.S tFil wT) pH hAH (gT.b (by omega)) no (by omega)
  rw [IT.E.f] at hh0
  have hh : Calls Tryz.prog 12 #[.pointer (some ⟨L.f, 0, none⟩), .int .i64 no] wT fun e w' => e = .returned (.int .i64 (holdR KT.σ no).1) ∧ ∃ LH, KIn w k K L i a c w' { KT with σ := (holdR KT.σ no).2 } LH noResV := hh0.mono fun e w' hm => ⟨hm.1, _, IT.files hm.2.2 (by rw [IT.E.f]; exact hm.2.1)⟩
  have Hh := hide hh
  obtain ⟨KH, hKH⟩ : ∃ KH : KQ, KH = { KT with σ := (holdR KT.σ no).2 } := ⟨_, rfl⟩
  rw [← hKH] at Hh
  have HKH := hide hKH
  generalize (holdR KT.σ no).1 = he at *
  clear hh0 hh hKH hAH gT IT
  go_wp2_with fail
  refine Hh.out.mono ?_
  rintro e wH ⟨rfl, LH, IH⟩
  clear Hh
  have hfH : FdsOk KH := by rw [HKH.out]; exact HfT.out
  have hdH : KH.dn ≤ N := by rw [HKH.out]; exact HdT.out
  obtain ⟨ux, hux⟩ : ∃ x, x = wH.drew.heap.size := ⟨_, rfl⟩
  obtain ⟨w6, hw6⟩ : ∃ w', w' = wH.drew.alloc (.cells #[.int .i64 2, .int .i64 no, .int .i64 0, .int .i64 0, .int .i64 f, .pointer none, .string ⟨#[]⟩, .int .i64 0] 72 (0, 0)) := ⟨_, rfl⟩
  have I6 : KIn w k K L i a c w6 KH LH noResV := by rw [hw6]; exact IH.drew.alloc _
  have uraw : w6.heap[ux]? = some (.cells (rawD LH (fileD no f) 0 0) 72 (0, 0)) := by
    rw [hw6, hux]
    unfold rawD pipeV fileD
    rw [if_neg (by simp)]
    exact blk_new _ _
  have hX : ∀ b, b = ux → w.heap.size ≤ b := fun b e => by rw [e, hux]; exact IH.drew.R.size
  have up := kopen_any w6 k KH LH I6.F i h1 (Nat.le_trans h2 I6.E.qn) ux (fileD no f) uraw (IH.drew.F.new _ (by rw [hux]; exact Nat.le_refl _)) hfH (by omega)
  rw [I6.qb h1 h2] at up
  have ua := IH.drew.A
  have ub := I6.A
  obtain ⟨uf, K6, hoq⟩ : ∃ x y, openQ KH i (fileD no f) = (x, y) := ⟨_, _, rfl⟩
  rw [hoq] at up
  have hlast : ∀ w7 L7, KIn w k K L i a c w7 K6 L7 noResV → KErrPost w k K L i a c (openA K i c.s c.a c.b) (.returned (.int .i64 0)) (w7.setCell ⟨a, 8, none⟩ (.int .i64 uf)) := fun w7 L7 I7 => by
    rw [HqT.out]
    unfold openT
    rw [← HKH.out, hoq]
    exact ⟨rfl, L7, _, I7.n uf, rfl⟩
  have Hlast := hide hlast
  have uz := hide hux
  have uw := hide hw6
  have uI := hide I6
  have uX := hide hX
  have uop := hide up
  clear hoq hlast hux uraw up hX I6 hw6 hfH hdH IH HqT HfT HdT HKH
  unfold ptrAt at *
  go_upto_region 17 with (fail)
  refine region_tree (fun w' => AskAt w' a k (L.qb i) c noResV) [0, 1, 2, 3, 4, 5, 6, 7, 8, 9, 10, 11, 12] 2 15 (by kernel_rfl) (by kernel_rfl) (fun _ _ d _ _ h => by cases d <;> exact h) ua ?_
  simp only [List.map_cons, List.map_nil, List.getD_cons_zero, List.getD_cons_succ, List.drop_succ_cons, List.drop_zero]
  generalize wH.drew = wd at *
  go_big_quiet_step (fail)
  go_big_quiet_step (fail)
  refine wpQuiet_val (.pointer (some ⟨a, 0, none⟩)) rfl (fun w' hS => by (go_simp)) ?_
  simp only [Act.put, List.setIfInBounds_toArray, List.set_cons_succ, List.set_cons_zero]
  refine wpQuiet_val (.pointer (some ⟨a, 0, none⟩)) rfl (fun w' hS => by (go_simp)) ?_
  simp only [Act.put, List.setIfInBounds_toArray, List.set_cons_succ, List.set_cons_zero]
  refine wpQuiet_val (.pointer (some ⟨k, 0, none⟩)) rfl (fun w' hS => by
      have e : w'.cell? ⟨a, 0, none⟩ = some (.pointer (some ⟨k, 0, none⟩)) := by rw [blk_cell (hS)]; rfl
      go_simp) ?_
  simp only [Act.put, List.setIfInBounds_toArray, List.set_cons_succ, List.set_cons_zero]
  go_big_quiet_step (fail)
  refine wpQuiet_val (.pointer (some ⟨a, 0, none⟩)) rfl (fun w' hS => by (go_simp)) ?_
  simp only [Act.put, List.setIfInBounds_toArray, List.set_cons_succ, List.set_cons_zero]
  refine wpQuiet_val (.pointer (some ⟨a, 1, none⟩)) rfl (fun w' hS => by (go_simp)) ?_
  simp only [Act.put, List.setIfInBounds_toArray, List.set_cons_succ, List.set_cons_zero]
  refine wpQuiet_val (.pointer (some ⟨L.qb i, 0, none⟩)) rfl (fun w' hS => by
      have e : w'.cell? ⟨a, 1, none⟩ = some (.pointer (some ⟨L.qb i, 0, none⟩)) := by rw [blk_cell (hS)]; rfl
      go_simp) ?_
  simp only [Act.put, List.setIfInBounds_toArray, List.set_cons_succ, List.set_cons_zero]
  go_big_quiet_step (fail)
  refine wpQuiet_val (.agg #[.int .i64 2, .int .i64 no, .int .i64 0, .int .i64 0]) rfl (fun w' hS => by (go_simp)) ?_
  simp only [Act.put, List.setIfInBounds_toArray, List.set_cons_succ, List.set_cons_zero]
  go_big_quiet_step (fail)
  refine wpQuiet_val (.agg #[.int .i64 2, .int .i64 no, .int .i64 0, .int .i64 0, .int .i64 f, .pointer none, .string ⟨#[]⟩, .int .i64 0]) rfl (fun w' hS => by (go_simp)) ?_
  simp only [Act.put, List.setIfInBounds_toArray, List.set_cons_succ, List.set_cons_zero]
  refine wpQuiet_nil ?_
  refine tree_one' 13 (by kernel_rfl) (by decide) (by simp) rfl (fun Kc hK => ?_)
  simp only [List.getD_cons_zero, List.getD_cons_succ]
  go_wp2_with fail
  rw [← uw.out, ← uz.out]
  refine hK _ _ ub ?_
  clear hK Kc
  refine tree_one' 14 (by kernel_rfl) (by decide) (by simp) rfl (fun Kc hK => ?_)
  simp only [List.getD_cons_zero, List.getD_cons_succ]
  go_wp2_with fail
  refine uop.out.mono ?_
  rintro e w7 ⟨rfl, hm⟩
  obtain ⟨L7, I7, _⟩ := uI.out.mut hm uX.out uX.out
  have uc := I7.A
  have HI7 := hide I7
  refine hK _ _ uc ?_
  clear hK Kc hm I7
  refine tree_end (by kernel_rfl) ?_
  try (simp only [List.map_cons, List.map_nil, List.getD_cons_zero, List.getD_cons_succ, List.drop_succ_cons, List.drop_zero])
  have q8 : w7.cell? ⟨a, 8, none⟩ = some (.int .i64 0) := by rw [blk_cell uc]; rfl
  have z8 : w7.frozen? ⟨a, 8, none⟩ = false := blk_frozen uc _
  have hl := hide (Hlast.out w7 L7 HI7.out)
  clear uc HI7 Hlast uI uop uw uz uX
  go_wp2_with fail
  go_ret
  exact hl.out
end Go.Proofs.YtffekmjoenppaaaGreatDoor
