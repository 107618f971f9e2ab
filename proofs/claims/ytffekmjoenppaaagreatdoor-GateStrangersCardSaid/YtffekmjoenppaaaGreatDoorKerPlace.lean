/- gate.asked.place for SysChdir. Conditions: the contracts' own premises. -/
import Derived.Test.YtffekmjoenppaaaGreatDoorKerKeepB
namespace Go.Proofs.YtffekmjoenppaaaGreatDoor
open Go.RowKit

attribute [local go_sem] Oper.semAt_some

/-- SysChdir, by what the walk says. -/
def chdirW (K : KQ) (i : Nat) (wk : Int × Nat) : ResQ × KQ :=
  if wk.1 ≠ 0 then (errR wk.1, K)
  else if (statT K.σ wk.2).kind ≠ 2 then (errR 20, K)
  else if mayR K.σ wk.2 1 = false then (errR 13, K)
  else (noRes, ({ K with σ := (dropR (holdR K.σ wk.2).2 (K.proc i).dir).2 }).setQ i { K.proc i with dir := wk.2 })
def chdirQ (K : KQ) (i : Nat) (s : ByteArray) : ResQ × KQ := chdirW K i (walkE K.σ (K.proc i).dir s.data.toList)
/-- The little map of what leave is wanted. -/
theorem leave_map (W : World) : ∃ W4 W5, (Instr.mapUpdate 140 (.map (some W.heap.size)) (.int .i64 12) (.int .i64 1)).run Tryz.prog (W.alloc (.map #[] 0)) = .ok () W4 ∧ (Instr.mapUpdate 140 (.map (some W.heap.size)) (.int .i64 15) (.int .i64 4)).run Tryz.prog W4 = .ok () W5 ∧
    (Instr.lookup 140 (.map (some W.heap.size)) (.int .i64 12) false).run Tryz.prog W5 = .ok (.int .i64 1) W5 ∧ Fr (fun b => b = W.heap.size) W W5 := by
  have h0 : IMapAt Tryz.prog 3 (W.alloc (.map #[] 0)) W.heap.size [] := IMapAt.made W
  obtain ⟨W4, u1, h1, f1⟩ := h0.update (t := 140) (e := 3) Tryz.underlying3 Tryz.underlying140 (by simp [maxLen]) 12 (by decide) (.int .i64 1)
  obtain ⟨W5, u2, h2, f2⟩ := h1.update (t := 140) (e := 3) Tryz.underlying3 Tryz.underlying140 (by show (iput 12 (Value.int .i64 1) []).length < maxLen; decide) 15 (by decide) (.int .i64 4)
  have hz : (zeroValue 3).run Tryz.prog W5 = .ok (.int .i64 0) W5 := by kernel_rfl
  have hl := h2.look (t := 140) (e := 3) false Tryz.underlying3 Tryz.underlying140 hz 12 (by decide)
  exact ⟨W4, W5, u1, u2, hl, (((Fr.refl (fun b => b = W.heap.size) W).alloc _).trans f1).trans f2⟩
set_option maxRecDepth 100000 in
set_option maxHeartbeats 1000000 in
theorem aplace_err (w : World) (k : Nat) (K : KQ) (L : KLay) (h : KF w k K L) (N : Nat) (hok : KOk K N) (hN : N + 4 ≤ 1000000) (i : Nat) (h1 : 1 ≤ i) (h2 : i ≤ K.qn) (a : Nat) (c : SysQ) (ha : AskAt w a k (L.qb i) c noResV) (hao : L.o a = none) (hml : Ml w) (hgo : L.o glB = none) (hga : glB ≠ a) (hsz : c.s.size ≤ 9223372036854775807) (hno : c.no = 12) (he : (walkE K.σ (K.proc i).dir c.s.data.toList).1 ≠ 0) :
    Calls Tryz.prog 29 #[ptrAt a] w (KErrPost w k K L i a c (chdirQ K i c.s)) := by
  have I0 := KIn.start h ha hao
  have hdir := (hok.proc i h1 h2).dir
  have c0 : w.cell? ⟨a, 0, none⟩ = some (.pointer (some ⟨k, 0, none⟩)) := by rw [blk_cell ha]; rfl
  have k0 : w.cell? ⟨k, 0, none⟩ = some (.pointer (some ⟨L.f, 0, none⟩)) := by rw [blk_cell h.hk]; rfl
  have hSA : ∀ w', Fr (fun _ => False) w w' → AskAt w' a k (L.qb i) c noResV ∧ w'.cell? ⟨L.qb i, 4, none⟩ = some (.int .i64 (K.proc i).dir) := fun w' hf' => ⟨hf'.get ha (fun e => e), by rw [blk_cell ((h.quiet hf').hq i h1 h2)]; rfl⟩
  have s1 := hSA w.drew ((Fr.refl (fun _ => False) w).drew)
  have hwk : Calls Tryz.prog 54 #[.pointer (some ⟨L.f, 0, none⟩), .int .i64 (K.proc i).dir, .string c.s] w.drew fun e w2 =>
      e = .returned (.tuple #[.int .i64 (if (walkE K.σ (K.proc i).dir c.s.data.toList).1 = 0 then ((walkE K.σ (K.proc i).dir c.s.data.toList).2 : Int) else 0), .int .i64 (walkE K.σ (K.proc i).dir c.s.data.toList).1]) ∧ Fr (fun _ => False) w.drew w2 := by
    obtain ⟨p, hA⟩ := I0.drew.F.files
    exact Walk_any w.drew L.f K.σ _ p hA (hml.frame ((Fr.refl (fun _ => False) w).drew) (fun e => e)) (K.proc i).dir (by omega) c.s hsz
  have hfin : ∀ w2, Fr (fun _ => False) w w2 → KErrPost w k K L i a c (chdirQ K i c.s) (.returned (.int .i64 (walkE K.σ (K.proc i).dir c.s.data.toList).1)) w2 := fun w2 hf2 => by
    unfold chdirQ chdirW
    rw [if_pos he]
    exact ⟨rfl, L, _, I0.quiet hf2, rfl⟩
  have Hfin := hide hfin
  have HSA := hide hSA
  have Hwk := hide hwk
  generalize (if (walkE K.σ (K.proc i).dir c.s.data.toList).1 = 0 then ((walkE K.σ (K.proc i).dir c.s.data.toList).2 : Int) else 0) = wv at *
  generalize (walkE K.σ (K.proc i).dir c.s.data.toList).1 = we at *
  have hx' : (we != 0) = true := by simpa using he
  clear h hok ha hao I0 hdir hSA hwk hfin hml hgo hga hsz hno
  unfold ptrAt at *
  go_enter Tryz.func29, Tryz.ntmps29
  go_upto_region 2 with (fail)
  refine region_tree (fun w' => AskAt w' a k (L.qb i) c noResV ∧ w'.cell? ⟨L.qb i, 4, none⟩ = some (.int .i64 (K.proc i).dir)) [0, 1, 2, 3, 4, 5, 6, 7, 8, 9, 10, 11, 12] 5 18 (by kernel_rfl) (by kernel_rfl) (fun _ _ d _ _ h => by cases d <;> exact h) s1 ?_
  simp only [List.map_cons, List.map_nil, List.getD_cons_zero, List.getD_cons_succ, List.drop_succ_cons, List.drop_zero]
  go_big_quiet_step (fail)
  go_big_quiet_step (fail)
  refine wpQuiet_val (.pointer (some ⟨a, 0, none⟩)) rfl (fun w' hS => by (go_simp)) ?_
  simp only [Act.put, List.setIfInBounds_toArray, List.set_cons_succ, List.set_cons_zero]
  refine wpQuiet_val (.pointer (some ⟨a, 1, none⟩)) rfl (fun w' hS => by (go_simp)) ?_
  simp only [Act.put, List.setIfInBounds_toArray, List.set_cons_succ, List.set_cons_zero]
  refine wpQuiet_val (.pointer (some ⟨L.qb i, 0, none⟩)) rfl (fun w' hS => by
      have e : w'.cell? ⟨a, 1, none⟩ = some (.pointer (some ⟨L.qb i, 0, none⟩)) := by rw [blk_cell hS.1]; rfl
      go_simp) ?_
  simp only [Act.put, List.setIfInBounds_toArray, List.set_cons_succ, List.set_cons_zero]
  refine wpQuiet_val (.pointer (some ⟨L.qb i, 0, none⟩)) rfl (fun w' hS => by (go_simp)) ?_
  simp only [Act.put, List.setIfInBounds_toArray, List.set_cons_succ, List.set_cons_zero]
  refine wpQuiet_val (.pointer (some ⟨L.qb i, 4, none⟩)) rfl (fun w' hS => by (go_simp)) ?_
  simp only [Act.put, List.setIfInBounds_toArray, List.set_cons_succ, List.set_cons_zero]
  refine wpQuiet_val (.int .i64 (K.proc i).dir) rfl (fun w' hS => by
      have e : w'.cell? ⟨L.qb i, 4, none⟩ = some (.int .i64 (K.proc i).dir) := hS.2
      go_simp) ?_
  simp only [Act.put, List.setIfInBounds_toArray, List.set_cons_succ, List.set_cons_zero]
  go_big_quiet_step (fail)
  refine wpQuiet_val (.pointer (some ⟨a, 0, none⟩)) rfl (fun w' hS => by (go_simp)) ?_
  simp only [Act.put, List.setIfInBounds_toArray, List.set_cons_succ, List.set_cons_zero]
  refine wpQuiet_val (.pointer (some ⟨a, 2, none⟩)) rfl (fun w' hS => by (go_simp)) ?_
  simp only [Act.put, List.setIfInBounds_toArray, List.set_cons_succ, List.set_cons_zero]
  refine wpQuiet_val (.pointer (some ⟨a, 5, none⟩)) rfl (fun w' hS => by (go_simp)) ?_
  simp only [Act.put, List.setIfInBounds_toArray, List.set_cons_succ, List.set_cons_zero]
  refine wpQuiet_val (.string c.s) rfl (fun w' hS => by
      have e : w'.cell? ⟨a, 5, none⟩ = some (.string c.s) := by rw [blk_cell hS.1]; rfl
      go_simp) ?_
  simp only [Act.put, List.setIfInBounds_toArray, List.set_cons_succ, List.set_cons_zero]
  refine wpQuiet_nil ?_
  refine tree_one' 13 (by kernel_rfl) (by decide) (by simp) rfl (fun Kc hK => ?_)
  simp only [List.getD_cons_zero, List.getD_cons_succ]
  go_wp2_with fail
  refine Hwk.out.mono ?_
  rintro e w2 ⟨rfl, hf2⟩
  have hf2 := (Fr.refl (fun _ => False) w).drew.trans hf2
  have s2 := HSA.out w2 hf2
  have Hf2 := hide hf2
  refine hK _ _ s2 ?_
  clear hK Kc s1 hf2
  refine tree_heads (f := 0) [14, 15, 16, 17] (by kernel_rfl) (fun _ _ d _ _ h => by cases d <;> exact h) s2 ?_
  simp only [List.map_cons, List.map_nil, List.getD_cons_zero, List.getD_cons_succ, List.drop_succ_cons, List.drop_zero]
  go_big_quiet_step (fail)
  refine wpQuiet_val (.int .i64 wv) rfl (fun w' hS => by (go_simp)) ?_
  simp only [Act.put, List.setIfInBounds_toArray, List.set_cons_succ, List.set_cons_zero]
  refine wpQuiet_val (.int .i64 we) rfl (fun w' hS => by (go_simp)) ?_
  simp only [Act.put, List.setIfInBounds_toArray, List.set_cons_succ, List.set_cons_zero]
  go_big_quiet_step (fail)
  refine wpQuiet_nil ?_
  refine tree_end (by kernel_rfl) ?_
  try (simp only [List.map_cons, List.map_nil, List.getD_cons_zero, List.getD_cons_succ, List.drop_succ_cons, List.drop_zero])
  have hl := hide (Hfin.out w2 Hf2.out)
  clear Hfin Hf2 s2 HSA Hwk
  go_wp2_with fail
  go_ret
  exact hl.out
set_option maxRecDepth 100000 in
set_option maxHeartbeats 1000000 in
theorem aplace_nodir (w : World) (k : Nat) (K : KQ) (L : KLay) (h : KF w k K L) (N : Nat) (hok : KOk K N) (hN : N + 4 ≤ 1000000) (i : Nat) (h1 : 1 ≤ i) (h2 : i ≤ K.qn) (a : Nat) (c : SysQ) (ha : AskAt w a k (L.qb i) c noResV) (hao : L.o a = none) (hml : Ml w) (hgo : L.o glB = none) (hga : glB ≠ a) (hsz : c.s.size ≤ 9223372036854775807) (hno : c.no = 12) (hwe : (walkE K.σ (K.proc i).dir c.s.data.toList).1 = 0) (hk : (statT K.σ (walkE K.σ (K.proc i).dir c.s.data.toList).2).kind ≠ 2) :
    Calls Tryz.prog 29 #[ptrAt a] w (KErrPost w k K L i a c (chdirQ K i c.s)) := by
  have I0 := KIn.start h ha hao
  have hdir := (hok.proc i h1 h2).dir
  have c0 : w.cell? ⟨a, 0, none⟩ = some (.pointer (some ⟨k, 0, none⟩)) := by rw [blk_cell ha]; rfl
  have k0 : w.cell? ⟨k, 0, none⟩ = some (.pointer (some ⟨L.f, 0, none⟩)) := by rw [blk_cell h.hk]; rfl
  have hSA : ∀ w', Fr (fun _ => False) w w' → AskAt w' a k (L.qb i) c noResV ∧ w'.cell? ⟨L.qb i, 4, none⟩ = some (.int .i64 (K.proc i).dir) := fun w' hf' => ⟨hf'.get ha (fun e => e), by rw [blk_cell ((h.quiet hf').hq i h1 h2)]; rfl⟩
  have s1 := hSA w.drew ((Fr.refl (fun _ => False) w).drew)
  have hwk : Calls Tryz.prog 54 #[.pointer (some ⟨L.f, 0, none⟩), .int .i64 (K.proc i).dir, .string c.s] w.drew fun e w2 =>
      e = .returned (.tuple #[.int .i64 (if (walkE K.σ (K.proc i).dir c.s.data.toList).1 = 0 then ((walkE K.σ (K.proc i).dir c.s.data.toList).2 : Int) else 0), .int .i64 (walkE K.σ (K.proc i).dir c.s.data.toList).1]) ∧ Fr (fun _ => False) w.drew w2 := by
    obtain ⟨p, hA⟩ := I0.drew.F.files
    exact Walk_any w.drew L.f K.σ _ p hA (hml.frame ((Fr.refl (fun _ => False) w).drew) (fun e => e)) (K.proc i).dir (by omega) c.s hsz
  have hok0 := walk_ok hok.good.live hwe
  obtain ⟨no, hnoe⟩ : ∃ no, no = (walkE K.σ (K.proc i).dir c.s.data.toList).2 := ⟨_, rfl⟩
  simp only [hwe, if_true, ← hnoe] at hwk
  rw [← hnoe] at hok0
  have hno9 : no ≤ 9223372036854775807 := by have := (FSt.nd_lt hok0).2; have := hok.good.live.len; omega
  have hcap := hok.good.b (show N ≤ 1000000 by omega)
  have hst : ∀ w2, Fr (fun _ => False) w w2 → Calls Tryz.prog 48 #[.pointer (some ⟨L.f, 0, none⟩), .int .i64 no] w2 fun e w' => e = .returned (.tuple #[stV (statT K.σ no), .int .i64 (statE K.σ no)]) ∧ Fr (fun _ => False) w2 w' := fun w2 hf2 => by
    obtain ⟨p, hA⟩ := (h.quiet hf2).files
    exact Stat_any w2 L.f K.σ _ p hA hcap no (by omega)
  obtain ⟨st, hse⟩ : ∃ st, st = statT K.σ no := ⟨_, rfl⟩
  rw [← hse] at hst
  have hkd : (st.kind != 2) = true := by rw [hse, hnoe]; simpa using hk
  have hfin : ∀ w', KIn w k K L i a c w' K L noResV → KErrPost w k K L i a c (chdirQ K i c.s) (.returned (.int .i64 20)) w' := fun w' hI => by
    unfold chdirQ chdirW
    rw [if_neg (by rw [hwe]; simp), if_pos hk]
    exact ⟨rfl, L, _, hI, rfl⟩
  have Hfin := hide hfin
  have HI0 := hide I0
  have HSA := hide hSA
  have Hwk := hide hwk
  have Hst := hide hst
  have Hno := hide hno
  generalize statE K.σ no = se at *
  clear h hok ha hao I0 hdir hSA hwk hst hml hgo hga hsz hno hse hcap hwe hok0 hnoe hk hfin
  unfold ptrAt at *
  go_enter Tryz.func29, Tryz.ntmps29
  go_upto_region 2 with (fail)
  refine region_tree (fun w' => AskAt w' a k (L.qb i) c noResV ∧ w'.cell? ⟨L.qb i, 4, none⟩ = some (.int .i64 (K.proc i).dir)) [0, 1, 2, 3, 4, 5, 6, 7, 8, 9, 10, 11, 12] 5 18 (by kernel_rfl) (by kernel_rfl) (fun _ _ d _ _ h => by cases d <;> exact h) s1 ?_
  simp only [List.map_cons, List.map_nil, List.getD_cons_zero, List.getD_cons_succ, List.drop_succ_cons, List.drop_zero]
  go_big_quiet_step (fail)
  go_big_quiet_step (fail)
  refine wpQuiet_val (.pointer (some ⟨a, 0, none⟩)) rfl (fun w' hS => by (go_simp)) ?_
  simp only [Act.put, List.setIfInBounds_toArray, List.set_cons_succ, List.set_cons_zero]
  refine wpQuiet_val (.pointer (some ⟨a, 1, none⟩)) rfl (fun w' hS => by (go_simp)) ?_
  simp only [Act.put, List.setIfInBounds_toArray, List.set_cons_succ, List.set_cons_zero]
  refine wpQuiet_val (.pointer (some ⟨L.qb i, 0, none⟩)) rfl (fun w' hS => by
      have e : w'.cell? ⟨a, 1, none⟩ = some (.pointer (some ⟨L.qb i, 0, none⟩)) := by rw [blk_cell hS.1]; rfl
      go_simp) ?_
  simp only [Act.put, List.setIfInBounds_toArray, List.set_cons_succ, List.set_cons_zero]
  refine wpQuiet_val (.pointer (some ⟨L.qb i, 0, none⟩)) rfl (fun w' hS => by (go_simp)) ?_
  simp only [Act.put, List.setIfInBounds_toArray, List.set_cons_succ, List.set_cons_zero]
  refine wpQuiet_val (.pointer (some ⟨L.qb i, 4, none⟩)) rfl (fun w' hS => by (go_simp)) ?_
  simp only [Act.put, List.setIfInBounds_toArray, List.set_cons_succ, List.set_cons_zero]
  refine wpQuiet_val (.int .i64 (K.proc i).dir) rfl (fun w' hS => by
      have e : w'.cell? ⟨L.qb i, 4, none⟩ = some (.int .i64 (K.proc i).dir) := hS.2
      go_simp) ?_
  simp only [Act.put, List.setIfInBounds_toArray, List.set_cons_succ, List.set_cons_zero]
  go_big_quiet_step (fail)
  refine wpQuiet_val (.pointer (some ⟨a, 0, none⟩)) rfl (fun w' hS => by (go_simp)) ?_
  simp only [Act.put, List.setIfInBounds_toArray, List.set_cons_succ, List.set_cons_zero]
  refine wpQuiet_val (.pointer (some ⟨a, 2, none⟩)) rfl (fun w' hS => by (go_simp)) ?_
  simp only [Act.put, List.setIfInBounds_toArray, List.set_cons_succ, List.set_cons_zero]
  refine wpQuiet_val (.pointer (some ⟨a, 5, none⟩)) rfl (fun w' hS => by (go_simp)) ?_
  simp only [Act.put, List.setIfInBounds_toArray, List.set_cons_succ, List.set_cons_zero]
  refine wpQuiet_val (.string c.s) rfl (fun w' hS => by
      have e : w'.cell? ⟨a, 5, none⟩ = some (.string c.s) := by rw [blk_cell hS.1]; rfl
      go_simp) ?_
  simp only [Act.put, List.setIfInBounds_toArray, List.set_cons_succ, List.set_cons_zero]
  refine wpQuiet_nil ?_
  refine tree_one' 13 (by kernel_rfl) (by decide) (by simp) rfl (fun Kc hK => ?_)
  simp only [List.getD_cons_zero, List.getD_cons_succ]
  go_wp2_with fail
  refine Hwk.out.mono ?_
  rintro e w2 ⟨rfl, hf2⟩
  have hf2 := (Fr.refl (fun _ => False) w).drew.trans hf2
  have s2 := HSA.out w2 hf2
  have Hf2 := hide hf2
  refine hK _ _ s2 ?_
  clear hK Kc s1 hf2
  refine tree_heads (f := 0) [14, 15, 16, 17] (by kernel_rfl) (fun _ _ d _ _ h => by cases d <;> exact h) s2 ?_
  simp only [List.map_cons, List.map_nil, List.getD_cons_zero, List.getD_cons_succ, List.drop_succ_cons, List.drop_zero]
  go_big_quiet_step (fail)
  refine wpQuiet_val (.int .i64 no) rfl (fun w' hS => by (go_simp)) ?_
  simp only [Act.put, List.setIfInBounds_toArray, List.set_cons_succ, List.set_cons_zero]
  refine wpQuiet_val (.int .i64 0) rfl (fun w' hS => by (go_simp)) ?_
  simp only [Act.put, List.setIfInBounds_toArray, List.set_cons_succ, List.set_cons_zero]
  go_big_quiet_step (fail)
  refine wpQuiet_nil ?_
  refine tree_end (by kernel_rfl) ?_
  try (simp only [List.map_cons, List.map_nil, List.getD_cons_zero, List.getD_cons_succ, List.drop_succ_cons, List.drop_zero])
  go_wp2_with fail
  refine (Hst.out w2 Hf2.out).mono ?_
  rintro e w3 ⟨rfl, hf3⟩
  obtain ⟨W3, hW3⟩ : ∃ W3, W3 = w3.alloc (.cells #[.int .i64 st.ino, .int .i64 st.kind, .int .i64 st.mode, .int .i64 st.links, .int .i64 st.size] 28 (0, 0)) := ⟨_, rfl⟩
  have fW3 : Fr (fun _ => False) w W3 := by rw [hW3]; exact (Hf2.out.trans hf3).alloc _
  have b3 : W3.heap[w3.heap.size]? = some (.cells #[.int .i64 st.ino, .int .i64 st.kind, .int .i64 st.mode, .int .i64 st.links, .int .i64 st.size] 28 (0, 0)) := by rw [hW3]; exact blk_new _ _
  have z3 : W3.heap.size = w3.heap.size + 1 := by rw [hW3]; simp
  obtain ⟨W4, W5, hu1, hu2, hlk, f35⟩ := leave_map W3
  have I5 := (HI0.out.quiet fW3).still f35 (fun b e _ => by rw [e]; exact ⟨fW3.size, HI0.out.F.new _ fW3.size⟩)
  have b5 := f35.get b3 (by omega)
  have d1 : W5.cell? ⟨w3.heap.size, 1, none⟩ = some (.int .i64 st.kind) := by rw [blk_cell b5]; rfl
  have e2 : W5.cell? ⟨a, 2, none⟩ = some (.int .i64 12) := by rw [blk_cell I5.A, ← Hno.out]; rfl
  have g2 : (W3.alloc (.map #[] 0)).cell? ⟨a, 2, none⟩ = some (.int .i64 12) := by rw [blk_cell (((HI0.out.quiet fW3).alloc (.map #[] 0)).A), ← Hno.out]; rfl
  have hmm := @run_makeMap Tryz.prog
  have HI5 := hide I5
  have HW3 := hide hW3
  have Hf3 := hide (Hf2.out.trans hf3)
  clear hf3 fW3 b3 z3 f35 I5 b5 hW3 s2 Hst
  unfold stV at *
  go_upto_region 6 with (fail)
  rw [← HW3.out]
  have hl := hide (Hfin.out W5 HI5.out)
  clear HI5 Hfin Hf3 HI0 HSA Hwk Hf2 Hno
  go_wp2_with fail
  go_ret
  exact hl.out
set_option maxRecDepth 100000 in
set_option maxHeartbeats 1000000 in
theorem aplace_noacc (w : World) (k : Nat) (K : KQ) (L : KLay) (h : KF w k K L) (N : Nat) (hok : KOk K N) (hN : N + 4 ≤ 1000000) (i : Nat) (h1 : 1 ≤ i) (h2 : i ≤ K.qn) (a : Nat) (c : SysQ) (ha : AskAt w a k (L.qb i) c noResV) (hao : L.o a = none) (hml : Ml w) (hgo : L.o glB = none) (hga : glB ≠ a) (hsz : c.s.size ≤ 9223372036854775807) (hno : c.no = 12) (hwe : (walkE K.σ (K.proc i).dir c.s.data.toList).1 = 0) (hk : (statT K.σ (walkE K.σ (K.proc i).dir c.s.data.toList).2).kind = 2) (hm : mayR K.σ (walkE K.σ (K.proc i).dir c.s.data.toList).2 1 = false) :
    Calls Tryz.prog 29 #[ptrAt a] w (KErrPost w k K L i a c (chdirQ K i c.s)) := by
  have I0 := KIn.start h ha hao
  have hdir := (hok.proc i h1 h2).dir
  have c0 : w.cell? ⟨a, 0, none⟩ = some (.pointer (some ⟨k, 0, none⟩)) := by rw [blk_cell ha]; rfl
  have k0 : w.cell? ⟨k, 0, none⟩ = some (.pointer (some ⟨L.f, 0, none⟩)) := by rw [blk_cell h.hk]; rfl
  have hSA : ∀ w', Fr (fun _ => False) w w' → AskAt w' a k (L.qb i) c noResV ∧ w'.cell? ⟨L.qb i, 4, none⟩ = some (.int .i64 (K.proc i).dir) := fun w' hf' => ⟨hf'.get ha (fun e => e), by rw [blk_cell ((h.quiet hf').hq i h1 h2)]; rfl⟩
  have s1 := hSA w.drew ((Fr.refl (fun _ => False) w).drew)
  have hwk : Calls Tryz.prog 54 #[.pointer (some ⟨L.f, 0, none⟩), .int .i64 (K.proc i).dir, .string c.s] w.drew fun e w2 =>
      e = .returned (.tuple #[.int .i64 (if (walkE K.σ (K.proc i).dir c.s.data.toList).1 = 0 then ((walkE K.σ (K.proc i).dir c.s.data.toList).2 : Int) else 0), .int .i64 (walkE K.σ (K.proc i).dir c.s.data.toList).1]) ∧ Fr (fun _ => False) w.drew w2 := by
    obtain ⟨p, hA⟩ := I0.drew.F.files
    exact Walk_any w.drew L.f K.σ _ p hA (hml.frame ((Fr.refl (fun _ => False) w).drew) (fun e => e)) (K.proc i).dir (by omega) c.s hsz
  have hok0 := walk_ok hok.good.live hwe
  obtain ⟨no, hnoe⟩ : ∃ no, no = (walkE K.σ (K.proc i).dir c.s.data.toList).2 := ⟨_, rfl⟩
  simp only [hwe, if_true, ← hnoe] at hwk
  rw [← hnoe] at hok0
  have hno9 : no ≤ 9223372036854775807 := by have := (FSt.nd_lt hok0).2; have := hok.good.live.len; omega
  have hcap := hok.good.b (show N ≤ 1000000 by omega)
  have hst : ∀ w2, Fr (fun _ => False) w w2 → Calls Tryz.prog 48 #[.pointer (some ⟨L.f, 0, none⟩), .int .i64 no] w2 fun e w' => e = .returned (.tuple #[stV (statT K.σ no), .int .i64 (statE K.σ no)]) ∧ Fr (fun _ => False) w2 w' := fun w2 hf2 => by
    obtain ⟨p, hA⟩ := (h.quiet hf2).files
    exact Stat_any w2 L.f K.σ _ p hA hcap no (by omega)
  obtain ⟨st, hse⟩ : ∃ st, st = statT K.σ no := ⟨_, rfl⟩
  rw [← hse] at hst
  have Hkd := hide (show st.kind = 2 by rw [hse, hnoe]; exact hk)
  have hmay0 : mayR K.σ no 1 = false := by rw [hnoe]; exact hm
  have hmay : ∀ w', KIn w k K L i a c w' K L noResV → Calls Tryz.prog 64 #[.pointer (some ⟨L.f, 0, none⟩), .int .i64 no, .int .i64 1] w' fun e w2 => e = .returned (.bool false) ∧ w2 = w' := fun w' hI => by
    obtain ⟨p, hA⟩ := hI.F.files
    rw [← hmay0]
    exact May_any w' L.f K.σ _ p hA no 1 (by omega) (by decide)
  have Hmay := hide hmay
  have hfin : ∀ w', KIn w k K L i a c w' K L noResV → KErrPost w k K L i a c (chdirQ K i c.s) (.returned (.int .i64 13)) w' := fun w' hI => by
    unfold chdirQ chdirW
    rw [if_neg (by rw [hwe]; simp), if_neg (by rw [hk]; simp), if_pos hm]
    exact ⟨rfl, L, _, hI, rfl⟩
  have Hfin := hide hfin
  have HI0 := hide I0
  have HSA := hide hSA
  have Hwk := hide hwk
  have Hst := hide hst
  have Hno := hide hno
  generalize statE K.σ no = se at *
  clear h hok ha hao I0 hdir hSA hwk hst hml hgo hga hsz hno hse hcap hwe hok0 hnoe hk hm hmay hmay0 hfin
  unfold ptrAt at *
  go_enter Tryz.func29, Tryz.ntmps29
  go_upto_region 2 with (fail)
  refine region_tree (fun w' => AskAt w' a k (L.qb i) c noResV ∧ w'.cell? ⟨L.qb i, 4, none⟩ = some (.int .i64 (K.proc i).dir)) [0, 1, 2, 3, 4, 5, 6, 7, 8, 9, 10, 11, 12] 5 18 (by kernel_rfl) (by kernel_rfl) (fun _ _ d _ _ h => by cases d <;> exact h) s1 ?_
  simp only [List.map_cons, List.map_nil, List.getD_cons_zero, List.getD_cons_succ, List.drop_succ_cons, List.drop_zero]
  go_big_quiet_step (fail)
  go_big_quiet_step (fail)
  refine wpQuiet_val (.pointer (some ⟨a, 0, none⟩)) rfl (fun w' hS => by (go_simp)) ?_
  simp only [Act.put, List.setIfInBounds_toArray, List.set_cons_succ, List.set_cons_zero]
  refine wpQuiet_val (.pointer (some ⟨a, 1, none⟩)) rfl (fun w' hS => by (go_simp)) ?_
  simp only [Act.put, List.setIfInBounds_toArray, List.set_cons_succ, List.set_cons_zero]
  refine wpQuiet_val (.pointer (some ⟨L.qb i, 0, none⟩)) rfl (fun w' hS => by
      have e : w'.cell? ⟨a, 1, none⟩ = some (.pointer (some ⟨L.qb i, 0, none⟩)) := by rw [blk_cell hS.1]; rfl
      go_simp) ?_
  simp only [Act.put, List.setIfInBounds_toArray, List.set_cons_succ, List.set_cons_zero]
  refine wpQuiet_val (.pointer (some ⟨L.qb i, 0, none⟩)) rfl (fun w' hS => by (go_simp)) ?_
  simp only [Act.put, List.setIfInBounds_toArray, List.set_cons_succ, List.set_cons_zero]
  refine wpQuiet_val (.pointer (some ⟨L.qb i, 4, none⟩)) rfl (fun w' hS => by (go_simp)) ?_
  simp only [Act.put, List.setIfInBounds_toArray, List.set_cons_succ, List.set_cons_zero]
  refine wpQuiet_val (.int .i64 (K.proc i).dir) rfl (fun w' hS => by
      have e : w'.cell? ⟨L.qb i, 4, none⟩ = some (.int .i64 (K.proc i).dir) := hS.2
      go_simp) ?_
  simp only [Act.put, List.setIfInBounds_toArray, List.set_cons_succ, List.set_cons_zero]
  go_big_quiet_step (fail)
  refine wpQuiet_val (.pointer (some ⟨a, 0, none⟩)) rfl (fun w' hS => by (go_simp)) ?_
  simp only [Act.put, List.setIfInBounds_toArray, List.set_cons_succ, List.set_cons_zero]
  refine wpQuiet_val (.pointer (some ⟨a, 2, none⟩)) rfl (fun w' hS => by (go_simp)) ?_
  simp only [Act.put, List.setIfInBounds_toArray, List.set_cons_succ, List.set_cons_zero]
  refine wpQuiet_val (.pointer (some ⟨a, 5, none⟩)) rfl (fun w' hS => by (go_simp)) ?_
  simp only [Act.put, List.setIfInBounds_toArray, List.set_cons_succ, List.set_cons_zero]
  refine wpQuiet_val (.string c.s) rfl (fun w' hS => by
      have e : w'.cell? ⟨a, 5, none⟩ = some (.string c.s) := by rw [blk_cell hS.1]; rfl
      go_simp) ?_
  simp only [Act.put, List.setIfInBounds_toArray, List.set_cons_succ, List.set_cons_zero]
  refine wpQuiet_nil ?_
  refine tree_one' 13 (by kernel_rfl) (by decide) (by simp) rfl (fun Kc hK => ?_)
  simp only [List.getD_cons_zero, List.getD_cons_succ]
  go_wp2_with fail
  refine Hwk.out.mono ?_
  rintro e w2 ⟨rfl, hf2⟩
  have hf2 := (Fr.refl (fun _ => False) w).drew.trans hf2
  have s2 := HSA.out w2 hf2
  have Hf2 := hide hf2
  refine hK _ _ s2 ?_
  clear hK Kc s1 hf2
  refine tree_heads (f := 0) [14, 15, 16, 17] (by kernel_rfl) (fun _ _ d _ _ h => by cases d <;> exact h) s2 ?_
  simp only [List.map_cons, List.map_nil, List.getD_cons_zero, List.getD_cons_succ, List.drop_succ_cons, List.drop_zero]
  go_big_quiet_step (fail)
  refine wpQuiet_val (.int .i64 no) rfl (fun w' hS => by (go_simp)) ?_
  simp only [Act.put, List.setIfInBounds_toArray, List.set_cons_succ, List.set_cons_zero]
  refine wpQuiet_val (.int .i64 0) rfl (fun w' hS => by (go_simp)) ?_
  simp only [Act.put, List.setIfInBounds_toArray, List.set_cons_succ, List.set_cons_zero]
  go_big_quiet_step (fail)
  refine wpQuiet_nil ?_
  refine tree_end (by kernel_rfl) ?_
  try (simp only [List.map_cons, List.map_nil, List.getD_cons_zero, List.getD_cons_succ, List.drop_succ_cons, List.drop_zero])
  go_wp2_with fail
  refine (Hst.out w2 Hf2.out).mono ?_
  rintro e w3 ⟨rfl, hf3⟩
  obtain ⟨W3, hW3⟩ : ∃ W3, W3 = w3.alloc (.cells #[.int .i64 st.ino, .int .i64 st.kind, .int .i64 st.mode, .int .i64 st.links, .int .i64 st.size] 28 (0, 0)) := ⟨_, rfl⟩
  have fW3 : Fr (fun _ => False) w W3 := by rw [hW3]; exact (Hf2.out.trans hf3).alloc _
  have b3 : W3.heap[w3.heap.size]? = some (.cells #[.int .i64 st.ino, .int .i64 st.kind, .int .i64 st.mode, .int .i64 st.links, .int .i64 st.size] 28 (0, 0)) := by rw [hW3]; exact blk_new _ _
  have z3 : W3.heap.size = w3.heap.size + 1 := by rw [hW3]; simp
  obtain ⟨W4, W5, hu1, hu2, hlk, f35⟩ := leave_map W3
  have I5 := (HI0.out.quiet fW3).still f35 (fun b e _ => by rw [e]; exact ⟨fW3.size, HI0.out.F.new _ fW3.size⟩)
  have b5 := f35.get b3 (by omega)
  have d1 : W5.cell? ⟨w3.heap.size, 1, none⟩ = some (.int .i64 st.kind) := by rw [blk_cell b5]; rfl
  have e2 : W5.cell? ⟨a, 2, none⟩ = some (.int .i64 12) := by rw [blk_cell I5.A, ← Hno.out]; rfl
  have g2 : (W3.alloc (.map #[] 0)).cell? ⟨a, 2, none⟩ = some (.int .i64 12) := by rw [blk_cell (((HI0.out.quiet fW3).alloc (.map #[] 0)).A), ← Hno.out]; rfl
  have hmm := @run_makeMap Tryz.prog
  have HI5 := hide I5
  have HW3 := hide hW3
  have Hf3 := hide (Hf2.out.trans hf3)
  clear hf3 fW3 b3 z3 f35 I5 b5 hW3 s2 Hst
  unfold stV at *
  go_upto_region 6 with (fail)
  rw [← HW3.out]
  rw [Hkd.out] at d1
  have hl := hide (Hfin.out W5 HI5.out)
  have hma := hide (Hmay.out W5 HI5.out)
  clear HI5 Hfin Hf3 HI0 HSA Hwk Hf2 Hno Hmay
  go_wp2_with fail
  refine hma.out.mono ?_
  rintro e w9 ⟨rfl, rfl⟩
  go_wp2_with fail
  go_ret
  exact hl.out
set_option maxRecDepth 100000 in
set_option maxHeartbeats 1000000 in
theorem aplace_ok (w : World) (k : Nat) (K : KQ) (L : KLay) (h : KF w k K L) (N : Nat) (hok : KOk K N) (hN : N + 4 ≤ 1000000) (i : Nat) (h1 : 1 ≤ i) (h2 : i ≤ K.qn) (a : Nat) (c : SysQ) (ha : AskAt w a k (L.qb i) c noResV) (hao : L.o a = none) (hml : Ml w) (hgo : L.o glB = none) (hga : glB ≠ a) (hsz : c.s.size ≤ 9223372036854775807) (hno : c.no = 12) (hwe : (walkE K.σ (K.proc i).dir c.s.data.toList).1 = 0) (hk : (statT K.σ (walkE K.σ (K.proc i).dir c.s.data.toList).2).kind = 2) (hm : mayR K.σ (walkE K.σ (K.proc i).dir c.s.data.toList).2 1 = true) :
    Calls Tryz.prog 29 #[ptrAt a] w (KErrPost w k K L i a c (chdirQ K i c.s)) := by
  have I0 := KIn.start h ha hao
  have hdir := (hok.proc i h1 h2).dir
  have c0 : w.cell? ⟨a, 0, none⟩ = some (.pointer (some ⟨k, 0, none⟩)) := by rw [blk_cell ha]; rfl
  have k0 : w.cell? ⟨k, 0, none⟩ = some (.pointer (some ⟨L.f, 0, none⟩)) := by rw [blk_cell h.hk]; rfl
  have hSA : ∀ w', Fr (fun _ => False) w w' → AskAt w' a k (L.qb i) c noResV ∧ w'.cell? ⟨L.qb i, 4, none⟩ = some (.int .i64 (K.proc i).dir) := fun w' hf' => ⟨hf'.get ha (fun e => e), by rw [blk_cell ((h.quiet hf').hq i h1 h2)]; rfl⟩
  have s1 := hSA w.drew ((Fr.refl (fun _ => False) w).drew)
  have hwk : Calls Tryz.prog 54 #[.pointer (some ⟨L.f, 0, none⟩), .int .i64 (K.proc i).dir, .string c.s] w.drew fun e w2 =>
      e = .returned (.tuple #[.int .i64 (if (walkE K.σ (K.proc i).dir c.s.data.toList).1 = 0 then ((walkE K.σ (K.proc i).dir c.s.data.toList).2 : Int) else 0), .int .i64 (walkE K.σ (K.proc i).dir c.s.data.toList).1]) ∧ Fr (fun _ => False) w.drew w2 := by
    obtain ⟨p, hA⟩ := I0.drew.F.files
    exact Walk_any w.drew L.f K.σ _ p hA (hml.frame ((Fr.refl (fun _ => False) w).drew) (fun e => e)) (K.proc i).dir (by omega) c.s hsz
  have hok0 := walk_ok hok.good.live hwe
  obtain ⟨no, hnoe⟩ : ∃ no, no = (walkE K.σ (K.proc i).dir c.s.data.toList).2 := ⟨_, rfl⟩
  simp only [hwe, if_true, ← hnoe] at hwk
  rw [← hnoe] at hok0
  have hno9 : no ≤ 9223372036854775807 := by have := (FSt.nd_lt hok0).2; have := hok.good.live.len; omega
  have hcap := hok.good.b (show N ≤ 1000000 by omega)
  have hst : ∀ w2, Fr (fun _ => False) w w2 → Calls Tryz.prog 48 #[.pointer (some ⟨L.f, 0, none⟩), .int .i64 no] w2 fun e w' => e = .returned (.tuple #[stV (statT K.σ no), .int .i64 (statE K.σ no)]) ∧ Fr (fun _ => False) w2 w' := fun w2 hf2 => by
    obtain ⟨p, hA⟩ := (h.quiet hf2).files
    exact Stat_any w2 L.f K.σ _ p hA hcap no (by omega)
  obtain ⟨st, hse⟩ : ∃ st, st = statT K.σ no := ⟨_, rfl⟩
  rw [← hse] at hst
  have Hkd := hide (show st.kind = 2 by rw [hse, hnoe]; exact hk)
  have hmay0 : mayR K.σ no 1 = true := by rw [hnoe]; exact hm
  have hmay : ∀ w', KIn w k K L i a c w' K L noResV → Calls Tryz.prog 64 #[.pointer (some ⟨L.f, 0, none⟩), .int .i64 no, .int .i64 1] w' fun e w2 => e = .returned (.bool true) ∧ w2 = w' := fun w' hI => by
    obtain ⟨p, hA⟩ := hI.F.files
    rw [← hmay0]
    exact May_any w' L.f K.σ _ p hA no 1 (by omega) (by decide)
  have Hmay := hide hmay
  obtain ⟨K6, hK6⟩ : ∃ K6 : KQ, K6 = { K with σ := (holdR K.σ no).2 } := ⟨_, rfl⟩
  obtain ⟨K7, hK7⟩ : ∃ K7 : KQ, K7 = { K with σ := (dropR K6.σ (K.proc i).dir).2 } := ⟨_, rfl⟩
  have hg6 : Good K6.σ (N + 1) := by rw [hK6]; exact (hok.good.hold no).good (hok.good.live.hold no)
  have hhold : ∀ w', KIn w k K L i a c w' K L noResV → Calls Tryz.prog 12 #[.pointer (some ⟨L.f, 0, none⟩), .int .i64 no] w' fun e w2 => (∃ x : Int, e = .returned (.int .i64 x)) ∧ ∃ L6, KIn w k K L i a c w2 K6 L6 noResV := fun w' hI => by
    obtain ⟨p, hA⟩ := hI.F.files
    refine (Hold_any w' L.f K.σ _ p hA hcap no (by omega)).mono fun e w2 hm => ?_
    have := hI.files hm.2.2 hm.2.1
    rw [← hK6] at this
    exact ⟨⟨_, hm.1⟩, _, this⟩
  have hdrp : ∀ w' L6, KIn w k K L i a c w' K6 L6 noResV → Calls Tryz.prog 65 #[.pointer (some ⟨L.f, 0, none⟩), .int .i64 (K.proc i).dir] w' fun e w2 => (∃ x : Int, e = .returned (.int .i64 x)) ∧ ∃ L7, KIn w k K L i a c w2 K7 L7 noResV := fun w' L6 hI => by
    obtain ⟨p, hA⟩ := hI.F.files
    have hd := Drop_any w' L6.f K6.σ _ p hA (hg6.b (by omega)) (K.proc i).dir (by omega) (fun x n _ hx _ hl _ => by
      have e : ∀ y : Option Nd, (K6.σ.put x y).put x none = K6.σ.put x none := fun y => by unfold FSt.put; rw [List.set_set]
      rw [e]
      exact (hg6.inv.free hg6.live hx hl).2)
    rw [hI.E.f] at hd
    refine hd.mono fun e w2 hm => ?_
    have := hI.files hm.2.2 (by rw [hI.E.f]; exact hm.2.1)
    exact ⟨⟨_, hm.1⟩, _, by rw [hK7]; rw [hK6] at this ⊢; exact this⟩
  have hfin : ∀ w' L7, KIn w k K L i a c w' K7 L7 noResV → KErrPost w k K L i a c (chdirQ K i c.s) (.returned (.int .i64 0)) (w'.setCell ⟨L.qb i, 4, none⟩ (.int .i64 no)) := fun w' L7 hI => by
    have hq := hI.hq h1 h2
    have hI2 := hI.proc h1 (Nat.le_trans h2 hI.E.qn) (q := { K.proc i with dir := no }) (w2 := w'.setCell ⟨L.qb i, 4, none⟩ (.int .i64 no)) (by rw [hI.qb h1 h2]; exact (Fr.refl (fun b => b = L.qb i) w').setCell (p := ⟨L.qb i, 4, none⟩) (.inl rfl) _) (by rw [hI.qb h1 h2]; rw [hK7] at hq; exact (blk_set hq 4 _).trans rfl) (by rw [hK7]) (by rw [hK7])
    unfold chdirQ chdirW
    rw [if_neg (by rw [hwe]; simp), if_neg (by rw [hk]; simp), if_neg (by rw [hm]; simp), ← hnoe]
    rw [hK7, hK6] at hI2
    exact ⟨rfl, L7, _, hI2, rfl⟩
  have hq4 : ∀ w' K' L', KIn w k K L i a c w' K' L' noResV → (K'.proc i).dir = (K.proc i).dir → w'.cell? ⟨a, 1, none⟩ = some (.pointer (some ⟨L.qb i, 0, none⟩)) ∧ w'.cell? ⟨L.qb i, 4, none⟩ = some (.int .i64 (K.proc i).dir) ∧ w'.frozen? ⟨L.qb i, 4, none⟩ = false := fun w' K' L' hI e => ⟨by rw [blk_cell hI.A]; rfl, by rw [blk_cell (hI.hq h1 h2), ← e]; rfl, blk_frozen (hI.hq h1 h2) 4⟩
  have hd6 : (K6.proc i).dir = (K.proc i).dir := by rw [hK6]
  have hd7 : (K7.proc i).dir = (K.proc i).dir := by rw [hK7]
  have Hhold := hide hhold
  have Hdrp := hide hdrp
  have Hfin := hide hfin
  have Hq4 := hide hq4
  have Hd6 := hide hd6
  have Hd7 := hide hd7
  have HI0 := hide I0
  have HSA := hide hSA
  have Hwk := hide hwk
  have Hst := hide hst
  have Hno := hide hno
  generalize statE K.σ no = se at *
  clear h hok ha hao I0 hdir hSA hwk hst hml hgo hga hsz hno hse hcap hwe hok0 hnoe hk hm hmay hmay0 hfin hhold hdrp hq4 hd6 hd7 hK6 hK7 hg6
  unfold ptrAt at *
  go_enter Tryz.func29, Tryz.ntmps29
  go_upto_region 2 with (fail)
  refine region_tree (fun w' => AskAt w' a k (L.qb i) c noResV ∧ w'.cell? ⟨L.qb i, 4, none⟩ = some (.int .i64 (K.proc i).dir)) [0, 1, 2, 3, 4, 5, 6, 7, 8, 9, 10, 11, 12] 5 18 (by kernel_rfl) (by kernel_rfl) (fun _ _ d _ _ h => by cases d <;> exact h) s1 ?_
  simp only [List.map_cons, List.map_nil, List.getD_cons_zero, List.getD_cons_succ, List.drop_succ_cons, List.drop_zero]
  go_big_quiet_step (fail)
  go_big_quiet_step (fail)
  refine wpQuiet_val (.pointer (some ⟨a, 0, none⟩)) rfl (fun w' hS => by (go_simp)) ?_
  simp only [Act.put, List.setIfInBounds_toArray, List.set_cons_succ, List.set_cons_zero]
  refine wpQuiet_val (.pointer (some ⟨a, 1, none⟩)) rfl (fun w' hS => by (go_simp)) ?_
  simp only [Act.put, List.setIfInBounds_toArray, List.set_cons_succ, List.set_cons_zero]
  refine wpQuiet_val (.pointer (some ⟨L.qb i, 0, none⟩)) rfl (fun w' hS => by
      have e : w'.cell? ⟨a, 1, none⟩ = some (.pointer (some ⟨L.qb i, 0, none⟩)) := by rw [blk_cell hS.1]; rfl
      go_simp) ?_
  simp only [Act.put, List.setIfInBounds_toArray, List.set_cons_succ, List.set_cons_zero]
  refine wpQuiet_val (.pointer (some ⟨L.qb i, 0, none⟩)) rfl (fun w' hS => by (go_simp)) ?_
  simp only [Act.put, List.setIfInBounds_toArray, List.set_cons_succ, List.set_cons_zero]
  refine wpQuiet_val (.pointer (some ⟨L.qb i, 4, none⟩)) rfl (fun w' hS => by (go_simp)) ?_
  simp only [Act.put, List.setIfInBounds_toArray, List.set_cons_succ, List.set_cons_zero]
  refine wpQuiet_val (.int .i64 (K.proc i).dir) rfl (fun w' hS => by
      have e : w'.cell? ⟨L.qb i, 4, none⟩ = some (.int .i64 (K.proc i).dir) := hS.2
      go_simp) ?_
  simp only [Act.put, List.setIfInBounds_toArray, List.set_cons_succ, List.set_cons_zero]
  go_big_quiet_step (fail)
  refine wpQuiet_val (.pointer (some ⟨a, 0, none⟩)) rfl (fun w' hS => by (go_simp)) ?_
  simp only [Act.put, List.setIfInBounds_toArray, List.set_cons_succ, List.set_cons_zero]
  refine wpQuiet_val (.pointer (some ⟨a, 2, none⟩)) rfl (fun w' hS => by (go_simp)) ?_
  simp only [Act.put, List.setIfInBounds_toArray, List.set_cons_succ, List.set_cons_zero]
  refine wpQuiet_val (.pointer (some ⟨a, 5, none⟩)) rfl (fun w' hS => by (go_simp)) ?_
  simp only [Act.put, List.setIfInBounds_toArray, List.set_cons_succ, List.set_cons_zero]
  refine wpQuiet_val (.string c.s) rfl (fun w' hS => by
      have e : w'.cell? ⟨a, 5, none⟩ = some (.string c.s) := by rw [blk_cell hS.1]; rfl
      go_simp) ?_
  simp only [Act.put, List.setIfInBounds_toArray, List.set_cons_succ, List.set_cons_zero]
  refine wpQuiet_nil ?_
  refine tree_one' 13 (by kernel_rfl) (by decide) (by simp) rfl (fun Kc hK => ?_)
  simp only [List.getD_cons_zero, List.getD_cons_succ]
  go_wp2_with fail
  refine Hwk.out.mono ?_
  rintro e w2 ⟨rfl, hf2⟩
  have hf2 := (Fr.refl (fun _ => False) w).drew.trans hf2
  have s2 := HSA.out w2 hf2
  have Hf2 := hide hf2
  refine hK _ _ s2 ?_
  clear hK Kc s1 hf2
  refine tree_heads (f := 0) [14, 15, 16, 17] (by kernel_rfl) (fun _ _ d _ _ h => by cases d <;> exact h) s2 ?_
  simp only [List.map_cons, List.map_nil, List.getD_cons_zero, List.getD_cons_succ, List.drop_succ_cons, List.drop_zero]
  go_big_quiet_step (fail)
  refine wpQuiet_val (.int .i64 no) rfl (fun w' hS => by (go_simp)) ?_
  simp only [Act.put, List.setIfInBounds_toArray, List.set_cons_succ, List.set_cons_zero]
  refine wpQuiet_val (.int .i64 0) rfl (fun w' hS => by (go_simp)) ?_
  simp only [Act.put, List.setIfInBounds_toArray, List.set_cons_succ, List.set_cons_zero]
  go_big_quiet_step (fail)
  refine wpQuiet_nil ?_
  refine tree_end (by kernel_rfl) ?_
  try (simp only [List.map_cons, List.map_nil, List.getD_cons_zero, List.getD_cons_succ, List.drop_succ_cons, List.drop_zero])
  go_wp2_with fail
  refine (Hst.out w2 Hf2.out).mono ?_
  rintro e w3 ⟨rfl, hf3⟩
  obtain ⟨W3, hW3⟩ : ∃ W3, W3 = w3.alloc (.cells #[.int .i64 st.ino, .int .i64 st.kind, .int .i64 st.mode, .int .i64 st.links, .int .i64 st.size] 28 (0, 0)) := ⟨_, rfl⟩
  have fW3 : Fr (fun _ => False) w W3 := by rw [hW3]; exact (Hf2.out.trans hf3).alloc _
  have b3 : W3.heap[w3.heap.size]? = some (.cells #[.int .i64 st.ino, .int .i64 st.kind, .int .i64 st.mode, .int .i64 st.links, .int .i64 st.size] 28 (0, 0)) := by rw [hW3]; exact blk_new _ _
  have z3 : W3.heap.size = w3.heap.size + 1 := by rw [hW3]; simp
  obtain ⟨W4, W5, hu1, hu2, hlk, f35⟩ := leave_map W3
  have I5 := (HI0.out.quiet fW3).still f35 (fun b e _ => by rw [e]; exact ⟨fW3.size, HI0.out.F.new _ fW3.size⟩)
  have b5 := f35.get b3 (by omega)
  have d1 : W5.cell? ⟨w3.heap.size, 1, none⟩ = some (.int .i64 st.kind) := by rw [blk_cell b5]; rfl
  have e2 : W5.cell? ⟨a, 2, none⟩ = some (.int .i64 12) := by rw [blk_cell I5.A, ← Hno.out]; rfl
  have g2 : (W3.alloc (.map #[] 0)).cell? ⟨a, 2, none⟩ = some (.int .i64 12) := by rw [blk_cell (((HI0.out.quiet fW3).alloc (.map #[] 0)).A), ← Hno.out]; rfl
  have hmm := @run_makeMap Tryz.prog
  have HI5 := hide I5
  have HW3 := hide hW3
  have Hf3 := hide (Hf2.out.trans hf3)
  clear hf3 fW3 b3 z3 f35 I5 b5 hW3 s2 Hst
  unfold stV at *
  go_upto_region 6 with (fail)
  rw [← HW3.out]
  rw [Hkd.out] at d1
  have hma := hide (Hmay.out W5 HI5.out)
  clear Hf3 HI0 HSA Hwk Hf2 Hno Hmay
  go_wp2_with fail
  refine hma.out.mono ?_
  rintro e w9 ⟨rfl, rfl⟩
  have hho := hide (Hhold.out _ HI5.out)
  clear hma Hhold d1
  go_wp2_with fail
  refine hho.out.mono ?_
  rintro e w6 ⟨⟨x6, rfl⟩, L6, I6⟩
  obtain ⟨q1, q4, _⟩ := Hq4.out _ _ _ I6 Hd6.out
  have hdr := hide (Hdrp.out w6 L6 I6)
  clear hho Hdrp I6
  go_wp2_with fail
  refine hdr.out.mono ?_
  rintro e w7 ⟨⟨x7, rfl⟩, L7, I7⟩
  obtain ⟨p1, p4, pz⟩ := Hq4.out _ _ _ I7 Hd7.out
  have hl := hide (Hfin.out w7 L7 I7)
  clear hdr I7 Hfin Hq4 q1 q4
  go_wp2_with fail
  go_ret
  exact hl.out
theorem aplace_any (w : World) (k : Nat) (K : KQ) (L : KLay) (h : KF w k K L) (N : Nat) (hok : KOk K N) (hN : N + 4 ≤ 1000000) (i : Nat) (h1 : 1 ≤ i) (h2 : i ≤ K.qn) (a : Nat) (c : SysQ) (ha : AskAt w a k (L.qb i) c noResV) (hao : L.o a = none) (hml : Ml w) (hgo : L.o glB = none) (hga : glB ≠ a) (hsz : c.s.size ≤ 9223372036854775807) (hno : c.no = 12) :
    Calls Tryz.prog 29 #[ptrAt a] w (KErrPost w k K L i a c (chdirQ K i c.s)) := by
  by_cases he : (walkE K.σ (K.proc i).dir c.s.data.toList).1 = 0
  · by_cases hk : (statT K.σ (walkE K.σ (K.proc i).dir c.s.data.toList).2).kind = 2
    · cases hm : mayR K.σ (walkE K.σ (K.proc i).dir c.s.data.toList).2 1 with
      | false => exact aplace_noacc w k K L h N hok hN i h1 h2 a c ha hao hml hgo hga hsz hno he hk hm
      | true => exact aplace_ok w k K L h N hok hN i h1 h2 a c ha hao hml hgo hga hsz hno he hk hm
    · exact aplace_nodir w k K L h N hok hN i h1 h2 a c ha hao hml hgo hga hsz hno he hk
  · exact aplace_err w k K L h N hok hN i h1 h2 a c ha hao hml hgo hga hsz hno he
end Go.Proofs.YtffekmjoenppaaaGreatDoor
