/- gate.asked.answer where the tree of files alone is asked. Conditions: the contracts' own premises. -/
import Derived.Test.YtffekmjoenppaaaGreatDoorKerOpenA
namespace Go.Proofs.YtffekmjoenppaaaGreatDoor
open Go.RowKit

attribute [local go_sem] Oper.semAt_some

/-- An error, and a tree. -/
def fileQ (K : KQ) (r : Int × FSt) : ResQ × KQ := (errR r.1, { K with σ := r.2 })
set_option maxRecDepth 100000 in
set_option maxHeartbeats 1000000 in
theorem ans_mkdir (w : World) (k : Nat) (K : KQ) (L : KLay) (h : KF w k K L) (N : Nat) (hok : KOk K N) (hN : N + 4 ≤ 1000000) (i : Nat) (h1 : 1 ≤ i) (h2 : i ≤ K.qn) (a : Nat) (c : SysQ) (ha : AskAt w a k (L.qb i) c noResV) (hao : L.o a = none) (hml : Ml w) (hgo : L.o glB = none) (hga : glB ≠ a) (hsz : c.s.size ≤ 9223372036854775807) (hsz2 : c.t.size ≤ 9223372036854775807) (hno : c.no = 17) :
    Calls Tryz.prog 15 #[ptrAt a] w (KaskPost w k K L i a c (false, fileQ K (makeR K.σ (K.proc i).dir c.s.data.toList true (bits .andNot .i64 (bits .and .i64 c.a 511) (K.proc i).mask)))) := by
  have I0 := KIn.start h ha hao
  have Id := I0.drew
  have hdir := (hok.proc i h1 h2).dir
  have hmr := bits_within .andNot .i64 (bits .and .i64 c.a 511) (K.proc i).mask
  have c0 : w.cell? ⟨a, 0, none⟩ = some (.pointer (some ⟨k, 0, none⟩)) := by rw [blk_cell ha]; rfl
  have c2 : w.cell? ⟨a, 2, none⟩ = some (.int .i64 17) := by rw [blk_cell ha, ← hno]; rfl
  have k0 : w.cell? ⟨k, 0, none⟩ = some (.pointer (some ⟨L.f, 0, none⟩)) := by rw [blk_cell h.hk]; rfl
  have hSA : ∀ w' K' L', KIn w k K L i a c w' K' L' noResV → (K'.proc i).dir = (K.proc i).dir → (K'.proc i).mask = (K.proc i).mask → AskAt w' a k (L.qb i) c noResV ∧ w'.cell? ⟨L.qb i, 4, none⟩ = some (.int .i64 (K.proc i).dir) ∧ w'.cell? ⟨L.qb i, 5, none⟩ = some (.int .i64 (K.proc i).mask) := fun w' K' L' hI e1 e2 => ⟨hI.A, by rw [blk_cell (hI.hq h1 h2), ← e1]; rfl, by rw [blk_cell (hI.hq h1 h2), ← e2]; rfl⟩
  have s1 := hSA _ _ _ Id rfl rfl
  have hcall : Calls Tryz.prog 31 #[.pointer (some ⟨L.f, 0, none⟩), .int .i64 (K.proc i).dir, .string c.s, .int .i64 (bits .andNot .i64 (bits .and .i64 c.a 511) (K.proc i).mask)] w.drew fun e w2 => e = .returned (.int .i64 (makeR K.σ (K.proc i).dir c.s.data.toList true (bits .andNot .i64 (bits .and .i64 c.a 511) (K.proc i).mask)).1) ∧ ∃ L2, KIn w k K L i a c w2 { K with σ := (makeR K.σ (K.proc i).dir c.s.data.toList true (bits .andNot .i64 (bits .and .i64 c.a 511) (K.proc i).mask)).2 } L2 noResV := by
    obtain ⟨p, hA⟩ := Id.F.files
    refine (Mkdir_any w.drew L.f K.σ _ p hA (hml.frame (Fr.refl (fun _ => False) w).drew (fun e => e)) (hok.good.b (by omega)) (K.proc i).dir (by omega) c.s hsz _ hmr).mono ?_
    intro e w2 hm
    exact ⟨hm.1, _, Id.files hm.2.2 (Classical.choose_spec hm.2.1)⟩
  obtain ⟨fr, hfr⟩ : ∃ fr : Int × FSt, fr = makeR K.σ (K.proc i).dir c.s.data.toList true (bits .andNot .i64 (bits .and .i64 c.a 511) (K.proc i).mask) := ⟨_, rfl⟩
  rw [← hfr] at hcall ⊢
  have hlast : ∀ w2 L2, KIn w k K L i a c w2 { K with σ := fr.2 } L2 noResV → KaskPost w k K L i a c (false, fileQ K fr) (.returned (.bool false)) (w2.setCell ⟨a, 17, none⟩ (.int .i64 fr.1)) := fun w2 L2 I2 => (I2.err fr.1).post rfl fun _ => rfl
  have Hlast := hide hlast
  have Hcall := hide hcall
  have HSA := hide hSA
  clear h hok ha hao I0 Id hlast hcall hSA hfr hml hgo hga hsz hsz2 hno hdir hmr
  unfold ptrAt at *
  go_enter Tryz.func15, Tryz.ntmps15
  go_upto_region 27 with (fail)
  refine region_tree (fun w' => AskAt w' a k (L.qb i) c noResV ∧ w'.cell? ⟨L.qb i, 4, none⟩ = some (.int .i64 (K.proc i).dir) ∧ w'.cell? ⟨L.qb i, 5, none⟩ = some (.int .i64 (K.proc i).mask)) [0, 1, 2, 3, 4, 5, 6, 7, 8, 9, 10, 11, 12, 13, 14, 15, 16, 17, 18, 19, 20, 21, 22, 23, 24, 25, 26, 27] 1 29 (by kernel_rfl) (by kernel_rfl) (fun _ _ d _ _ h => by cases d <;> exact h) s1 ?_
  simp only [List.map_cons, List.map_nil, List.getD_cons_zero, List.getD_cons_succ, List.drop_succ_cons, List.drop_zero]
  go_big_quiet_step (fail)
  go_big_quiet_step (fail)
  go_big_quiet_step (fail)
  refine wpQuiet_val (.pointer (some ⟨a, 0, none⟩)) rfl (fun w' hS => by (go_simp)) ?_
  simp only [Act.put, List.setIfInBounds_toArray, List.set_cons_succ, List.set_cons_zero]
  refine wpQuiet_val (.pointer (some ⟨a, 1, none⟩)) rfl (fun w' hS => by (go_simp)) ?_
  simp only [Act.put, List.setIfInBounds_toArray, List.set_cons_succ, List.set_cons_zero]
  refine wpQuiet_val (.pointer (some ⟨L.qb i, 0, none⟩)) rfl (fun w' hS => by
      have e : w'.cell? ⟨a, 1, none⟩ = some (.pointer (some ⟨L.qb i, 0, none⟩)) := by rw [blk_cell hS.1]; rfl
      go_simp) ?_
  simp only [Act.put, List.setIfInBounds_toArray, List.set_cons_succ, List.set_cons_zero]
  refine wpQuiet_val (.pointer (some ⟨L.qb i, 0, none⟩)) rfl (fun w' hS => by (go_simp)) ?_
  simp only [Act.put, List.setIfInBounds_toArray, List.set_cons_succ, List.set_cons_zero]
  refine wpQuiet_val (.pointer (some ⟨L.qb i, 4, none⟩)) rfl (fun w' hS => by (go_simp)) ?_
  simp only [Act.put, List.setIfInBounds_toArray, List.set_cons_succ, List.set_cons_zero]
  refine wpQuiet_val (.int .i64 (K.proc i).dir) rfl (fun w' hS => by
      have e : w'.cell? ⟨L.qb i, 4, none⟩ = some (.int .i64 (K.proc i).dir) := hS.2.1
      go_simp) ?_
  simp only [Act.put, List.setIfInBounds_toArray, List.set_cons_succ, List.set_cons_zero]
  go_big_quiet_step (fail)
  refine wpQuiet_val (.pointer (some ⟨a, 0, none⟩)) rfl (fun w' hS => by (go_simp)) ?_
  simp only [Act.put, List.setIfInBounds_toArray, List.set_cons_succ, List.set_cons_zero]
  refine wpQuiet_val (.pointer (some ⟨a, 2, none⟩)) rfl (fun w' hS => by (go_simp)) ?_
  simp only [Act.put, List.setIfInBounds_toArray, List.set_cons_succ, List.set_cons_zero]
  refine wpQuiet_val (.pointer (some ⟨a, 5, none⟩)) rfl (fun w' hS => by (go_simp)) ?_
  simp only [Act.put, List.setIfInBounds_toArray, List.set_cons_succ, List.set_cons_zero]
  refine wpQuiet_val (.string c.s) rfl (fun w' hS => by
      have e : w'.cell? ⟨a, 5, none⟩ = some (.string c.s) := by rw [blk_cell hS.1]; rfl
      go_simp) ?_
  simp only [Act.put, List.setIfInBounds_toArray, List.set_cons_succ, List.set_cons_zero]
  go_big_quiet_step (fail)
  refine wpQuiet_val (.pointer (some ⟨a, 0, none⟩)) rfl (fun w' hS => by (go_simp)) ?_
  simp only [Act.put, List.setIfInBounds_toArray, List.set_cons_succ, List.set_cons_zero]
  refine wpQuiet_val (.pointer (some ⟨a, 2, none⟩)) rfl (fun w' hS => by (go_simp)) ?_
  simp only [Act.put, List.setIfInBounds_toArray, List.set_cons_succ, List.set_cons_zero]
  refine wpQuiet_val (.pointer (some ⟨a, 3, none⟩)) rfl (fun w' hS => by (go_simp)) ?_
  simp only [Act.put, List.setIfInBounds_toArray, List.set_cons_succ, List.set_cons_zero]
  refine wpQuiet_val (.int .i64 c.a) rfl (fun w' hS => by
      have e : w'.cell? ⟨a, 3, none⟩ = some (.int .i64 c.a) := by rw [blk_cell hS.1]; rfl
      go_simp) ?_
  simp only [Act.put, List.setIfInBounds_toArray, List.set_cons_succ, List.set_cons_zero]
  refine wpQuiet_val (.int .i64 (bits .and .i64 c.a 511)) rfl (fun w' hS => by (go_simp)) ?_
  simp only [Act.put, List.setIfInBounds_toArray, List.set_cons_succ, List.set_cons_zero]
  go_big_quiet_step (fail)
  refine wpQuiet_val (.pointer (some ⟨a, 0, none⟩)) rfl (fun w' hS => by (go_simp)) ?_
  simp only [Act.put, List.setIfInBounds_toArray, List.set_cons_succ, List.set_cons_zero]
  refine wpQuiet_val (.pointer (some ⟨a, 1, none⟩)) rfl (fun w' hS => by (go_simp)) ?_
  simp only [Act.put, List.setIfInBounds_toArray, List.set_cons_succ, List.set_cons_zero]
  refine wpQuiet_val (.pointer (some ⟨L.qb i, 0, none⟩)) rfl (fun w' hS => by
      have e : w'.cell? ⟨a, 1, none⟩ = some (.pointer (some ⟨L.qb i, 0, none⟩)) := by rw [blk_cell hS.1]; rfl
      go_simp) ?_
  simp only [Act.put, List.setIfInBounds_toArray, List.set_cons_succ, List.set_cons_zero]
  refine wpQuiet_val (.pointer (some ⟨L.qb i, 0, none⟩)) rfl (fun w' hS => by (go_simp)) ?_
  simp only [Act.put, List.setIfInBounds_toArray, List.set_cons_succ, List.set_cons_zero]
  refine wpQuiet_val (.pointer (some ⟨L.qb i, 5, none⟩)) rfl (fun w' hS => by (go_simp)) ?_
  simp only [Act.put, List.setIfInBounds_toArray, List.set_cons_succ, List.set_cons_zero]
  refine wpQuiet_val (.int .i64 (K.proc i).mask) rfl (fun w' hS => by
      have e : w'.cell? ⟨L.qb i, 5, none⟩ = some (.int .i64 (K.proc i).mask) := hS.2.2
      go_simp) ?_
  simp only [Act.put, List.setIfInBounds_toArray, List.set_cons_succ, List.set_cons_zero]
  refine wpQuiet_val (.int .i64 (bits .andNot .i64 (bits .and .i64 c.a 511) (K.proc i).mask)) rfl (fun w' hS => by (go_simp)) ?_
  simp only [Act.put, List.setIfInBounds_toArray, List.set_cons_succ, List.set_cons_zero]
  refine wpQuiet_nil ?_
  refine tree_one' 28 (by kernel_rfl) (by decide) (by simp) rfl (fun Kc hK => ?_)
  simp only [List.getD_cons_zero, List.getD_cons_succ]
  go_wp2_with fail
  refine Hcall.out.mono ?_
  rintro e w2 ⟨rfl, L2, I2⟩
  have s2 := HSA.out _ _ _ I2 rfl rfl
  have hl := hide (Hlast.out w2 L2 I2)
  refine hK _ _ s2 ?_
  clear hK Kc s1 I2
  refine tree_end (by kernel_rfl) ?_
  try (simp only [List.map_cons, List.map_nil, List.getD_cons_zero, List.getD_cons_succ, List.drop_succ_cons, List.drop_zero])
  have x17 : w2.cell? ⟨a, 17, none⟩ = some (.int .i64 0) := by rw [blk_cell s2.1]; rfl
  have z17 : w2.frozen? ⟨a, 17, none⟩ = false := blk_frozen s2.1 17
  clear s2 Hcall Hlast HSA
  go_wp2_with fail
  go_ret
  exact hl.out
end Go.Proofs.YtffekmjoenppaaaGreatDoor
