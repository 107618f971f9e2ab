/- gate.asked.own, by the number of the call. Conditions: the contracts' own premises. -/
import Derived.Test.YtffekmjoenppaaaGreatDoorKerDrop
import Derived.Test.YtffekmjoenppaaaGreatDoorKerDropC
import Derived.Test.YtffekmjoenppaaaGreatDoorKerPipe
import Derived.Test.YtffekmjoenppaaaGreatDoorKerDup
import Derived.Test.YtffekmjoenppaaaGreatDoorFilesPath
namespace Go.Proofs.YtffekmjoenppaaaGreatDoor
open Go.RowKit

attribute [local go_sem] Oper.semAt_some

def cutT (t : TSt) (fd : Int) : TSt := t.set fd.toNat (if inB fd = true then none else t fd.toNat)
theorem tabS_cutT (L : KLay) (t : TSt) (fd : Int) : (tabS L t).set fd.toNat (if inB fd = true then none else tabS L t fd.toNat) = tabS L (cutT t fd) := by
  funext i
  unfold tabS cutT TSt.set
  by_cases e : i = fd.toNat
  · rw [if_pos e, if_pos e]
    by_cases e2 : inB fd = true
    · rw [if_pos e2, if_pos e2]; rfl
    · rw [if_neg e2, if_neg e2]
  · rw [if_neg e, if_neg e]
theorem tabS_at (L : KLay) (t : TSt) (fd : Int) : (tabS L t).at fd = (t.at fd).map (fun x => (L.db x.1, x.2)) := by
  unfold TSt.at tabS
  by_cases e : inB fd = true
  · rw [if_pos e, if_pos e]
  · rw [if_neg e, if_neg e]; rfl
theorem cutT_none {t : TSt} {fd : Int} (h : t.at fd = none) : cutT t fd = t := by
  funext i
  unfold cutT TSt.set
  by_cases e : i = fd.toNat
  · rw [if_pos e]
    unfold TSt.at at h
    by_cases e2 : inB fd = true
    · rw [if_pos e2] at h; rw [if_pos e2, e, h]
    · rw [if_neg e2, e]
  · rw [if_neg e]
theorem fds_same (K : KQ) (i : Nat) : K.fds i (K.proc i).fds = K := by
  unfold KQ.fds KQ.setQ
  have : (fun j => if j = i then ({ K.proc i with fds := (K.proc i).fds } : ProcQ) else K.proc j) = K.proc := by
    funext j
    by_cases e : j = i
    · rw [if_pos e, e]
    · rw [if_neg e]
  rw [this]
/-- SysClose. -/
def closeQ (K : KQ) (i : Nat) (fa : Int) : ResQ × KQ := match fdQ K i fa with
  | none => (errR 9, K)
  | some j => (noRes, dropQ (K.fds i (cutT (K.proc i).fds fa)) j)
/-- SysMark. -/
def markQ (K : KQ) (i : Nat) (fa : Int) (m : Bool) : ResQ × KQ := match (K.proc i).fds.at fa with
  | none => (errR 9, K)
  | some (j, _) => (noRes, K.fds i ((K.proc i).fds.set fa.toNat (some (j, m))))
def textD (s : ByteArray) : DescQ := ⟨5, 0, 0, 0, 0, s, true⟩
/-- SysText. -/
def textQ (K : KQ) (i : Nat) (s : ByteArray) : ResQ × KQ :=
  if 32 - used (K.proc i).fds 32 = 0 then (errR 24, K) else ({ noRes with n := (openQ K i (textD s)).1 }, (openQ K i (textD s)).2)
def maskQ (K : KQ) (i : Nat) (m : Int) : ResQ × KQ := ({ noRes with n := (K.proc i).mask }, K.setQ i { K.proc i with mask := modeN m })
noncomputable def pathQ (K : KQ) (i : Nat) : ResQ × KQ := ({ noRes with s := ⟨(pathR K.σ (K.proc i).dir).toArray⟩, err := pathE K.σ (K.proc i).dir }, K)
set_option maxRecDepth 100000 in
set_option maxHeartbeats 1000000 in
theorem aown_close0 (w : World) (k : Nat) (K : KQ) (L : KLay) (h : KF w k K L) (N : Nat) (hok : KOk K N) (hN : N + 4 ≤ 1000000) (i : Nat) (h1 : 1 ≤ i) (h2 : i ≤ K.qn) (a : Nat) (c : SysQ) (ha : AskAt w a k (L.qb i) c noResV) (hao : L.o a = none) (hno : c.no = 4) (hfd : fdQ K i c.a = none) :
    Calls Tryz.prog 36 #[ptrAt a] w (KErrPost w k K L i a c (closeQ K i c.a)) := by
  have I0 := KIn.start h ha hao
  have Id := I0.drew
  have s1 : (fun w' => AskAt w' a k (L.qb i) c noResV ∧ w'.cell? ⟨L.qb i, 6, none⟩ = some (.pointer (some ⟨L.tb i, 0, none⟩)) ∧ w'.cell? ⟨L.qb i, 4, none⟩ = some (.int .i64 (K.proc i).dir) ∧ w'.cell? ⟨L.qb i, 5, none⟩ = some (.int .i64 (K.proc i).mask) ∧ w'.cell? ⟨k, 0, none⟩ = some (.pointer (some ⟨L.f, 0, none⟩))) w.drew := ⟨Id.A, by rw [blk_cell (Id.hq h1 h2)]; rfl, by rw [blk_cell (Id.hq h1 h2)]; rfl, by rw [blk_cell (Id.hq h1 h2)]; rfl, by rw [blk_cell Id.F.hk]; rfl⟩
  have c2 : w.cell? ⟨a, 2, none⟩ = some (.int .i64 4) := by rw [blk_cell ha, ← hno]; rfl
  have hSA : ∀ w' K' L', KIn w k K L i a c w' K' L' noResV → (K'.proc i).dir = (K.proc i).dir → (K'.proc i).mask = (K.proc i).mask → AskAt w' a k (L.qb i) c noResV ∧ w'.cell? ⟨L.qb i, 6, none⟩ = some (.pointer (some ⟨L.tb i, 0, none⟩)) ∧ w'.cell? ⟨L.qb i, 4, none⟩ = some (.int .i64 (K.proc i).dir) ∧ w'.cell? ⟨L.qb i, 5, none⟩ = some (.int .i64 (K.proc i).mask) ∧ w'.cell? ⟨k, 0, none⟩ = some (.pointer (some ⟨L.f, 0, none⟩)) := fun w' K' L' hI e1 e2 => ⟨hI.A, by rw [blk_cell (hI.hq h1 h2), ← hI.tb h1 h2]; rfl, by rw [blk_cell (hI.hq h1 h2), ← e1]; rfl, by rw [blk_cell (hI.hq h1 h2), ← e2]; rfl, by rw [blk_cell hI.F.hk, ← hI.E.f]; rfl⟩
  have HSA := hide hSA
  have hcut0 := cut_any w.drew (L.tb i) _ _ (Id.ht h1 h2) c.a
  have hcut1 : Calls Tryz.prog 77 #[.pointer (some ⟨L.tb i, 0, none⟩), .int .i64 c.a] w.drew fun e w2 => e = .returned (.tuple #[.pointer none, .int .i64 9]) ∧ ∃ L2, KIn w k K L i a c w2 (K.fds i (cutT (K.proc i).fds c.a)) L2 noResV ∧ L2.db = L.db := hcut0.mono (by
    rintro e w2 ⟨rfl, hA, hf⟩
    rw [tabS_cutT, ← Id.tb h1 h2] at hA
    refine ⟨?_, _, Id.tab h1 h2 hf hA, rfl⟩
    rw [getV_tabS, hfd]
    rfl)
  have hfin : ∀ w2 L2, KIn w k K L i a c w2 (K.fds i (cutT (K.proc i).fds c.a)) L2 noResV → KErrPost w k K L i a c (closeQ K i c.a) (.returned (.int .i64 9)) w2 := fun w2 L2 I2 => by
    have hn : (K.proc i).fds.at c.a = none := by
      unfold fdQ at hfd
      exact Option.map_eq_none_iff.1 hfd
    unfold closeQ
    rw [hfd]
    rw [cutT_none hn, fds_same] at I2
    exact ⟨rfl, _, _, I2, rfl⟩
  have Hfin := hide hfin
  have Hcut := hide hcut1
  clear h hok ha hao I0 Id hcut0 hcut1 hSA hno hfd hfin
  unfold ptrAt at *
  go_enter Tryz.func36, Tryz.ntmps36
  go_upto_region 4 with (fail)
  refine region_tree (fun w' => AskAt w' a k (L.qb i) c noResV ∧ w'.cell? ⟨L.qb i, 6, none⟩ = some (.pointer (some ⟨L.tb i, 0, none⟩)) ∧ w'.cell? ⟨L.qb i, 4, none⟩ = some (.int .i64 (K.proc i).dir) ∧ w'.cell? ⟨L.qb i, 5, none⟩ = some (.int .i64 (K.proc i).mask) ∧ w'.cell? ⟨k, 0, none⟩ = some (.pointer (some ⟨L.f, 0, none⟩))) [0, 1, 2, 3, 4, 5, 6, 7, 8, 9, 10, 11] 5 17 (by kernel_rfl) (by kernel_rfl) (fun _ _ d _ _ h => by cases d <;> exact h) s1 ?_
  simp only [List.map_cons, List.map_nil, List.getD_cons_zero, List.getD_cons_succ, List.drop_succ_cons, List.drop_zero]
  go_big_quiet_step (fail)
  refine wpQuiet_val (.pointer (some ⟨a, 0, none⟩)) rfl (fun w' hS => by (go_simp)) ?_
  simp only [Act.put, List.setIfInBounds_toArray, List.set_cons_succ, List.set_cons_zero]
  refine wpQuiet_val (.pointer (some ⟨a, 1, none⟩)) rfl (fun w' hS => by (go_simp)) ?_
  simp only [Act.put, List.setIfInBounds_toArray, List.set_cons_succ, List.set_cons_zero]
  refine wpQuiet_val (.pointer (some ⟨L.qb i, 0, none⟩)) rfl (fun w' hS => by
      have e : w'.cell? ⟨a, 1, none⟩ = some (.pointer (some ⟨L.qb i, 0, none⟩)) := by rw [blk_cell hS.1]; rfl
      go_simp) ?_
  simp only [Act.put, List.setIfInBounds_toArray, List.set_cons_succ, List.set_cons_zero]
  refine wpQuiet_val (.pointer (some ⟨L.qb i, 0, none⟩)) rfl (fun w' hS => by (go_simp)) ?_
  simp only [Act.put, List.setIfInBounds_toArray, List.set_cons_succ, List.set_cons_zero]
  refine wpQuiet_val (.pointer (some ⟨L.qb i, 6, none⟩)) rfl (fun w' hS => by (go_simp)) ?_
  simp only [Act.put, List.setIfInBounds_toArray, List.set_cons_succ, List.set_cons_zero]
  refine wpQuiet_val (.pointer (some ⟨L.tb i, 0, none⟩)) rfl (fun w' hS => by
      have e : w'.cell? ⟨L.qb i, 6, none⟩ = some (.pointer (some ⟨L.tb i, 0, none⟩)) := hS.2.1
      go_simp) ?_
  simp only [Act.put, List.setIfInBounds_toArray, List.set_cons_succ, List.set_cons_zero]
  go_big_quiet_step (fail)
  refine wpQuiet_val (.pointer (some ⟨a, 0, none⟩)) rfl (fun w' hS => by (go_simp)) ?_
  simp only [Act.put, List.setIfInBounds_toArray, List.set_cons_succ, List.set_cons_zero]
  refine wpQuiet_val (.pointer (some ⟨a, 2, none⟩)) rfl (fun w' hS => by (go_simp)) ?_
  simp only [Act.put, List.setIfInBounds_toArray, List.set_cons_succ, List.set_cons_zero]
  refine wpQuiet_val (.pointer (some ⟨a, 3, none⟩)) rfl (fun w' hS => by (go_simp)) ?_
  simp only [Act.put, List.setIfInBounds_toArray, List.set_cons_succ, List.set_cons_zero]
  refine wpQuiet_val (.int .i64 c.a) rfl (fun w' hS => by
      have e : w'.cell? ⟨a, 3, none⟩ = some (.int .i64 c.a) := by rw [blk_cell hS.1]; rfl
      go_simp) ?_
  simp only [Act.put, List.setIfInBounds_toArray, List.set_cons_succ, List.set_cons_zero]
  refine wpQuiet_nil ?_
  refine tree_one' 12 (by kernel_rfl) (by decide) (by simp) rfl (fun Kc hK => ?_)
  simp only [List.getD_cons_zero, List.getD_cons_succ]
  go_wp2_with fail
  refine Hcut.out.mono ?_
  rintro e w2 ⟨rfl, L2, I2, hL2⟩
  have s2 := HSA.out _ _ _ I2 (by show (if i = i then _ else _ : ProcQ).dir = _; rw [if_pos rfl]) (by show (if i = i then _ else _ : ProcQ).mask = _; rw [if_pos rfl])
  have HI2 := hide (And.intro I2 hL2)
  refine hK _ _ s2 ?_
  clear hK Kc s1 I2 hL2
  refine tree_heads (f := 0) [13, 14, 15, 16] (by kernel_rfl) (fun _ _ d _ _ h => by cases d <;> exact h) s2 ?_
  simp only [List.map_cons, List.map_nil, List.getD_cons_zero, List.getD_cons_succ, List.drop_succ_cons, List.drop_zero]
  go_big_quiet_step (fail)
  refine wpQuiet_val (.pointer none) rfl (fun w' hS => by (go_simp)) ?_
  simp only [Act.put, List.setIfInBounds_toArray, List.set_cons_succ, List.set_cons_zero]
  refine wpQuiet_val (.int .i64 9) rfl (fun w' hS => by (go_simp)) ?_
  simp only [Act.put, List.setIfInBounds_toArray, List.set_cons_succ, List.set_cons_zero]
  go_big_quiet_step (fail)
  refine wpQuiet_nil ?_
  refine tree_end (by kernel_rfl) ?_
  try (simp only [List.map_cons, List.map_nil, List.getD_cons_zero, List.getD_cons_succ, List.drop_succ_cons, List.drop_zero])
  have Hp := hide (Hfin.out w2 L2 HI2.out.1)
  clear s2 Hfin Hcut
  go_wp2_with fail
  go_ret
  exact Hp.out
set_option maxRecDepth 100000 in
set_option maxHeartbeats 1000000 in
theorem aown_close1 (w : World) (k : Nat) (K : KQ) (L : KLay) (h : KF w k K L) (N : Nat) (hok : KOk K N) (hN : N + 4 ≤ 1000000) (i : Nat) (h1 : 1 ≤ i) (h2 : i ≤ K.qn) (a : Nat) (c : SysQ) (ha : AskAt w a k (L.qb i) c noResV) (hao : L.o a = none) (hno : c.no = 4) (j : Nat) (hfd : fdQ K i c.a = some j) :
    Calls Tryz.prog 36 #[ptrAt a] w (KErrPost w k K L i a c (closeQ K i c.a)) := by
  have I0 := KIn.start h ha hao
  have Id := I0.drew
  have s1 : (fun w' => AskAt w' a k (L.qb i) c noResV ∧ w'.cell? ⟨L.qb i, 6, none⟩ = some (.pointer (some ⟨L.tb i, 0, none⟩)) ∧ w'.cell? ⟨L.qb i, 4, none⟩ = some (.int .i64 (K.proc i).dir) ∧ w'.cell? ⟨L.qb i, 5, none⟩ = some (.int .i64 (K.proc i).mask) ∧ w'.cell? ⟨k, 0, none⟩ = some (.pointer (some ⟨L.f, 0, none⟩))) w.drew := ⟨Id.A, by rw [blk_cell (Id.hq h1 h2)]; rfl, by rw [blk_cell (Id.hq h1 h2)]; rfl, by rw [blk_cell (Id.hq h1 h2)]; rfl, by rw [blk_cell Id.F.hk]; rfl⟩
  have c2 : w.cell? ⟨a, 2, none⟩ = some (.int .i64 4) := by rw [blk_cell ha, ← hno]; rfl
  have hSA : ∀ w' K' L', KIn w k K L i a c w' K' L' noResV → (K'.proc i).dir = (K.proc i).dir → (K'.proc i).mask = (K.proc i).mask → AskAt w' a k (L.qb i) c noResV ∧ w'.cell? ⟨L.qb i, 6, none⟩ = some (.pointer (some ⟨L.tb i, 0, none⟩)) ∧ w'.cell? ⟨L.qb i, 4, none⟩ = some (.int .i64 (K.proc i).dir) ∧ w'.cell? ⟨L.qb i, 5, none⟩ = some (.int .i64 (K.proc i).mask) ∧ w'.cell? ⟨k, 0, none⟩ = some (.pointer (some ⟨L.f, 0, none⟩)) := fun w' K' L' hI e1 e2 => ⟨hI.A, by rw [blk_cell (hI.hq h1 h2), ← hI.tb h1 h2]; rfl, by rw [blk_cell (hI.hq h1 h2), ← e1]; rfl, by rw [blk_cell (hI.hq h1 h2), ← e2]; rfl, by rw [blk_cell hI.F.hk, ← hI.E.f]; rfl⟩
  have HSA := hide hSA
  have hcut0 := cut_any w.drew (L.tb i) _ _ (Id.ht h1 h2) c.a
  have hcut1 : Calls Tryz.prog 77 #[.pointer (some ⟨L.tb i, 0, none⟩), .int .i64 c.a] w.drew fun e w2 => e = .returned (.tuple #[.pointer (some ⟨L.db j, 0, none⟩), .int .i64 0]) ∧ ∃ L2, KIn w k K L i a c w2 (K.fds i (cutT (K.proc i).fds c.a)) L2 noResV ∧ L2.db = L.db := hcut0.mono (by
    rintro e w2 ⟨rfl, hA, hf⟩
    rw [tabS_cutT, ← Id.tb h1 h2] at hA
    refine ⟨?_, _, Id.tab h1 h2 hf hA, rfl⟩
    rw [getV_tabS, hfd]
    rfl)
  have hj := fdQ_ok hok.fds h1 h2 hfd
  have hdrop : ∀ w2 L2, KIn w k K L i a c w2 (K.fds i (cutT (K.proc i).fds c.a)) L2 noResV → L2.db = L.db → Calls Tryz.prog 59 #[.pointer (some ⟨k, 0, none⟩), .pointer (some ⟨L.db j, 0, none⟩)] w2 fun e w3 => e = .returned (.tuple #[]) ∧ KErrPost w k K L i a c (closeQ K i c.a) (.returned (.int .i64 0)) w3 := fun w2 L2 I2 hdb => by
    have hok2 : KOk (K.fds i (cutT (K.proc i).fds c.a)) N := hok.fdsU h1 h2 (fun fd x y e => by
      unfold cutT at e
      rcases set_some e with e | e
      · by_cases e2 : inB c.a = true
        · rw [if_pos e2] at e; cases e
        · rw [if_neg e2] at e; exact hok.fds i _ x y h1 h2 e
      · exact hok.fds i fd x y h1 h2 e)
    have := kdrop_any w2 k (K.fds i (cutT (K.proc i).fds c.a)) L2 I2.F N hok2 (by omega) j hj.1 hj.2
    rw [hdb] at this
    refine this.mono fun e w3 hd => ?_
    obtain ⟨e1, hm⟩ := hd
    obtain ⟨L3, I3, _⟩ := I2.mut hm (fun _ e => e.elim) (fun _ e => e.elim)
    refine ⟨e1, ?_⟩
    unfold closeQ
    rw [hfd]
    exact ⟨rfl, _, _, I3, rfl⟩
  have Hdrop := hide hdrop
  have Hcut := hide hcut1
  clear h hok ha hao I0 Id hcut0 hcut1 hSA hno hfd hdrop
  unfold ptrAt at *
  go_enter Tryz.func36, Tryz.ntmps36
  go_upto_region 4 with (fail)
  refine region_tree (fun w' => AskAt w' a k (L.qb i) c noResV ∧ w'.cell? ⟨L.qb i, 6, none⟩ = some (.pointer (some ⟨L.tb i, 0, none⟩)) ∧ w'.cell? ⟨L.qb i, 4, none⟩ = some (.int .i64 (K.proc i).dir) ∧ w'.cell? ⟨L.qb i, 5, none⟩ = some (.int .i64 (K.proc i).mask) ∧ w'.cell? ⟨k, 0, none⟩ = some (.pointer (some ⟨L.f, 0, none⟩))) [0, 1, 2, 3, 4, 5, 6, 7, 8, 9, 10, 11] 5 17 (by kernel_rfl) (by kernel_rfl) (fun _ _ d _ _ h => by cases d <;> exact h) s1 ?_
  simp only [List.map_cons, List.map_nil, List.getD_cons_zero, List.getD_cons_succ, List.drop_succ_cons, List.drop_zero]
  go_big_quiet_step (fail)
  refine wpQuiet_val (.pointer (some ⟨a, 0, none⟩)) rfl (fun w' hS => by (go_simp)) ?_
  simp only [Act.put, List.setIfInBounds_toArray, List.set_cons_succ, List.set_cons_zero]
  refine wpQuiet_val (.pointer (some ⟨a, 1, none⟩)) rfl (fun w' hS => by (go_simp)) ?_
  simp only [Act.put, List.setIfInBounds_toArray, List.set_cons_succ, List.set_cons_zero]
  refine wpQuiet_val (.pointer (some ⟨L.qb i, 0, none⟩)) rfl (fun w' hS => by
      have e : w'.cell? ⟨a, 1, none⟩ = some (.pointer (some ⟨L.qb i, 0, none⟩)) := by rw [blk_cell hS.1]; rfl
      go_simp) ?_
  simp only [Act.put, List.setIfInBounds_toArray, List.set_cons_succ, List.set_cons_zero]
  refine wpQuiet_val (.pointer (some ⟨L.qb i, 0, none⟩)) rfl (fun w' hS => by (go_simp)) ?_
  simp only [Act.put, List.setIfInBounds_toArray, List.set_cons_succ, List.set_cons_zero]
  refine wpQuiet_val (.pointer (some ⟨L.qb i, 6, none⟩)) rfl (fun w' hS => by (go_simp)) ?_
  simp only [Act.put, List.setIfInBounds_toArray, List.set_cons_succ, List.set_cons_zero]
  refine wpQuiet_val (.pointer (some ⟨L.tb i, 0, none⟩)) rfl (fun w' hS => by
      have e : w'.cell? ⟨L.qb i, 6, none⟩ = some (.pointer (some ⟨L.tb i, 0, none⟩)) := hS.2.1
      go_simp) ?_
  simp only [Act.put, List.setIfInBounds_toArray, List.set_cons_succ, List.set_cons_zero]
  go_big_quiet_step (fail)
  refine wpQuiet_val (.pointer (some ⟨a, 0, none⟩)) rfl (fun w' hS => by (go_simp)) ?_
  simp only [Act.put, List.setIfInBounds_toArray, List.set_cons_succ, List.set_cons_zero]
  refine wpQuiet_val (.pointer (some ⟨a, 2, none⟩)) rfl (fun w' hS => by (go_simp)) ?_
  simp only [Act.put, List.setIfInBounds_toArray, List.set_cons_succ, List.set_cons_zero]
  refine wpQuiet_val (.pointer (some ⟨a, 3, none⟩)) rfl (fun w' hS => by (go_simp)) ?_
  simp only [Act.put, List.setIfInBounds_toArray, List.set_cons_succ, List.set_cons_zero]
  refine wpQuiet_val (.int .i64 c.a) rfl (fun w' hS => by
      have e : w'.cell? ⟨a, 3, none⟩ = some (.int .i64 c.a) := by rw [blk_cell hS.1]; rfl
      go_simp) ?_
  simp only [Act.put, List.setIfInBounds_toArray, List.set_cons_succ, List.set_cons_zero]
  refine wpQuiet_nil ?_
  refine tree_one' 12 (by kernel_rfl) (by decide) (by simp) rfl (fun Kc hK => ?_)
  simp only [List.getD_cons_zero, List.getD_cons_succ]
  go_wp2_with fail
  refine Hcut.out.mono ?_
  rintro e w2 ⟨rfl, L2, I2, hL2⟩
  have s2 := HSA.out _ _ _ I2 (by show (if i = i then _ else _ : ProcQ).dir = _; rw [if_pos rfl]) (by show (if i = i then _ else _ : ProcQ).mask = _; rw [if_pos rfl])
  have HI2 := hide (And.intro I2 hL2)
  refine hK _ _ s2 ?_
  clear hK Kc s1 I2 hL2
  refine tree_heads (f := 0) [13, 14, 15, 16] (by kernel_rfl) (fun _ _ d _ _ h => by cases d <;> exact h) s2 ?_
  simp only [List.map_cons, List.map_nil, List.getD_cons_zero, List.getD_cons_succ, List.drop_succ_cons, List.drop_zero]
  go_big_quiet_step (fail)
  refine wpQuiet_val (.pointer (some ⟨L.db j, 0, none⟩)) rfl (fun w' hS => by (go_simp)) ?_
  simp only [Act.put, List.setIfInBounds_toArray, List.set_cons_succ, List.set_cons_zero]
  refine wpQuiet_val (.int .i64 0) rfl (fun w' hS => by (go_simp)) ?_
  simp only [Act.put, List.setIfInBounds_toArray, List.set_cons_succ, List.set_cons_zero]
  go_big_quiet_step (fail)
  refine wpQuiet_nil ?_
  refine tree_end (by kernel_rfl) ?_
  try (simp only [List.map_cons, List.map_nil, List.getD_cons_zero, List.getD_cons_succ, List.drop_succ_cons, List.drop_zero])
  have x0 : w2.cell? ⟨a, 0, none⟩ = some (.pointer (some ⟨k, 0, none⟩)) := by rw [blk_cell s2.1]; rfl
  have hd := hide (Hdrop.out w2 L2 HI2.out.1 HI2.out.2)
  clear s2 Hdrop Hcut
  go_wp2_with fail
  refine hd.out.mono ?_
  rintro e w3 ⟨rfl, hp⟩
  have Hp := hide hp
  clear hp hd
  go_wp2_with fail
  go_ret
  exact Hp.out
set_option maxRecDepth 100000 in
set_option maxHeartbeats 1000000 in
theorem aown_mark0 (w : World) (k : Nat) (K : KQ) (L : KLay) (h : KF w k K L) (N : Nat) (hok : KOk K N) (hN : N + 4 ≤ 1000000) (i : Nat) (h1 : 1 ≤ i) (h2 : i ≤ K.qn) (a : Nat) (c : SysQ) (ha : AskAt w a k (L.qb i) c noResV) (hao : L.o a = none) (hno : c.no = 24) (hfd : (K.proc i).fds.at c.a = none) :
    Calls Tryz.prog 36 #[ptrAt a] w (KErrPost w k K L i a c (markQ K i c.a (c.b != 0))) := by
  have I0 := KIn.start h ha hao
  have Id := I0.drew
  have s1 : (fun w' => AskAt w' a k (L.qb i) c noResV ∧ w'.cell? ⟨L.qb i, 6, none⟩ = some (.pointer (some ⟨L.tb i, 0, none⟩)) ∧ w'.cell? ⟨L.qb i, 4, none⟩ = some (.int .i64 (K.proc i).dir) ∧ w'.cell? ⟨L.qb i, 5, none⟩ = some (.int .i64 (K.proc i).mask) ∧ w'.cell? ⟨k, 0, none⟩ = some (.pointer (some ⟨L.f, 0, none⟩))) w.drew := ⟨Id.A, by rw [blk_cell (Id.hq h1 h2)]; rfl, by rw [blk_cell (Id.hq h1 h2)]; rfl, by rw [blk_cell (Id.hq h1 h2)]; rfl, by rw [blk_cell Id.F.hk]; rfl⟩
  have c2 : w.cell? ⟨a, 2, none⟩ = some (.int .i64 24) := by rw [blk_cell ha, ← hno]; rfl
  have hmark0 := mark_any w.drew (L.tb i) _ _ (Id.ht h1 h2) c.a (c.b != 0)
  have hmark1 : Calls Tryz.prog 79 #[.pointer (some ⟨L.tb i, 0, none⟩), .int .i64 c.a, .bool (c.b != 0)] w.drew fun e w2 => e = .returned (.int .i64 9) ∧ KErrPost w k K L i a c (markQ K i c.a (c.b != 0)) (.returned (.int .i64 9)) w2 := hmark0.mono (by
    intro e w2 hm
    unfold MarkPost at hm
    rw [tabS_at, hfd] at hm
    unfold markQ
    rw [hfd]
    obtain ⟨rfl, rfl⟩ := hm
    exact ⟨rfl, rfl, _, _, Id, rfl⟩)
  have Hmark := hide hmark1
  clear h hok ha hao I0 Id hmark0 hmark1 hno hfd
  unfold ptrAt at *
  go_enter Tryz.func36, Tryz.ntmps36
  go_upto_region 23 with (fail)
  refine region_tree (fun w' => AskAt w' a k (L.qb i) c noResV ∧ w'.cell? ⟨L.qb i, 6, none⟩ = some (.pointer (some ⟨L.tb i, 0, none⟩)) ∧ w'.cell? ⟨L.qb i, 4, none⟩ = some (.int .i64 (K.proc i).dir) ∧ w'.cell? ⟨L.qb i, 5, none⟩ = some (.int .i64 (K.proc i).mask) ∧ w'.cell? ⟨k, 0, none⟩ = some (.pointer (some ⟨L.f, 0, none⟩))) [0, 1, 2, 3, 4, 5, 6, 7, 8, 9, 10, 11, 12, 13, 14, 15, 16, 17] 0 18 (by kernel_rfl) (by kernel_rfl) (fun _ _ d _ _ h => by cases d <;> exact h) s1 ?_
  simp only [List.map_cons, List.map_nil, List.getD_cons_zero, List.getD_cons_succ, List.drop_succ_cons, List.drop_zero]
  go_big_quiet_step (fail)
  refine wpQuiet_val (.pointer (some ⟨a, 0, none⟩)) rfl (fun w' hS => by (go_simp)) ?_
  simp only [Act.put, List.setIfInBounds_toArray, List.set_cons_succ, List.set_cons_zero]
  refine wpQuiet_val (.pointer (some ⟨a, 1, none⟩)) rfl (fun w' hS => by (go_simp)) ?_
  simp only [Act.put, List.setIfInBounds_toArray, List.set_cons_succ, List.set_cons_zero]
  refine wpQuiet_val (.pointer (some ⟨L.qb i, 0, none⟩)) rfl (fun w' hS => by
      have e : w'.cell? ⟨a, 1, none⟩ = some (.pointer (some ⟨L.qb i, 0, none⟩)) := by rw [blk_cell hS.1]; rfl
      go_simp) ?_
  simp only [Act.put, List.setIfInBounds_toArray, List.set_cons_succ, List.set_cons_zero]
  refine wpQuiet_val (.pointer (some ⟨L.qb i, 0, none⟩)) rfl (fun w' hS => by (go_simp)) ?_
  simp only [Act.put, List.setIfInBounds_toArray, List.set_cons_succ, List.set_cons_zero]
  refine wpQuiet_val (.pointer (some ⟨L.qb i, 6, none⟩)) rfl (fun w' hS => by (go_simp)) ?_
  simp only [Act.put, List.setIfInBounds_toArray, List.set_cons_succ, List.set_cons_zero]
  refine wpQuiet_val (.pointer (some ⟨L.tb i, 0, none⟩)) rfl (fun w' hS => by
      have e : w'.cell? ⟨L.qb i, 6, none⟩ = some (.pointer (some ⟨L.tb i, 0, none⟩)) := hS.2.1
      go_simp) ?_
  simp only [Act.put, List.setIfInBounds_toArray, List.set_cons_succ, List.set_cons_zero]
  go_big_quiet_step (fail)
  refine wpQuiet_val (.pointer (some ⟨a, 0, none⟩)) rfl (fun w' hS => by (go_simp)) ?_
  simp only [Act.put, List.setIfInBounds_toArray, List.set_cons_succ, List.set_cons_zero]
  refine wpQuiet_val (.pointer (some ⟨a, 2, none⟩)) rfl (fun w' hS => by (go_simp)) ?_
  simp only [Act.put, List.setIfInBounds_toArray, List.set_cons_succ, List.set_cons_zero]
  refine wpQuiet_val (.pointer (some ⟨a, 3, none⟩)) rfl (fun w' hS => by (go_simp)) ?_
  simp only [Act.put, List.setIfInBounds_toArray, List.set_cons_succ, List.set_cons_zero]
  refine wpQuiet_val (.int .i64 c.a) rfl (fun w' hS => by
      have e : w'.cell? ⟨a, 3, none⟩ = some (.int .i64 c.a) := by rw [blk_cell hS.1]; rfl
      go_simp) ?_
  simp only [Act.put, List.setIfInBounds_toArray, List.set_cons_succ, List.set_cons_zero]
  go_big_quiet_step (fail)
  refine wpQuiet_val (.pointer (some ⟨a, 0, none⟩)) rfl (fun w' hS => by (go_simp)) ?_
  simp only [Act.put, List.setIfInBounds_toArray, List.set_cons_succ, List.set_cons_zero]
  refine wpQuiet_val (.pointer (some ⟨a, 2, none⟩)) rfl (fun w' hS => by (go_simp)) ?_
  simp only [Act.put, List.setIfInBounds_toArray, List.set_cons_succ, List.set_cons_zero]
  refine wpQuiet_val (.pointer (some ⟨a, 4, none⟩)) rfl (fun w' hS => by (go_simp)) ?_
  simp only [Act.put, List.setIfInBounds_toArray, List.set_cons_succ, List.set_cons_zero]
  refine wpQuiet_val (.int .i64 c.b) rfl (fun w' hS => by
      have e : w'.cell? ⟨a, 4, none⟩ = some (.int .i64 c.b) := by rw [blk_cell hS.1]; rfl
      go_simp) ?_
  simp only [Act.put, List.setIfInBounds_toArray, List.set_cons_succ, List.set_cons_zero]
  refine wpQuiet_val (.bool (c.b != 0)) rfl (fun w' hS => by (go_simp)) ?_
  simp only [Act.put, List.setIfInBounds_toArray, List.set_cons_succ, List.set_cons_zero]
  refine wpQuiet_nil ?_
  refine tree_end (by kernel_rfl) ?_
  try (simp only [List.map_cons, List.map_nil, List.getD_cons_zero, List.getD_cons_succ, List.drop_succ_cons, List.drop_zero])
  go_wp2_with fail
  refine Hmark.out.mono ?_
  rintro e w2 ⟨rfl, hp⟩
  have Hp := hide hp
  clear hp Hmark s1
  go_wp2_with fail
  go_ret
  exact Hp.out
set_option maxRecDepth 100000 in
set_option maxHeartbeats 1000000 in
theorem aown_mark1 (w : World) (k : Nat) (K : KQ) (L : KLay) (h : KF w k K L) (N : Nat) (hok : KOk K N) (hN : N + 4 ≤ 1000000) (i : Nat) (h1 : 1 ≤ i) (h2 : i ≤ K.qn) (a : Nat) (c : SysQ) (ha : AskAt w a k (L.qb i) c noResV) (hao : L.o a = none) (hno : c.no = 24) (j : Nat) (x : Bool) (hfd : (K.proc i).fds.at c.a = some (j, x)) :
    Calls Tryz.prog 36 #[ptrAt a] w (KErrPost w k K L i a c (markQ K i c.a (c.b != 0))) := by
  have I0 := KIn.start h ha hao
  have Id := I0.drew
  have s1 : (fun w' => AskAt w' a k (L.qb i) c noResV ∧ w'.cell? ⟨L.qb i, 6, none⟩ = some (.pointer (some ⟨L.tb i, 0, none⟩)) ∧ w'.cell? ⟨L.qb i, 4, none⟩ = some (.int .i64 (K.proc i).dir) ∧ w'.cell? ⟨L.qb i, 5, none⟩ = some (.int .i64 (K.proc i).mask) ∧ w'.cell? ⟨k, 0, none⟩ = some (.pointer (some ⟨L.f, 0, none⟩))) w.drew := ⟨Id.A, by rw [blk_cell (Id.hq h1 h2)]; rfl, by rw [blk_cell (Id.hq h1 h2)]; rfl, by rw [blk_cell (Id.hq h1 h2)]; rfl, by rw [blk_cell Id.F.hk]; rfl⟩
  have c2 : w.cell? ⟨a, 2, none⟩ = some (.int .i64 24) := by rw [blk_cell ha, ← hno]; rfl
  have hmark0 := mark_any w.drew (L.tb i) _ _ (Id.ht h1 h2) c.a (c.b != 0)
  have hmark1 : Calls Tryz.prog 79 #[.pointer (some ⟨L.tb i, 0, none⟩), .int .i64 c.a, .bool (c.b != 0)] w.drew fun e w2 => e = .returned (.int .i64 0) ∧ KErrPost w k K L i a c (markQ K i c.a (c.b != 0)) (.returned (.int .i64 0)) w2 := hmark0.mono (by
    intro e w2 hm
    unfold MarkPost at hm
    rw [tabS_at, hfd] at hm
    unfold markQ
    rw [hfd]
    obtain ⟨rfl, hA, hf⟩ := hm
    rw [← tabS_set, ← Id.tb h1 h2] at hA
    exact ⟨rfl, rfl, _, _, Id.tab h1 h2 hf hA, rfl⟩)
  have Hmark := hide hmark1
  clear h hok ha hao I0 Id hmark0 hmark1 hno hfd
  unfold ptrAt at *
  go_enter Tryz.func36, Tryz.ntmps36
  go_upto_region 23 with (fail)
  refine region_tree (fun w' => AskAt w' a k (L.qb i) c noResV ∧ w'.cell? ⟨L.qb i, 6, none⟩ = some (.pointer (some ⟨L.tb i, 0, none⟩)) ∧ w'.cell? ⟨L.qb i, 4, none⟩ = some (.int .i64 (K.proc i).dir) ∧ w'.cell? ⟨L.qb i, 5, none⟩ = some (.int .i64 (K.proc i).mask) ∧ w'.cell? ⟨k, 0, none⟩ = some (.pointer (some ⟨L.f, 0, none⟩))) [0, 1, 2, 3, 4, 5, 6, 7, 8, 9, 10, 11, 12, 13, 14, 15, 16, 17] 0 18 (by kernel_rfl) (by kernel_rfl) (fun _ _ d _ _ h => by cases d <;> exact h) s1 ?_
  simp only [List.map_cons, List.map_nil, List.getD_cons_zero, List.getD_cons_succ, List.drop_succ_cons, List.drop_zero]
  go_big_quiet_step (fail)
  refine wpQuiet_val (.pointer (some ⟨a, 0, none⟩)) rfl (fun w' hS => by (go_simp)) ?_
  simp only [Act.put, List.setIfInBounds_toArray, List.set_cons_succ, List.set_cons_zero]
  refine wpQuiet_val (.pointer (some ⟨a, 1, none⟩)) rfl (fun w' hS => by (go_simp)) ?_
  simp only [Act.put, List.setIfInBounds_toArray, List.set_cons_succ, List.set_cons_zero]
  refine wpQuiet_val (.pointer (some ⟨L.qb i, 0, none⟩)) rfl (fun w' hS => by
      have e : w'.cell? ⟨a, 1, none⟩ = some (.pointer (some ⟨L.qb i, 0, none⟩)) := by rw [blk_cell hS.1]; rfl
      go_simp) ?_
  simp only [Act.put, List.setIfInBounds_toArray, List.set_cons_succ, List.set_cons_zero]
  refine wpQuiet_val (.pointer (some ⟨L.qb i, 0, none⟩)) rfl (fun w' hS => by (go_simp)) ?_
  simp only [Act.put, List.setIfInBounds_toArray, List.set_cons_succ, List.set_cons_zero]
  refine wpQuiet_val (.pointer (some ⟨L.qb i, 6, none⟩)) rfl (fun w' hS => by (go_simp)) ?_
  simp only [Act.put, List.setIfInBounds_toArray, List.set_cons_succ, List.set_cons_zero]
  refine wpQuiet_val (.pointer (some ⟨L.tb i, 0, none⟩)) rfl (fun w' hS => by
      have e : w'.cell? ⟨L.qb i, 6, none⟩ = some (.pointer (some ⟨L.tb i, 0, none⟩)) := hS.2.1
      go_simp) ?_
  simp only [Act.put, List.setIfInBounds_toArray, List.set_cons_succ, List.set_cons_zero]
  go_big_quiet_step (fail)
  refine wpQuiet_val (.pointer (some ⟨a, 0, none⟩)) rfl (fun w' hS => by (go_simp)) ?_
  simp only [Act.put, List.setIfInBounds_toArray, List.set_cons_succ, List.set_cons_zero]
  refine wpQuiet_val (.pointer (some ⟨a, 2, none⟩)) rfl (fun w' hS => by (go_simp)) ?_
  simp only [Act.put, List.setIfInBounds_toArray, List.set_cons_succ, List.set_cons_zero]
  refine wpQuiet_val (.pointer (some ⟨a, 3, none⟩)) rfl (fun w' hS => by (go_simp)) ?_
  simp only [Act.put, List.setIfInBounds_toArray, List.set_cons_succ, List.set_cons_zero]
  refine wpQuiet_val (.int .i64 c.a) rfl (fun w' hS => by
      have e : w'.cell? ⟨a, 3, none⟩ = some (.int .i64 c.a) := by rw [blk_cell hS.1]; rfl
      go_simp) ?_
  simp only [Act.put, List.setIfInBounds_toArray, List.set_cons_succ, List.set_cons_zero]
  go_big_quiet_step (fail)
  refine wpQuiet_val (.pointer (some ⟨a, 0, none⟩)) rfl (fun w' hS => by (go_simp)) ?_
  simp only [Act.put, List.setIfInBounds_toArray, List.set_cons_succ, List.set_cons_zero]
  refine wpQuiet_val (.pointer (some ⟨a, 2, none⟩)) rfl (fun w' hS => by (go_simp)) ?_
  simp only [Act.put, List.setIfInBounds_toArray, List.set_cons_succ, List.set_cons_zero]
  refine wpQuiet_val (.pointer (some ⟨a, 4, none⟩)) rfl (fun w' hS => by (go_simp)) ?_
  simp only [Act.put, List.setIfInBounds_toArray, List.set_cons_succ, List.set_cons_zero]
  refine wpQuiet_val (.int .i64 c.b) rfl (fun w' hS => by
      have e : w'.cell? ⟨a, 4, none⟩ = some (.int .i64 c.b) := by rw [blk_cell hS.1]; rfl
      go_simp) ?_
  simp only [Act.put, List.setIfInBounds_toArray, List.set_cons_succ, List.set_cons_zero]
  refine wpQuiet_val (.bool (c.b != 0)) rfl (fun w' hS => by (go_simp)) ?_
  simp only [Act.put, List.setIfInBounds_toArray, List.set_cons_succ, List.set_cons_zero]
  refine wpQuiet_nil ?_
  refine tree_end (by kernel_rfl) ?_
  try (simp only [List.map_cons, List.map_nil, List.getD_cons_zero, List.getD_cons_succ, List.drop_succ_cons, List.drop_zero])
  go_wp2_with fail
  refine Hmark.out.mono ?_
  rintro e w2 ⟨rfl, hp⟩
  have Hp := hide hp
  clear hp Hmark s1
  go_wp2_with fail
  go_ret
  exact Hp.out
set_option maxRecDepth 100000 in
set_option maxHeartbeats 1000000 in
theorem aown_path (w : World) (k : Nat) (K : KQ) (L : KLay) (h : KF w k K L) (N : Nat) (hok : KOk K N) (hN : N + 4 ≤ 1000000) (i : Nat) (h1 : 1 ≤ i) (h2 : i ≤ K.qn) (a : Nat) (c : SysQ) (ha : AskAt w a k (L.qb i) c noResV) (hao : L.o a = none) (hno : c.no = 25)  :
    Calls Tryz.prog 36 #[ptrAt a] w (KErrPost w k K L i a c (pathQ K i)) := by
  have I0 := KIn.start h ha hao
  have Id := I0.drew
  have s1 : (fun w' => AskAt w' a k (L.qb i) c noResV ∧ w'.cell? ⟨L.qb i, 6, none⟩ = some (.pointer (some ⟨L.tb i, 0, none⟩)) ∧ w'.cell? ⟨L.qb i, 4, none⟩ = some (.int .i64 (K.proc i).dir) ∧ w'.cell? ⟨L.qb i, 5, none⟩ = some (.int .i64 (K.proc i).mask) ∧ w'.cell? ⟨k, 0, none⟩ = some (.pointer (some ⟨L.f, 0, none⟩))) w.drew := ⟨Id.A, by rw [blk_cell (Id.hq h1 h2)]; rfl, by rw [blk_cell (Id.hq h1 h2)]; rfl, by rw [blk_cell (Id.hq h1 h2)]; rfl, by rw [blk_cell Id.F.hk]; rfl⟩
  have c2 : w.cell? ⟨a, 2, none⟩ = some (.int .i64 25) := by rw [blk_cell ha, ← hno]; rfl
  have hpath : Calls Tryz.prog 80 #[.pointer (some ⟨L.f, 0, none⟩), .int .i64 (K.proc i).dir] w.drew fun e w2 => e = .returned (.tuple #[.string ⟨(pathR K.σ (K.proc i).dir).toArray⟩, .int .i64 (pathE K.σ (K.proc i).dir)]) ∧ Fr (fun _ => False) w.drew w2 := by
    obtain ⟨p, hA⟩ := Id.F.files
    exact Path_any w.drew L.f K.σ _ p hA hok.good.inv (K.proc i).dir (by have := (hok.proc i h1 h2).dir; omega)
  have hSQ : ∀ w', Fr (fun _ => False) w.drew w' → AskAt w' a k (L.qb i) c noResV ∧ w'.cell? ⟨L.qb i, 6, none⟩ = some (.pointer (some ⟨L.tb i, 0, none⟩)) ∧ w'.cell? ⟨L.qb i, 4, none⟩ = some (.int .i64 (K.proc i).dir) ∧ w'.cell? ⟨L.qb i, 5, none⟩ = some (.int .i64 (K.proc i).mask) ∧ w'.cell? ⟨k, 0, none⟩ = some (.pointer (some ⟨L.f, 0, none⟩)) := fun w' hf => by
    have hI := Id.quiet hf
    exact ⟨hI.A, by rw [blk_cell (hI.hq h1 h2)]; rfl, by rw [blk_cell (hI.hq h1 h2)]; rfl, by rw [blk_cell (hI.hq h1 h2)]; rfl, by rw [blk_cell hI.F.hk]; rfl⟩
  have hfin : ∀ w2, Fr (fun _ => False) w.drew w2 → KErrPost w k K L i a c (pathQ K i) (.returned (.int .i64 (pathE K.σ (K.proc i).dir))) (w2.setCell ⟨a, 10, none⟩ (.string ⟨(pathR K.σ (K.proc i).dir).toArray⟩)) := fun w2 hf => ⟨rfl, L, _, (Id.quiet hf).s _, rfl⟩
  obtain ⟨ps, hps⟩ : ∃ ps : ByteArray, ps = ⟨(pathR K.σ (K.proc i).dir).toArray⟩ := ⟨_, rfl⟩
  rw [← hps] at hpath
  simp only [← hps] at hfin
  have Hpath := hide hpath
  have HSQ := hide hSQ
  have Hfin := hide hfin
  generalize pathE K.σ (K.proc i).dir = pe at *
  clear h hok ha hao I0 Id hpath hSQ hfin hno hps
  unfold ptrAt at *
  go_enter Tryz.func36, Tryz.ntmps36
  go_upto_region 25 with (fail)
  refine region_tree (fun w' => AskAt w' a k (L.qb i) c noResV ∧ w'.cell? ⟨L.qb i, 6, none⟩ = some (.pointer (some ⟨L.tb i, 0, none⟩)) ∧ w'.cell? ⟨L.qb i, 4, none⟩ = some (.int .i64 (K.proc i).dir) ∧ w'.cell? ⟨L.qb i, 5, none⟩ = some (.int .i64 (K.proc i).mask) ∧ w'.cell? ⟨k, 0, none⟩ = some (.pointer (some ⟨L.f, 0, none⟩))) [0, 1, 2, 3, 4, 5, 6, 7, 8, 9, 10, 11, 12, 13] 5 19 (by kernel_rfl) (by kernel_rfl) (fun _ _ d _ _ h => by cases d <;> exact h) s1 ?_
  simp only [List.map_cons, List.map_nil, List.getD_cons_zero, List.getD_cons_succ, List.drop_succ_cons, List.drop_zero]
  go_big_quiet_step (fail)
  refine wpQuiet_val (.pointer (some ⟨a, 0, none⟩)) rfl (fun w' hS => by (go_simp)) ?_
  simp only [Act.put, List.setIfInBounds_toArray, List.set_cons_succ, List.set_cons_zero]
  refine wpQuiet_val (.pointer (some ⟨a, 0, none⟩)) rfl (fun w' hS => by (go_simp)) ?_
  simp only [Act.put, List.setIfInBounds_toArray, List.set_cons_succ, List.set_cons_zero]
  refine wpQuiet_val (.pointer (some ⟨k, 0, none⟩)) rfl (fun w' hS => by
      have e : w'.cell? ⟨a, 0, none⟩ = some (.pointer (some ⟨k, 0, none⟩)) := by rw [blk_cell hS.1]; rfl
      go_simp) ?_
  simp only [Act.put, List.setIfInBounds_toArray, List.set_cons_succ, List.set_cons_zero]
  refine wpQuiet_val (.pointer (some ⟨k, 0, none⟩)) rfl (fun w' hS => by (go_simp)) ?_
  simp only [Act.put, List.setIfInBounds_toArray, List.set_cons_succ, List.set_cons_zero]
  refine wpQuiet_val (.pointer (some ⟨k, 0, none⟩)) rfl (fun w' hS => by (go_simp)) ?_
  simp only [Act.put, List.setIfInBounds_toArray, List.set_cons_succ, List.set_cons_zero]
  refine wpQuiet_val (.pointer (some ⟨L.f, 0, none⟩)) rfl (fun w' hS => by
      have e : w'.cell? ⟨k, 0, none⟩ = some (.pointer (some ⟨L.f, 0, none⟩)) := hS.2.2.2.2
      go_simp) ?_
  simp only [Act.put, List.setIfInBounds_toArray, List.set_cons_succ, List.set_cons_zero]
  go_big_quiet_step (fail)
  refine wpQuiet_val (.pointer (some ⟨a, 0, none⟩)) rfl (fun w' hS => by (go_simp)) ?_
  simp only [Act.put, List.setIfInBounds_toArray, List.set_cons_succ, List.set_cons_zero]
  refine wpQuiet_val (.pointer (some ⟨a, 1, none⟩)) rfl (fun w' hS => by (go_simp)) ?_
  simp only [Act.put, List.setIfInBounds_toArray, List.set_cons_succ, List.set_cons_zero]
  refine wpQuiet_val (.pointer (some ⟨L.qb i, 0, none⟩)) rfl (fun w' hS => by
      have e : w'.cell? ⟨a, 1, none⟩ = some (.pointer (some ⟨L.qb i, 0, none⟩)) := by rw [blk_cell hS.1]; rfl
      go_simp) ?_
  simp only [Act.put, List.setIfInBounds_toArray, List.set_cons_succ, List.set_cons_zero]
  refine wpQuiet_val (.pointer (some ⟨L.qb i, 0, none⟩)) rfl (fun w' hS => by (go_simp)) ?_
  simp only [Act.put, List.setIfInBounds_toArray, List.set_cons_succ, List.set_cons_zero]
  refine wpQuiet_val (.pointer (some ⟨L.qb i, 4, none⟩)) rfl (fun w' hS => by (go_simp)) ?_
  simp only [Act.put, List.setIfInBounds_toArray, List.set_cons_succ, List.set_cons_zero]
  refine wpQuiet_val (.int .i64 (K.proc i).dir) rfl (fun w' hS => by
      have e : w'.cell? ⟨L.qb i, 4, none⟩ = some (.int .i64 (K.proc i).dir) := hS.2.2.1
      go_simp) ?_
  simp only [Act.put, List.setIfInBounds_toArray, List.set_cons_succ, List.set_cons_zero]
  refine wpQuiet_nil ?_
  refine tree_one' 14 (by kernel_rfl) (by decide) (by simp) rfl (fun Kc hK => ?_)
  simp only [List.getD_cons_zero, List.getD_cons_succ]
  go_wp2_with fail
  refine Hpath.out.mono ?_
  rintro e w2 ⟨rfl, hf2⟩
  have s2 := HSQ.out w2 hf2
  have hl := hide (Hfin.out w2 hf2)
  refine hK _ _ s2 ?_
  clear hK Kc s1 hf2
  refine tree_heads (f := 0) [15, 16, 17, 18] (by kernel_rfl) (fun _ _ d _ _ h => by cases d <;> exact h) s2 ?_
  simp only [List.map_cons, List.map_nil, List.getD_cons_zero, List.getD_cons_succ, List.drop_succ_cons, List.drop_zero]
  go_big_quiet_step (fail)
  refine wpQuiet_val (.string ps) rfl (fun w' hS => by (go_simp)) ?_
  simp only [Act.put, List.setIfInBounds_toArray, List.set_cons_succ, List.set_cons_zero]
  refine wpQuiet_val (.int .i64 pe) rfl (fun w' hS => by (go_simp)) ?_
  simp only [Act.put, List.setIfInBounds_toArray, List.set_cons_succ, List.set_cons_zero]
  go_big_quiet_step (fail)
  refine wpQuiet_nil ?_
  refine tree_end (by kernel_rfl) ?_
  try (simp only [List.map_cons, List.map_nil, List.getD_cons_zero, List.getD_cons_succ, List.drop_succ_cons, List.drop_zero])
  have x10 : w2.cell? ⟨a, 10, none⟩ = some (.string ⟨#[]⟩) := by rw [blk_cell s2.1]; rfl
  have z10 : w2.frozen? ⟨a, 10, none⟩ = false := blk_frozen s2.1 10
  clear s2 Hpath HSQ Hfin
  go_wp2_with fail
  go_ret
  exact hl.out
set_option maxRecDepth 100000 in
set_option maxHeartbeats 1000000 in
theorem aown_umask (w : World) (k : Nat) (K : KQ) (L : KLay) (h : KF w k K L) (N : Nat) (hok : KOk K N) (hN : N + 4 ≤ 1000000) (i : Nat) (h1 : 1 ≤ i) (h2 : i ≤ K.qn) (a : Nat) (c : SysQ) (ha : AskAt w a k (L.qb i) c noResV) (hao : L.o a = none) (hno : c.no = 13)  :
    Calls Tryz.prog 36 #[ptrAt a] w (KErrPost w k K L i a c (maskQ K i c.a)) := by
  have I0 := KIn.start h ha hao
  have c2 : w.cell? ⟨a, 2, none⟩ = some (.int .i64 13) := by rw [blk_cell ha, ← hno]; rfl
  obtain ⟨wd, hwd⟩ : ∃ wd, wd = w.drew := ⟨_, rfl⟩
  have Id : KIn w k K L i a c wd K L noResV := by rw [hwd]; exact I0.drew
  have s1 : (fun w' => w'.cell? ⟨a, 1, none⟩ = some (.pointer (some ⟨L.qb i, 0, none⟩)) ∧ w'.cell? ⟨a, 3, none⟩ = some (.int .i64 c.a) ∧ w'.cell? ⟨L.qb i, 5, none⟩ = some (.int .i64 (K.proc i).mask)) wd := ⟨by rw [blk_cell Id.A]; rfl, by rw [blk_cell Id.A]; rfl, by rw [blk_cell (Id.hq h1 h2)]; rfl⟩
  have x8 : wd.cell? ⟨a, 8, none⟩ = some (.int .i64 0) := by rw [blk_cell Id.A]; rfl
  have z8 : wd.frozen? ⟨a, 8, none⟩ = false := blk_frozen Id.A 8
  obtain ⟨w2, hw2⟩ : ∃ w2, w2 = wd.setCell ⟨a, 8, none⟩ (.int .i64 (K.proc i).mask) := ⟨_, rfl⟩
  have I2 : KIn w k K L i a c w2 K L { noResV with n := (K.proc i).mask } := by rw [hw2]; exact Id.n _
  have hq2 := I2.hq h1 h2
  have s2 : (fun w' => w'.cell? ⟨a, 1, none⟩ = some (.pointer (some ⟨L.qb i, 0, none⟩)) ∧ w'.cell? ⟨a, 3, none⟩ = some (.int .i64 c.a) ∧ w'.cell? ⟨L.qb i, 5, none⟩ = some (.int .i64 (K.proc i).mask)) w2 := ⟨by rw [blk_cell I2.A]; rfl, by rw [blk_cell I2.A]; rfl, by rw [blk_cell hq2]; rfl⟩
  have x5 : w2.cell? ⟨L.qb i, 5, none⟩ = some (.int .i64 (K.proc i).mask) := by rw [blk_cell hq2]; rfl
  have z5 : w2.frozen? ⟨L.qb i, 5, none⟩ = false := blk_frozen hq2 5
  have I3 := I2.proc h1 h2 (q := { K.proc i with mask := modeN c.a }) (w2 := w2.setCell ⟨L.qb i, 5, none⟩ (.int .i64 (modeN c.a))) ((Fr.refl (fun b => b = L.qb i) w2).setCell (p := ⟨L.qb i, 5, none⟩) (.inl rfl) _) ((blk_set hq2 5 _).trans rfl) rfl rfl
  have Hfin := hide (show KErrPost w k K L i a c (maskQ K i c.a) (.returned (.int .i64 0)) (w2.setCell ⟨L.qb i, 5, none⟩ (.int .i64 (modeN c.a))) from ⟨rfl, L, _, I3, rfl⟩)
  have Hw2 := hide hw2
  have Hwd := hide hwd
  have hmo := modeN_eq c.a
  generalize (modeN c.a : Int) = mo at *
  clear h hok ha hao I0 Id I2 I3 hq2 hno hw2 hwd
  unfold ptrAt at *
  go_enter Tryz.func36, Tryz.ntmps36
  go_upto_region 19 with (fail)
  refine region_tree (fun w' => w'.cell? ⟨a, 1, none⟩ = some (.pointer (some ⟨L.qb i, 0, none⟩)) ∧ w'.cell? ⟨a, 3, none⟩ = some (.int .i64 c.a) ∧ w'.cell? ⟨L.qb i, 5, none⟩ = some (.int .i64 (K.proc i).mask)) [0, 1, 2, 3, 4, 5, 6, 7, 8, 9, 10, 11, 12, 13, 14, 15, 16, 17, 18, 19, 20] 1 22 (by kernel_rfl) (by kernel_rfl) (fun _ _ d _ _ h => by cases d <;> exact h) (by rw [← Hwd.out]; exact s1) ?_
  simp only [List.map_cons, List.map_nil, List.getD_cons_zero, List.getD_cons_succ, List.drop_succ_cons, List.drop_zero]
  rw [← Hwd.out]
  go_big_quiet_step (fail)
  go_big_quiet_step (fail)
  refine wpQuiet_val (.pointer (some ⟨a, 0, none⟩)) rfl (fun w' hS => by (go_simp)) ?_
  simp only [Act.put, List.setIfInBounds_toArray, List.set_cons_succ, List.set_cons_zero]
  refine wpQuiet_val (.pointer (some ⟨a, 1, none⟩)) rfl (fun w' hS => by (go_simp)) ?_
  simp only [Act.put, List.setIfInBounds_toArray, List.set_cons_succ, List.set_cons_zero]
  refine wpQuiet_val (.pointer (some ⟨L.qb i, 0, none⟩)) rfl (fun w' hS => by
      have e : w'.cell? ⟨a, 1, none⟩ = some (.pointer (some ⟨L.qb i, 0, none⟩)) := hS.1
      go_simp) ?_
  simp only [Act.put, List.setIfInBounds_toArray, List.set_cons_succ, List.set_cons_zero]
  go_big_quiet_step (fail)
  refine wpQuiet_val (.pointer (some ⟨a, 0, none⟩)) rfl (fun w' hS => by (go_simp)) ?_
  simp only [Act.put, List.setIfInBounds_toArray, List.set_cons_succ, List.set_cons_zero]
  refine wpQuiet_val (.pointer (some ⟨a, 1, none⟩)) rfl (fun w' hS => by (go_simp)) ?_
  simp only [Act.put, List.setIfInBounds_toArray, List.set_cons_succ, List.set_cons_zero]
  refine wpQuiet_val (.pointer (some ⟨L.qb i, 0, none⟩)) rfl (fun w' hS => by
      have e : w'.cell? ⟨a, 1, none⟩ = some (.pointer (some ⟨L.qb i, 0, none⟩)) := hS.1
      go_simp) ?_
  simp only [Act.put, List.setIfInBounds_toArray, List.set_cons_succ, List.set_cons_zero]
  refine wpQuiet_val (.pointer (some ⟨L.qb i, 0, none⟩)) rfl (fun w' hS => by (go_simp)) ?_
  simp only [Act.put, List.setIfInBounds_toArray, List.set_cons_succ, List.set_cons_zero]
  refine wpQuiet_val (.pointer (some ⟨L.qb i, 5, none⟩)) rfl (fun w' hS => by (go_simp)) ?_
  simp only [Act.put, List.setIfInBounds_toArray, List.set_cons_succ, List.set_cons_zero]
  refine wpQuiet_val (.int .i64 (K.proc i).mask) rfl (fun w' hS => by
      have e : w'.cell? ⟨L.qb i, 5, none⟩ = some (.int .i64 (K.proc i).mask) := hS.2.2
      go_simp) ?_
  simp only [Act.put, List.setIfInBounds_toArray, List.set_cons_succ, List.set_cons_zero]
  go_big_quiet_step (fail)
  refine wpQuiet_val (.pointer (some ⟨a, 0, none⟩)) rfl (fun w' hS => by (go_simp)) ?_
  simp only [Act.put, List.setIfInBounds_toArray, List.set_cons_succ, List.set_cons_zero]
  refine wpQuiet_val (.pointer (some ⟨a, 2, none⟩)) rfl (fun w' hS => by (go_simp)) ?_
  simp only [Act.put, List.setIfInBounds_toArray, List.set_cons_succ, List.set_cons_zero]
  refine wpQuiet_val (.pointer (some ⟨a, 3, none⟩)) rfl (fun w' hS => by (go_simp)) ?_
  simp only [Act.put, List.setIfInBounds_toArray, List.set_cons_succ, List.set_cons_zero]
  refine wpQuiet_val (.int .i64 c.a) rfl (fun w' hS => by
      have e : w'.cell? ⟨a, 3, none⟩ = some (.int .i64 c.a) := hS.2.1
      go_simp) ?_
  simp only [Act.put, List.setIfInBounds_toArray, List.set_cons_succ, List.set_cons_zero]
  refine wpQuiet_val (.int .i64 mo) rfl (fun w' hS => by (go_simp)) ?_
  simp only [Act.put, List.setIfInBounds_toArray, List.set_cons_succ, List.set_cons_zero]
  refine wpQuiet_val (.pointer (some ⟨a, 0, none⟩)) rfl (fun w' hS => by (go_simp)) ?_
  simp only [Act.put, List.setIfInBounds_toArray, List.set_cons_succ, List.set_cons_zero]
  refine wpQuiet_val (.pointer (some ⟨a, 8, none⟩)) rfl (fun w' hS => by (go_simp)) ?_
  simp only [Act.put, List.setIfInBounds_toArray, List.set_cons_succ, List.set_cons_zero]
  refine wpQuiet_val (.pointer (some ⟨a, 8, none⟩)) rfl (fun w' hS => by (go_simp)) ?_
  simp only [Act.put, List.setIfInBounds_toArray, List.set_cons_succ, List.set_cons_zero]
  refine wpQuiet_nil ?_
  refine tree_one' 21 (by kernel_rfl) (by decide) (by simp) rfl (fun Kc hK => ?_)
  simp only [List.getD_cons_zero, List.getD_cons_succ]
  go_wp2_with fail
  rw [← Hw2.out]
  refine hK _ _ s2 ?_
  clear hK Kc
  refine tree_end (by kernel_rfl) ?_
  try (simp only [List.map_cons, List.map_nil, List.getD_cons_zero, List.getD_cons_succ, List.drop_succ_cons, List.drop_zero])
  go_wp2_with fail
  go_ret
  exact Hfin.out
set_option maxRecDepth 100000 in
set_option maxHeartbeats 1000000 in
theorem aown_text0 (w : World) (k : Nat) (K : KQ) (L : KLay) (h : KF w k K L) (N : Nat) (hok : KOk K N) (hN : N + 4 ≤ 1000000) (i : Nat) (h1 : 1 ≤ i) (h2 : i ≤ K.qn) (a : Nat) (c : SysQ) (ha : AskAt w a k (L.qb i) c noResV) (hao : L.o a = none) (hno : c.no = 28) (hu : 32 - used (K.proc i).fds 32 = 0) :
    Calls Tryz.prog 36 #[ptrAt a] w (KErrPost w k K L i a c (textQ K i c.s)) := by
  have I0 := KIn.start h ha hao
  have hfree := free_any w (L.tb i) _ _ (h.ht i h1 h2)
  unfold FreePost at hfree
  have c2 : w.cell? ⟨a, 2, none⟩ = some (.int .i64 28) := by rw [blk_cell ha, ← hno]; rfl
  have c1 : w.cell? ⟨a, 1, none⟩ = some (.pointer (some ⟨L.qb i, 0, none⟩)) := by rw [blk_cell ha]; rfl
  have c6 : w.cell? ⟨L.qb i, 6, none⟩ = some (.pointer (some ⟨L.tb i, 0, none⟩)) := by rw [blk_cell (h.hq i h1 h2)]; rfl
  have hfin : ∀ w1, Fr (fun _ => False) w w1 → KErrPost w k K L i a c (textQ K i c.s) (.returned (.int .i64 24)) w1 := fun w1 hf1 => by
    unfold textQ
    rw [if_pos hu]
    exact ⟨rfl, L, _, I0.quiet hf1, rfl⟩
  have Hfin := hide hfin
  have hfree := hide hfree
  have hfr0 : (((32 - used (tabS L (K.proc i).fds) 32 : Nat) : Int) == 0) = true := by rw [used_tabS, hu]; rfl
  generalize ((32 - used (tabS L (K.proc i).fds) 32 : Nat) : Int) = fr at *
  clear h hok ha hao I0 hfin hu hno
  unfold ptrAt at *
  go_enter Tryz.func36, Tryz.ntmps36
  go_wp2_with fail
  refine hfree.out.mono ?_
  rintro e w1 ⟨rfl, hf1⟩
  have hl := hide (Hfin.out w1 hf1)
  clear hf1 Hfin hfree
  go_wp2_with fail
  go_ret
  exact hl.out
set_option maxRecDepth 100000 in
set_option maxHeartbeats 1000000 in
theorem aown_text1 (w : World) (k : Nat) (K : KQ) (L : KLay) (h : KF w k K L) (N : Nat) (hok : KOk K N) (hN : N + 4 ≤ 1000000) (i : Nat) (h1 : 1 ≤ i) (h2 : i ≤ K.qn) (a : Nat) (c : SysQ) (ha : AskAt w a k (L.qb i) c noResV) (hao : L.o a = none) (hno : c.no = 28) (hu : ¬ 32 - used (K.proc i).fds 32 = 0) :
    Calls Tryz.prog 36 #[ptrAt a] w (KErrPost w k K L i a c (textQ K i c.s)) := by
  have I0 := KIn.start h ha hao
  have hfree := free_any w (L.tb i) _ _ (h.ht i h1 h2)
  unfold FreePost at hfree
  have c2 : w.cell? ⟨a, 2, none⟩ = some (.int .i64 28) := by rw [blk_cell ha, ← hno]; rfl
  have c1 : w.cell? ⟨a, 1, none⟩ = some (.pointer (some ⟨L.qb i, 0, none⟩)) := by rw [blk_cell ha]; rfl
  have c6 : w.cell? ⟨L.qb i, 6, none⟩ = some (.pointer (some ⟨L.tb i, 0, none⟩)) := by rw [blk_cell (h.hq i h1 h2)]; rfl
  have hfr0 : (((32 - used (tabS L (K.proc i).fds) 32 : Nat) : Int) == 0) = false := by rw [used_tabS]; simp; omega
  have HI0 := hide I0
  have Hok := hide hok
  have hfree := hide hfree
  have hq : textQ K i c.s = ({ noRes with n := (openQ K i (textD c.s)).1 }, (openQ K i (textD c.s)).2) := if_neg hu
  have Hq := hide hq
  generalize ((32 - used (tabS L (K.proc i).fds) 32 : Nat) : Int) = fr at *
  clear h hok ha hao I0 hq hu hno
  unfold ptrAt at *
  go_enter Tryz.func36, Tryz.ntmps36
  go_wp2_with fail
  refine hfree.out.mono ?_
  rintro e w1 ⟨rfl, hf1⟩
  have I1 := HI0.out.quiet hf1
  obtain ⟨ux, hux⟩ : ∃ x, x = w1.drew.heap.size := ⟨_, rfl⟩
  obtain ⟨w6, hw6⟩ : ∃ w', w' = w1.drew.alloc (.cells #[.int .i64 5, .int .i64 0, .int .i64 0, .int .i64 0, .int .i64 0, .pointer none, .string c.s, .int .i64 0] 72 (0, 0)) := ⟨_, rfl⟩
  have I6 : KIn w k K L i a c w6 K L noResV := by rw [hw6]; exact I1.drew.alloc _
  have uraw : w6.heap[ux]? = some (.cells (rawD L (textD c.s) 0 0) 72 (0, 0)) := by
    rw [hw6, hux]
    unfold rawD pipeV textD
    rw [if_neg (by simp)]
    exact blk_new _ _
  have hX : ∀ b, b = ux → w.heap.size ≤ b := fun b e => by rw [e, hux]; exact I1.drew.R.size
  have up := kopen_any w6 k K L I6.F i h1 h2 ux (textD c.s) uraw (I1.drew.F.new _ (by rw [hux]; exact Nat.le_refl _)) Hok.out.fds (by have := Hok.out.dn; omega)
  have ua := I1.drew.A
  have ub := I6.A
  obtain ⟨uf, K6, hoq⟩ : ∃ x y, openQ K i (textD c.s) = (x, y) := ⟨_, _, rfl⟩
  rw [hoq] at up
  have hlast : ∀ w7 L7, KIn w k K L i a c w7 K6 L7 noResV → KErrPost w k K L i a c (textQ K i c.s) (.returned (.int .i64 0)) (w7.setCell ⟨a, 8, none⟩ (.int .i64 uf)) := fun w7 L7 I7 => by
    rw [Hq.out, hoq]
    exact ⟨rfl, L7, _, I7.n uf, rfl⟩
  have Hlast := hide hlast
  have uz := hide hux
  have uw := hide hw6
  have uI := hide I6
  have uX := hide hX
  have uop := hide up
  clear hoq hlast hux uraw up hX I6 hw6 I1 hf1 HI0 Hok Hq hfree c1 c6 c2
  unfold ptrAt at *
  go_upto_region 34 with (fail)
  refine region_tree (fun w' => AskAt w' a k (L.qb i) c noResV) [0, 1, 2, 3, 4, 5, 6, 7, 8, 9, 10, 11, 12, 13, 14, 15] 2 18 (by kernel_rfl) (by kernel_rfl) (fun _ _ d _ _ h => by cases d <;> exact h) ua ?_
  simp only [List.map_cons, List.map_nil, List.getD_cons_zero, List.getD_cons_succ, List.drop_succ_cons, List.drop_zero]
  generalize w1.drew = wd at *
  go_big_quiet_step (fail)
  go_big_quiet_step (fail)
  refine wpQuiet_val (.pointer (some ⟨a, 0, none⟩)) rfl (fun w' hS => by (go_simp)) ?_
  simp only [Act.put, List.setIfInBounds_toArray, List.set_cons_succ, List.set_cons_zero]
  refine wpQuiet_val (.pointer (some ⟨a, 0, none⟩)) rfl (fun w' hS => by (go_simp)) ?_
  simp only [Act.put, List.setIfInBounds_toArray, List.set_cons_succ, List.set_cons_zero]
  refine wpQuiet_val (.pointer (some ⟨k, 0, none⟩)) rfl (fun w' hS => by
      have e : w'.cell? ⟨a, 0, none⟩ = some (.pointer (some ⟨k, 0, none⟩)) := by rw [blk_cell hS]; rfl
      go_simp) ?_
  simp only [Act.put, List.setIfInBounds_toArray, List.set_cons_succ, List.set_cons_zero]
  go_big_quiet_step (fail)
  refine wpQuiet_val (.pointer (some ⟨a, 0, none⟩)) rfl (fun w' hS => by (go_simp)) ?_
  simp only [Act.put, List.setIfInBounds_toArray, List.set_cons_succ, List.set_cons_zero]
  refine wpQuiet_val (.pointer (some ⟨a, 1, none⟩)) rfl (fun w' hS => by (go_simp)) ?_
  simp only [Act.put, List.setIfInBounds_toArray, List.set_cons_succ, List.set_cons_zero]
  refine wpQuiet_val (.pointer (some ⟨L.qb i, 0, none⟩)) rfl (fun w' hS => by
      have e : w'.cell? ⟨a, 1, none⟩ = some (.pointer (some ⟨L.qb i, 0, none⟩)) := by rw [blk_cell hS]; rfl
      go_simp) ?_
  simp only [Act.put, List.setIfInBounds_toArray, List.set_cons_succ, List.set_cons_zero]
  refine wpQuiet_val (.agg #[.int .i64 5, .int .i64 0, .int .i64 0, .int .i64 0]) rfl (fun w' hS => by (go_simp)) ?_
  simp only [Act.put, List.setIfInBounds_toArray, List.set_cons_succ, List.set_cons_zero]
  go_big_quiet_step (fail)
  refine wpQuiet_val (.pointer (some ⟨a, 0, none⟩)) rfl (fun w' hS => by (go_simp)) ?_
  simp only [Act.put, List.setIfInBounds_toArray, List.set_cons_succ, List.set_cons_zero]
  refine wpQuiet_val (.pointer (some ⟨a, 2, none⟩)) rfl (fun w' hS => by (go_simp)) ?_
  simp only [Act.put, List.setIfInBounds_toArray, List.set_cons_succ, List.set_cons_zero]
  refine wpQuiet_val (.pointer (some ⟨a, 5, none⟩)) rfl (fun w' hS => by (go_simp)) ?_
  simp only [Act.put, List.setIfInBounds_toArray, List.set_cons_succ, List.set_cons_zero]
  refine wpQuiet_val (.string c.s) rfl (fun w' hS => by
      have e : w'.cell? ⟨a, 5, none⟩ = some (.string c.s) := by rw [blk_cell hS]; rfl
      go_simp) ?_
  simp only [Act.put, List.setIfInBounds_toArray, List.set_cons_succ, List.set_cons_zero]
  refine wpQuiet_val (.agg #[.int .i64 5, .int .i64 0, .int .i64 0, .int .i64 0, .int .i64 0, .pointer none, .string c.s, .int .i64 0]) rfl (fun w' hS => by (go_simp)) ?_
  simp only [Act.put, List.setIfInBounds_toArray, List.set_cons_succ, List.set_cons_zero]
  refine wpQuiet_nil ?_
  refine tree_one' 16 (by kernel_rfl) (by decide) (by simp) rfl (fun Kc hK => ?_)
  simp only [List.getD_cons_zero, List.getD_cons_succ]
  go_wp2_with fail
  rw [← uw.out, ← uz.out]
  refine hK _ _ ub ?_
  clear hK Kc
  refine tree_one' 17 (by kernel_rfl) (by decide) (by simp) rfl (fun Kc hK => ?_)
  simp only [List.getD_cons_zero, List.getD_cons_succ]
  go_wp2_with fail
  refine uop.out.mono ?_
  rintro e w7 ⟨rfl, hm⟩
  obtain ⟨L7, I7, _⟩ := uI.out.mut hm uX.out uX.out
  have uc := I7.A
  have HI7 := hide I7
  refine hK _ _ uc ?_
  clear hK Kc hm I7
  refine tree_end (by kernel_rfl) ?_
  try (simp only [List.map_cons, List.map_nil, List.getD_cons_zero, List.getD_cons_succ, List.drop_succ_cons, List.drop_zero])
  have q8 : w7.cell? ⟨a, 8, none⟩ = some (.int .i64 0) := by rw [blk_cell uc]; rfl
  have z8 : w7.frozen? ⟨a, 8, none⟩ = false := blk_frozen uc _
  have hl := hide (Hlast.out w7 L7 HI7.out)
  clear uc HI7 Hlast uI uop uw uz uX
  go_wp2_with fail
  go_ret
  exact hl.out
theorem aown_close (w : World) (k : Nat) (K : KQ) (L : KLay) (h : KF w k K L) (N : Nat) (hok : KOk K N) (hN : N + 4 ≤ 1000000) (i : Nat) (h1 : 1 ≤ i) (h2 : i ≤ K.qn) (a : Nat) (c : SysQ) (ha : AskAt w a k (L.qb i) c noResV) (hao : L.o a = none) (hno : c.no = 4) :
    Calls Tryz.prog 36 #[ptrAt a] w (KErrPost w k K L i a c (closeQ K i c.a)) := by
  cases hfd : fdQ K i c.a with
  | none => exact aown_close0 w k K L h N hok hN i h1 h2 a c ha hao hno hfd
  | some j => exact aown_close1 w k K L h N hok hN i h1 h2 a c ha hao hno j hfd
theorem aown_mark (w : World) (k : Nat) (K : KQ) (L : KLay) (h : KF w k K L) (N : Nat) (hok : KOk K N) (hN : N + 4 ≤ 1000000) (i : Nat) (h1 : 1 ≤ i) (h2 : i ≤ K.qn) (a : Nat) (c : SysQ) (ha : AskAt w a k (L.qb i) c noResV) (hao : L.o a = none) (hno : c.no = 24) :
    Calls Tryz.prog 36 #[ptrAt a] w (KErrPost w k K L i a c (markQ K i c.a (c.b != 0))) := by
  cases hfd : (K.proc i).fds.at c.a with
  | none => exact aown_mark0 w k K L h N hok hN i h1 h2 a c ha hao hno hfd
  | some p => exact aown_mark1 w k K L h N hok hN i h1 h2 a c ha hao hno p.1 p.2 hfd
theorem aown_text (w : World) (k : Nat) (K : KQ) (L : KLay) (h : KF w k K L) (N : Nat) (hok : KOk K N) (hN : N + 4 ≤ 1000000) (i : Nat) (h1 : 1 ≤ i) (h2 : i ≤ K.qn) (a : Nat) (c : SysQ) (ha : AskAt w a k (L.qb i) c noResV) (hao : L.o a = none) (hno : c.no = 28) :
    Calls Tryz.prog 36 #[ptrAt a] w (KErrPost w k K L i a c (textQ K i c.s)) := by
  by_cases hu : 32 - used (K.proc i).fds 32 = 0
  · exact aown_text0 w k K L h N hok hN i h1 h2 a c ha hao hno hu
  · exact aown_text1 w k K L h N hok hN i h1 h2 a c ha hao hno hu
end Go.Proofs.YtffekmjoenppaaaGreatDoor
