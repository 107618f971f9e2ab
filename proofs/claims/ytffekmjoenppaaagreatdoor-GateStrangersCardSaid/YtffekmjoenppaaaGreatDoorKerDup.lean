/- gate.asked.dup. Conditions: the contracts' own premises. -/
import Derived.Test.YtffekmjoenppaaaGreatDoorKerDrop
import Derived.Test.YtffekmjoenppaaaGreatDoorKerDropC
namespace Go.Proofs.YtffekmjoenppaaaGreatDoor
open Go.RowKit

attribute [local go_sem] Oper.semAt_some

/-- One more descriptor names a description. -/
def moreQ (K : KQ) (j : Nat) : KQ := K.setD j { K.desc j with refs := (K.desc j).refs + 1 }
def nameQ (K : KQ) (i fd j : Nat) : KQ := K.fds i ((K.proc i).fds.set fd (some (j, false)))
/-- SysDup, SysDup2. -/
def dupQ (K : KQ) (i : Nat) (least : Bool) (fa fb : Int) : ResQ × KQ :=
  match fdQ K i fa with
  | none => (errR 9, K)
  | some j =>
    if least = true then
      if inB fb = false then (errR 22, K)
      else match firstFree (K.proc i).fds fb.toNat with
        | none => (errR 24, K)
        | some fd => ({ noRes with n := fd }, moreQ (nameQ K i fd j) j)
    else if inB fb = false then (errR 9, K)
    else if fa = fb then ({ noRes with n := fb }, K)
    else match (K.proc i).fds fb.toNat with
      | none => ({ noRes with n := fb }, nameQ (moreQ K j) i fb.toNat j)
      | some (o, _) => ({ noRes with n := fb }, dropQ (nameQ (moreQ K j) i fb.toNat j) o)
set_option maxRecDepth 100000 in
set_option maxHeartbeats 1000000 in
theorem adup_none (w : World) (k : Nat) (K : KQ) (L : KLay) (h : KF w k K L) (N : Nat) (_hok : KOk K N) (_hN : N + 1 ≤ 1000000) (i : Nat) (h1 : 1 ≤ i) (h2 : i ≤ K.qn) (a : Nat) (c : SysQ) (ha : AskAt w a k (L.qb i) c noResV) (hao : L.o a = none) (least : Bool) (hfd : fdQ K i c.a = none) :
    Calls Tryz.prog 26 #[ptrAt a, .bool least] w (KErrPost w k K L i a c (dupQ K i least c.a c.b)) := by
  have I0 := KIn.start h ha hao
  have hdesc := adesc_any w k K L h i h1 h2 a c noResV ha c.a
  rw [hfd] at hdesc
  have hfin : KErrPost w k K L i a c (dupQ K i least c.a c.b) (.returned (.int .i64 9)) (w.setCell ⟨a, 17, none⟩ (.int .i64 9)) := by
    unfold dupQ
    rw [hfd]
    exact ⟨rfl, L, _, I0.err 9, rfl⟩
  have Hfin := hide hfin
  have Hdesc := hide hdesc
  have c3 : w.cell? ⟨a, 3, none⟩ = some (.int .i64 c.a) := by rw [blk_cell ha]; rfl
  clear h _hok ha hao I0 hfin hfd hdesc
  unfold ptrAt
  go_enter Tryz.func26, Tryz.ntmps26
  go_wp2_with fail
  refine Hdesc.out.mono ?_
  rintro e w1 ⟨rfl, rfl⟩
  clear Hdesc
  unfold descV fdE at *
  go_wp2_with fail
  go_ret
  exact Hfin.out
set_option maxRecDepth 100000 in
set_option maxHeartbeats 1000000 in
theorem adup_least (w : World) (k : Nat) (K : KQ) (L : KLay) (h : KF w k K L) (N : Nat) (hok : KOk K N) (hN : N + 1 ≤ 1000000) (i : Nat) (h1 : 1 ≤ i) (h2 : i ≤ K.qn) (a : Nat) (c : SysQ) (ha : AskAt w a k (L.qb i) c noResV) (hao : L.o a = none) (j : Nat) (hfd : fdQ K i c.a = some j) :
    Calls Tryz.prog 26 #[ptrAt a, .bool true] w (KErrPost w k K L i a c (dupQ K i true c.a c.b)) := by
  have I0 := KIn.start h ha hao
  have hj := fdQ_ok hok.fds h1 h2 hfd
  have hdesc := adesc_any w k K L h i h1 h2 a c noResV ha c.a
  rw [hfd] at hdesc
  have Hdesc := hide hdesc
  have c3 : w.cell? ⟨a, 3, none⟩ = some (.int .i64 c.a) := by rw [blk_cell ha]; rfl
  obtain ⟨w1, hw1⟩ : ∃ w1, w1 = w.setCell ⟨a, 17, none⟩ (.int .i64 0) := ⟨_, rfl⟩
  have I1 : KIn w k K L i a c w1 K L noResV := by rw [hw1]; exact I0.err 0
  have hR := (hok.desc j hj.1 hj.2).refs
  have I1d := I1.drew
  have hput0 := putT_any w1.drew (L.tb i) _ _ (I1d.ht h1 h2) (L.db j) c.b
  obtain ⟨PutR, hPR⟩ : ∃ PutR : Int → Int → World → Prop, PutR = fun (pv pe : Int) (w2 : World) => (inB c.b = false ∧ pv = 0 ∧ pe = 22 ∧ w2 = w1.drew) ∨
    (inB c.b = true ∧ firstFree (K.proc i).fds c.b.toNat = none ∧ pv = 0 ∧ pe = 24 ∧ w2 = w1.drew) ∨
    (inB c.b = true ∧ ∃ fd : Nat, firstFree (K.proc i).fds c.b.toNat = some fd ∧ pv = (fd : Int) ∧ pe = 0 ∧ ∃ L2, KIn w k K L i a c w2 (nameQ K i fd j) L2 noResV ∧ L2.db j = L.db j) := ⟨_, rfl⟩
  have hput1 : Calls Tryz.prog 21 #[.pointer (some ⟨L.tb i, 0, none⟩), .pointer (some ⟨L.db j, 0, none⟩), .int .i64 c.b] w1.drew fun e w2 => ∃ pv pe : Int, e = .returned (.tuple #[.int .i64 pv, .int .i64 pe]) ∧ PutR pv pe w2 := hput0.mono (by
    rw [hPR]
    rintro e w2 (⟨e1, rfl, rfl⟩ | ⟨e1, e2, rfl, rfl⟩ | ⟨e1, fd, e0, e2, rfl, hA, hf⟩)
    · exact ⟨0, 22, rfl, .inl ⟨e1, rfl, rfl, rfl⟩⟩
    · rw [firstFree_tabS] at e2
      exact ⟨0, 24, rfl, .inr (.inl ⟨e1, e2, rfl, rfl, rfl⟩)⟩
    · rw [firstFree_tabS] at e2
      rw [← tabS_set, ← I1d.tb h1 h2] at hA
      exact ⟨fd, 0, rfl, .inr (.inr ⟨e1, fd, e2, rfl, rfl, _, I1d.tab h1 h2 hf hA, rfl⟩)⟩)
  have hSA : ∀ w' K' L', KIn w k K L i a c w' K' L' noResV → AskAt w' a k (L.qb i) c noResV ∧ w'.cell? ⟨L.qb i, 6, none⟩ = some (.pointer (some ⟨L.tb i, 0, none⟩)) := fun w' K' L' hI => ⟨hI.A, by rw [blk_cell (hI.hq h1 h2), ← hI.tb h1 h2]; rfl⟩
  have hS2 : ∀ pv pe w', PutR pv pe w' → AskAt w' a k (L.qb i) c noResV ∧ w'.cell? ⟨L.qb i, 6, none⟩ = some (.pointer (some ⟨L.tb i, 0, none⟩)) := fun pv pe w' hp => by
    rw [hPR] at hp
    rcases hp with ⟨_, _, _, rfl⟩ | ⟨_, _, _, _, rfl⟩ | ⟨_, fd, _, _, _, L2, hI, _⟩
    · exact hSA _ _ _ I1d
    · exact hSA _ _ _ I1d
    · exact hSA _ _ _ hI
  have s1 := hSA _ _ _ I1d
  obtain ⟨Rr, hRr⟩ : ∃ Rr, Rr = dupQ K i true c.a c.b := ⟨_, rfl⟩
  have hq : Rr = (if inB c.b = false then (errR 22, K) else match firstFree (K.proc i).fds c.b.toNat with
        | none => (errR 24, K)
        | some fd => ({ noRes with n := (fd : Int) }, moreQ (nameQ K i fd j) j)) := by rw [hRr]; unfold dupQ; rw [hfd]; rfl
  rw [← hRr]
  have Hq := hide hq
  have HPR := hide hPR
  have HS2 := hide hS2
  have hput := hide hput1
  have HI1d := hide I1d
  have Hw1 := hide hw1
  have HR := hide hR
  clear h ha hao I0 hfd hdesc I1 I1d hRr hq hw1 hok hR hput0 hput1 hPR hS2 hSA
  unfold ptrAt at *
  go_enter Tryz.func26, Tryz.ntmps26
  go_wp2_with fail
  refine Hdesc.out.mono ?_
  rintro e wx ⟨rfl, rfl⟩
  rw [show (Value.int .i64 (fdE (some j))) = .int .i64 0 from rfl, ← Hw1.out]
  clear Hdesc
  unfold descV ptrAt at *
  go_upto_region 5 with (fail)
  refine region_tree (fun w' => AskAt w' a k (L.qb i) c noResV ∧ w'.cell? ⟨L.qb i, 6, none⟩ = some (.pointer (some ⟨L.tb i, 0, none⟩))) [0, 1, 2, 3, 4, 5, 6, 7, 8, 9, 10, 11, 12] 5 18 (by kernel_rfl) (by kernel_rfl) (fun _ _ d _ _ h => by cases d <;> exact h) s1 ?_
  simp only [List.map_cons, List.map_nil, List.getD_cons_zero, List.getD_cons_succ, List.drop_succ_cons, List.drop_zero]
  go_big_quiet_step (fail)
  refine wpQuiet_val (.pointer (some ⟨a, 0, none⟩)) rfl (fun w' hS => by (go_simp)) ?_
  simp only [Act.put, List.setIfInBounds_toArray, List.set_cons_succ, List.set_cons_zero]
  refine wpQuiet_val (.pointer (some ⟨a, 1, none⟩)) rfl (fun w' hS => by (go_simp)) ?_
  simp only [Act.put, List.setIfInBounds_toArray, List.set_cons_succ, List.set_cons_zero]
  refine wpQuiet_val (.pointer (some ⟨L.qb i, 0, none⟩)) rfl (fun w' hS => by
      have e : w'.cell? ⟨a, 1, none⟩ = some (.pointer (some ⟨L.qb i, 0, none⟩)) := by rw [blk_cell (hS.1)]; rfl
      go_simp) ?_
  simp only [Act.put, List.setIfInBounds_toArray, List.set_cons_succ, List.set_cons_zero]
  refine wpQuiet_val (.pointer (some ⟨L.qb i, 0, none⟩)) rfl (fun w' hS => by (go_simp)) ?_
  simp only [Act.put, List.setIfInBounds_toArray, List.set_cons_succ, List.set_cons_zero]
  refine wpQuiet_val (.pointer (some ⟨L.qb i, 6, none⟩)) rfl (fun w' hS => by (go_simp)) ?_
  simp only [Act.put, List.setIfInBounds_toArray, List.set_cons_succ, List.set_cons_zero]
  refine wpQuiet_val (.pointer (some ⟨L.tb i, 0, none⟩)) rfl (fun w' hS => by
      have e : w'.cell? ⟨L.qb i, 6, none⟩ = some (.pointer (some ⟨L.tb i, 0, none⟩)) := hS.2
      go_simp) ?_
  simp only [Act.put, List.setIfInBounds_toArray, List.set_cons_succ, List.set_cons_zero]
  go_big_quiet_step (fail)
  go_big_quiet_step (fail)
  refine wpQuiet_val (.pointer (some ⟨a, 0, none⟩)) rfl (fun w' hS => by (go_simp)) ?_
  simp only [Act.put, List.setIfInBounds_toArray, List.set_cons_succ, List.set_cons_zero]
  refine wpQuiet_val (.pointer (some ⟨a, 2, none⟩)) rfl (fun w' hS => by (go_simp)) ?_
  simp only [Act.put, List.setIfInBounds_toArray, List.set_cons_succ, List.set_cons_zero]
  refine wpQuiet_val (.pointer (some ⟨a, 4, none⟩)) rfl (fun w' hS => by (go_simp)) ?_
  simp only [Act.put, List.setIfInBounds_toArray, List.set_cons_succ, List.set_cons_zero]
  refine wpQuiet_val (.int .i64 c.b) rfl (fun w' hS => by
      have e : w'.cell? ⟨a, 4, none⟩ = some (.int .i64 c.b) := by rw [blk_cell (hS.1)]; rfl
      go_simp) ?_
  simp only [Act.put, List.setIfInBounds_toArray, List.set_cons_succ, List.set_cons_zero]
  refine wpQuiet_nil ?_
  refine tree_one' 13 (by kernel_rfl) (by decide) (by simp) rfl (fun Kc hK => ?_)
  simp only [List.getD_cons_zero, List.getD_cons_succ]
  go_wp2_with fail
  refine hput.out.mono ?_
  rintro e w2 ⟨pv, pe, rfl, hpr⟩
  have s2 := HS2.out _ _ w2 hpr
  have Hpr := hide hpr
  refine hK _ _ s2 ?_
  clear hK Kc hpr s1
  refine tree_heads (f := 0) [14, 15, 16, 17] (by kernel_rfl) (fun _ _ d _ _ h => by cases d <;> exact h) s2 ?_
  simp only [List.map_cons, List.map_nil, List.getD_cons_zero, List.getD_cons_succ]
  go_big_quiet_step (fail)
  refine wpQuiet_val (.int .i64 pv) rfl (fun w' hS => by (go_simp)) ?_
  simp only [Act.put, List.setIfInBounds_toArray, List.set_cons_succ, List.set_cons_zero]
  refine wpQuiet_val (.int .i64 pe) rfl (fun w' hS => by (go_simp)) ?_
  simp only [Act.put, List.setIfInBounds_toArray, List.set_cons_succ, List.set_cons_zero]
  go_big_quiet_step (fail)
  refine wpQuiet_nil ?_
  refine tree_end (by kernel_rfl) ?_
  try (simp only [List.map_cons, List.map_nil, List.getD_cons_zero, List.getD_cons_succ, List.drop_succ_cons, List.drop_zero])
  have hpr := Hpr.out
  rw [HPR.out] at hpr
  rcases hpr with ⟨e1, rfl, rfl, rfl⟩ | ⟨e1, e2, rfl, rfl, rfl⟩ | ⟨e1, fd, e2, rfl, rfl, L2, I2, hL2⟩
  · have hfin := hide (show KErrPost w k K L i a c Rr (.returned (.int .i64 22)) w1.drew from by
      rw [Hq.out, if_pos e1]
      exact ⟨rfl, L, _, HI1d.out, rfl⟩)
    clear hput Hpr s2 Hq HI1d
    go_wp2_with fail
    go_ret
    exact hfin.out
  · have hfin := hide (show KErrPost w k K L i a c Rr (.returned (.int .i64 24)) w1.drew from by
      rw [Hq.out, if_neg (by rw [e1]; simp), e2]
      exact ⟨rfl, L, _, HI1d.out, rfl⟩)
    clear hput Hpr s2 Hq HI1d
    go_wp2_with fail
    go_ret
    exact hfin.out
  · have hb2 := I2.F.hd j hj.1 hj.2
    rw [hL2] at hb2
    obtain ⟨r, hr⟩ : ∃ r, r = (K.desc j).refs := ⟨_, rfl⟩
    have hr1 : r ≤ 1000000 := by have := HR.out; omega
    have hr2 : -1000000 ≤ r := by have := HR.out; omega
    have c23 : w2.cell? ⟨L.db j, 3, none⟩ = some (.int .i64 r) := by rw [hr]; exact blk_cell hb2 3
    have z23 : w2.frozen? ⟨L.db j, 3, none⟩ = false := blk_frozen hb2 3
    obtain ⟨w3, hw3⟩ : ∃ w3, w3 = w2.setCell ⟨L.db j, 3, none⟩ (.int .i64 (r + 1)) := ⟨_, rfl⟩
    have I3 := I2.desc hj.1 hj.2 (d := { K.desc j with refs := r + 1 }) (w2 := w3) (by rw [hw3, hL2]; exact (Fr.refl (fun b => b = L.db j) w2).setCell (p := ⟨L.db j, 3, none⟩) (.inl rfl) _) (by rw [hw3, hL2]; exact (blk_set hb2 3 _).trans rfl) rfl
    have c38 : w3.cell? ⟨a, 8, none⟩ = some (.int .i64 0) := by rw [blk_cell I3.A]; rfl
    have z38 : w3.frozen? ⟨a, 8, none⟩ = false := blk_frozen I3.A 8
    have I4 := I3.n fd
    have hfin := hide (show KErrPost w k K L i a c Rr (.returned (.int .i64 0)) (w3.setCell ⟨a, 8, none⟩ (.int .i64 fd)) from by
      rw [Hq.out, if_neg (by rw [e1]; simp), e2]
      subst hr
      exact ⟨rfl, _, _, I4, rfl⟩)
    have Hw3 := hide hw3
    rw [hw3] at c38 z38
    clear hput hw3 I2 I3 I4 hb2 hr e1 e2 Hpr s2 Hq HI1d hL2 HR
    go_wp2_with fail
    rw [← Hw3.out]
    go_ret
    exact hfin.out
set_option maxRecDepth 100000 in
set_option maxHeartbeats 1000000 in
theorem adup_out (w : World) (k : Nat) (K : KQ) (L : KLay) (h : KF w k K L) (N : Nat) (hok : KOk K N) (_hN : N + 1 ≤ 1000000) (i : Nat) (h1 : 1 ≤ i) (h2 : i ≤ K.qn) (a : Nat) (c : SysQ) (ha : AskAt w a k (L.qb i) c noResV) (hao : L.o a = none) (j : Nat) (hfd : fdQ K i c.a = some j) (hin : inB c.b = false) :
    Calls Tryz.prog 26 #[ptrAt a, .bool false] w (KErrPost w k K L i a c (dupQ K i false c.a c.b)) := by
  have I0 := KIn.start h ha hao
  have hj := fdQ_ok hok.fds h1 h2 hfd
  have hdesc := adesc_any w k K L h i h1 h2 a c noResV ha c.a
  rw [hfd] at hdesc
  have Hdesc := hide hdesc
  have c3 : w.cell? ⟨a, 3, none⟩ = some (.int .i64 c.a) := by rw [blk_cell ha]; rfl
  obtain ⟨w1, hw1⟩ : ∃ w1, w1 = w.setCell ⟨a, 17, none⟩ (.int .i64 0) := ⟨_, rfl⟩
  have I1 : KIn w k K L i a c w1 K L noResV := by rw [hw1]; exact I0.err 0
  have hR := (hok.desc j hj.1 hj.2).refs
  have hfin : KErrPost w k K L i a c (dupQ K i false c.a c.b) (.returned (.int .i64 9)) w1 := by
    unfold dupQ
    rw [hfd]
    simp only [Bool.false_eq_true, if_false, if_pos hin]
    exact ⟨rfl, L, _, I1, rfl⟩
  have Hfin := hide hfin
  have d4 : w1.cell? ⟨a, 4, none⟩ = some (.int .i64 c.b) := by rw [blk_cell I1.A]; rfl
  have Hw1 := hide hw1
  have hlt : c.b < 0 ∨ (¬ c.b < 0 ∧ ¬ c.b < 32) := by
    unfold inB at hin
    by_cases e : c.b < 0
    · exact .inl e
    · refine .inr ⟨e, fun e2 => ?_⟩
      simp at hin
      omega
  clear h hok ha hao I0 I1 hfin hfd hdesc hw1 hR hin
  rcases hlt with e0 | ⟨e0, e1⟩
  · unfold ptrAt at *
    go_enter Tryz.func26, Tryz.ntmps26
    go_wp2_with fail
    refine Hdesc.out.mono ?_
    rintro e wx ⟨rfl, rfl⟩
    rw [show (Value.int .i64 (fdE (some j))) = .int .i64 0 from rfl, ← Hw1.out]
    clear Hdesc
    unfold descV ptrAt at *
    go_wp2_with fail
    go_ret
    exact Hfin.out
  · unfold ptrAt at *
    go_enter Tryz.func26, Tryz.ntmps26
    go_wp2_with fail
    refine Hdesc.out.mono ?_
    rintro e wx ⟨rfl, rfl⟩
    rw [show (Value.int .i64 (fdE (some j))) = .int .i64 0 from rfl, ← Hw1.out]
    clear Hdesc
    unfold descV ptrAt at *
    go_wp2_with fail
    go_ret
    exact Hfin.out
set_option maxRecDepth 100000 in
set_option maxHeartbeats 1000000 in
theorem adup_same (w : World) (k : Nat) (K : KQ) (L : KLay) (h : KF w k K L) (N : Nat) (hok : KOk K N) (_hN : N + 1 ≤ 1000000) (i : Nat) (h1 : 1 ≤ i) (h2 : i ≤ K.qn) (a : Nat) (c : SysQ) (ha : AskAt w a k (L.qb i) c noResV) (hao : L.o a = none) (j : Nat) (hfd : fdQ K i c.a = some j) (hin : inB c.b = true) (hab : c.a = c.b) :
    Calls Tryz.prog 26 #[ptrAt a, .bool false] w (KErrPost w k K L i a c (dupQ K i false c.a c.b)) := by
  have I0 := KIn.start h ha hao
  have hj := fdQ_ok hok.fds h1 h2 hfd
  have hdesc := adesc_any w k K L h i h1 h2 a c noResV ha c.a
  rw [hfd] at hdesc
  have Hdesc := hide hdesc
  have c3 : w.cell? ⟨a, 3, none⟩ = some (.int .i64 c.a) := by rw [blk_cell ha]; rfl
  obtain ⟨w1, hw1⟩ : ∃ w1, w1 = w.setCell ⟨a, 17, none⟩ (.int .i64 0) := ⟨_, rfl⟩
  have I1 : KIn w k K L i a c w1 K L noResV := by rw [hw1]; exact I0.err 0
  have hR := (hok.desc j hj.1 hj.2).refs
  obtain ⟨w2, hw2⟩ : ∃ w2, w2 = w1.setCell ⟨a, 8, none⟩ (.int .i64 c.b) := ⟨_, rfl⟩
  have I2 : KIn w k K L i a c w2 K L { noResV with n := c.b } := by rw [hw2]; exact I1.n c.b
  have hb1 : ¬ c.b < 0 := by unfold inB at hin; simp at hin; omega
  have hb2 : c.b < 32 := by unfold inB at hin; simp at hin; omega
  have d4 : w1.cell? ⟨a, 4, none⟩ = some (.int .i64 c.b) := by rw [blk_cell I1.A]; rfl
  have d8 : w1.cell? ⟨a, 8, none⟩ = some (.int .i64 0) := by rw [blk_cell I1.A]; rfl
  have u8 : w1.frozen? ⟨a, 8, none⟩ = false := blk_frozen I1.A 8
  have y3 : w2.drew.cell? ⟨a, 3, none⟩ = some (.int .i64 c.a) := by rw [blk_cell I2.drew.A]; rfl
  have y4 : w2.drew.cell? ⟨a, 4, none⟩ = some (.int .i64 c.b) := by rw [blk_cell I2.drew.A]; rfl
  have hfin : KErrPost w k K L i a c (dupQ K i false c.a c.b) (.returned (.int .i64 0)) w2.drew := by
    unfold dupQ
    rw [hfd]
    simp only [Bool.false_eq_true, if_false]
    rw [if_neg (by rw [hin]; simp), if_pos hab]
    exact ⟨rfl, L, _, I2.drew, rfl⟩
  have Hfin := hide hfin
  have Hw1 := hide hw1
  have Hw2 := hide hw2
  have hx : (c.a == c.b) = true := by simp [hab]
  clear h hok ha hao I0 I1 I2 hfin hfd hdesc hw1 hw2 hR hin hab
  unfold ptrAt at *
  go_enter Tryz.func26, Tryz.ntmps26
  go_wp2_with fail
  refine Hdesc.out.mono ?_
  rintro e wx ⟨rfl, rfl⟩
  rw [show (Value.int .i64 (fdE (some j))) = .int .i64 0 from rfl, ← Hw1.out]
  clear Hdesc
  unfold descV ptrAt at *
  go_wp2_with fail
  rw [← Hw2.out]
  refine region_still (by kernel_rfl) (by kernel_rfl) ?_
  repeat go_big_quiet_step (fail)
  refine wpQuiet_nil ?_
  go_wp2_with fail
  go_ret
  exact Hfin.out
set_option maxRecDepth 100000 in
set_option maxHeartbeats 1000000 in
theorem adup_set0 (w : World) (k : Nat) (K : KQ) (L : KLay) (h : KF w k K L) (N : Nat) (hok : KOk K N) (hN : N + 1 ≤ 1000000) (i : Nat) (h1 : 1 ≤ i) (h2 : i ≤ K.qn) (a : Nat) (c : SysQ) (ha : AskAt w a k (L.qb i) c noResV) (hao : L.o a = none) (j : Nat) (hfd : fdQ K i c.a = some j) (hin : inB c.b = true) (hab : ¬ c.a = c.b) (hov : (K.proc i).fds c.b.toNat = none) :
    Calls Tryz.prog 26 #[ptrAt a, .bool false] w (KErrPost w k K L i a c (dupQ K i false c.a c.b)) := by
  have I0 := KIn.start h ha hao
  have hj := fdQ_ok hok.fds h1 h2 hfd
  have hdesc := adesc_any w k K L h i h1 h2 a c noResV ha c.a
  rw [hfd] at hdesc
  have Hdesc := hide hdesc
  have c3 : w.cell? ⟨a, 3, none⟩ = some (.int .i64 c.a) := by rw [blk_cell ha]; rfl
  obtain ⟨w1, hw1⟩ : ∃ w1, w1 = w.setCell ⟨a, 17, none⟩ (.int .i64 0) := ⟨_, rfl⟩
  have I1 : KIn w k K L i a c w1 K L noResV := by rw [hw1]; exact I0.err 0
  have hR := (hok.desc j hj.1 hj.2).refs
  obtain ⟨w2, hw2⟩ : ∃ w2, w2 = w1.setCell ⟨a, 8, none⟩ (.int .i64 c.b) := ⟨_, rfl⟩
  have I2 : KIn w k K L i a c w2 K L { noResV with n := c.b } := by rw [hw2]; exact I1.n c.b
  have hb1 : ¬ c.b < 0 := by unfold inB at hin; simp at hin; omega
  have hb2 : c.b < 32 := by unfold inB at hin; simp at hin; omega
  have d4 : w1.cell? ⟨a, 4, none⟩ = some (.int .i64 c.b) := by rw [blk_cell I1.A]; rfl
  have d8 : w1.cell? ⟨a, 8, none⟩ = some (.int .i64 0) := by rw [blk_cell I1.A]; rfl
  have u8 : w1.frozen? ⟨a, 8, none⟩ = false := blk_frozen I1.A 8
  have y3 : w2.drew.cell? ⟨a, 3, none⟩ = some (.int .i64 c.a) := by rw [blk_cell I2.drew.A]; rfl
  have y4 : w2.drew.cell? ⟨a, 4, none⟩ = some (.int .i64 c.b) := by rw [blk_cell I2.drew.A]; rfl
  obtain ⟨wd, hwd⟩ : ∃ wd, wd = w2.drew := ⟨_, rfl⟩
  have Id : KIn w k K L i a c wd K L { noResV with n := c.b } := by rw [hwd]; exact I2.drew
  obtain ⟨r, hr⟩ : ∃ r, r = (K.desc j).refs := ⟨_, rfl⟩
  have hr1 : r ≤ 1000000 := by omega
  have hr2 : -1000000 ≤ r := by omega
  have hbj := Id.F.hd j hj.1 hj.2
  have c23 : wd.cell? ⟨L.db j, 3, none⟩ = some (.int .i64 r) := by rw [hr]; exact blk_cell hbj 3
  have z23 : wd.frozen? ⟨L.db j, 3, none⟩ = false := blk_frozen hbj 3
  obtain ⟨w3, hw3⟩ : ∃ w3, w3 = wd.setCell ⟨L.db j, 3, none⟩ (.int .i64 (r + 1)) := ⟨_, rfl⟩
  have I3 : KIn w k K L i a c w3 (moreQ K j) L { noResV with n := c.b } := Id.desc hj.1 hj.2 (d := { K.desc j with refs := (K.desc j).refs + 1 }) (w2 := w3) (by rw [hw3]; exact (Fr.refl (fun b => b = L.db j) wd).setCell (p := ⟨L.db j, 3, none⟩) (.inl rfl) _) (by rw [hw3, hr]; exact (blk_set hbj 3 _).trans rfl) rfl
  have I3d := I3.drew
  have hset0 := set_any w3.drew (L.tb i) _ _ (I3d.ht h1 h2) c.b (L.db j)
  have hset1 : Calls Tryz.prog 58 #[.pointer (some ⟨L.tb i, 0, none⟩), .int .i64 c.b, .pointer (some ⟨L.db j, 0, none⟩)] w3.drew fun e w4 => e = .returned (.tuple #[.pointer none, .bool false, .int .i64 0]) ∧ ∃ L4, KIn w k K L i a c w4 (nameQ (moreQ K j) i c.b.toNat j) L4 { noResV with n := c.b } ∧ L4.db = L.db := hset0.mono (by
    rintro e w4 (⟨e1, _, _⟩ | ⟨e1, rfl, hA, hf⟩)
    · rw [hin] at e1; cases e1
    · rw [← tabS_set, ← I3d.tb h1 h2] at hA
      refine ⟨?_, _, I3d.tab h1 h2 hf hA, rfl⟩
      rw [show tabS L ((moreQ K j).proc i).fds c.b.toNat = ((K.proc i).fds c.b.toNat).map (fun x => (L.db x.1, x.2)) from rfl, hov]
      rfl)
  have hSA : ∀ w' K' L', KIn w k K L i a c w' K' L' { noResV with n := c.b } → AskAt w' a k (L.qb i) c { noResV with n := c.b } ∧ w'.cell? ⟨L.qb i, 6, none⟩ = some (.pointer (some ⟨L.tb i, 0, none⟩)) := fun w' K' L' hI => ⟨hI.A, by rw [blk_cell (hI.hq h1 h2), ← hI.tb h1 h2]; rfl⟩
  have s3 := hSA _ _ _ I3d
  have HSA := hide hSA
  have hfin : ∀ w4 L4, KIn w k K L i a c w4 (nameQ (moreQ K j) i c.b.toNat j) L4 { noResV with n := c.b } → KErrPost w k K L i a c (dupQ K i false c.a c.b) (.returned (.int .i64 0)) w4 := fun w4 L4 I4 => by
    unfold dupQ
    rw [hfd]
    simp only [Bool.false_eq_true, if_false]
    rw [if_neg (by rw [hin]; simp), if_neg hab, hov]
    exact ⟨rfl, _, _, I4, rfl⟩
  have Hfin := hide hfin
  have Hset := hide hset1
  have Hw1 := hide hw1
  have Hw2 := hide hw2
  have Hwd := hide hwd
  have Hw3 := hide hw3
  have hx : (c.a == c.b) = false := by simp [hab]
  clear h hok ha hao I0 I1 I2 Id I3 I3d hset0 hset1 hSA hbj hfd hdesc hw1 hw2 hwd hw3 hR hin hab hr hfin hov
  unfold ptrAt at *
  go_enter Tryz.func26, Tryz.ntmps26
  go_wp2_with fail
  refine Hdesc.out.mono ?_
  rintro e wx ⟨rfl, rfl⟩
  rw [show (Value.int .i64 (fdE (some j))) = .int .i64 0 from rfl, ← Hw1.out]
  clear Hdesc
  unfold descV ptrAt at *
  go_wp2_with fail
  rw [← Hw2.out]
  refine region_still (by kernel_rfl) (by kernel_rfl) ?_
  repeat go_big_quiet_step (fail)
  refine wpQuiet_nil ?_
  rw [← Hwd.out]
  clear y3 y4
  go_upto_region 16 with (fail)
  rw [← Hw3.out]
  refine region_tree (fun w' => AskAt w' a k (L.qb i) c { noResV with n := c.b } ∧ w'.cell? ⟨L.qb i, 6, none⟩ = some (.pointer (some ⟨L.tb i, 0, none⟩))) [0, 1, 2, 3, 4, 5, 6, 7, 8, 9, 10, 11, 12] 7 20 (by kernel_rfl) (by kernel_rfl) (fun _ _ d _ _ h => by cases d <;> exact h) s3 ?_
  simp only [List.map_cons, List.map_nil, List.getD_cons_zero, List.getD_cons_succ, List.drop_succ_cons, List.drop_zero]
  go_big_quiet_step (fail)
  refine wpQuiet_val (.pointer (some ⟨a, 0, none⟩)) rfl (fun w' hS => by (go_simp)) ?_
  simp only [Act.put, List.setIfInBounds_toArray, List.set_cons_succ, List.set_cons_zero]
  refine wpQuiet_val (.pointer (some ⟨a, 1, none⟩)) rfl (fun w' hS => by (go_simp)) ?_
  simp only [Act.put, List.setIfInBounds_toArray, List.set_cons_succ, List.set_cons_zero]
  refine wpQuiet_val (.pointer (some ⟨L.qb i, 0, none⟩)) rfl (fun w' hS => by
      have e : w'.cell? ⟨a, 1, none⟩ = some (.pointer (some ⟨L.qb i, 0, none⟩)) := by rw [blk_cell (hS.1)]; rfl
      go_simp) ?_
  simp only [Act.put, List.setIfInBounds_toArray, List.set_cons_succ, List.set_cons_zero]
  refine wpQuiet_val (.pointer (some ⟨L.qb i, 0, none⟩)) rfl (fun w' hS => by (go_simp)) ?_
  simp only [Act.put, List.setIfInBounds_toArray, List.set_cons_succ, List.set_cons_zero]
  refine wpQuiet_val (.pointer (some ⟨L.qb i, 6, none⟩)) rfl (fun w' hS => by (go_simp)) ?_
  simp only [Act.put, List.setIfInBounds_toArray, List.set_cons_succ, List.set_cons_zero]
  refine wpQuiet_val (.pointer (some ⟨L.tb i, 0, none⟩)) rfl (fun w' hS => by
      have e : w'.cell? ⟨L.qb i, 6, none⟩ = some (.pointer (some ⟨L.tb i, 0, none⟩)) := hS.2
      go_simp) ?_
  simp only [Act.put, List.setIfInBounds_toArray, List.set_cons_succ, List.set_cons_zero]
  go_big_quiet_step (fail)
  refine wpQuiet_val (.pointer (some ⟨a, 0, none⟩)) rfl (fun w' hS => by (go_simp)) ?_
  simp only [Act.put, List.setIfInBounds_toArray, List.set_cons_succ, List.set_cons_zero]
  refine wpQuiet_val (.pointer (some ⟨a, 2, none⟩)) rfl (fun w' hS => by (go_simp)) ?_
  simp only [Act.put, List.setIfInBounds_toArray, List.set_cons_succ, List.set_cons_zero]
  refine wpQuiet_val (.pointer (some ⟨a, 4, none⟩)) rfl (fun w' hS => by (go_simp)) ?_
  simp only [Act.put, List.setIfInBounds_toArray, List.set_cons_succ, List.set_cons_zero]
  refine wpQuiet_val (.int .i64 c.b) rfl (fun w' hS => by
      have e : w'.cell? ⟨a, 4, none⟩ = some (.int .i64 c.b) := by rw [blk_cell (hS.1)]; rfl
      go_simp) ?_
  simp only [Act.put, List.setIfInBounds_toArray, List.set_cons_succ, List.set_cons_zero]
  go_big_quiet_step (fail)
  refine wpQuiet_nil ?_
  refine tree_one' 13 (by kernel_rfl) (by decide) (by simp) rfl (fun Kc hK => ?_)
  simp only [List.getD_cons_zero, List.getD_cons_succ]
  go_wp2_with fail
  refine Hset.out.mono ?_
  rintro e w4 ⟨rfl, L4, I4, hL4⟩
  have s4 := HSA.out _ _ _ I4
  have HI4 := hide (And.intro I4 hL4)
  refine hK _ _ s4 ?_
  clear hK Kc s3 I4 hL4
  refine tree_heads (f := 0) [14, 15, 16, 17, 18, 19] (by kernel_rfl) (fun _ _ d _ _ h => by cases d <;> exact h) s4 ?_
  simp only [List.map_cons, List.map_nil, List.getD_cons_zero, List.getD_cons_succ]
  go_big_quiet_step (fail)
  refine wpQuiet_val (.pointer none) rfl (fun w' hS => by (go_simp)) ?_
  simp only [Act.put, List.setIfInBounds_toArray, List.set_cons_succ, List.set_cons_zero]
  refine wpQuiet_val (.bool false) rfl (fun w' hS => by (go_simp)) ?_
  simp only [Act.put, List.setIfInBounds_toArray, List.set_cons_succ, List.set_cons_zero]
  refine wpQuiet_val (.int .i64 0) rfl (fun w' hS => by (go_simp)) ?_
  simp only [Act.put, List.setIfInBounds_toArray, List.set_cons_succ, List.set_cons_zero]
  go_big_quiet_step (fail)
  go_big_quiet_step (fail)
  refine wpQuiet_nil ?_
  refine tree_end (by kernel_rfl) ?_
  try (simp only [List.map_cons, List.map_nil, List.getD_cons_zero, List.getD_cons_succ, List.drop_succ_cons, List.drop_zero])
  have Hp := hide (Hfin.out w4 L4 HI4.out.1)
  clear s4 Hfin Hset
  go_wp2_with fail
  go_ret
  exact Hp.out
set_option maxRecDepth 100000 in
set_option maxHeartbeats 1000000 in
theorem adup_set1 (w : World) (k : Nat) (K : KQ) (L : KLay) (h : KF w k K L) (N : Nat) (hok : KOk K N) (hN : N + 1 ≤ 1000000) (i : Nat) (h1 : 1 ≤ i) (h2 : i ≤ K.qn) (a : Nat) (c : SysQ) (ha : AskAt w a k (L.qb i) c noResV) (hao : L.o a = none) (j : Nat) (hfd : fdQ K i c.a = some j) (hin : inB c.b = true) (hab : ¬ c.a = c.b) (o : Nat) (m : Bool) (hov : (K.proc i).fds c.b.toNat = some (o, m)) :
    Calls Tryz.prog 26 #[ptrAt a, .bool false] w (KErrPost w k K L i a c (dupQ K i false c.a c.b)) := by
  have I0 := KIn.start h ha hao
  have hj := fdQ_ok hok.fds h1 h2 hfd
  have hdesc := adesc_any w k K L h i h1 h2 a c noResV ha c.a
  rw [hfd] at hdesc
  have Hdesc := hide hdesc
  have c3 : w.cell? ⟨a, 3, none⟩ = some (.int .i64 c.a) := by rw [blk_cell ha]; rfl
  obtain ⟨w1, hw1⟩ : ∃ w1, w1 = w.setCell ⟨a, 17, none⟩ (.int .i64 0) := ⟨_, rfl⟩
  have I1 : KIn w k K L i a c w1 K L noResV := by rw [hw1]; exact I0.err 0
  have hR := (hok.desc j hj.1 hj.2).refs
  obtain ⟨w2, hw2⟩ : ∃ w2, w2 = w1.setCell ⟨a, 8, none⟩ (.int .i64 c.b) := ⟨_, rfl⟩
  have I2 : KIn w k K L i a c w2 K L { noResV with n := c.b } := by rw [hw2]; exact I1.n c.b
  have hb1 : ¬ c.b < 0 := by unfold inB at hin; simp at hin; omega
  have hb2 : c.b < 32 := by unfold inB at hin; simp at hin; omega
  have d4 : w1.cell? ⟨a, 4, none⟩ = some (.int .i64 c.b) := by rw [blk_cell I1.A]; rfl
  have d8 : w1.cell? ⟨a, 8, none⟩ = some (.int .i64 0) := by rw [blk_cell I1.A]; rfl
  have u8 : w1.frozen? ⟨a, 8, none⟩ = false := blk_frozen I1.A 8
  have y3 : w2.drew.cell? ⟨a, 3, none⟩ = some (.int .i64 c.a) := by rw [blk_cell I2.drew.A]; rfl
  have y4 : w2.drew.cell? ⟨a, 4, none⟩ = some (.int .i64 c.b) := by rw [blk_cell I2.drew.A]; rfl
  obtain ⟨wd, hwd⟩ : ∃ wd, wd = w2.drew := ⟨_, rfl⟩
  have Id : KIn w k K L i a c wd K L { noResV with n := c.b } := by rw [hwd]; exact I2.drew
  obtain ⟨r, hr⟩ : ∃ r, r = (K.desc j).refs := ⟨_, rfl⟩
  have hr1 : r ≤ 1000000 := by omega
  have hr2 : -1000000 ≤ r := by omega
  have hbj := Id.F.hd j hj.1 hj.2
  have c23 : wd.cell? ⟨L.db j, 3, none⟩ = some (.int .i64 r) := by rw [hr]; exact blk_cell hbj 3
  have z23 : wd.frozen? ⟨L.db j, 3, none⟩ = false := blk_frozen hbj 3
  obtain ⟨w3, hw3⟩ : ∃ w3, w3 = wd.setCell ⟨L.db j, 3, none⟩ (.int .i64 (r + 1)) := ⟨_, rfl⟩
  have I3 : KIn w k K L i a c w3 (moreQ K j) L { noResV with n := c.b } := Id.desc hj.1 hj.2 (d := { K.desc j with refs := (K.desc j).refs + 1 }) (w2 := w3) (by rw [hw3]; exact (Fr.refl (fun b => b = L.db j) wd).setCell (p := ⟨L.db j, 3, none⟩) (.inl rfl) _) (by rw [hw3, hr]; exact (blk_set hbj 3 _).trans rfl) rfl
  have I3d := I3.drew
  have hset0 := set_any w3.drew (L.tb i) _ _ (I3d.ht h1 h2) c.b (L.db j)
  have hset1 : Calls Tryz.prog 58 #[.pointer (some ⟨L.tb i, 0, none⟩), .int .i64 c.b, .pointer (some ⟨L.db j, 0, none⟩)] w3.drew fun e w4 => e = .returned (.tuple #[.pointer (some ⟨L.db o, 0, none⟩), .bool true, .int .i64 0]) ∧ ∃ L4, KIn w k K L i a c w4 (nameQ (moreQ K j) i c.b.toNat j) L4 { noResV with n := c.b } ∧ L4.db = L.db := hset0.mono (by
    rintro e w4 (⟨e1, _, _⟩ | ⟨e1, rfl, hA, hf⟩)
    · rw [hin] at e1; cases e1
    · rw [← tabS_set, ← I3d.tb h1 h2] at hA
      refine ⟨?_, _, I3d.tab h1 h2 hf hA, rfl⟩
      rw [show tabS L ((moreQ K j).proc i).fds c.b.toNat = ((K.proc i).fds c.b.toNat).map (fun x => (L.db x.1, x.2)) from rfl, hov]
      rfl)
  have hSA : ∀ w' K' L', KIn w k K L i a c w' K' L' { noResV with n := c.b } → AskAt w' a k (L.qb i) c { noResV with n := c.b } ∧ w'.cell? ⟨L.qb i, 6, none⟩ = some (.pointer (some ⟨L.tb i, 0, none⟩)) := fun w' K' L' hI => ⟨hI.A, by rw [blk_cell (hI.hq h1 h2), ← hI.tb h1 h2]; rfl⟩
  have s3 := hSA _ _ _ I3d
  have HSA := hide hSA
  have ho := hok.fds i c.b.toNat o m h1 h2 hov
  have hdrop : ∀ w4 L4, KIn w k K L i a c w4 (nameQ (moreQ K j) i c.b.toNat j) L4 { noResV with n := c.b } → L4.db = L.db → Calls Tryz.prog 59 #[.pointer (some ⟨k, 0, none⟩), .pointer (some ⟨L.db o, 0, none⟩)] w4 fun e w5 => e = .returned (.tuple #[]) ∧ KErrPost w k K L i a c (dupQ K i false c.a c.b) (.returned (.int .i64 0)) w5 := fun w4 L4 I4 hdb => by
    have hok4 : KOk (nameQ (moreQ K j) i c.b.toNat j) (N + 1) := (show KOk (moreQ K j) (N + 1) from hok.refQ (some (j, false)) (fun x e => by cases e; exact hj)).fdsU h1 h2 (fun fd x y e => by
      show 1 ≤ x ∧ x ≤ K.dn
      rcases set_some e with e | e
      · cases e; exact hj
      · exact hok.fds i fd x y h1 h2 e)
    have := kdrop_any w4 k (nameQ (moreQ K j) i c.b.toNat j) L4 I4.F (N + 1) hok4 hN o ho.1 ho.2
    rw [hdb] at this
    refine this.mono fun e w5 hd => ?_
    obtain ⟨e1, hm⟩ := hd
    obtain ⟨L5, I5, _⟩ := I4.mut hm (fun _ e => e.elim) (fun _ e => e.elim)
    refine ⟨e1, ?_⟩
    unfold dupQ
    rw [hfd]
    simp only [Bool.false_eq_true, if_false]
    rw [if_neg (by rw [hin]; simp), if_neg hab, hov]
    exact ⟨rfl, _, _, I5, rfl⟩
  have Hdrop := hide hdrop
  have Hset := hide hset1
  have Hw1 := hide hw1
  have Hw2 := hide hw2
  have Hwd := hide hwd
  have Hw3 := hide hw3
  have hx : (c.a == c.b) = false := by simp [hab]
  clear h hok ha hao I0 I1 I2 Id I3 I3d hset0 hset1 hSA hbj hfd hdesc hw1 hw2 hwd hw3 hR hin hab hr hdrop 
  unfold ptrAt at *
  go_enter Tryz.func26, Tryz.ntmps26
  go_wp2_with fail
  refine Hdesc.out.mono ?_
  rintro e wx ⟨rfl, rfl⟩
  rw [show (Value.int .i64 (fdE (some j))) = .int .i64 0 from rfl, ← Hw1.out]
  clear Hdesc
  unfold descV ptrAt at *
  go_wp2_with fail
  rw [← Hw2.out]
  refine region_still (by kernel_rfl) (by kernel_rfl) ?_
  repeat go_big_quiet_step (fail)
  refine wpQuiet_nil ?_
  rw [← Hwd.out]
  clear y3 y4
  go_upto_region 16 with (fail)
  rw [← Hw3.out]
  refine region_tree (fun w' => AskAt w' a k (L.qb i) c { noResV with n := c.b } ∧ w'.cell? ⟨L.qb i, 6, none⟩ = some (.pointer (some ⟨L.tb i, 0, none⟩))) [0, 1, 2, 3, 4, 5, 6, 7, 8, 9, 10, 11, 12] 7 20 (by kernel_rfl) (by kernel_rfl) (fun _ _ d _ _ h => by cases d <;> exact h) s3 ?_
  simp only [List.map_cons, List.map_nil, List.getD_cons_zero, List.getD_cons_succ, List.drop_succ_cons, List.drop_zero]
  go_big_quiet_step (fail)
  refine wpQuiet_val (.pointer (some ⟨a, 0, none⟩)) rfl (fun w' hS => by (go_simp)) ?_
  simp only [Act.put, List.setIfInBounds_toArray, List.set_cons_succ, List.set_cons_zero]
  refine wpQuiet_val (.pointer (some ⟨a, 1, none⟩)) rfl (fun w' hS => by (go_simp)) ?_
  simp only [Act.put, List.setIfInBounds_toArray, List.set_cons_succ, List.set_cons_zero]
  refine wpQuiet_val (.pointer (some ⟨L.qb i, 0, none⟩)) rfl (fun w' hS => by
      have e : w'.cell? ⟨a, 1, none⟩ = some (.pointer (some ⟨L.qb i, 0, none⟩)) := by rw [blk_cell (hS.1)]; rfl
      go_simp) ?_
  simp only [Act.put, List.setIfInBounds_toArray, List.set_cons_succ, List.set_cons_zero]
  refine wpQuiet_val (.pointer (some ⟨L.qb i, 0, none⟩)) rfl (fun w' hS => by (go_simp)) ?_
  simp only [Act.put, List.setIfInBounds_toArray, List.set_cons_succ, List.set_cons_zero]
  refine wpQuiet_val (.pointer (some ⟨L.qb i, 6, none⟩)) rfl (fun w' hS => by (go_simp)) ?_
  simp only [Act.put, List.setIfInBounds_toArray, List.set_cons_succ, List.set_cons_zero]
  refine wpQuiet_val (.pointer (some ⟨L.tb i, 0, none⟩)) rfl (fun w' hS => by
      have e : w'.cell? ⟨L.qb i, 6, none⟩ = some (.pointer (some ⟨L.tb i, 0, none⟩)) := hS.2
      go_simp) ?_
  simp only [Act.put, List.setIfInBounds_toArray, List.set_cons_succ, List.set_cons_zero]
  go_big_quiet_step (fail)
  refine wpQuiet_val (.pointer (some ⟨a, 0, none⟩)) rfl (fun w' hS => by (go_simp)) ?_
  simp only [Act.put, List.setIfInBounds_toArray, List.set_cons_succ, List.set_cons_zero]
  refine wpQuiet_val (.pointer (some ⟨a, 2, none⟩)) rfl (fun w' hS => by (go_simp)) ?_
  simp only [Act.put, List.setIfInBounds_toArray, List.set_cons_succ, List.set_cons_zero]
  refine wpQuiet_val (.pointer (some ⟨a, 4, none⟩)) rfl (fun w' hS => by (go_simp)) ?_
  simp only [Act.put, List.setIfInBounds_toArray, List.set_cons_succ, List.set_cons_zero]
  refine wpQuiet_val (.int .i64 c.b) rfl (fun w' hS => by
      have e : w'.cell? ⟨a, 4, none⟩ = some (.int .i64 c.b) := by rw [blk_cell (hS.1)]; rfl
      go_simp) ?_
  simp only [Act.put, List.setIfInBounds_toArray, List.set_cons_succ, List.set_cons_zero]
  go_big_quiet_step (fail)
  refine wpQuiet_nil ?_
  refine tree_one' 13 (by kernel_rfl) (by decide) (by simp) rfl (fun Kc hK => ?_)
  simp only [List.getD_cons_zero, List.getD_cons_succ]
  go_wp2_with fail
  refine Hset.out.mono ?_
  rintro e w4 ⟨rfl, L4, I4, hL4⟩
  have s4 := HSA.out _ _ _ I4
  have HI4 := hide (And.intro I4 hL4)
  refine hK _ _ s4 ?_
  clear hK Kc s3 I4 hL4
  refine tree_heads (f := 0) [14, 15, 16, 17, 18, 19] (by kernel_rfl) (fun _ _ d _ _ h => by cases d <;> exact h) s4 ?_
  simp only [List.map_cons, List.map_nil, List.getD_cons_zero, List.getD_cons_succ]
  go_big_quiet_step (fail)
  refine wpQuiet_val (.pointer (some ⟨L.db o, 0, none⟩)) rfl (fun w' hS => by (go_simp)) ?_
  simp only [Act.put, List.setIfInBounds_toArray, List.set_cons_succ, List.set_cons_zero]
  refine wpQuiet_val (.bool true) rfl (fun w' hS => by (go_simp)) ?_
  simp only [Act.put, List.setIfInBounds_toArray, List.set_cons_succ, List.set_cons_zero]
  refine wpQuiet_val (.int .i64 0) rfl (fun w' hS => by (go_simp)) ?_
  simp only [Act.put, List.setIfInBounds_toArray, List.set_cons_succ, List.set_cons_zero]
  go_big_quiet_step (fail)
  go_big_quiet_step (fail)
  refine wpQuiet_nil ?_
  refine tree_end (by kernel_rfl) ?_
  try (simp only [List.map_cons, List.map_nil, List.getD_cons_zero, List.getD_cons_succ, List.drop_succ_cons, List.drop_zero])
  have x0 : w4.cell? ⟨a, 0, none⟩ = some (.pointer (some ⟨k, 0, none⟩)) := by rw [blk_cell s4.1]; rfl
  have hd := hide (Hdrop.out w4 L4 HI4.out.1 HI4.out.2)
  clear s4 Hdrop Hset
  go_wp2_with fail
  refine hd.out.mono ?_
  rintro e w5 ⟨rfl, hp⟩
  have Hp := hide hp
  clear hp hd
  go_wp2_with fail
  go_ret
  exact Hp.out
theorem adup_any (w : World) (k : Nat) (K : KQ) (L : KLay) (h : KF w k K L) (N : Nat) (hok : KOk K N) (hN : N + 1 ≤ 1000000) (i : Nat) (h1 : 1 ≤ i) (h2 : i ≤ K.qn) (a : Nat) (c : SysQ) (ha : AskAt w a k (L.qb i) c noResV) (hao : L.o a = none) (least : Bool) :
    Calls Tryz.prog 26 #[ptrAt a, .bool least] w (KErrPost w k K L i a c (dupQ K i least c.a c.b)) := by
  cases hfd : fdQ K i c.a with
  | none => exact adup_none w k K L h N hok hN i h1 h2 a c ha hao least hfd
  | some j =>
    cases least with
    | true => exact adup_least w k K L h N hok hN i h1 h2 a c ha hao j hfd
    | false =>
      cases hin : inB c.b with
      | false => exact adup_out w k K L h N hok hN i h1 h2 a c ha hao j hfd hin
      | true =>
        by_cases hab : c.a = c.b
        · exact adup_same w k K L h N hok hN i h1 h2 a c ha hao j hfd hin hab
        · cases hov : (K.proc i).fds c.b.toNat with
          | none => exact adup_set0 w k K L h N hok hN i h1 h2 a c ha hao j hfd hin hab hov
          | some om =>
            obtain ⟨o, m⟩ := om
            exact adup_set1 w k K L h N hok hN i h1 h2 a c ha hao j hfd hin hab o m hov
end Go.Proofs.YtffekmjoenppaaaGreatDoor
