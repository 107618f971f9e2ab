/- gate.asked.write. Conditions: the contract's own premises. -/
import Derived.Test.YtffekmjoenppaaaGreatDoorKerRead
namespace Go.Proofs.YtffekmjoenppaaaGreatDoor
open Go.RowKit

attribute [local go_sem] Oper.semAt_some

def appends (d : DescQ) : Bool := decide (d.flags / 32 % 2 = 1)
def atQ (K : KQ) (d : DescQ) : Int := if appends d = true then (statT K.σ d.n).size else d.pos
/-- SysWrite: does it wait, the answer, the kernel. -/
def writeQ (K : KQ) (i : Nat) (a : Int) (s : ByteArray) : Bool × ResQ × KQ :=
  match fdQ K i a with
  | none => (false, errR 9, K)
  | some j =>
    if (K.desc j).writes = false then (false, errR 9, K)
    else if (K.desc j).kind = 1 then (false, { noRes with n := s.size }, { K with out := fun x => if x = (K.desc j).n then K.out x ++ s else K.out x })
    else if (K.desc j).kind = 2 then
      (false, { noRes with n := (writeR K.σ (K.desc j).n (atQ K (K.desc j)) s.data.toList).1, err := (writeR K.σ (K.desc j).n (atQ K (K.desc j)) s.data.toList).2.1 },
        ({ K with σ := (writeR K.σ (K.desc j).n (atQ K (K.desc j)) s.data.toList).2.2 }).setD j { K.desc j with pos := if (writeR K.σ (K.desc j).n (atQ K (K.desc j)) s.data.toList).2.1 = 0 then (atQ K (K.desc j) + (writeR K.σ (K.desc j).n (atQ K (K.desc j)) s.data.toList).1).toNat else (K.desc j).pos })
    else if (K.pipe (K.desc j).n).r = 0 then (false, errR 32, if i = 1 then K else endQ K i 141)
    else if s.data.toList ≠ [] ∧ (K.pipe (K.desc j).n).data.length = 64 then (true, noRes, K)
    else (false, { noRes with n := (min s.data.toList.length (64 - (K.pipe (K.desc j).n).data.length) : Nat) }, K.setP (K.desc j).n { K.pipe (K.desc j).n with data := (K.pipe (K.desc j).n).data ++ s.data.toList.take (64 - (K.pipe (K.desc j).n).data.length) })
theorem ask_n {w : World} {a k q : Nat} {c : SysQ} {r : ResV} (h : AskAt w a k q c r) (x : Int) : AskAt (w.setCell ⟨a, 8, none⟩ (.int .i64 x)) a k q c { r with n := x } := by
  unfold AskAt at h ⊢
  rw [blk_set h]
  rfl
theorem writeR_n (σ : FSt) (i a : Int) (s : List UInt8) : 0 ≤ (writeR σ i a s).1 ∧ (writeR σ i a s).1 ≤ 65536 ∧ (writeR σ i a s).2.1 ≠ 11 := by
  unfold writeR
  cases σ.ndI i with
  | none => exact ⟨by show (0 : Int) ≤ 0; decide, by show (0 : Int) ≤ 65536; decide, by show (9 : Int) ≠ 11; decide⟩
  | some nd =>
    simp only
    by_cases e1 : nd.d = true
    · rw [if_pos e1]; exact ⟨by show (0 : Int) ≤ 0; decide, by show (0 : Int) ≤ 65536; decide, by show (21 : Int) ≠ 11; decide⟩
    rw [if_neg e1]
    by_cases e2 : a < 0
    · rw [if_pos e2]; exact ⟨by show (0 : Int) ≤ 0; decide, by show (0 : Int) ≤ 65536; decide, by show (22 : Int) ≠ 11; decide⟩
    rw [if_neg e2]
    by_cases e3 : 65536 < a ∨ 65536 < s.length
    · rw [if_pos e3]; exact ⟨by show (0 : Int) ≤ 0; decide, by show (0 : Int) ≤ 65536; decide, by show (28 : Int) ≠ 11; decide⟩
    rw [if_neg e3]
    by_cases e4 : s = []
    · rw [if_pos e4]; exact ⟨by show (0 : Int) ≤ 0; decide, by show (0 : Int) ≤ 65536; decide, by show (0 : Int) ≠ 11; decide⟩
    rw [if_neg e4]
    split
    · exact ⟨by show (0 : Int) ≤ (s.length : Int); omega, by show (s.length : Int) ≤ 65536; omega, by show (0 : Int) ≠ 11; decide⟩
    · exact ⟨by show (0 : Int) ≤ 0; decide, by show (0 : Int) ≤ 65536; decide, by show (28 : Int) ≠ 11; decide⟩
theorem take_min (l : List UInt8) (m : Nat) : l.take (min l.length m) = l.take m := by
  by_cases h : m ≤ l.length
  · rw [Nat.min_eq_right h]
  · rw [Nat.min_eq_left (by omega), List.take_length, List.take_of_length_le (by omega)]
theorem and_fact32 : ∀ f : Fin 64, bits .and .i64 ((f.val : Nat) : Int) 32 = ((f.val / 32 % 2 * 32 : Nat) : Int) := by decide +kernel
set_option maxRecDepth 100000 in
set_option maxHeartbeats 1000000 in
theorem awrite_none (w : World) (k : Nat) (K : KQ) (L : KLay) (h : KF w k K L) (N : Nat) (_hok : KOk K N) (_hN : N ≤ 1000000) (i : Nat) (h1 : 1 ≤ i) (h2 : i ≤ K.qn) (a : Nat) (c : SysQ) (_hs : c.s.size ≤ 9223372036854775807) (ha : AskAt w a k (L.qb i) c noResV) (hao : L.o a = none) (hf : fdQ K i c.a = none) : Calls Tryz.prog 23 #[ptrAt a] w (KaskPost w k K L i a c (writeQ K i c.a c.s)) := by
  have hq : writeQ K i c.a c.s = (false, errR 9, K) := by unfold writeQ; rw [hf]
  rw [hq]
  have c3 : w.cell? ⟨a, 3, none⟩ = some (.int .i64 c.a) := by rw [blk_cell ha]; rfl
  have hds := hide (adesc_any w k K L h i h1 h2 a c noResV ha c.a)
  rw [hf] at hds
  have hfin := hide (show KaskPost w k K L i a c (false, errR 9, K) (.returned (.bool false)) (w.setCell ⟨a, 17, none⟩ (.int .i64 9)) from ⟨rfl, L, h.ask hao 17 _, .refl K L, fr_ask w a 17 _, fun _ e => .inl e, _, ask_err ha 9, fun _ => rfl⟩)
  clear h ha hq
  unfold ptrAt at *
  unfold descV fdE at hds
  go_enter Tryz.func23, Tryz.ntmps23
  go_wp2_with fail
  refine hds.out.mono ?_
  rintro e w1 ⟨rfl, rfl⟩
  go_wp2_with fail
  go_ret
  exact hfin.out
set_option maxRecDepth 100000 in
set_option maxHeartbeats 1000000 in
theorem awrite_bad (w : World) (k : Nat) (K : KQ) (L : KLay) (h : KF w k K L) (N : Nat) (hok : KOk K N) (_hN : N ≤ 1000000) (i : Nat) (h1 : 1 ≤ i) (h2 : i ≤ K.qn) (a : Nat) (c : SysQ) (_hs : c.s.size ≤ 9223372036854775807) (ha : AskAt w a k (L.qb i) c noResV) (hao : L.o a = none) (j : Nat) (hf : fdQ K i c.a = some j) (hr : (K.desc j).writes = false) : Calls Tryz.prog 23 #[ptrAt a] w (KaskPost w k K L i a c (writeQ K i c.a c.s)) := by
  obtain ⟨j1, j2⟩ := fdQ_ok hok.fds h1 h2 hf
  have hdo := hok.desc j j1 j2
  have c3 : w.cell? ⟨a, 3, none⟩ = some (.int .i64 c.a) := by rw [blk_cell ha]; rfl
  have hds := hide (adesc_any w k K L h i h1 h2 a c noResV ha c.a)
  rw [hf] at hds
  have A1 := ask_err ha 0
  have F1 := h.ask hao 17 (.int .i64 0)
  have hfr1 := fr_ask (L := L) w a 17 (.int .i64 0)
  obtain ⟨w1, hw1⟩ : ∃ w1, w1 = w.setCell ⟨a, 17, none⟩ (.int .i64 0) := ⟨_, rfl⟩
  have hds' : Calls Tryz.prog 43 #[ptrAt a, .int .i64 c.a] w fun e w' => e = .returned (.pointer (some ⟨L.db j, 0, none⟩)) ∧ w' = w1 := by rw [hw1]; exact hds.out
  have hds := hide hds'
  rw [← hw1] at A1 F1 hfr1
  have hD1 := F1.hd j j1 j2
  have hrd := hide (dwrites_any w1 (L.db j) L j (K.desc j) hD1 hdo.kind hdo.flg)
  have a0 : w1.cell? ⟨a, 0, none⟩ = some (.pointer (some ⟨k, 0, none⟩)) := by rw [blk_cell A1]; rfl
  have a5 : w1.cell? ⟨a, 5, none⟩ = some (.string c.s) := by rw [blk_cell A1]; rfl
  have a17 : w1.cell? ⟨a, 17, none⟩ = some (.int .i64 0) := by rw [blk_cell A1]; rfl
  have z17 : w1.frozen? ⟨a, 17, none⟩ = false := blk_frozen A1 _
  have d0 : w1.cell? ⟨L.db j, 0, none⟩ = some (.int .i64 (K.desc j).kind) := by rw [blk_cell hD1]; rfl
  clear hw1 hds'
  have hq : writeQ K i c.a c.s = (false, errR 9, K) := by unfold writeQ; rw [hf]; simp only; rw [if_pos hr]
  rw [hq]
  rw [hr] at hrd
  have hfin := hide (show KaskPost w k K L i a c (false, errR 9, K) (.returned (.bool false)) (w1.setCell ⟨a, 17, none⟩ (.int .i64 9)) from ⟨rfl, L, F1.ask hao 17 _, .refl K L, hfr1.trans (fr_ask w1 a 17 _), fun _ e => .inl e, _, ask_err A1 9, fun _ => rfl⟩)
  clear h ha hq A1 F1 hfr1 hD1 hdo hok hf
  unfold ptrAt at *
  go_enter Tryz.func23, Tryz.ntmps23
  go_wp2_with fail
  refine hds.out.mono ?_
  rintro e w2 ⟨rfl, rfl⟩
  go_wp2_with fail
  refine hrd.out.mono ?_
  rintro e w2 ⟨rfl, rfl⟩
  go_wp2_with fail
  go_ret
  exact hfin.out
set_option maxRecDepth 100000 in
set_option maxHeartbeats 1000000 in
theorem awrite_con (w : World) (k : Nat) (K : KQ) (L : KLay) (h : KF w k K L) (N : Nat) (hok : KOk K N) (_hN : N ≤ 1000000) (i : Nat) (h1 : 1 ≤ i) (h2 : i ≤ K.qn) (a : Nat) (c : SysQ) (_hs : c.s.size ≤ 9223372036854775807) (ha : AskAt w a k (L.qb i) c noResV) (hao : L.o a = none) (j : Nat) (hf : fdQ K i c.a = some j) (hr : (K.desc j).writes = true) (hk : (K.desc j).kind = 1) (hso : ∀ n, (K.out n).size + c.s.size ≤ 9223372036854775807) : Calls Tryz.prog 23 #[ptrAt a] w (KaskPost w k K L i a c (writeQ K i c.a c.s)) := by
  obtain ⟨j1, j2⟩ := fdQ_ok hok.fds h1 h2 hf
  have hdo := hok.desc j j1 j2
  have c3 : w.cell? ⟨a, 3, none⟩ = some (.int .i64 c.a) := by rw [blk_cell ha]; rfl
  have hds := hide (adesc_any w k K L h i h1 h2 a c noResV ha c.a)
  rw [hf] at hds
  have A1 := ask_err ha 0
  have F1 := h.ask hao 17 (.int .i64 0)
  have hfr1 := fr_ask (L := L) w a 17 (.int .i64 0)
  obtain ⟨w1, hw1⟩ : ∃ w1, w1 = w.setCell ⟨a, 17, none⟩ (.int .i64 0) := ⟨_, rfl⟩
  have hds' : Calls Tryz.prog 43 #[ptrAt a, .int .i64 c.a] w fun e w' => e = .returned (.pointer (some ⟨L.db j, 0, none⟩)) ∧ w' = w1 := by rw [hw1]; exact hds.out
  have hds := hide hds'
  rw [← hw1] at A1 F1 hfr1
  have hD1 := F1.hd j j1 j2
  have hrd := hide (dwrites_any w1 (L.db j) L j (K.desc j) hD1 hdo.kind hdo.flg)
  have a0 : w1.cell? ⟨a, 0, none⟩ = some (.pointer (some ⟨k, 0, none⟩)) := by rw [blk_cell A1]; rfl
  have a5 : w1.cell? ⟨a, 5, none⟩ = some (.string c.s) := by rw [blk_cell A1]; rfl
  have a17 : w1.cell? ⟨a, 17, none⟩ = some (.int .i64 0) := by rw [blk_cell A1]; rfl
  have z17 : w1.frozen? ⟨a, 17, none⟩ = false := blk_frozen A1 _
  have d0 : w1.cell? ⟨L.db j, 0, none⟩ = some (.int .i64 (K.desc j).kind) := by rw [blk_cell hD1]; rfl
  clear hw1 hds'
  rw [hr] at hrd
  have hn2 := hdo.con hk
  have hn0 : (K.desc j).n ≠ 0 := fun e => by
    unfold DescQ.writes at hr
    rw [hk, e] at hr
    simp at hr
  rw [hk] at d0
  rcases (show (K.desc j).n = 1 ∨ (K.desc j).n = 2 by omega) with hn | hn
  · have hq : writeQ K i c.a c.s = (false, { noRes with n := c.s.size }, { K with out := fun x => if x = 1 then K.out x ++ c.s else K.out x }) := by
      unfold writeQ
      rw [hf]
      simp only
      rw [if_neg (by rw [hr]; simp), if_pos hk, hn]
    rw [hq]
    have hl : ¬ (9223372036854775807 < (K.out 1).size + c.s.size) := by have := hso 1; omega
    have d1 : w1.cell? ⟨L.db j, 1, none⟩ = some (.int .i64 1) := by rw [blk_cell hD1]; show some (Value.int .i64 ((K.desc j).n : Nat)) = _; rw [hn]; rfl
    have A1d : AskAt w1.drew a k (L.qb i) c { noResV with err := 0 } := A1
    have F1d : KF w1.drew k K L := F1.quiet (Fr.refl _ _).drew
    have s1 : w1.drew.cell? ⟨a, 0, none⟩ = some (.pointer (some ⟨k, 0, none⟩)) ∧ w1.drew.cell? ⟨a, 5, none⟩ = some (.string c.s) ∧ w1.drew.heap[k]? = some (.cells (kerC L K) 56 (0, 0)) ∧ w1.drew.cell? ⟨L.db j, 1, none⟩ = some (.int .i64 1) := ⟨a0, a5, F1.hk, d1⟩
    have hak : k ≠ a := ask_ne hao h.ok
    have t2 : w1.drew.cell? ⟨k, 10, none⟩ = some (.string (K.out 1)) := by rw [blk_cell F1d.hk]; rfl
    have z2 : w1.drew.frozen? ⟨k, 10, none⟩ = false := blk_frozen F1d.hk _
    obtain ⟨w3, hw3⟩ : ∃ w3, w3 = w1.drew.setCell ⟨k, 10, none⟩ (.string (K.out 1 ++ c.s)) := ⟨_, rfl⟩
    have F3 : KF w3 k { K with out := fun x => if x = 1 then K.out x ++ c.s else K.out x } L := by
      rw [hw3]
      exact F1d.ker ((Fr.refl (fun b => b = k) w1.drew).setCell (p := ⟨k, 10, none⟩) (.inl rfl) _) (by rw [blk_set F1d.hk]; rfl) rfl
    have A3 : AskAt w3 a k (L.qb i) c { noResV with err := 0 } := by rw [hw3]; exact blk_set_other A1d _ _ (Ne.symm hak)
    have a53 : w3.cell? ⟨a, 5, none⟩ = some (.string c.s) := by rw [blk_cell A3]; rfl
    have a83 : w3.cell? ⟨a, 8, none⟩ = some (.int .i64 0) := by rw [blk_cell A3]; rfl
    have z83 : w3.frozen? ⟨a, 8, none⟩ = false := blk_frozen A3 _
    have A4 := ask_n A3 c.s.size
    have e4 : (w3.setCell ⟨a, 8, none⟩ (.int .i64 c.s.size)).cell? ⟨a, 17, none⟩ = some (.int .i64 0) := by rw [blk_cell A4]; rfl
    have F4 := F3.ask hao 8 (.int .i64 c.s.size)
    have hfr3 : Fr (fun b => L.o b ≠ none ∨ b = a) w w3 := by rw [hw3]; exact hfr1.drew.setCell (p := ⟨k, 10, none⟩) (.inl (.inl (by rw [h.ok]; simp))) _
    have hfin := hide (show KaskPost w k K L i a c (false, { noRes with n := c.s.size }, { K with out := fun x => if x = 1 then K.out x ++ c.s else K.out x }) (.returned (.bool false)) (w3.setCell ⟨a, 8, none⟩ (.int .i64 c.s.size)) from ⟨rfl, L, F4, ⟨rfl, Nat.le_refl _, Nat.le_refl _, Nat.le_refl _, fun _ _ _ => rfl, fun _ _ _ => rfl, fun _ _ _ => rfl, fun _ _ _ => rfl, fun _ _ e => e⟩, hfr3.trans (fr_ask (L := L) w3 a 8 _), fun _ e => .inl e, _, A4, fun _ => rfl⟩)
    have Hw3 := hide hw3
    clear h ha hq A1 F1 hfr1 hD1 hdo hok A1d F1d F3 A3 A4 F4 hfr3 hw3 hak hf hn
    unfold ptrAt at *
    go_enter Tryz.func23, Tryz.ntmps23
    go_wp2_with fail
    refine hds.out.mono ?_
    rintro e w2 ⟨rfl, rfl⟩
    go_wp2_with fail
    refine hrd.out.mono ?_
    rintro e w2 ⟨rfl, rfl⟩
    go_upto_region 12 with (fail)
    refine region_tree (fun w' => w'.cell? ⟨a, 0, none⟩ = some (.pointer (some ⟨k, 0, none⟩)) ∧ w'.cell? ⟨a, 5, none⟩ = some (.string c.s) ∧ w'.heap[k]? = some (.cells (kerC L K) 56 (0, 0)) ∧ w'.cell? ⟨L.db j, 1, none⟩ = some (.int .i64 1)) [0, 1, 2, 3, 4, 5, 6, 7, 8, 9, 10, 11, 12, 13, 14, 15, 16, 17, 18, 19, 20] 0 21 (by kernel_rfl) (by kernel_rfl) (fun _ _ d _ _ h => by cases d <;> exact h) s1 ?_
    simp only [List.map_cons, List.map_nil, List.getD_cons_zero, List.getD_cons_succ, List.drop_succ_cons, List.drop_zero]
    generalize w2.drew = wd at *
    go_big_quiet_step (fail)
    refine wpQuiet_val (.pointer (some ⟨a, 0, none⟩)) rfl (fun w' hS => by (go_simp)) ?_
    simp only [Act.put, List.setIfInBounds_toArray, List.set_cons_succ, List.set_cons_zero]
    refine wpQuiet_val (.pointer (some ⟨a, 0, none⟩)) rfl (fun w' hS => by (go_simp)) ?_
    simp only [Act.put, List.setIfInBounds_toArray, List.set_cons_succ, List.set_cons_zero]
    refine wpQuiet_val (.pointer (some ⟨k, 0, none⟩)) rfl (fun w' hS => by
        have e : w'.cell? ⟨a, 0, none⟩ = some (.pointer (some ⟨k, 0, none⟩)) := hS.1
        go_simp) ?_
    simp only [Act.put, List.setIfInBounds_toArray, List.set_cons_succ, List.set_cons_zero]
    go_big_quiet_step (fail)
    refine wpQuiet_val (.pointer (some ⟨L.db j, 0, none⟩)) rfl (fun w' hS => by (go_simp)) ?_
    simp only [Act.put, List.setIfInBounds_toArray, List.set_cons_succ, List.set_cons_zero]
    refine wpQuiet_val (.pointer (some ⟨L.db j, 0, none⟩)) rfl (fun w' hS => by (go_simp)) ?_
    simp only [Act.put, List.setIfInBounds_toArray, List.set_cons_succ, List.set_cons_zero]
    refine wpQuiet_val (.pointer (some ⟨L.db j, 1, none⟩)) rfl (fun w' hS => by (go_simp)) ?_
    simp only [Act.put, List.setIfInBounds_toArray, List.set_cons_succ, List.set_cons_zero]
    refine wpQuiet_val (.int .i64 1) rfl (fun w' hS => by
        have e : w'.cell? ⟨L.db j, 1, none⟩ = some (.int .i64 1) := hS.2.2.2
        go_simp) ?_
    simp only [Act.put, List.setIfInBounds_toArray, List.set_cons_succ, List.set_cons_zero]
    refine wpQuiet_val (.pointer (some ⟨k, 0, none⟩)) rfl (fun w' hS => by (go_simp)) ?_
    simp only [Act.put, List.setIfInBounds_toArray, List.set_cons_succ, List.set_cons_zero]
    refine wpQuiet_val (.pointer (some ⟨k, 9, none⟩)) rfl (fun w' hS => by (go_simp)) ?_
    simp only [Act.put, List.setIfInBounds_toArray, List.set_cons_succ, List.set_cons_zero]
    refine wpQuiet_val (.pointer (some ⟨k, 10, none⟩)) rfl (fun w' hS => by (go_simp)) ?_
    simp only [Act.put, List.setIfInBounds_toArray, List.set_cons_succ, List.set_cons_zero]
    refine wpQuiet_val (.string (K.out 1)) rfl (fun w' hS => by
        have e : w'.cell? ⟨k, 10, none⟩ = some (.string (K.out 1)) := by rw [blk_cell (hS.2.2.1)]; rfl
        go_simp) ?_
    simp only [Act.put, List.setIfInBounds_toArray, List.set_cons_succ, List.set_cons_zero]
    go_big_quiet_step (fail)
    refine wpQuiet_val (.pointer (some ⟨a, 0, none⟩)) rfl (fun w' hS => by (go_simp)) ?_
    simp only [Act.put, List.setIfInBounds_toArray, List.set_cons_succ, List.set_cons_zero]
    refine wpQuiet_val (.pointer (some ⟨a, 2, none⟩)) rfl (fun w' hS => by (go_simp)) ?_
    simp only [Act.put, List.setIfInBounds_toArray, List.set_cons_succ, List.set_cons_zero]
    refine wpQuiet_val (.pointer (some ⟨a, 5, none⟩)) rfl (fun w' hS => by (go_simp)) ?_
    simp only [Act.put, List.setIfInBounds_toArray, List.set_cons_succ, List.set_cons_zero]
    refine wpQuiet_val (.string c.s) rfl (fun w' hS => by
        have e : w'.cell? ⟨a, 5, none⟩ = some (.string c.s) := hS.2.1
        go_simp) ?_
    simp only [Act.put, List.setIfInBounds_toArray, List.set_cons_succ, List.set_cons_zero]
    refine wpQuiet_val (.string (K.out 1 ++ c.s)) rfl (fun w' hS => by (go_simp)) ?_
    simp only [Act.put, List.setIfInBounds_toArray, List.set_cons_succ, List.set_cons_zero]
    refine wpQuiet_val (.pointer (some ⟨k, 0, none⟩)) rfl (fun w' hS => by (go_simp)) ?_
    simp only [Act.put, List.setIfInBounds_toArray, List.set_cons_succ, List.set_cons_zero]
    refine wpQuiet_val (.pointer (some ⟨k, 9, none⟩)) rfl (fun w' hS => by (go_simp)) ?_
    simp only [Act.put, List.setIfInBounds_toArray, List.set_cons_succ, List.set_cons_zero]
    refine wpQuiet_nil ?_
    refine tree_end (by kernel_rfl) ?_
    try (simp only [List.map_cons, List.map_nil, List.getD_cons_zero, List.getD_cons_succ, List.drop_succ_cons, List.drop_zero])
    go_upto_region 13 with (fail)
    rw [← Hw3.out]
    clear Hw3 t2 z2 s1
    go_wp2_with fail
    go_ret
    exact hfin.out
  · have hq : writeQ K i c.a c.s = (false, { noRes with n := c.s.size }, { K with out := fun x => if x = 2 then K.out x ++ c.s else K.out x }) := by
      unfold writeQ
      rw [hf]
      simp only
      rw [if_neg (by rw [hr]; simp), if_pos hk, hn]
    rw [hq]
    have hl : ¬ (9223372036854775807 < (K.out 2).size + c.s.size) := by have := hso 2; omega
    have d1 : w1.cell? ⟨L.db j, 1, none⟩ = some (.int .i64 2) := by rw [blk_cell hD1]; show some (Value.int .i64 ((K.desc j).n : Nat)) = _; rw [hn]; rfl
    have A1d : AskAt w1.drew a k (L.qb i) c { noResV with err := 0 } := A1
    have F1d : KF w1.drew k K L := F1.quiet (Fr.refl _ _).drew
    have s1 : w1.drew.cell? ⟨a, 0, none⟩ = some (.pointer (some ⟨k, 0, none⟩)) ∧ w1.drew.cell? ⟨a, 5, none⟩ = some (.string c.s) ∧ w1.drew.heap[k]? = some (.cells (kerC L K) 56 (0, 0)) ∧ w1.drew.cell? ⟨L.db j, 1, none⟩ = some (.int .i64 2) := ⟨a0, a5, F1.hk, d1⟩
    have hak : k ≠ a := ask_ne hao h.ok
    have t2 : w1.drew.cell? ⟨k, 11, none⟩ = some (.string (K.out 2)) := by rw [blk_cell F1d.hk]; rfl
    have z2 : w1.drew.frozen? ⟨k, 11, none⟩ = false := blk_frozen F1d.hk _
    obtain ⟨w3, hw3⟩ : ∃ w3, w3 = w1.drew.setCell ⟨k, 11, none⟩ (.string (K.out 2 ++ c.s)) := ⟨_, rfl⟩
    have F3 : KF w3 k { K with out := fun x => if x = 2 then K.out x ++ c.s else K.out x } L := by
      rw [hw3]
      exact F1d.ker ((Fr.refl (fun b => b = k) w1.drew).setCell (p := ⟨k, 11, none⟩) (.inl rfl) _) (by rw [blk_set F1d.hk]; rfl) rfl
    have A3 : AskAt w3 a k (L.qb i) c { noResV with err := 0 } := by rw [hw3]; exact blk_set_other A1d _ _ (Ne.symm hak)
    have a53 : w3.cell? ⟨a, 5, none⟩ = some (.string c.s) := by rw [blk_cell A3]; rfl
    have a83 : w3.cell? ⟨a, 8, none⟩ = some (.int .i64 0) := by rw [blk_cell A3]; rfl
    have z83 : w3.frozen? ⟨a, 8, none⟩ = false := blk_frozen A3 _
    have A4 := ask_n A3 c.s.size
    have e4 : (w3.setCell ⟨a, 8, none⟩ (.int .i64 c.s.size)).cell? ⟨a, 17, none⟩ = some (.int .i64 0) := by rw [blk_cell A4]; rfl
    have F4 := F3.ask hao 8 (.int .i64 c.s.size)
    have hfr3 : Fr (fun b => L.o b ≠ none ∨ b = a) w w3 := by rw [hw3]; exact hfr1.drew.setCell (p := ⟨k, 11, none⟩) (.inl (.inl (by rw [h.ok]; simp))) _
    have hfin := hide (show KaskPost w k K L i a c (false, { noRes with n := c.s.size }, { K with out := fun x => if x = 2 then K.out x ++ c.s else K.out x }) (.returned (.bool false)) (w3.setCell ⟨a, 8, none⟩ (.int .i64 c.s.size)) from ⟨rfl, L, F4, ⟨rfl, Nat.le_refl _, Nat.le_refl _, Nat.le_refl _, fun _ _ _ => rfl, fun _ _ _ => rfl, fun _ _ _ => rfl, fun _ _ _ => rfl, fun _ _ e => e⟩, hfr3.trans (fr_ask (L := L) w3 a 8 _), fun _ e => .inl e, _, A4, fun _ => rfl⟩)
    have Hw3 := hide hw3
    clear h ha hq A1 F1 hfr1 hD1 hdo hok A1d F1d F3 A3 A4 F4 hfr3 hw3 hak hf hn
    unfold ptrAt at *
    go_enter Tryz.func23, Tryz.ntmps23
    go_wp2_with fail
    refine hds.out.mono ?_
    rintro e w2 ⟨rfl, rfl⟩
    go_wp2_with fail
    refine hrd.out.mono ?_
    rintro e w2 ⟨rfl, rfl⟩
    go_upto_region 12 with (fail)
    refine region_tree (fun w' => w'.cell? ⟨a, 0, none⟩ = some (.pointer (some ⟨k, 0, none⟩)) ∧ w'.cell? ⟨a, 5, none⟩ = some (.string c.s) ∧ w'.heap[k]? = some (.cells (kerC L K) 56 (0, 0)) ∧ w'.cell? ⟨L.db j, 1, none⟩ = some (.int .i64 2)) [0, 1, 2, 3, 4, 5, 6, 7, 8, 9, 10, 11, 12, 13, 14, 15, 16, 17, 18, 19, 20] 0 21 (by kernel_rfl) (by kernel_rfl) (fun _ _ d _ _ h => by cases d <;> exact h) s1 ?_
    simp only [List.map_cons, List.map_nil, List.getD_cons_zero, List.getD_cons_succ, List.drop_succ_cons, List.drop_zero]
    generalize w2.drew = wd at *
    go_big_quiet_step (fail)
    refine wpQuiet_val (.pointer (some ⟨a, 0, none⟩)) rfl (fun w' hS => by (go_simp)) ?_
    simp only [Act.put, List.setIfInBounds_toArray, List.set_cons_succ, List.set_cons_zero]
    refine wpQuiet_val (.pointer (some ⟨a, 0, none⟩)) rfl (fun w' hS => by (go_simp)) ?_
    simp only [Act.put, List.setIfInBounds_toArray, List.set_cons_succ, List.set_cons_zero]
    refine wpQuiet_val (.pointer (some ⟨k, 0, none⟩)) rfl (fun w' hS => by
        have e : w'.cell? ⟨a, 0, none⟩ = some (.pointer (some ⟨k, 0, none⟩)) := hS.1
        go_simp) ?_
    simp only [Act.put, List.setIfInBounds_toArray, List.set_cons_succ, List.set_cons_zero]
    go_big_quiet_step (fail)
    refine wpQuiet_val (.pointer (some ⟨L.db j, 0, none⟩)) rfl (fun w' hS => by (go_simp)) ?_
    simp only [Act.put, List.setIfInBounds_toArray, List.set_cons_succ, List.set_cons_zero]
    refine wpQuiet_val (.pointer (some ⟨L.db j, 0, none⟩)) rfl (fun w' hS => by (go_simp)) ?_
    simp only [Act.put, List.setIfInBounds_toArray, List.set_cons_succ, List.set_cons_zero]
    refine wpQuiet_val (.pointer (some ⟨L.db j, 1, none⟩)) rfl (fun w' hS => by (go_simp)) ?_
    simp only [Act.put, List.setIfInBounds_toArray, List.set_cons_succ, List.set_cons_zero]
    refine wpQuiet_val (.int .i64 2) rfl (fun w' hS => by
        have e : w'.cell? ⟨L.db j, 1, none⟩ = some (.int .i64 2) := hS.2.2.2
        go_simp) ?_
    simp only [Act.put, List.setIfInBounds_toArray, List.set_cons_succ, List.set_cons_zero]
    refine wpQuiet_val (.pointer (some ⟨k, 0, none⟩)) rfl (fun w' hS => by (go_simp)) ?_
    simp only [Act.put, List.setIfInBounds_toArray, List.set_cons_succ, List.set_cons_zero]
    refine wpQuiet_val (.pointer (some ⟨k, 9, none⟩)) rfl (fun w' hS => by (go_simp)) ?_
    simp only [Act.put, List.setIfInBounds_toArray, List.set_cons_succ, List.set_cons_zero]
    refine wpQuiet_val (.pointer (some ⟨k, 11, none⟩)) rfl (fun w' hS => by (go_simp)) ?_
    simp only [Act.put, List.setIfInBounds_toArray, List.set_cons_succ, List.set_cons_zero]
    refine wpQuiet_val (.string (K.out 2)) rfl (fun w' hS => by
        have e : w'.cell? ⟨k, 11, none⟩ = some (.string (K.out 2)) := by rw [blk_cell (hS.2.2.1)]; rfl
        go_simp) ?_
    simp only [Act.put, List.setIfInBounds_toArray, List.set_cons_succ, List.set_cons_zero]
    go_big_quiet_step (fail)
    refine wpQuiet_val (.pointer (some ⟨a, 0, none⟩)) rfl (fun w' hS => by (go_simp)) ?_
    simp only [Act.put, List.setIfInBounds_toArray, List.set_cons_succ, List.set_cons_zero]
    refine wpQuiet_val (.pointer (some ⟨a, 2, none⟩)) rfl (fun w' hS => by (go_simp)) ?_
    simp only [Act.put, List.setIfInBounds_toArray, List.set_cons_succ, List.set_cons_zero]
    refine wpQuiet_val (.pointer (some ⟨a, 5, none⟩)) rfl (fun w' hS => by (go_simp)) ?_
    simp only [Act.put, List.setIfInBounds_toArray, List.set_cons_succ, List.set_cons_zero]
    refine wpQuiet_val (.string c.s) rfl (fun w' hS => by
        have e : w'.cell? ⟨a, 5, none⟩ = some (.string c.s) := hS.2.1
        go_simp) ?_
    simp only [Act.put, List.setIfInBounds_toArray, List.set_cons_succ, List.set_cons_zero]
    refine wpQuiet_val (.string (K.out 2 ++ c.s)) rfl (fun w' hS => by (go_simp)) ?_
    simp only [Act.put, List.setIfInBounds_toArray, List.set_cons_succ, List.set_cons_zero]
    refine wpQuiet_val (.pointer (some ⟨k, 0, none⟩)) rfl (fun w' hS => by (go_simp)) ?_
    simp only [Act.put, List.setIfInBounds_toArray, List.set_cons_succ, List.set_cons_zero]
    refine wpQuiet_val (.pointer (some ⟨k, 9, none⟩)) rfl (fun w' hS => by (go_simp)) ?_
    simp only [Act.put, List.setIfInBounds_toArray, List.set_cons_succ, List.set_cons_zero]
    refine wpQuiet_nil ?_
    refine tree_end (by kernel_rfl) ?_
    try (simp only [List.map_cons, List.map_nil, List.getD_cons_zero, List.getD_cons_succ, List.drop_succ_cons, List.drop_zero])
    go_upto_region 13 with (fail)
    rw [← Hw3.out]
    clear Hw3 t2 z2 s1
    go_wp2_with fail
    go_ret
    exact hfin.out
set_option maxRecDepth 100000 in
set_option maxHeartbeats 1000000 in
theorem awrite_fil (w : World) (k : Nat) (K : KQ) (L : KLay) (h : KF w k K L) (N : Nat) (hok : KOk K N) (_hN : N ≤ 1000000) (i : Nat) (h1 : 1 ≤ i) (h2 : i ≤ K.qn) (a : Nat) (c : SysQ) (hs : c.s.size ≤ 9223372036854775807) (ha : AskAt w a k (L.qb i) c noResV) (hao : L.o a = none) (j : Nat) (hf : fdQ K i c.a = some j) (hr : (K.desc j).writes = true) (hk : (K.desc j).kind = 2) (hap : appends (K.desc j) = false) : Calls Tryz.prog 23 #[ptrAt a] w (KaskPost w k K L i a c (writeQ K i c.a c.s)) := by
  obtain ⟨j1, j2⟩ := fdQ_ok hok.fds h1 h2 hf
  have hdo := hok.desc j j1 j2
  have c3 : w.cell? ⟨a, 3, none⟩ = some (.int .i64 c.a) := by rw [blk_cell ha]; rfl
  have hds := hide (adesc_any w k K L h i h1 h2 a c noResV ha c.a)
  rw [hf] at hds
  have A1 := ask_err ha 0
  have F1 := h.ask hao 17 (.int .i64 0)
  have hfr1 := fr_ask (L := L) w a 17 (.int .i64 0)
  obtain ⟨w1, hw1⟩ : ∃ w1, w1 = w.setCell ⟨a, 17, none⟩ (.int .i64 0) := ⟨_, rfl⟩
  have hds' : Calls Tryz.prog 43 #[ptrAt a, .int .i64 c.a] w fun e w' => e = .returned (.pointer (some ⟨L.db j, 0, none⟩)) ∧ w' = w1 := by rw [hw1]; exact hds.out
  have hds := hide hds'
  rw [← hw1] at A1 F1 hfr1
  have hD1 := F1.hd j j1 j2
  have hrd := hide (dwrites_any w1 (L.db j) L j (K.desc j) hD1 hdo.kind hdo.flg)
  have a0 : w1.cell? ⟨a, 0, none⟩ = some (.pointer (some ⟨k, 0, none⟩)) := by rw [blk_cell A1]; rfl
  have a5 : w1.cell? ⟨a, 5, none⟩ = some (.string c.s) := by rw [blk_cell A1]; rfl
  have a17 : w1.cell? ⟨a, 17, none⟩ = some (.int .i64 0) := by rw [blk_cell A1]; rfl
  have z17 : w1.frozen? ⟨a, 17, none⟩ = false := blk_frozen A1 _
  have d0 : w1.cell? ⟨L.db j, 0, none⟩ = some (.int .i64 (K.desc j).kind) := by rw [blk_cell hD1]; rfl
  clear hw1 hds'
  rw [hr] at hrd
  have hq : writeQ K i c.a c.s = (false, { noRes with n := (writeR K.σ (K.desc j).n (K.desc j).pos c.s.data.toList).1, err := (writeR K.σ (K.desc j).n (K.desc j).pos c.s.data.toList).2.1 },
      ({ K with σ := (writeR K.σ (K.desc j).n (K.desc j).pos c.s.data.toList).2.2 }).setD j { K.desc j with pos := if (writeR K.σ (K.desc j).n (K.desc j).pos c.s.data.toList).2.1 = 0 then ((K.desc j).pos + (writeR K.σ (K.desc j).n (K.desc j).pos c.s.data.toList).1).toNat else (K.desc j).pos }) := by
    have e : atQ K (K.desc j) = (K.desc j).pos := by unfold atQ; rw [if_neg (by rw [hap]; simp)]
    unfold writeQ
    rw [hf]
    simp only
    rw [if_neg (by rw [hr]; simp), if_neg (by rw [hk]; decide), if_pos hk, e]
  rw [hq]
  have hnum := hdo.num
  have hpos := hdo.pos (by rw [hk]; decide)
  have F1d : KF w1.drew k K L := F1.quiet (Fr.refl _ _).drew
  obtain ⟨pf, hpf⟩ := F1d.files
  have A1d : AskAt w1.drew a k (L.qb i) c { noResV with err := 0 } := A1
  have hwr := Write_any w1.drew L.f K.σ _ pf hpf (K.desc j).n (K.desc j).pos c.s (by omega) (by omega) hs
  have hn0 := writeR_n K.σ (K.desc j).n (K.desc j).pos c.s.data.toList
  obtain ⟨wn, hwn⟩ : ∃ wn, wn = (writeR K.σ (K.desc j).n (K.desc j).pos c.s.data.toList).1 := ⟨_, rfl⟩
  obtain ⟨we, hwe⟩ : ∃ we, we = (writeR K.σ (K.desc j).n (K.desc j).pos c.s.data.toList).2.1 := ⟨_, rfl⟩
  obtain ⟨σ3, hσ3⟩ : ∃ σ3, σ3 = (writeR K.σ (K.desc j).n (K.desc j).pos c.s.data.toList).2.2 := ⟨_, rfl⟩
  rw [← hwn, ← hwe, ← hσ3] at hwr
  rw [← hwn, ← hwe, ← hσ3]
  rw [← hwn, ← hwe] at hn0
  obtain ⟨ps, hps⟩ : ∃ ps, ps = (if we = 0 then ((K.desc j).pos + wn).toNat else (K.desc j).pos) := ⟨_, rfl⟩
  rw [← hps]
  have Hps := hide hps
  clear hps
  have hlt : a < w1.drew.heap.size := blk_lt A1d
  have Hna := hide (show ¬ L.S tFil w1.drew a from fun e => by
    rcases e with e | e
    · rw [hao] at e; cases e
    · omega)
  have hgn := hide (show ∀ w3, (L.grow tFil w1.drew w3).o a = none from fun w3 => by
    show (if w1.drew.heap.size ≤ a ∧ a < w3.heap.size then some tFil else L.o a) = none
    rw [if_neg (by omega), hao])
  have hak : k ≠ a := ask_ne hao h.ok
  have hda : L.db j ≠ a := ask_ne hao (h.od j j1 j2)
  have d2 : w1.cell? ⟨L.db j, 2, none⟩ = some (.int .i64 (K.desc j).pos) := by rw [blk_cell hD1]; rfl
  have d4 : w1.cell? ⟨L.db j, 4, none⟩ = some (.int .i64 (K.desc j).flags) := by rw [blk_cell hD1]; rfl
  have hb32 : bits .and .i64 ((K.desc j).flags : Int) 32 = 0 := by
    have := and_fact32 ⟨(K.desc j).flags, hdo.flg⟩
    unfold appends at hap
    rw [show ((K.desc j).flags / 32 % 2 * 32) = 0 by have := of_decide_eq_false hap; omega] at this
    exact this
  have s1 : w1.drew.cell? ⟨a, 0, none⟩ = some (.pointer (some ⟨k, 0, none⟩)) ∧ w1.drew.cell? ⟨a, 5, none⟩ = some (.string c.s) ∧ w1.drew.cell? ⟨k, 0, none⟩ = some (.pointer (some ⟨L.f, 0, none⟩)) ∧ w1.drew.cell? ⟨L.db j, 1, none⟩ = some (.int .i64 (K.desc j).n) := ⟨a0, a5, by rw [blk_cell F1d.hk]; rfl, by rw [blk_cell (F1d.hd j j1 j2)]; rfl⟩
  have Hfr1 := hide (show Fr (fun b => L.o b ≠ none ∨ b = a) w w1.drew from hfr1.drew)
  have Hold := hide (show L.o (L.db j) = some (tDsc j) from h.od j j1 j2)
  have HF1 := hide F1d
  have HA1 := hide A1d
  have hwr := hide hwr
  rw [hk] at d0
  have hov : ¬ (9223372036854775807 < ((K.desc j).pos : Int) + wn) := by omega
  have hov2 : ¬ (((K.desc j).pos : Int) + wn < -9223372036854775808) := by omega
  have Hn0 := hide hn0
  clear h ha hq A1 F1 hfr1 hD1 hdo hok A1d F1d hpf hnum hpos hf a17 z17 hwn hwe hσ3 hlt hap hn0 hk
  unfold ptrAt at *
  go_enter Tryz.func23, Tryz.ntmps23
  go_wp2_with fail
  refine hds.out.mono ?_
  rintro e w2 ⟨rfl, rfl⟩
  go_wp2_with fail
  refine hrd.out.mono ?_
  rintro e w2 ⟨rfl, rfl⟩
  go_upto_region 19 with (fail)
  refine region_tree (fun w' => w'.cell? ⟨a, 0, none⟩ = some (.pointer (some ⟨k, 0, none⟩)) ∧ w'.cell? ⟨a, 5, none⟩ = some (.string c.s) ∧ w'.cell? ⟨k, 0, none⟩ = some (.pointer (some ⟨L.f, 0, none⟩)) ∧ w'.cell? ⟨L.db j, 1, none⟩ = some (.int .i64 (K.desc j).n)) [0, 1, 2, 3, 4, 5, 6, 7, 8, 9, 10, 11, 12, 13, 14, 15, 16, 17, 18, 19] 8 28 (by kernel_rfl) (by kernel_rfl) (fun _ _ d _ _ h => by cases d <;> exact h) s1 ?_
  simp only [List.map_cons, List.map_nil, List.getD_cons_zero, List.getD_cons_succ, List.drop_succ_cons, List.drop_zero]
  generalize w2.drew = wd at *
  go_big_quiet_step (fail)
  go_big_quiet_step (fail)
  go_big_quiet_step (fail)
  refine wpQuiet_val (.pointer (some ⟨a, 0, none⟩)) rfl (fun w' hS => by (go_simp)) ?_
  simp only [Act.put, List.setIfInBounds_toArray, List.set_cons_succ, List.set_cons_zero]
  refine wpQuiet_val (.pointer (some ⟨a, 0, none⟩)) rfl (fun w' hS => by (go_simp)) ?_
  simp only [Act.put, List.setIfInBounds_toArray, List.set_cons_succ, List.set_cons_zero]
  refine wpQuiet_val (.pointer (some ⟨k, 0, none⟩)) rfl (fun w' hS => by
      have e : w'.cell? ⟨a, 0, none⟩ = some (.pointer (some ⟨k, 0, none⟩)) := hS.1
      go_simp) ?_
  simp only [Act.put, List.setIfInBounds_toArray, List.set_cons_succ, List.set_cons_zero]
  refine wpQuiet_val (.pointer (some ⟨k, 0, none⟩)) rfl (fun w' hS => by (go_simp)) ?_
  simp only [Act.put, List.setIfInBounds_toArray, List.set_cons_succ, List.set_cons_zero]
  refine wpQuiet_val (.pointer (some ⟨k, 0, none⟩)) rfl (fun w' hS => by (go_simp)) ?_
  simp only [Act.put, List.setIfInBounds_toArray, List.set_cons_succ, List.set_cons_zero]
  refine wpQuiet_val (.pointer (some ⟨L.f, 0, none⟩)) rfl (fun w' hS => by
      have e : w'.cell? ⟨k, 0, none⟩ = some (.pointer (some ⟨L.f, 0, none⟩)) := hS.2.2.1
      go_simp) ?_
  simp only [Act.put, List.setIfInBounds_toArray, List.set_cons_succ, List.set_cons_zero]
  go_big_quiet_step (fail)
  refine wpQuiet_val (.pointer (some ⟨L.db j, 0, none⟩)) rfl (fun w' hS => by (go_simp)) ?_
  simp only [Act.put, List.setIfInBounds_toArray, List.set_cons_succ, List.set_cons_zero]
  refine wpQuiet_val (.pointer (some ⟨L.db j, 0, none⟩)) rfl (fun w' hS => by (go_simp)) ?_
  simp only [Act.put, List.setIfInBounds_toArray, List.set_cons_succ, List.set_cons_zero]
  refine wpQuiet_val (.pointer (some ⟨L.db j, 1, none⟩)) rfl (fun w' hS => by (go_simp)) ?_
  simp only [Act.put, List.setIfInBounds_toArray, List.set_cons_succ, List.set_cons_zero]
  refine wpQuiet_val (.int .i64 (K.desc j).n) rfl (fun w' hS => by
      have e : w'.cell? ⟨L.db j, 1, none⟩ = some (.int .i64 (K.desc j).n) := hS.2.2.2
      go_simp) ?_
  simp only [Act.put, List.setIfInBounds_toArray, List.set_cons_succ, List.set_cons_zero]
  go_big_quiet_step (fail)
  go_big_quiet_step (fail)
  refine wpQuiet_val (.pointer (some ⟨a, 0, none⟩)) rfl (fun w' hS => by (go_simp)) ?_
  simp only [Act.put, List.setIfInBounds_toArray, List.set_cons_succ, List.set_cons_zero]
  refine wpQuiet_val (.pointer (some ⟨a, 2, none⟩)) rfl (fun w' hS => by (go_simp)) ?_
  simp only [Act.put, List.setIfInBounds_toArray, List.set_cons_succ, List.set_cons_zero]
  refine wpQuiet_val (.pointer (some ⟨a, 5, none⟩)) rfl (fun w' hS => by (go_simp)) ?_
  simp only [Act.put, List.setIfInBounds_toArray, List.set_cons_succ, List.set_cons_zero]
  refine wpQuiet_val (.string c.s) rfl (fun w' hS => by
      have e : w'.cell? ⟨a, 5, none⟩ = some (.string c.s) := hS.2.1
      go_simp) ?_
  simp only [Act.put, List.setIfInBounds_toArray, List.set_cons_succ, List.set_cons_zero]
  refine wpQuiet_nil ?_
  refine tree_one' 20 (by kernel_rfl) (by decide) (by simp) rfl (fun Kc hK => ?_)
  simp only [List.getD_cons_zero, List.getD_cons_succ]
  go_wp2_with fail
  refine hwr.out.mono ?_
  rintro e w3 hp
  obtain ⟨rfl, hA3, hf3⟩ := hp
  have F3 := HF1.out.filesU hf3 hA3
  have A3 : AskAt w3 a k (L.qb i) c { noResV with err := 0 } := hf3.get HA1.out Hna.out
  have hq3 := F3.hd j j1 j2
  have hq3 : w3.heap[L.db j]? = some (.cells (descC L j (K.desc j)) 72 (0, 0)) := hq3
  have s3 : w3.cell? ⟨a, 0, none⟩ = some (.pointer (some ⟨k, 0, none⟩)) ∧ w3.cell? ⟨a, 5, none⟩ = some (.string c.s) ∧ w3.cell? ⟨k, 0, none⟩ = some (.pointer (some ⟨L.f, 0, none⟩)) ∧ w3.cell? ⟨L.db j, 1, none⟩ = some (.int .i64 (K.desc j).n) := ⟨by rw [blk_cell A3]; rfl, by rw [blk_cell A3]; rfl, by rw [blk_cell F3.hk]; rfl, by rw [blk_cell hq3]; rfl⟩
  have HF3 := hide F3
  have HA3 := hide A3
  have Hf3 := hide hf3
  refine hK _ _ s3 ?_
  clear hK Kc hf3 hA3 F3 A3 hq3
  refine tree_heads (f := 1) [21, 22, 23, 24, 25, 26] (by kernel_rfl) (fun _ _ d _ _ h => by cases d <;> exact h) s3 ?_
  simp only [List.map_cons, List.map_nil, List.getD_cons_zero, List.getD_cons_succ]
  go_big_quiet_step (fail)
  refine wpQuiet_val (.int .i64 wn) rfl (fun w' hS => by (go_simp)) ?_
  simp only [Act.put, List.setIfInBounds_toArray, List.set_cons_succ, List.set_cons_zero]
  refine wpQuiet_val (.int .i64 we) rfl (fun w' hS => by (go_simp)) ?_
  simp only [Act.put, List.setIfInBounds_toArray, List.set_cons_succ, List.set_cons_zero]
  refine wpQuiet_val (.pointer (some ⟨a, 0, none⟩)) rfl (fun w' hS => by (go_simp)) ?_
  simp only [Act.put, List.setIfInBounds_toArray, List.set_cons_succ, List.set_cons_zero]
  refine wpQuiet_val (.pointer (some ⟨a, 8, none⟩)) rfl (fun w' hS => by (go_simp)) ?_
  simp only [Act.put, List.setIfInBounds_toArray, List.set_cons_succ, List.set_cons_zero]
  refine wpQuiet_val (.pointer (some ⟨a, 8, none⟩)) rfl (fun w' hS => by (go_simp)) ?_
  simp only [Act.put, List.setIfInBounds_toArray, List.set_cons_succ, List.set_cons_zero]
  refine wpQuiet_nil ?_
  refine tree_one' 27 (by kernel_rfl) (by decide) (by simp) rfl (fun Kc hK => ?_)
  simp only [List.getD_cons_zero, List.getD_cons_succ]
  have t8 : w3.cell? ⟨a, 8, none⟩ = some (.int .i64 0) := by rw [blk_cell HA3.out]; rfl
  have z8 : w3.frozen? ⟨a, 8, none⟩ = false := blk_frozen HA3.out _
  go_wp2_with fail
  obtain ⟨w4, hw4⟩ : ∃ w4, w4 = w3.setCell ⟨a, 8, none⟩ (.int .i64 wn) := ⟨_, rfl⟩
  rw [← hw4]
  have F4 : KF w4 k { K with σ := σ3 } (L.grow tFil wd w3) := by rw [hw4]; exact HF3.out.ask (hgn.out w3) 8 _
  have A4 : AskAt w4 a k (L.qb i) c { noResV with err := 0, n := wn } := by rw [hw4]; exact ask_n HA3.out wn
  have hq4 : w4.heap[L.db j]? = some (.cells (descC L j (K.desc j)) 72 (0, 0)) := F4.hd j j1 j2
  have s4 : w4.cell? ⟨a, 0, none⟩ = some (.pointer (some ⟨k, 0, none⟩)) ∧ w4.cell? ⟨a, 5, none⟩ = some (.string c.s) ∧ w4.cell? ⟨k, 0, none⟩ = some (.pointer (some ⟨L.f, 0, none⟩)) ∧ w4.cell? ⟨L.db j, 1, none⟩ = some (.int .i64 (K.desc j).n) := ⟨by rw [blk_cell A4]; rfl, by rw [blk_cell A4]; rfl, by rw [blk_cell F4.hk]; rfl, by rw [blk_cell hq4]; rfl⟩
  have HF4 := hide F4
  have HA4 := hide A4
  have Hw4 := hide hw4
  refine hK _ _ s4 ?_
  clear hK Kc hw4 t8 z8 s3 F4 A4 hq4
  refine tree_end (by kernel_rfl) ?_
  try (simp only [List.map_cons, List.map_nil, List.getD_cons_zero, List.getD_cons_succ, List.drop_succ_cons, List.drop_zero])
  have A4 := HA4.out
  have F4 := HF4.out
  have t17 : w4.cell? ⟨a, 17, none⟩ = some (.int .i64 0) := by rw [blk_cell A4]; rfl
  have z17 : w4.frozen? ⟨a, 17, none⟩ = false := blk_frozen A4 _
  obtain ⟨w5, hw5⟩ : ∃ w5, w5 = w4.setCell ⟨a, 17, none⟩ (.int .i64 we) := ⟨_, rfl⟩
  have A5 : AskAt w5 a k (L.qb i) c { noResV with err := we, n := wn } := by rw [hw5]; exact ask_err A4 we
  have F5 : KF w5 k { K with σ := σ3 } (L.grow tFil wd w3) := by rw [hw5]; exact F4.ask (hgn.out w3) 17 _
  have e17 : w5.cell? ⟨a, 17, none⟩ = some (.int .i64 we) := by rw [blk_cell A5]; rfl
  have e8 : w5.cell? ⟨a, 8, none⟩ = some (.int .i64 wn) := by rw [blk_cell A5]; rfl
  have hD5 : w5.heap[L.db j]? = some (.cells (descC L j (K.desc j)) 72 (0, 0)) := F5.hd j j1 j2
  have t2 : w5.cell? ⟨L.db j, 2, none⟩ = some (.int .i64 (K.desc j).pos) := by rw [blk_cell hD5]; rfl
  have z2 : w5.frozen? ⟨L.db j, 2, none⟩ = false := blk_frozen hD5 _
  have hext : LExt K { K with σ := σ3 } L (L.grow tFil wd w3) := grow_ext HF1.out Hf3.out.size (Nat.le_refl _) (Nat.le_refl _) (Nat.le_refl _)
  have hfr5 : Fr (fun b => L.o b ≠ none ∨ b = a) w w5 := by
    rw [hw5, Hw4.out]
    refine ((Hfr1.out.trans' Hf3.out fun b hb e => ?_).trans (fr_ask (L := L) w3 a 8 _)).trans (fr_ask (L := L) _ a 17 _)
    rcases e with e | e
    · exact .inl (by rw [e]; simp)
    · have := Hfr1.out.size; omega
  have hnew : ∀ b, (L.grow tFil wd w3).o b ≠ none → L.o b ≠ none ∨ w.heap.size ≤ b := fun b e => (grow_new e).imp id fun e => Nat.le_trans Hfr1.out.size e
  have Hw5 := hide hw5
  by_cases h0 : we = 0
  · have hD6 : (w5.setCell ⟨L.db j, 2, none⟩ (.int .i64 ((K.desc j).pos + wn))).heap[L.db j]? = some (.cells (descC L j { K.desc j with pos := ((K.desc j).pos + wn).toNat }) 72 (0, 0)) := by
      rw [blk_set hD5]
      have hn := Hn0.out
      have : ((((K.desc j).pos + wn).toNat : Nat) : Int) = (K.desc j).pos + wn := by omega
      unfold descC
      rw [this]
      rfl
    have F6 := F5.descU j1 j2 ((Fr.refl (fun b => b = L.db j) w5).setCell (p := ⟨L.db j, 2, none⟩) (.inl rfl) (.int .i64 ((K.desc j).pos + wn))) hD6 rfl
    have A6 : AskAt (w5.setCell ⟨L.db j, 2, none⟩ (.int .i64 ((K.desc j).pos + wn))) a k (L.qb i) c { noResV with err := we, n := wn } := blk_set_other A5 _ _ (Ne.symm hda)
    have e6 : (w5.setCell ⟨L.db j, 2, none⟩ (.int .i64 ((K.desc j).pos + wn))).cell? ⟨a, 17, none⟩ = some (.int .i64 we) := by rw [blk_cell A6]; rfl
    have hfin := hide (show KaskPost w k K L i a c (false, { noRes with n := wn, err := we }, ({ K with σ := σ3 }).setD j { K.desc j with pos := ps }) (.returned (.bool false)) (w5.setCell ⟨L.db j, 2, none⟩ (.int .i64 ((K.desc j).pos + wn))) from by
      rw [show ps = ((K.desc j).pos + wn).toNat by rw [Hps.out, if_pos h0]]
      exact ⟨rfl, _, F6, ⟨hext.f, hext.pn, hext.dn, hext.qn, hext.pb, hext.db, hext.qb, hext.tb, hext.own⟩, hfr5.setCell (p := ⟨L.db j, 2, none⟩) (.inl (.inl (by rw [Hold.out]; simp))) _, hnew, _, A6, fun _ => rfl⟩)
    clear A4 F4 A5 F5 hD5 hext hfr5 hnew hD6 F6 A6 hw5 HF3 HA3 HF4 HA4 Hw4 Hf3 s4 hgn Hna HF1 HA1 Hfr1
    subst h0
    clear Hps
    go_upto_region 20 with (fail)
    rw [← Hw5.out]
    clear Hw5 t17 z17
    go_wp2_with fail
    go_ret
    exact hfin.out
  · have e11 : (we == 11) = false := by
      have := Hn0.out
      simp
      omega
    have e0 : (we == 0) = false := by simp [h0]
    have F6 : KF w5 k (({ K with σ := σ3 } : KQ).setD j { K.desc j with pos := (K.desc j).pos }) (L.grow tFil wd w3) := by
      have e : ({ K with σ := σ3 } : KQ).setD j { K.desc j with pos := (K.desc j).pos } = { K with σ := σ3 } := by
        unfold KQ.setD
        have : (fun x => if x = j then K.desc j else K.desc x) = K.desc := by
          funext x
          by_cases e : x = j
          · rw [if_pos e, e]
          · rw [if_neg e]
        show ({ K with σ := σ3, desc := fun x => if x = j then K.desc j else K.desc x } : KQ) = _
        rw [this]
      rw [e]
      exact F5
    have hfin := hide (show KaskPost w k K L i a c (false, { noRes with n := wn, err := we }, ({ K with σ := σ3 }).setD j { K.desc j with pos := ps }) (.returned (.bool false)) w5 from by
      rw [show ps = (K.desc j).pos by rw [Hps.out, if_neg h0]]
      exact ⟨rfl, _, F6, ⟨hext.f, hext.pn, hext.dn, hext.qn, hext.pb, hext.db, hext.qb, hext.tb, hext.own⟩, hfr5, hnew, _, A5, fun _ => rfl⟩)
    clear A4 F4 A5 F5 hD5 hext hfr5 hnew F6 hw5 HF3 HA3 HF4 HA4 Hw4 Hf3 s4 hgn Hna HF1 HA1 Hfr1
    go_upto_region 20 with (fail)
    rw [← Hw5.out]
    clear Hw5 t17 z17
    go_wp2_with fail
    go_ret
    exact hfin.out
set_option maxRecDepth 100000 in
set_option maxHeartbeats 1000000 in
theorem awrite_pip (w : World) (k : Nat) (K : KQ) (L : KLay) (h : KF w k K L) (N : Nat) (hok : KOk K N) (_hN : N ≤ 1000000) (i : Nat) (h1 : 1 ≤ i) (h2 : i ≤ K.qn) (a : Nat) (c : SysQ) (hs : c.s.size ≤ 9223372036854775807) (ha : AskAt w a k (L.qb i) c noResV) (hao : L.o a = none) (j : Nat) (hf : fdQ K i c.a = some j) (hr : (K.desc j).writes = true) (hk : (K.desc j).kind = 4) (hr0 : (K.pipe (K.desc j).n).r ≠ 0) : Calls Tryz.prog 23 #[ptrAt a] w (KaskPost w k K L i a c (writeQ K i c.a c.s)) := by
  obtain ⟨j1, j2⟩ := fdQ_ok hok.fds h1 h2 hf
  have hdo := hok.desc j j1 j2
  have c3 : w.cell? ⟨a, 3, none⟩ = some (.int .i64 c.a) := by rw [blk_cell ha]; rfl
  have hds := hide (adesc_any w k K L h i h1 h2 a c noResV ha c.a)
  rw [hf] at hds
  have A1 := ask_err ha 0
  have F1 := h.ask hao 17 (.int .i64 0)
  have hfr1 := fr_ask (L := L) w a 17 (.int .i64 0)
  obtain ⟨w1, hw1⟩ : ∃ w1, w1 = w.setCell ⟨a, 17, none⟩ (.int .i64 0) := ⟨_, rfl⟩
  have hds' : Calls Tryz.prog 43 #[ptrAt a, .int .i64 c.a] w fun e w' => e = .returned (.pointer (some ⟨L.db j, 0, none⟩)) ∧ w' = w1 := by rw [hw1]; exact hds.out
  have hds := hide hds'
  rw [← hw1] at A1 F1 hfr1
  have hD1 := F1.hd j j1 j2
  have hrd := hide (dwrites_any w1 (L.db j) L j (K.desc j) hD1 hdo.kind hdo.flg)
  have a0 : w1.cell? ⟨a, 0, none⟩ = some (.pointer (some ⟨k, 0, none⟩)) := by rw [blk_cell A1]; rfl
  have a5 : w1.cell? ⟨a, 5, none⟩ = some (.string c.s) := by rw [blk_cell A1]; rfl
  have a17 : w1.cell? ⟨a, 17, none⟩ = some (.int .i64 0) := by rw [blk_cell A1]; rfl
  have z17 : w1.frozen? ⟨a, 17, none⟩ = false := blk_frozen A1 _
  have d0 : w1.cell? ⟨L.db j, 0, none⟩ = some (.int .i64 (K.desc j).kind) := by rw [blk_cell hD1]; rfl
  clear hw1 hds'
  rw [hr] at hrd
  obtain ⟨p1, p2⟩ := hdo.pip (.inr hk)
  have F1d : KF w1.drew k K L := F1.quiet (Fr.refl _ _).drew
  have A1d : AskAt w1.drew a k (L.qb i) c { noResV with err := 0 } := A1
  obtain ⟨fm, cs, hP⟩ := F1d.hp _ p1 p2
  have hwr := pwrite_any (L.pb (K.desc j).n) (L.lb (K.desc j).n) 64 _ _ _ w1.drew ⟨fm, cs, hP⟩ c.s hs
  unfold WritePost at hwr
  have hpa : L.pb (K.desc j).n ≠ a := ask_ne hao (h.op _ p1 p2).1
  have hla : L.lb (K.desc j).n ≠ a := ask_ne hao (h.op _ p1 p2).2
  have hpv := hide (show (descC L j (K.desc j))[5]? = some (.pointer (some ⟨L.pb (K.desc j).n, 0, none⟩)) by
    show some (pipeV L (K.desc j)) = _
    unfold pipeV
    rw [if_pos (.inr hk)]
    rfl)
  have s1 : w1.drew.cell? ⟨a, 0, none⟩ = some (.pointer (some ⟨k, 0, none⟩)) ∧ w1.drew.cell? ⟨a, 5, none⟩ = some (.string c.s) ∧ w1.drew.cell? ⟨L.db j, 5, none⟩ = some (.pointer (some ⟨L.pb (K.desc j).n, 0, none⟩)) := ⟨a0, a5, by rw [blk_cell (F1d.hd j j1 j2)]; exact hpv.out⟩
  rw [hk] at d0
  by_cases hw : c.s.data.toList ≠ [] ∧ (K.pipe (K.desc j).n).data.length = 64
  · have hq : writeQ K i c.a c.s = (true, noRes, K) := by
      unfold writeQ
      rw [hf]
      simp only
      rw [if_neg (by rw [hr]; simp), if_neg (by rw [hk]; decide), if_neg (by rw [hk]; decide), if_neg hr0, if_pos hw]
    rw [hq]
    have hre : wrE 64 (K.pipe (K.desc j).n).data (K.pipe (K.desc j).n).r c.s.data.toList = 11 := by unfold wrE; rw [if_neg hr0, if_pos hw]
    have hrn : wrN 64 (K.pipe (K.desc j).n).data (K.pipe (K.desc j).n).r c.s.data.toList = 0 := by
      unfold wrN
      rw [if_neg hr0, hw.2]; simp
    rw [hre, hrn] at hwr
    obtain ⟨wn, hwn⟩ : ∃ wn : Int, wn = ((0 : Nat) : Int) := ⟨_, rfl⟩
    rw [← hwn] at hwr
    obtain ⟨K2, hK2⟩ : ∃ K2, K2 = K := ⟨_, rfl⟩
    have Hpost := hide (show ∀ w3, Fr (fun q => q = L.pb (K.desc j).n ∨ q = L.lb (K.desc j).n) w1.drew w3 → PipeAt w3 (L.pb (K.desc j).n) (L.lb (K.desc j).n) 64 ((K.pipe (K.desc j).n).data ++ c.s.data.toList.take 0) (K.pipe (K.desc j).n).r (K.pipe (K.desc j).n).x →
        AskAt w3 a k (L.qb i) c { noResV with err := 0 } ∧ KF w3 k K2 L from fun w3 hf hA => by
      obtain ⟨fm2, cs2, hA⟩ := hA
      refine ⟨hf.get A1d (fun e => by rcases e with e | e; (· exact hpa e.symm); (· exact hla e.symm)), ?_⟩
      have F2 := F1d.pipeU p1 p2 (p := { K.pipe (K.desc j).n with data := (K.pipe (K.desc j).n).data ++ c.s.data.toList.take 0 }) hf hA rfl
      rw [hK2]
      have e := setP_same K (K.desc j).n; rw [show (K.pipe (K.desc j).n).data ++ c.s.data.toList.take 0 = (K.pipe (K.desc j).n).data.drop ([] : List UInt8).length by simp] at F2; rw [e] at F2; exact F2)
    have HK2 := hide (show K2 = _ from hK2)
    have Hfin := hide (show ∀ w5, KF w5 k K2 L → AskAt w5 a k (L.qb i) c { noResV with err := 11, n := wn } → Fr (fun b => L.o b ≠ none ∨ b = a) w w5 → KaskPost w k K L i a c (true, noRes, K) (.returned (.bool true)) w5 from fun w5 F5 A5 hfr5 => by
      rw [hK2] at F5
      exact ⟨rfl, L, F5, ⟨rfl, Nat.le_refl _, Nat.le_refl _, Nat.le_refl _, fun _ _ _ => rfl, fun _ _ _ => rfl, fun _ _ _ => rfl, fun _ _ _ => rfl, fun _ _ e => e⟩, hfr5, fun _ e => .inl e, _, A5, fun e => (by cases e)⟩)
    have Hfr1 := hide (show Fr (fun b => L.o b ≠ none ∨ b = a) w w1.drew from hfr1.drew)
    have hwr := hide hwr
    have Hpo := hide (h.op _ p1 p2)
    clear h ha hq A1 F1 hfr1 hD1 hdo hok hf hP p1 p2 hre hrn hw hr0 A1d F1d hwn hK2 hk a17 z17
    unfold ptrAt at *
    go_enter Tryz.func23, Tryz.ntmps23
    go_wp2_with fail
    refine hds.out.mono ?_
    rintro e w2 ⟨rfl, rfl⟩
    go_wp2_with fail
    refine hrd.out.mono ?_
    rintro e w2 ⟨rfl, rfl⟩
    go_upto_region 8 with (fail)
    refine region_tree (fun w' => w'.cell? ⟨a, 0, none⟩ = some (.pointer (some ⟨k, 0, none⟩)) ∧ w'.cell? ⟨a, 5, none⟩ = some (.string c.s) ∧ w'.cell? ⟨L.db j, 5, none⟩ = some (.pointer (some ⟨L.pb (K.desc j).n, 0, none⟩))) [0, 1, 2, 3, 4, 5, 6, 7, 8, 9, 10] 8 19 (by kernel_rfl) (by kernel_rfl) (fun _ _ d _ _ h => by cases d <;> exact h) s1 ?_
    simp only [List.map_cons, List.map_nil, List.getD_cons_zero, List.getD_cons_succ, List.drop_succ_cons, List.drop_zero]
    generalize w2.drew = wd at *
    go_big_quiet_step (fail)
    go_big_quiet_step (fail)
    go_big_quiet_step (fail)
    refine wpQuiet_val (.pointer (some ⟨L.db j, 0, none⟩)) rfl (fun w' hS => by (go_simp)) ?_
    simp only [Act.put, List.setIfInBounds_toArray, List.set_cons_succ, List.set_cons_zero]
    refine wpQuiet_val (.pointer (some ⟨L.db j, 5, none⟩)) rfl (fun w' hS => by (go_simp)) ?_
    simp only [Act.put, List.setIfInBounds_toArray, List.set_cons_succ, List.set_cons_zero]
    refine wpQuiet_val (.pointer (some ⟨L.pb (K.desc j).n, 0, none⟩)) rfl (fun w' hS => by
        have e : w'.cell? ⟨L.db j, 5, none⟩ = some (.pointer (some ⟨L.pb (K.desc j).n, 0, none⟩)) := hS.2.2
        go_simp) ?_
    simp only [Act.put, List.setIfInBounds_toArray, List.set_cons_succ, List.set_cons_zero]
    go_big_quiet_step (fail)
    refine wpQuiet_val (.pointer (some ⟨a, 0, none⟩)) rfl (fun w' hS => by (go_simp)) ?_
    simp only [Act.put, List.setIfInBounds_toArray, List.set_cons_succ, List.set_cons_zero]
    refine wpQuiet_val (.pointer (some ⟨a, 2, none⟩)) rfl (fun w' hS => by (go_simp)) ?_
    simp only [Act.put, List.setIfInBounds_toArray, List.set_cons_succ, List.set_cons_zero]
    refine wpQuiet_val (.pointer (some ⟨a, 5, none⟩)) rfl (fun w' hS => by (go_simp)) ?_
    simp only [Act.put, List.setIfInBounds_toArray, List.set_cons_succ, List.set_cons_zero]
    refine wpQuiet_val (.string c.s) rfl (fun w' hS => by
        have e : w'.cell? ⟨a, 5, none⟩ = some (.string c.s) := hS.2.1
        go_simp) ?_
    simp only [Act.put, List.setIfInBounds_toArray, List.set_cons_succ, List.set_cons_zero]
    refine wpQuiet_nil ?_
    refine tree_one' 11 (by kernel_rfl) (by decide) (by simp) rfl (fun Kc hK => ?_)
    simp only [List.getD_cons_zero, List.getD_cons_succ]
    go_wp2_with fail
    refine hwr.out.mono ?_
    rintro e w3 ⟨rfl, hA3, hf3⟩
    obtain ⟨A3, F3⟩ := Hpost.out w3 hf3 hA3
    have hq3 : w3.heap[L.db j]? = some (.cells (descC L j (K.desc j)) 72 (0, 0)) := (by have := F3.hd j j1 (by rw [HK2.out]; exact j2); rw [HK2.out] at this; exact this)
    have s3 : w3.cell? ⟨a, 0, none⟩ = some (.pointer (some ⟨k, 0, none⟩)) ∧ w3.cell? ⟨a, 5, none⟩ = some (.string c.s) ∧ w3.cell? ⟨L.db j, 5, none⟩ = some (.pointer (some ⟨L.pb (K.desc j).n, 0, none⟩)) := ⟨by rw [blk_cell A3]; rfl, by rw [blk_cell A3]; rfl, by rw [blk_cell hq3]; exact hpv.out⟩
    have HF3 := hide F3
    have HA3 := hide A3
    have Hf3 := hide hf3
    refine hK _ _ s3 ?_
    clear hK Kc hf3 hA3 F3 A3 hq3
    refine tree_heads (f := 1) [12, 13, 14, 15, 16, 17] (by kernel_rfl) (fun _ _ d _ _ h => by cases d <;> exact h) s3 ?_
    simp only [List.map_cons, List.map_nil, List.getD_cons_zero, List.getD_cons_succ]
    go_big_quiet_step (fail)
    refine wpQuiet_val (.int .i64 wn) rfl (fun w' hS => by (go_simp)) ?_
    simp only [Act.put, List.setIfInBounds_toArray, List.set_cons_succ, List.set_cons_zero]
    refine wpQuiet_val (.int .i64 11) rfl (fun w' hS => by (go_simp)) ?_
    simp only [Act.put, List.setIfInBounds_toArray, List.set_cons_succ, List.set_cons_zero]
    refine wpQuiet_val (.pointer (some ⟨a, 0, none⟩)) rfl (fun w' hS => by (go_simp)) ?_
    simp only [Act.put, List.setIfInBounds_toArray, List.set_cons_succ, List.set_cons_zero]
    refine wpQuiet_val (.pointer (some ⟨a, 8, none⟩)) rfl (fun w' hS => by (go_simp)) ?_
    simp only [Act.put, List.setIfInBounds_toArray, List.set_cons_succ, List.set_cons_zero]
    refine wpQuiet_val (.pointer (some ⟨a, 8, none⟩)) rfl (fun w' hS => by (go_simp)) ?_
    simp only [Act.put, List.setIfInBounds_toArray, List.set_cons_succ, List.set_cons_zero]
    refine wpQuiet_nil ?_
    refine tree_one' 18 (by kernel_rfl) (by decide) (by simp) rfl (fun Kc hK => ?_)
    simp only [List.getD_cons_zero, List.getD_cons_succ]
    have t8 : w3.cell? ⟨a, 8, none⟩ = some (.int .i64 0) := by rw [blk_cell HA3.out]; rfl
    have z8 : w3.frozen? ⟨a, 8, none⟩ = false := blk_frozen HA3.out _
    go_wp2_with fail
    obtain ⟨w4, hw4⟩ : ∃ w4, w4 = w3.setCell ⟨a, 8, none⟩ (.int .i64 wn) := ⟨_, rfl⟩
    rw [← hw4]
    have F4 : KF w4 k K2 L := by rw [hw4]; exact HF3.out.ask hao 8 _
    have A4 : AskAt w4 a k (L.qb i) c { noResV with err := 0, n := wn } := by rw [hw4]; exact ask_n HA3.out wn
    have hq4 : w4.heap[L.db j]? = some (.cells (descC L j (K.desc j)) 72 (0, 0)) := by have := F4.hd j j1 (by rw [HK2.out]; exact j2); rw [HK2.out] at this; exact this
    have s4 : w4.cell? ⟨a, 0, none⟩ = some (.pointer (some ⟨k, 0, none⟩)) ∧ w4.cell? ⟨a, 5, none⟩ = some (.string c.s) ∧ w4.cell? ⟨L.db j, 5, none⟩ = some (.pointer (some ⟨L.pb (K.desc j).n, 0, none⟩)) := ⟨by rw [blk_cell A4]; rfl, by rw [blk_cell A4]; rfl, by rw [blk_cell hq4]; exact hpv.out⟩
    have HF4 := hide F4
    have HA4 := hide A4
    have Hw4 := hide hw4
    refine hK _ _ s4 ?_
    clear hK Kc hw4 t8 z8 s3 F4 A4 hq4
    refine tree_end (by kernel_rfl) ?_
    try (simp only [List.map_cons, List.map_nil, List.getD_cons_zero, List.getD_cons_succ, List.drop_succ_cons, List.drop_zero])
    have t17 : w4.cell? ⟨a, 17, none⟩ = some (.int .i64 0) := by rw [blk_cell HA4.out]; rfl
    have z17 : w4.frozen? ⟨a, 17, none⟩ = false := blk_frozen HA4.out _
    obtain ⟨w5, hw5⟩ : ∃ w5, w5 = w4.setCell ⟨a, 17, none⟩ (.int .i64 11) := ⟨_, rfl⟩
    have A5 : AskAt w5 a k (L.qb i) c { noResV with err := 11, n := wn } := by rw [hw5]; exact ask_err HA4.out 11
    have F5 : KF w5 k K2 L := by rw [hw5]; exact HF4.out.ask hao 17 _
    have e17 : w5.cell? ⟨a, 17, none⟩ = some (.int .i64 11) := by rw [blk_cell A5]; rfl
    have hfr5 : Fr (fun b => L.o b ≠ none ∨ b = a) w w5 := by
      rw [hw5, Hw4.out]
      refine ((Hfr1.out.trans (Hf3.out.mono fun b hb e => ?_)).trans (fr_ask (L := L) w3 a 8 _)).trans (fr_ask (L := L) _ a 17 _)
      rcases e with e | e
      · exact .inl (by rw [e, Hpo.out.1]; simp)
      · exact .inl (by rw [e, Hpo.out.2]; simp)
    have hfin := hide (Hfin.out w5 F5 A5 hfr5)
    have Hw5 := hide hw5
    clear hw5 A5 F5 hfr5 HF3 HA3 HF4 HA4 Hw4 Hf3 s4 Hfr1 Hfin Hpost HK2 hpa hla
    go_upto_region 9 with (fail)
    rw [← Hw5.out]
    clear Hw5 t17 z17
    go_wp2_with fail
    go_ret
    exact hfin.out
  · have hq : writeQ K i c.a c.s = (false, { noRes with n := (min c.s.data.toList.length (64 - (K.pipe (K.desc j).n).data.length) : Nat) }, K.setP (K.desc j).n { K.pipe (K.desc j).n with data := (K.pipe (K.desc j).n).data ++ c.s.data.toList.take (64 - (K.pipe (K.desc j).n).data.length) }) := by
      unfold writeQ
      rw [hf]
      simp only
      rw [if_neg (by rw [hr]; simp), if_neg (by rw [hk]; decide), if_neg (by rw [hk]; decide), if_neg hr0, if_neg hw]
    rw [hq]
    have hre : wrE 64 (K.pipe (K.desc j).n).data (K.pipe (K.desc j).n).r c.s.data.toList = 0 := by unfold wrE; rw [if_neg hr0, if_neg hw]
    have hrn : wrN 64 (K.pipe (K.desc j).n).data (K.pipe (K.desc j).n).r c.s.data.toList = (min c.s.data.toList.length (64 - (K.pipe (K.desc j).n).data.length)) := by
      unfold wrN
      rw [if_neg hr0]
    rw [hre, hrn] at hwr
    obtain ⟨wn, hwn⟩ : ∃ wn : Int, wn = (((min c.s.data.toList.length (64 - (K.pipe (K.desc j).n).data.length)) : Nat) : Int) := ⟨_, rfl⟩
    rw [← hwn] at hwr
    obtain ⟨K2, hK2⟩ : ∃ K2, K2 = K.setP (K.desc j).n { K.pipe (K.desc j).n with data := (K.pipe (K.desc j).n).data ++ c.s.data.toList.take (64 - (K.pipe (K.desc j).n).data.length) } := ⟨_, rfl⟩
    have Hpost := hide (show ∀ w3, Fr (fun q => q = L.pb (K.desc j).n ∨ q = L.lb (K.desc j).n) w1.drew w3 → PipeAt w3 (L.pb (K.desc j).n) (L.lb (K.desc j).n) 64 ((K.pipe (K.desc j).n).data ++ c.s.data.toList.take (min c.s.data.toList.length (64 - (K.pipe (K.desc j).n).data.length))) (K.pipe (K.desc j).n).r (K.pipe (K.desc j).n).x →
        AskAt w3 a k (L.qb i) c { noResV with err := 0 } ∧ KF w3 k K2 L from fun w3 hf hA => by
      obtain ⟨fm2, cs2, hA⟩ := hA
      refine ⟨hf.get A1d (fun e => by rcases e with e | e; (· exact hpa e.symm); (· exact hla e.symm)), ?_⟩
      have F2 := F1d.pipeU p1 p2 (p := { K.pipe (K.desc j).n with data := (K.pipe (K.desc j).n).data ++ c.s.data.toList.take (min c.s.data.toList.length (64 - (K.pipe (K.desc j).n).data.length)) }) hf hA rfl
      rw [hK2]
      rw [take_min] at F2; exact F2)
    have HK2 := hide (show K2 = _ from hK2)
    have Hfin := hide (show ∀ w5, KF w5 k K2 L → AskAt w5 a k (L.qb i) c { noResV with err := 0, n := wn } → Fr (fun b => L.o b ≠ none ∨ b = a) w w5 → KaskPost w k K L i a c (false, { noRes with n := (min c.s.data.toList.length (64 - (K.pipe (K.desc j).n).data.length) : Nat) }, K.setP (K.desc j).n { K.pipe (K.desc j).n with data := (K.pipe (K.desc j).n).data ++ c.s.data.toList.take (64 - (K.pipe (K.desc j).n).data.length) }) (.returned (.bool false)) w5 from fun w5 F5 A5 hfr5 => by
      rw [hK2] at F5
      exact ⟨rfl, L, F5, ⟨rfl, Nat.le_refl _, Nat.le_refl _, Nat.le_refl _, fun _ _ _ => rfl, fun _ _ _ => rfl, fun _ _ _ => rfl, fun _ _ _ => rfl, fun _ _ e => e⟩, hfr5, fun _ e => .inl e, _, A5, fun _ => by rw [hwn]; rfl⟩)
    have Hfr1 := hide (show Fr (fun b => L.o b ≠ none ∨ b = a) w w1.drew from hfr1.drew)
    have hwr := hide hwr
    have Hpo := hide (h.op _ p1 p2)
    clear h ha hq A1 F1 hfr1 hD1 hdo hok hf hP p1 p2 hre hrn hw hr0 A1d F1d hwn hK2 hk a17 z17
    unfold ptrAt at *
    go_enter Tryz.func23, Tryz.ntmps23
    go_wp2_with fail
    refine hds.out.mono ?_
    rintro e w2 ⟨rfl, rfl⟩
    go_wp2_with fail
    refine hrd.out.mono ?_
    rintro e w2 ⟨rfl, rfl⟩
    go_upto_region 8 with (fail)
    refine region_tree (fun w' => w'.cell? ⟨a, 0, none⟩ = some (.pointer (some ⟨k, 0, none⟩)) ∧ w'.cell? ⟨a, 5, none⟩ = some (.string c.s) ∧ w'.cell? ⟨L.db j, 5, none⟩ = some (.pointer (some ⟨L.pb (K.desc j).n, 0, none⟩))) [0, 1, 2, 3, 4, 5, 6, 7, 8, 9, 10] 8 19 (by kernel_rfl) (by kernel_rfl) (fun _ _ d _ _ h => by cases d <;> exact h) s1 ?_
    simp only [List.map_cons, List.map_nil, List.getD_cons_zero, List.getD_cons_succ, List.drop_succ_cons, List.drop_zero]
    generalize w2.drew = wd at *
    go_big_quiet_step (fail)
    go_big_quiet_step (fail)
    go_big_quiet_step (fail)
    refine wpQuiet_val (.pointer (some ⟨L.db j, 0, none⟩)) rfl (fun w' hS => by (go_simp)) ?_
    simp only [Act.put, List.setIfInBounds_toArray, List.set_cons_succ, List.set_cons_zero]
    refine wpQuiet_val (.pointer (some ⟨L.db j, 5, none⟩)) rfl (fun w' hS => by (go_simp)) ?_
    simp only [Act.put, List.setIfInBounds_toArray, List.set_cons_succ, List.set_cons_zero]
    refine wpQuiet_val (.pointer (some ⟨L.pb (K.desc j).n, 0, none⟩)) rfl (fun w' hS => by
        have e : w'.cell? ⟨L.db j, 5, none⟩ = some (.pointer (some ⟨L.pb (K.desc j).n, 0, none⟩)) := hS.2.2
        go_simp) ?_
    simp only [Act.put, List.setIfInBounds_toArray, List.set_cons_succ, List.set_cons_zero]
    go_big_quiet_step (fail)
    refine wpQuiet_val (.pointer (some ⟨a, 0, none⟩)) rfl (fun w' hS => by (go_simp)) ?_
    simp only [Act.put, List.setIfInBounds_toArray, List.set_cons_succ, List.set_cons_zero]
    refine wpQuiet_val (.pointer (some ⟨a, 2, none⟩)) rfl (fun w' hS => by (go_simp)) ?_
    simp only [Act.put, List.setIfInBounds_toArray, List.set_cons_succ, List.set_cons_zero]
    refine wpQuiet_val (.pointer (some ⟨a, 5, none⟩)) rfl (fun w' hS => by (go_simp)) ?_
    simp only [Act.put, List.setIfInBounds_toArray, List.set_cons_succ, List.set_cons_zero]
    refine wpQuiet_val (.string c.s) rfl (fun w' hS => by
        have e : w'.cell? ⟨a, 5, none⟩ = some (.string c.s) := hS.2.1
        go_simp) ?_
    simp only [Act.put, List.setIfInBounds_toArray, List.set_cons_succ, List.set_cons_zero]
    refine wpQuiet_nil ?_
    refine tree_one' 11 (by kernel_rfl) (by decide) (by simp) rfl (fun Kc hK => ?_)
    simp only [List.getD_cons_zero, List.getD_cons_succ]
    go_wp2_with fail
    refine hwr.out.mono ?_
    rintro e w3 ⟨rfl, hA3, hf3⟩
    obtain ⟨A3, F3⟩ := Hpost.out w3 hf3 hA3
    have hq3 : w3.heap[L.db j]? = some (.cells (descC L j (K.desc j)) 72 (0, 0)) := (by have := F3.hd j j1 (by rw [HK2.out]; exact j2); rw [HK2.out] at this; exact this)
    have s3 : w3.cell? ⟨a, 0, none⟩ = some (.pointer (some ⟨k, 0, none⟩)) ∧ w3.cell? ⟨a, 5, none⟩ = some (.string c.s) ∧ w3.cell? ⟨L.db j, 5, none⟩ = some (.pointer (some ⟨L.pb (K.desc j).n, 0, none⟩)) := ⟨by rw [blk_cell A3]; rfl, by rw [blk_cell A3]; rfl, by rw [blk_cell hq3]; exact hpv.out⟩
    have HF3 := hide F3
    have HA3 := hide A3
    have Hf3 := hide hf3
    refine hK _ _ s3 ?_
    clear hK Kc hf3 hA3 F3 A3 hq3
    refine tree_heads (f := 1) [12, 13, 14, 15, 16, 17] (by kernel_rfl) (fun _ _ d _ _ h => by cases d <;> exact h) s3 ?_
    simp only [List.map_cons, List.map_nil, List.getD_cons_zero, List.getD_cons_succ]
    go_big_quiet_step (fail)
    refine wpQuiet_val (.int .i64 wn) rfl (fun w' hS => by (go_simp)) ?_
    simp only [Act.put, List.setIfInBounds_toArray, List.set_cons_succ, List.set_cons_zero]
    refine wpQuiet_val (.int .i64 0) rfl (fun w' hS => by (go_simp)) ?_
    simp only [Act.put, List.setIfInBounds_toArray, List.set_cons_succ, List.set_cons_zero]
    refine wpQuiet_val (.pointer (some ⟨a, 0, none⟩)) rfl (fun w' hS => by (go_simp)) ?_
    simp only [Act.put, List.setIfInBounds_toArray, List.set_cons_succ, List.set_cons_zero]
    refine wpQuiet_val (.pointer (some ⟨a, 8, none⟩)) rfl (fun w' hS => by (go_simp)) ?_
    simp only [Act.put, List.setIfInBounds_toArray, List.set_cons_succ, List.set_cons_zero]
    refine wpQuiet_val (.pointer (some ⟨a, 8, none⟩)) rfl (fun w' hS => by (go_simp)) ?_
    simp only [Act.put, List.setIfInBounds_toArray, List.set_cons_succ, List.set_cons_zero]
    refine wpQuiet_nil ?_
    refine tree_one' 18 (by kernel_rfl) (by decide) (by simp) rfl (fun Kc hK => ?_)
    simp only [List.getD_cons_zero, List.getD_cons_succ]
    have t8 : w3.cell? ⟨a, 8, none⟩ = some (.int .i64 0) := by rw [blk_cell HA3.out]; rfl
    have z8 : w3.frozen? ⟨a, 8, none⟩ = false := blk_frozen HA3.out _
    go_wp2_with fail
    obtain ⟨w4, hw4⟩ : ∃ w4, w4 = w3.setCell ⟨a, 8, none⟩ (.int .i64 wn) := ⟨_, rfl⟩
    rw [← hw4]
    have F4 : KF w4 k K2 L := by rw [hw4]; exact HF3.out.ask hao 8 _
    have A4 : AskAt w4 a k (L.qb i) c { noResV with err := 0, n := wn } := by rw [hw4]; exact ask_n HA3.out wn
    have hq4 : w4.heap[L.db j]? = some (.cells (descC L j (K.desc j)) 72 (0, 0)) := by have := F4.hd j j1 (by rw [HK2.out]; exact j2); rw [HK2.out] at this; exact this
    have s4 : w4.cell? ⟨a, 0, none⟩ = some (.pointer (some ⟨k, 0, none⟩)) ∧ w4.cell? ⟨a, 5, none⟩ = some (.string c.s) ∧ w4.cell? ⟨L.db j, 5, none⟩ = some (.pointer (some ⟨L.pb (K.desc j).n, 0, none⟩)) := ⟨by rw [blk_cell A4]; rfl, by rw [blk_cell A4]; rfl, by rw [blk_cell hq4]; exact hpv.out⟩
    have HF4 := hide F4
    have HA4 := hide A4
    have Hw4 := hide hw4
    refine hK _ _ s4 ?_
    clear hK Kc hw4 t8 z8 s3 F4 A4 hq4
    refine tree_end (by kernel_rfl) ?_
    try (simp only [List.map_cons, List.map_nil, List.getD_cons_zero, List.getD_cons_succ, List.drop_succ_cons, List.drop_zero])
    have t17 : w4.cell? ⟨a, 17, none⟩ = some (.int .i64 0) := by rw [blk_cell HA4.out]; rfl
    have z17 : w4.frozen? ⟨a, 17, none⟩ = false := blk_frozen HA4.out _
    obtain ⟨w5, hw5⟩ : ∃ w5, w5 = w4.setCell ⟨a, 17, none⟩ (.int .i64 0) := ⟨_, rfl⟩
    have A5 : AskAt w5 a k (L.qb i) c { noResV with err := 0, n := wn } := by rw [hw5]; exact ask_err HA4.out 0
    have F5 : KF w5 k K2 L := by rw [hw5]; exact HF4.out.ask hao 17 _
    have e17 : w5.cell? ⟨a, 17, none⟩ = some (.int .i64 0) := by rw [blk_cell A5]; rfl
    have hfr5 : Fr (fun b => L.o b ≠ none ∨ b = a) w w5 := by
      rw [hw5, Hw4.out]
      refine ((Hfr1.out.trans (Hf3.out.mono fun b hb e => ?_)).trans (fr_ask (L := L) w3 a 8 _)).trans (fr_ask (L := L) _ a 17 _)
      rcases e with e | e
      · exact .inl (by rw [e, Hpo.out.1]; simp)
      · exact .inl (by rw [e, Hpo.out.2]; simp)
    have hfin := hide (Hfin.out w5 F5 A5 hfr5)
    have Hw5 := hide hw5
    clear hw5 A5 F5 hfr5 HF3 HA3 HF4 HA4 Hw4 Hf3 s4 Hfr1 Hfin Hpost HK2 hpa hla
    go_upto_region 9 with (fail)
    rw [← Hw5.out]
    clear Hw5 t17 z17
    go_wp2_with fail
    go_ret
    exact hfin.out
end Go.Proofs.YtffekmjoenppaaaGreatDoor
