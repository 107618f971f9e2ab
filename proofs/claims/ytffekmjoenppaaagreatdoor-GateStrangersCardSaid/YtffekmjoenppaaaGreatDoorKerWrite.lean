/- gate.asked.write. Conditions: the contract's own premises. -/
import Derived.Test.YtffekmjoenppaaaGreatDoorKerRead
namespace Go.Proofs.YtffekmjoenppaaaGreatDoor
open Go.RowKit

attribute [local go_sem] Oper.semAt_some

def appends (d : DescQ) : Bool := decide (d.flags / 32 % 2 = 1)
def atQ (K : KQ) (d : DescQ) : Int := if appends d = true then (statT K.σ d.n).size else d.pos
/-- SysWrite: does it wait, the answer, the kernel. -/
def writeQ (K : KQ) (i : Nat) (a : Int) (s : ByteArray) : Bool × ResQ × KQ :=
  match fdQ K i a with
  | none => (false, errR 9, K)
  | some j =>
    if (K.desc j).writes = false then (false, errR 9, K)
    else if (K.desc j).kind = 1 then (false, { noRes with n := s.size }, { K with out := fun x => if x = (K.desc j).n then K.out x ++ s else K.out x })
    else if (K.desc j).kind = 2 then
      (false, { noRes with n := (writeR K.σ (K.desc j).n (atQ K (K.desc j)) s.data.toList).1, err := (writeR K.σ (K.desc j).n (atQ K (K.desc j)) s.data.toList).2.1 },
        ({ K with σ := (writeR K.σ (K.desc j).n (atQ K (K.desc j)) s.data.toList).2.2 }).setD j { K.desc j with pos := if (writeR K.σ (K.desc j).n (atQ K (K.desc j)) s.data.toList).2.1 = 0 then (atQ K (K.desc j) + (writeR K.σ (K.desc j).n (atQ K (K.desc j)) s.data.toList).1).toNat else (K.desc j).pos })
    else if (K.pipe (K.desc j).n).r = 0 then (false, errR 32, if i = 1 then K else endQ K i 141)
    else if s.data.toList ≠ [] ∧ (K.pipe (K.desc j).n).data.length = 64 then (true, noRes, K)
    else (false, { noRes with n := (min s.data.toList.length (64 - (K.pipe (K.desc j).n).data.length) : Nat) }, K.setP (K.desc j).n { K.pipe (K.desc j).n with data := (K.pipe (K.desc j).n).data ++ s.data.toList.take (64 - (K.pipe (K.desc j).n).data.length) })
theorem ask_n {w : World} {a k q : Nat} {c : SysQ} {r : ResV} (h : AskAt w a k q c r) (x : Int) : AskAt (w.setCell ⟨a, 8, none⟩ (.int .i64 x)) a k q c { r with n := x } := by
  unfold AskAt at h ⊢
  rw [blk_set h]
  rfl
theorem take_min (l : List UInt8) (m : Nat) : l.take (min l.length m) = l.take m := by
  by_cases h : m ≤ l.length
  · rw [Nat.min_eq_right h]
  · rw [Nat.min_eq_left (by omega), List.take_length, List.take_of_length_le (by omega)]
set_option maxRecDepth 100000 in
set_option maxHeartbeats 1000000 in
theorem awrite_pip (w : World) (k : Nat) (K : KQ) (L : KLay) (h : KF w k K L) (N : Nat) (hok : KOk K N) (_hN : N ≤ 1000000) (i : Nat) (h1 : 1 ≤ i) (h2 : i ≤ K.qn) (a : Nat) (c : SysQ) (hs : c.s.size ≤ 9223372036854775807) (ha : AskAt w a k (L.qb i) c noResV) (hao : L.o a = none) (j : Nat) (hf : fdQ K i c.a = some j) (hr : (K.desc j).writes = true) (hk : (K.desc j).kind = 4) (hr0 : (K.pipe (K.desc j).n).r ≠ 0) : Calls Tryz.prog 23 #[ptrAt a] w (KaskPost w k K L i a c (writeQ K i c.a c.s)) := by
  obtain ⟨j1, j2⟩ := fdQ_ok hok.fds h1 h2 hf
  have hdo := hok.desc j j1 j2
  have c3 : w.cell? ⟨a, 3, none⟩ = some (.int .i64 c.a) := by rw [blk_cell ha]; rfl
  have hds := hide (adesc_any w k K L h i h1 h2 a c noResV ha c.a)
  rw [hf] at hds
  have A1 := ask_err ha 0
  have F1 := h.ask hao 17 (.int .i64 0)
  have hfr1 := fr_ask (L := L) w a 17 (.int .i64 0)
  obtain ⟨w1, hw1⟩ : ∃ w1, w1 = w.setCell ⟨a, 17, none⟩ (.int .i64 0) := ⟨_, rfl⟩
  have hds' : Calls Tryz.prog 43 #[ptrAt a, .int .i64 c.a] w fun e w' => e = .returned (.pointer (some ⟨L.db j, 0, none⟩)) ∧ w' = w1 := by rw [hw1]; exact hds.out
  have hds := hide hds'
  rw [← hw1] at A1 F1 hfr1
  have hD1 := F1.hd j j1 j2
  have hrd := hide (dwrites_any w1 (L.db j) L j (K.desc j) hD1 hdo.kind hdo.flg)
  have a0 : w1.cell? ⟨a, 0, none⟩ = some (.pointer (some ⟨k, 0, none⟩)) := by rw [blk_cell A1]; rfl
  have a5 : w1.cell? ⟨a, 5, none⟩ = some (.string c.s) := by rw [blk_cell A1]; rfl
  have a17 : w1.cell? ⟨a, 17, none⟩ = some (.int .i64 0) := by rw [blk_cell A1]; rfl
  have z17 : w1.frozen? ⟨a, 17, none⟩ = false := blk_frozen A1 _
  have d0 : w1.cell? ⟨L.db j, 0, none⟩ = some (.int .i64 (K.desc j).kind) := by rw [blk_cell hD1]; rfl
  clear hw1 hds'
  rw [hr] at hrd
  obtain ⟨p1, p2⟩ := hdo.pip (.inr hk)
  have F1d : KF w1.drew k K L := F1.quiet (Fr.refl _ _).drew
  have A1d : AskAt w1.drew a k (L.qb i) c { noResV with err := 0 } := A1
  obtain ⟨fm, cs, hP⟩ := F1d.hp _ p1 p2
  have hwr := pwrite_any (L.pb (K.desc j).n) (L.lb (K.desc j).n) 64 _ _ _ w1.drew ⟨fm, cs, hP⟩ c.s hs
  unfold WritePost at hwr
  have hpa : L.pb (K.desc j).n ≠ a := ask_ne hao (h.op _ p1 p2).1
  have hla : L.lb (K.desc j).n ≠ a := ask_ne hao (h.op _ p1 p2).2
  have hpv := hide (show (descC L j (K.desc j))[5]? = some (.pointer (some ⟨L.pb (K.desc j).n, 0, none⟩)) by
    show some (pipeV L (K.desc j)) = _
    unfold pipeV
    rw [if_pos (.inr hk)]
    rfl)
  have s1 : w1.drew.cell? ⟨a, 0, none⟩ = some (.pointer (some ⟨k, 0, none⟩)) ∧ w1.drew.cell? ⟨a, 5, none⟩ = some (.string c.s) ∧ w1.drew.cell? ⟨L.db j, 5, none⟩ = some (.pointer (some ⟨L.pb (K.desc j).n, 0, none⟩)) := ⟨a0, a5, by rw [blk_cell (F1d.hd j j1 j2)]; exact hpv.out⟩
  rw [hk] at d0
  by_cases hw : c.s.data.toList ≠ [] ∧ (K.pipe (K.desc j).n).data.length = 64
  · have hq : writeQ K i c.a c.s = (true, noRes, K) := by
      unfold writeQ
      rw [hf]
      simp only
      rw [if_neg (by rw [hr]; simp), if_neg (by rw [hk]; decide), if_neg (by rw [hk]; decide), if_neg hr0, if_pos hw]
    rw [hq]
    have hre : wrE 64 (K.pipe (K.desc j).n).data (K.pipe (K.desc j).n).r c.s.data.toList = 11 := by unfold wrE; rw [if_neg hr0, if_pos hw]
    have hrn : wrN 64 (K.pipe (K.desc j).n).data (K.pipe (K.desc j).n).r c.s.data.toList = 0 := by
      unfold wrN
      rw [if_neg hr0, hw.2]; simp
    rw [hre, hrn] at hwr
    obtain ⟨wn, hwn⟩ : ∃ wn : Int, wn = ((0 : Nat) : Int) := ⟨_, rfl⟩
    rw [← hwn] at hwr
    obtain ⟨K2, hK2⟩ : ∃ K2, K2 = K := ⟨_, rfl⟩
    have Hpost := hide (show ∀ w3, Fr (fun q => q = L.pb (K.desc j).n ∨ q = L.lb (K.desc j).n) w1.drew w3 → PipeAt w3 (L.pb (K.desc j).n) (L.lb (K.desc j).n) 64 ((K.pipe (K.desc j).n).data ++ c.s.data.toList.take 0) (K.pipe (K.desc j).n).r (K.pipe (K.desc j).n).x →
        AskAt w3 a k (L.qb i) c { noResV with err := 0 } ∧ KF w3 k K2 L from fun w3 hf hA => by
      obtain ⟨fm2, cs2, hA⟩ := hA
      refine ⟨hf.get A1d (fun e => by rcases e with e | e; (· exact hpa e.symm); (· exact hla e.symm)), ?_⟩
      have F2 := F1d.pipeU p1 p2 (p := { K.pipe (K.desc j).n with data := (K.pipe (K.desc j).n).data ++ c.s.data.toList.take 0 }) hf hA rfl
      rw [hK2]
      have e := setP_same K (K.desc j).n; rw [show (K.pipe (K.desc j).n).data ++ c.s.data.toList.take 0 = (K.pipe (K.desc j).n).data.drop ([] : List UInt8).length by simp] at F2; rw [e] at F2; exact F2)
    have HK2 := hide (show K2 = _ from hK2)
    have Hfin := hide (show ∀ w5, KF w5 k K2 L → AskAt w5 a k (L.qb i) c { noResV with err := 11, n := wn } → Fr (fun b => L.o b ≠ none ∨ b = a) w w5 → KaskPost w k K L i a c (true, noRes, K) (.returned (.bool true)) w5 from fun w5 F5 A5 hfr5 => by
      rw [hK2] at F5
      exact ⟨rfl, L, F5, ⟨rfl, Nat.le_refl _, Nat.le_refl _, Nat.le_refl _, fun _ _ _ => rfl, fun _ _ _ => rfl, fun _ _ _ => rfl, fun _ _ _ => rfl, fun _ _ e => e⟩, hfr5, fun _ e => .inl e, _, A5, fun e => (by cases e)⟩)
    have Hfr1 := hide (show Fr (fun b => L.o b ≠ none ∨ b = a) w w1.drew from hfr1.drew)
    have hwr := hide hwr
    have Hpo := hide (h.op _ p1 p2)
    clear h ha hq A1 F1 hfr1 hD1 hdo hok hf hP p1 p2 hre hrn hw hr0 A1d F1d hwn hK2 hk a17 z17
    unfold ptrAt at *
    go_enter Tryz.func23, Tryz.ntmps23
    go_wp2_with fail
    refine hds.out.mono ?_
    rintro e w2 ⟨rfl, rfl⟩
    go_wp2_with fail
    refine hrd.out.mono ?_
    rintro e w2 ⟨rfl, rfl⟩
    go_upto_region 8 with (fail)
    refine region_tree (fun w' => w'.cell? ⟨a, 0, none⟩ = some (.pointer (some ⟨k, 0, none⟩)) ∧ w'.cell? ⟨a, 5, none⟩ = some (.string c.s) ∧ w'.cell? ⟨L.db j, 5, none⟩ = some (.pointer (some ⟨L.pb (K.desc j).n, 0, none⟩))) [0, 1, 2, 3, 4, 5, 6, 7, 8, 9, 10] 8 19 (by kernel_rfl) (by kernel_rfl) (fun _ _ d _ _ h => by cases d <;> exact h) s1 ?_
    simp only [List.map_cons, List.map_nil, List.getD_cons_zero, List.getD_cons_succ, List.drop_succ_cons, List.drop_zero]
    generalize w2.drew = wd at *
    go_big_quiet_step (fail)
    go_big_quiet_step (fail)
    go_big_quiet_step (fail)
    refine wpQuiet_val (.pointer (some ⟨L.db j, 0, none⟩)) rfl (fun w' hS => by (go_simp)) ?_
    simp only [Act.put, List.setIfInBounds_toArray, List.set_cons_succ, List.set_cons_zero]
    refine wpQuiet_val (.pointer (some ⟨L.db j, 5, none⟩)) rfl (fun w' hS => by (go_simp)) ?_
    simp only [Act.put, List.setIfInBounds_toArray, List.set_cons_succ, List.set_cons_zero]
    refine wpQuiet_val (.pointer (some ⟨L.pb (K.desc j).n, 0, none⟩)) rfl (fun w' hS => by
        have e : w'.cell? ⟨L.db j, 5, none⟩ = some (.pointer (some ⟨L.pb (K.desc j).n, 0, none⟩)) := hS.2.2
        go_simp) ?_
    simp only [Act.put, List.setIfInBounds_toArray, List.set_cons_succ, List.set_cons_zero]
    go_big_quiet_step (fail)
    refine wpQuiet_val (.pointer (some ⟨a, 0, none⟩)) rfl (fun w' hS => by (go_simp)) ?_
    simp only [Act.put, List.setIfInBounds_toArray, List.set_cons_succ, List.set_cons_zero]
    refine wpQuiet_val (.pointer (some ⟨a, 2, none⟩)) rfl (fun w' hS => by (go_simp)) ?_
    simp only [Act.put, List.setIfInBounds_toArray, List.set_cons_succ, List.set_cons_zero]
    refine wpQuiet_val (.pointer (some ⟨a, 5, none⟩)) rfl (fun w' hS => by (go_simp)) ?_
    simp only [Act.put, List.setIfInBounds_toArray, List.set_cons_succ, List.set_cons_zero]
    refine wpQuiet_val (.string c.s) rfl (fun w' hS => by
        have e : w'.cell? ⟨a, 5, none⟩ = some (.string c.s) := hS.2.1
        go_simp) ?_
    simp only [Act.put, List.setIfInBounds_toArray, List.set_cons_succ, List.set_cons_zero]
    refine wpQuiet_nil ?_
    refine tree_one' 11 (by kernel_rfl) (by decide) (by simp) rfl (fun Kc hK => ?_)
    simp only [List.getD_cons_zero, List.getD_cons_succ]
    go_wp2_with fail
    refine hwr.out.mono ?_
    rintro e w3 ⟨rfl, hA3, hf3⟩
    obtain ⟨A3, F3⟩ := Hpost.out w3 hf3 hA3
    have hq3 : w3.heap[L.db j]? = some (.cells (descC L j (K.desc j)) 72 (0, 0)) := (by have := F3.hd j j1 (by rw [HK2.out]; exact j2); rw [HK2.out] at this; exact this)
    have s3 : w3.cell? ⟨a, 0, none⟩ = some (.pointer (some ⟨k, 0, none⟩)) ∧ w3.cell? ⟨a, 5, none⟩ = some (.string c.s) ∧ w3.cell? ⟨L.db j, 5, none⟩ = some (.pointer (some ⟨L.pb (K.desc j).n, 0, none⟩)) := ⟨by rw [blk_cell A3]; rfl, by rw [blk_cell A3]; rfl, by rw [blk_cell hq3]; exact hpv.out⟩
    have HF3 := hide F3
    have HA3 := hide A3
    have Hf3 := hide hf3
    refine hK _ _ s3 ?_
    clear hK Kc hf3 hA3 F3 A3 hq3
    refine tree_heads (f := 1) [12, 13, 14, 15, 16, 17] (by kernel_rfl) (fun _ _ d _ _ h => by cases d <;> exact h) s3 ?_
    simp only [List.map_cons, List.map_nil, List.getD_cons_zero, List.getD_cons_succ]
    go_big_quiet_step (fail)
    refine wpQuiet_val (.int .i64 wn) rfl (fun w' hS => by (go_simp)) ?_
    simp only [Act.put, List.setIfInBounds_toArray, List.set_cons_succ, List.set_cons_zero]
    refine wpQuiet_val (.int .i64 11) rfl (fun w' hS => by (go_simp)) ?_
    simp only [Act.put, List.setIfInBounds_toArray, List.set_cons_succ, List.set_cons_zero]
    refine wpQuiet_val (.pointer (some ⟨a, 0, none⟩)) rfl (fun w' hS => by (go_simp)) ?_
    simp only [Act.put, List.setIfInBounds_toArray, List.set_cons_succ, List.set_cons_zero]
    refine wpQuiet_val (.pointer (some ⟨a, 8, none⟩)) rfl (fun w' hS => by (go_simp)) ?_
    simp only [Act.put, List.setIfInBounds_toArray, List.set_cons_succ, List.set_cons_zero]
    refine wpQuiet_val (.pointer (some ⟨a, 8, none⟩)) rfl (fun w' hS => by (go_simp)) ?_
    simp only [Act.put, List.setIfInBounds_toArray, List.set_cons_succ, List.set_cons_zero]
    refine wpQuiet_nil ?_
    refine tree_one' 18 (by kernel_rfl) (by decide) (by simp) rfl (fun Kc hK => ?_)
    simp only [List.getD_cons_zero, List.getD_cons_succ]
    have t8 : w3.cell? ⟨a, 8, none⟩ = some (.int .i64 0) := by rw [blk_cell HA3.out]; rfl
    have z8 : w3.frozen? ⟨a, 8, none⟩ = false := blk_frozen HA3.out _
    go_wp2_with fail
    obtain ⟨w4, hw4⟩ : ∃ w4, w4 = w3.setCell ⟨a, 8, none⟩ (.int .i64 wn) := ⟨_, rfl⟩
    rw [← hw4]
    have F4 : KF w4 k K2 L := by rw [hw4]; exact HF3.out.ask hao 8 _
    have A4 : AskAt w4 a k (L.qb i) c { noResV with err := 0, n := wn } := by rw [hw4]; exact ask_n HA3.out wn
    have hq4 : w4.heap[L.db j]? = some (.cells (descC L j (K.desc j)) 72 (0, 0)) := by have := F4.hd j j1 (by rw [HK2.out]; exact j2); rw [HK2.out] at this; exact this
    have s4 : w4.cell? ⟨a, 0, none⟩ = some (.pointer (some ⟨k, 0, none⟩)) ∧ w4.cell? ⟨a, 5, none⟩ = some (.string c.s) ∧ w4.cell? ⟨L.db j, 5, none⟩ = some (.pointer (some ⟨L.pb (K.desc j).n, 0, none⟩)) := ⟨by rw [blk_cell A4]; rfl, by rw [blk_cell A4]; rfl, by rw [blk_cell hq4]; exact hpv.out⟩
    have HF4 := hide F4
    have HA4 := hide A4
    have Hw4 := hide hw4
    refine hK _ _ s4 ?_
    clear hK Kc hw4 t8 z8 s3 F4 A4 hq4
    refine tree_end (by kernel_rfl) ?_
    try (simp only [List.map_cons, List.map_nil, List.getD_cons_zero, List.getD_cons_succ, List.drop_succ_cons, List.drop_zero])
    have t17 : w4.cell? ⟨a, 17, none⟩ = some (.int .i64 0) := by rw [blk_cell HA4.out]; rfl
    have z17 : w4.frozen? ⟨a, 17, none⟩ = false := blk_frozen HA4.out _
    obtain ⟨w5, hw5⟩ : ∃ w5, w5 = w4.setCell ⟨a, 17, none⟩ (.int .i64 11) := ⟨_, rfl⟩
    have A5 : AskAt w5 a k (L.qb i) c { noResV with err := 11, n := wn } := by rw [hw5]; exact ask_err HA4.out 11
    have F5 : KF w5 k K2 L := by rw [hw5]; exact HF4.out.ask hao 17 _
    have e17 : w5.cell? ⟨a, 17, none⟩ = some (.int .i64 11) := by rw [blk_cell A5]; rfl
    have hfr5 : Fr (fun b => L.o b ≠ none ∨ b = a) w w5 := by
      rw [hw5, Hw4.out]
      refine ((Hfr1.out.trans (Hf3.out.mono fun b hb e => ?_)).trans (fr_ask (L := L) w3 a 8 _)).trans (fr_ask (L := L) _ a 17 _)
      rcases e with e | e
      · exact .inl (by rw [e, Hpo.out.1]; simp)
      · exact .inl (by rw [e, Hpo.out.2]; simp)
    have hfin := hide (Hfin.out w5 F5 A5 hfr5)
    have Hw5 := hide hw5
    clear hw5 A5 F5 hfr5 HF3 HA3 HF4 HA4 Hw4 Hf3 s4 Hfr1 Hfin Hpost HK2 hpa hla
    go_upto_region 9 with (fail)
    rw [← Hw5.out]
    clear Hw5 t17 z17
    go_wp2_with fail
    go_ret
    exact hfin.out
  · have hq : writeQ K i c.a c.s = (false, { noRes with n := (min c.s.data.toList.length (64 - (K.pipe (K.desc j).n).data.length) : Nat) }, K.setP (K.desc j).n { K.pipe (K.desc j).n with data := (K.pipe (K.desc j).n).data ++ c.s.data.toList.take (64 - (K.pipe (K.desc j).n).data.length) }) := by
      unfold writeQ
      rw [hf]
      simp only
      rw [if_neg (by rw [hr]; simp), if_neg (by rw [hk]; decide), if_neg (by rw [hk]; decide), if_neg hr0, if_neg hw]
    rw [hq]
    have hre : wrE 64 (K.pipe (K.desc j).n).data (K.pipe (K.desc j).n).r c.s.data.toList = 0 := by unfold wrE; rw [if_neg hr0, if_neg hw]
    have hrn : wrN 64 (K.pipe (K.desc j).n).data (K.pipe (K.desc j).n).r c.s.data.toList = (min c.s.data.toList.length (64 - (K.pipe (K.desc j).n).data.length)) := by
      unfold wrN
      rw [if_neg hr0]
    rw [hre, hrn] at hwr
    obtain ⟨wn, hwn⟩ : ∃ wn : Int, wn = (((min c.s.data.toList.length (64 - (K.pipe (K.desc j).n).data.length)) : Nat) : Int) := ⟨_, rfl⟩
    rw [← hwn] at hwr
    obtain ⟨K2, hK2⟩ : ∃ K2, K2 = K.setP (K.desc j).n { K.pipe (K.desc j).n with data := (K.pipe (K.desc j).n).data ++ c.s.data.toList.take (64 - (K.pipe (K.desc j).n).data.length) } := ⟨_, rfl⟩
    have Hpost := hide (show ∀ w3, Fr (fun q => q = L.pb (K.desc j).n ∨ q = L.lb (K.desc j).n) w1.drew w3 → PipeAt w3 (L.pb (K.desc j).n) (L.lb (K.desc j).n) 64 ((K.pipe (K.desc j).n).data ++ c.s.data.toList.take (min c.s.data.toList.length (64 - (K.pipe (K.desc j).n).data.length))) (K.pipe (K.desc j).n).r (K.pipe (K.desc j).n).x →
        AskAt w3 a k (L.qb i) c { noResV with err := 0 } ∧ KF w3 k K2 L from fun w3 hf hA => by
      obtain ⟨fm2, cs2, hA⟩ := hA
      refine ⟨hf.get A1d (fun e => by rcases e with e | e; (· exact hpa e.symm); (· exact hla e.symm)), ?_⟩
      have F2 := F1d.pipeU p1 p2 (p := { K.pipe (K.desc j).n with data := (K.pipe (K.desc j).n).data ++ c.s.data.toList.take (min c.s.data.toList.length (64 - (K.pipe (K.desc j).n).data.length)) }) hf hA rfl
      rw [hK2]
      rw [take_min] at F2; exact F2)
    have HK2 := hide (show K2 = _ from hK2)
    have Hfin := hide (show ∀ w5, KF w5 k K2 L → AskAt w5 a k (L.qb i) c { noResV with err := 0, n := wn } → Fr (fun b => L.o b ≠ none ∨ b = a) w w5 → KaskPost w k K L i a c (false, { noRes with n := (min c.s.data.toList.length (64 - (K.pipe (K.desc j).n).data.length) : Nat) }, K.setP (K.desc j).n { K.pipe (K.desc j).n with data := (K.pipe (K.desc j).n).data ++ c.s.data.toList.take (64 - (K.pipe (K.desc j).n).data.length) }) (.returned (.bool false)) w5 from fun w5 F5 A5 hfr5 => by
      rw [hK2] at F5
      exact ⟨rfl, L, F5, ⟨rfl, Nat.le_refl _, Nat.le_refl _, Nat.le_refl _, fun _ _ _ => rfl, fun _ _ _ => rfl, fun _ _ _ => rfl, fun _ _ _ => rfl, fun _ _ e => e⟩, hfr5, fun _ e => .inl e, _, A5, fun _ => by rw [hwn]; rfl⟩)
    have Hfr1 := hide (show Fr (fun b => L.o b ≠ none ∨ b = a) w w1.drew from hfr1.drew)
    have hwr := hide hwr
    have Hpo := hide (h.op _ p1 p2)
    clear h ha hq A1 F1 hfr1 hD1 hdo hok hf hP p1 p2 hre hrn hw hr0 A1d F1d hwn hK2 hk a17 z17
    unfold ptrAt at *
    go_enter Tryz.func23, Tryz.ntmps23
    go_wp2_with fail
    refine hds.out.mono ?_
    rintro e w2 ⟨rfl, rfl⟩
    go_wp2_with fail
    refine hrd.out.mono ?_
    rintro e w2 ⟨rfl, rfl⟩
    go_upto_region 8 with (fail)
    refine region_tree (fun w' => w'.cell? ⟨a, 0, none⟩ = some (.pointer (some ⟨k, 0, none⟩)) ∧ w'.cell? ⟨a, 5, none⟩ = some (.string c.s) ∧ w'.cell? ⟨L.db j, 5, none⟩ = some (.pointer (some ⟨L.pb (K.desc j).n, 0, none⟩))) [0, 1, 2, 3, 4, 5, 6, 7, 8, 9, 10] 8 19 (by kernel_rfl) (by kernel_rfl) (fun _ _ d _ _ h => by cases d <;> exact h) s1 ?_
    simp only [List.map_cons, List.map_nil, List.getD_cons_zero, List.getD_cons_succ, List.drop_succ_cons, List.drop_zero]
    generalize w2.drew = wd at *
    go_big_quiet_step (fail)
    go_big_quiet_step (fail)
    go_big_quiet_step (fail)
    refine wpQuiet_val (.pointer (some ⟨L.db j, 0, none⟩)) rfl (fun w' hS => by (go_simp)) ?_
    simp only [Act.put, List.setIfInBounds_toArray, List.set_cons_succ, List.set_cons_zero]
    refine wpQuiet_val (.pointer (some ⟨L.db j, 5, none⟩)) rfl (fun w' hS => by (go_simp)) ?_
    simp only [Act.put, List.setIfInBounds_toArray, List.set_cons_succ, List.set_cons_zero]
    refine wpQuiet_val (.pointer (some ⟨L.pb (K.desc j).n, 0, none⟩)) rfl (fun w' hS => by
        have e : w'.cell? ⟨L.db j, 5, none⟩ = some (.pointer (some ⟨L.pb (K.desc j).n, 0, none⟩)) := hS.2.2
        go_simp) ?_
    simp only [Act.put, List.setIfInBounds_toArray, List.set_cons_succ, List.set_cons_zero]
    go_big_quiet_step (fail)
    refine wpQuiet_val (.pointer (some ⟨a, 0, none⟩)) rfl (fun w' hS => by (go_simp)) ?_
    simp only [Act.put, List.setIfInBounds_toArray, List.set_cons_succ, List.set_cons_zero]
    refine wpQuiet_val (.pointer (some ⟨a, 2, none⟩)) rfl (fun w' hS => by (go_simp)) ?_
    simp only [Act.put, List.setIfInBounds_toArray, List.set_cons_succ, List.set_cons_zero]
    refine wpQuiet_val (.pointer (some ⟨a, 5, none⟩)) rfl (fun w' hS => by (go_simp)) ?_
    simp only [Act.put, List.setIfInBounds_toArray, List.set_cons_succ, List.set_cons_zero]
    refine wpQuiet_val (.string c.s) rfl (fun w' hS => by
        have e : w'.cell? ⟨a, 5, none⟩ = some (.string c.s) := hS.2.1
        go_simp) ?_
    simp only [Act.put, List.setIfInBounds_toArray, List.set_cons_succ, List.set_cons_zero]
    refine wpQuiet_nil ?_
    refine tree_one' 11 (by kernel_rfl) (by decide) (by simp) rfl (fun Kc hK => ?_)
    simp only [List.getD_cons_zero, List.getD_cons_succ]
    go_wp2_with fail
    refine hwr.out.mono ?_
    rintro e w3 ⟨rfl, hA3, hf3⟩
    obtain ⟨A3, F3⟩ := Hpost.out w3 hf3 hA3
    have hq3 : w3.heap[L.db j]? = some (.cells (descC L j (K.desc j)) 72 (0, 0)) := (by have := F3.hd j j1 (by rw [HK2.out]; exact j2); rw [HK2.out] at this; exact this)
    have s3 : w3.cell? ⟨a, 0, none⟩ = some (.pointer (some ⟨k, 0, none⟩)) ∧ w3.cell? ⟨a, 5, none⟩ = some (.string c.s) ∧ w3.cell? ⟨L.db j, 5, none⟩ = some (.pointer (some ⟨L.pb (K.desc j).n, 0, none⟩)) := ⟨by rw [blk_cell A3]; rfl, by rw [blk_cell A3]; rfl, by rw [blk_cell hq3]; exact hpv.out⟩
    have HF3 := hide F3
    have HA3 := hide A3
    have Hf3 := hide hf3
    refine hK _ _ s3 ?_
    clear hK Kc hf3 hA3 F3 A3 hq3
    refine tree_heads (f := 1) [12, 13, 14, 15, 16, 17] (by kernel_rfl) (fun _ _ d _ _ h => by cases d <;> exact h) s3 ?_
    simp only [List.map_cons, List.map_nil, List.getD_cons_zero, List.getD_cons_succ]
    go_big_quiet_step (fail)
    refine wpQuiet_val (.int .i64 wn) rfl (fun w' hS => by (go_simp)) ?_
    simp only [Act.put, List.setIfInBounds_toArray, List.set_cons_succ, List.set_cons_zero]
    refine wpQuiet_val (.int .i64 0) rfl (fun w' hS => by (go_simp)) ?_
    simp only [Act.put, List.setIfInBounds_toArray, List.set_cons_succ, List.set_cons_zero]
    refine wpQuiet_val (.pointer (some ⟨a, 0, none⟩)) rfl (fun w' hS => by (go_simp)) ?_
    simp only [Act.put, List.setIfInBounds_toArray, List.set_cons_succ, List.set_cons_zero]
    refine wpQuiet_val (.pointer (some ⟨a, 8, none⟩)) rfl (fun w' hS => by (go_simp)) ?_
    simp only [Act.put, List.setIfInBounds_toArray, List.set_cons_succ, List.set_cons_zero]
    refine wpQuiet_val (.pointer (some ⟨a, 8, none⟩)) rfl (fun w' hS => by (go_simp)) ?_
    simp only [Act.put, List.setIfInBounds_toArray, List.set_cons_succ, List.set_cons_zero]
    refine wpQuiet_nil ?_
    refine tree_one' 18 (by kernel_rfl) (by decide) (by simp) rfl (fun Kc hK => ?_)
    simp only [List.getD_cons_zero, List.getD_cons_succ]
    have t8 : w3.cell? ⟨a, 8, none⟩ = some (.int .i64 0) := by rw [blk_cell HA3.out]; rfl
    have z8 : w3.frozen? ⟨a, 8, none⟩ = false := blk_frozen HA3.out _
    go_wp2_with fail
    obtain ⟨w4, hw4⟩ : ∃ w4, w4 = w3.setCell ⟨a, 8, none⟩ (.int .i64 wn) := ⟨_, rfl⟩
    rw [← hw4]
    have F4 : KF w4 k K2 L := by rw [hw4]; exact HF3.out.ask hao 8 _
    have A4 : AskAt w4 a k (L.qb i) c { noResV with err := 0, n := wn } := by rw [hw4]; exact ask_n HA3.out wn
    have hq4 : w4.heap[L.db j]? = some (.cells (descC L j (K.desc j)) 72 (0, 0)) := by have := F4.hd j j1 (by rw [HK2.out]; exact j2); rw [HK2.out] at this; exact this
    have s4 : w4.cell? ⟨a, 0, none⟩ = some (.pointer (some ⟨k, 0, none⟩)) ∧ w4.cell? ⟨a, 5, none⟩ = some (.string c.s) ∧ w4.cell? ⟨L.db j, 5, none⟩ = some (.pointer (some ⟨L.pb (K.desc j).n, 0, none⟩)) := ⟨by rw [blk_cell A4]; rfl, by rw [blk_cell A4]; rfl, by rw [blk_cell hq4]; exact hpv.out⟩
    have HF4 := hide F4
    have HA4 := hide A4
    have Hw4 := hide hw4
    refine hK _ _ s4 ?_
    clear hK Kc hw4 t8 z8 s3 F4 A4 hq4
    refine tree_end (by kernel_rfl) ?_
    try (simp only [List.map_cons, List.map_nil, List.getD_cons_zero, List.getD_cons_succ, List.drop_succ_cons, List.drop_zero])
    have t17 : w4.cell? ⟨a, 17, none⟩ = some (.int .i64 0) := by rw [blk_cell HA4.out]; rfl
    have z17 : w4.frozen? ⟨a, 17, none⟩ = false := blk_frozen HA4.out _
    obtain ⟨w5, hw5⟩ : ∃ w5, w5 = w4.setCell ⟨a, 17, none⟩ (.int .i64 0) := ⟨_, rfl⟩
    have A5 : AskAt w5 a k (L.qb i) c { noResV with err := 0, n := wn } := by rw [hw5]; exact ask_err HA4.out 0
    have F5 : KF w5 k K2 L := by rw [hw5]; exact HF4.out.ask hao 17 _
    have e17 : w5.cell? ⟨a, 17, none⟩ = some (.int .i64 0) := by rw [blk_cell A5]; rfl
    have hfr5 : Fr (fun b => L.o b ≠ none ∨ b = a) w w5 := by
      rw [hw5, Hw4.out]
      refine ((Hfr1.out.trans (Hf3.out.mono fun b hb e => ?_)).trans (fr_ask (L := L) w3 a 8 _)).trans (fr_ask (L := L) _ a 17 _)
      rcases e with e | e
      · exact .inl (by rw [e, Hpo.out.1]; simp)
      · exact .inl (by rw [e, Hpo.out.2]; simp)
    have hfin := hide (Hfin.out w5 F5 A5 hfr5)
    have Hw5 := hide hw5
    clear hw5 A5 F5 hfr5 HF3 HA3 HF4 HA4 Hw4 Hf3 s4 Hfr1 Hfin Hpost HK2 hpa hla
    go_upto_region 9 with (fail)
    rw [← Hw5.out]
    clear Hw5 t17 z17
    go_wp2_with fail
    go_ret
    exact hfin.out
end Go.Proofs.YtffekmjoenppaaaGreatDoor
