/- gate.asked.write. Conditions: the contract's own premises. -/
import Derived.Test.YtdnbfhcbcdodmaaGreatDoorKerRead
import Derived.Deep.MidRow
import Derived.Laws.Rows
import Derived.Laws.ResultCell
import Derived.Great.BuildSlice
namespace Go.Proofs.YtdnbfhcbcdodmaaGreatDoor
open Go.RowKit

attribute [local go_sem] Oper.semAt_some

def appends (d : DescQ) : Bool := decide (d.flags / 32 % 2 = 1)
def atQ (K : KQ) (d : DescQ) : Int := if appends d = true then (statT K.σ d.n).size else d.pos
/-- SysWrite: does it wait, the answer, the kernel. -/
def writeQ (K : KQ) (i : Nat) (a : Int) (s : ByteArray) : Bool × ResQ × KQ :=
  match fdQ K i a with
  | none => (false, errR 9, K)
  | some j =>
    if (K.desc j).writes = false then (false, errR 9, K)
    else if (K.desc j).kind = 1 then (false, { noRes with n := s.size }, { K with out := fun x => if x = (K.desc j).n then K.out x ++ s else K.out x })
    else if (K.desc j).kind = 2 then
      (false, { noRes with n := (writeR K.σ (K.desc j).n (atQ K (K.desc j)) s.data.toList).1, err := (writeR K.σ (K.desc j).n (atQ K (K.desc j)) s.data.toList).2.1 },
        ({ K with σ := (writeR K.σ (K.desc j).n (atQ K (K.desc j)) s.data.toList).2.2 }).setD j { K.desc j with pos := if (writeR K.σ (K.desc j).n (atQ K (K.desc j)) s.data.toList).2.1 = 0 then (atQ K (K.desc j) + (writeR K.σ (K.desc j).n (atQ K (K.desc j)) s.data.toList).1).toNat else (K.desc j).pos })
    else if (K.pipe (K.desc j).n).r = 0 then (false, errR 32, if i = 1 then K else endQ K i 141)
    else if s.data.toList ≠ [] ∧ (K.pipe (K.desc j).n).data.length = 64 then (true, noRes, K)
    else (false, { noRes with n := (min s.data.toList.length (64 - (K.pipe (K.desc j).n).data.length) : Nat) }, K.setP (K.desc j).n { K.pipe (K.desc j).n with data := (K.pipe (K.desc j).n).data ++ s.data.toList.take (64 - (K.pipe (K.desc j).n).data.length) })
theorem ask_n {w : World} {a k q : Nat} {c : SysQ} {r : ResV} (h : AskAt w a k q c r) (x : Int) : AskAt (w.setCell ⟨a, 8, none⟩ (.int .i64 x)) a k q c { r with n := x } := by
  unfold AskAt at h ⊢
  rw [blk_set h]
  rfl
theorem take_min (l : List UInt8) (m : Nat) : l.take (min l.length m) = l.take m := by
  by_cases h : m ≤ l.length
  · rw [Nat.min_eq_right h]
  · rw [Nat.min_eq_left (by omega), List.take_length, List.take_of_length_le (by omega)]
set_option maxRecDepth 100000 in
set_option maxHeartbeats 1000000 in
theorem awrite_pip (w : World) (k : Nat) (K : KQ) (L : KLay) (h : KF w k K L) (N : Nat) (hok : KOk K N) (_hN : N ≤ 1000000) (i : Nat) (h1 : 1 ≤ i) (h2 : i ≤ K.qn) (a : Nat) (c : SysQ) (hs : c.s.size ≤ 9223372036854775807) (ha : AskAt w a k (L.qb i) c noResV) (hao : L.o a = none) (j : Nat) (hf : fdQ K i c.a = some j) (hr : (K.desc j).writes = true) (hk : (K.desc j).kind = 4) (hr0 : (K.pipe (K.desc j).n).r ≠ 0) : Calls Tryz.prog 45 #[ptrAt a] w (KaskPost w k K L i a c (writeQ K i c.a c.s)) := by
  obtain ⟨j1, j2⟩ := fdQ_ok hok.fds h1 h2 hf
  have hdo := hok.desc j j1 j2
  have c3 : w.cell? ⟨a, 3, none⟩ = some (.int .i64 c.a) := by rw [blk_cell ha]; rfl
  have hds := hide (adesc_any w k K L h i h1 h2 a c noResV ha c.a)
  rw [hf] at hds
  have A1 := ask_err ha 0
  have F1 := h.ask hao 17 (.int .i64 0)
  have hfr1 := fr_ask (L := L) w a 17 (.int .i64 0)
  obtain ⟨w1, hw1⟩ : ∃ w1, w1 = w.setCell ⟨a, 17, none⟩ (.int .i64 0) := ⟨_, rfl⟩
  have hds' : Calls Tryz.prog 74 #[ptrAt a, .int .i64 c.a] w fun e w' => e = .returned (.pointer (some ⟨L.db j, 0, none⟩)) ∧ w' = w1 := by rw [hw1]; exact hds.out
  have hds := hide hds'
  rw [← hw1] at A1 F1 hfr1
  have hD1 := F1.hd j j1 j2
  have hrd := hide (dwrites_any w1 (L.db j) L j (K.desc j) hD1 hdo.kind hdo.flg)
  have a0 : w1.cell? ⟨a, 0, none⟩ = some (.pointer (some ⟨k, 0, none⟩)) := by rw [blk_cell A1]; rfl
  have a5 : w1.cell? ⟨a, 5, none⟩ = some (.string c.s) := by rw [blk_cell A1]; rfl
  have a17 : w1.cell? ⟨a, 17, none⟩ = some (.int .i64 0) := by rw [blk_cell A1]; rfl
  have z17 : w1.frozen? ⟨a, 17, none⟩ = false := blk_frozen A1 _
  have d0 : w1.cell? ⟨L.db j, 0, none⟩ = some (.int .i64 (K.desc j).kind) := by rw [blk_cell hD1]; rfl
  clear hw1 hds'
  rw [hr] at hrd
  obtain ⟨p1, p2⟩ := hdo.pip (.inr hk)
  have F1d : KF w1.drew k K L := F1.quiet (Fr.refl _ _).drew
  have A1d : AskAt w1.drew a k (L.qb i) c { noResV with err := 0 } := A1
  obtain ⟨fm, cs, hP⟩ := F1d.hp _ p1 p2
  have hwr := pwrite_any (L.pb (K.desc j).n) (L.lb (K.desc j).n) 64 _ _ _ w1.drew ⟨fm, cs, hP⟩ c.s hs
  unfold WritePost at hwr
  have hpa : L.pb (K.desc j).n ≠ a := ask_ne hao (h.op _ p1 p2).1
  have hla : L.lb (K.desc j).n ≠ a := ask_ne hao (h.op _ p1 p2).2
  have hpv := hide (show (descC L j (K.desc j))[5]? = some (.pointer (some ⟨L.pb (K.desc j).n, 0, none⟩)) by
    show some (pipeV L (K.desc j)) = _
    unfold pipeV
    rw [if_pos (.inr hk)]
    rfl)
  have s1 : w1.drew.cell? ⟨a, 0, none⟩ = some (.pointer (some ⟨k, 0, none⟩)) ∧ w1.drew.cell? ⟨a, 5, none⟩ = some (.string c.s) ∧ w1.drew.cell? ⟨L.db j, 5, none⟩ = some (.pointer (some ⟨L.pb (K.desc j).n, 0, none⟩)) := ⟨a0, a5, by rw [blk_cell (F1d.hd j j1 j2)]; exact hpv.out⟩
  rw [hk] at d0
  by_cases hw : c.s.data.toList ≠ [] ∧ (K.pipe (K.desc j).n).data.length = 64
  · have hq : writeQ K i c.a c.s = (true, noRes, K) := by
      unfold writeQ
      rw [hf]
      simp only
      rw [if_neg (by rw [hr]; simp), if_neg (by rw [hk]; decide), if_neg (by rw [hk]; decide), if_neg hr0, if_pos hw]
    rw [hq]
    have hre : wrE 64 (K.pipe (K.desc j).n).data (K.pipe (K.desc j).n).r c.s.data.toList = 11 := by unfold wrE; rw [if_neg hr0, if_pos hw]
    have hrn : wrN 64 (K.pipe (K.desc j).n).data (K.pipe (K.desc j).n).r c.s.data.toList = 0 := by
      unfold wrN
      rw [if_neg hr0, hw.2]; simp
    rw [hre, hrn] at hwr
    obtain ⟨wn, hwn⟩ : ∃ wn : Int, wn = ((0 : Nat) : Int) := ⟨_, rfl⟩
    rw [← hwn] at hwr
    obtain ⟨K2, hK2⟩ : ∃ K2, K2 = K := ⟨_, rfl⟩
    have Hpost := hide (show ∀ w3, Fr (fun q => q = L.pb (K.desc j).n ∨ q = L.lb (K.desc j).n) w1.drew w3 → PipeAt w3 (L.pb (K.desc j).n) (L.lb (K.desc j).n) 64 ((K.pipe (K.desc j).n).data ++ c.s.data.toList.take 0) (K.pipe (K.desc j).n).r (K.pipe (K.desc j).n).x →
        AskAt w3 a k (L.qb i) c { noResV with err := 0 } ∧ KF w3 k K2 L from fun w3 hf hA => by
      obtain ⟨fm2, cs2, hA⟩ := hA
      refine ⟨hf.get A1d (fun e => by rcases e with e | e; (· exact hpa e.symm); (· exact hla e.symm)), ?_⟩
      have F2 := F1d.pipeU p1 p2 (p := { K.pipe (K.desc j).n with data := (K.pipe (K.desc j).n).data ++ c.s.data.toList.take 0 }) hf hA rfl
      rw [hK2]
      have e := setP_same K (K.desc j).n; rw [show (K.pipe (K.desc j).n).data ++ c.s.data.toList.take 0 = (K.pipe (K.desc j).n).data.drop ([] : List UInt8).length by simp] at F2; rw [e] at F2; exact F2)
    have HK2 := hide (show K2 = _ from hK2)
    have Hfin := hide (show ∀ w5, KF w5 k K2 L → AskAt w5 a k (L.qb i) c { noResV with err := 11, n := wn } → Fr (fun b => L.o b ≠ none ∨ b = a) w w5 → KaskPost w k K L i a c (true, noRes, K) (.returned (.bool true)) w5 from fun w5 F5 A5 hfr5 => by
      rw [hK2] at F5
      exact ⟨rfl, L, F5, ⟨rfl, Nat.le_refl _, Nat.le_refl _, Nat.le_refl _, fun _ _ _ => rfl, fun _ _ _ => rfl, fun _ _ _ => rfl, fun _ _ _ => rfl, fun _ _ e => e⟩, hfr5, fun _ e => .inl e, _, A5, fun e => (by cases e)⟩)
    have Hfr1 := hide (show Fr (fun b => L.o b ≠ none ∨ b = a) w w1.drew from hfr1.drew)
    have hwr := hide hwr
    have Hpo := hide (h.op _ p1 p2)
    clear h ha hq A1 F1 hfr1 hD1 hdo hok hf hP p1 p2 hre hrn hw hr0 A1d F1d hwn hK2 hk a17 z17
    unfold ptrAt at *
    go_enter Tryz.func45, Tryz.ntmps45
    go_wp2_with fail
    refine hds.out.mono ?_
    rintro e w2 ⟨rfl, rfl⟩
    go_wp2_with fail
    refine hrd.out.mono ?_
    rintro e w2 ⟨rfl, rfl⟩
    go_upto_region 8 with (fail)
    refine region_tree (fun w' => w'.cell? ⟨a, 0, none⟩ = some (.pointer (some ⟨k, 0, none⟩)) ∧ w'.cell? ⟨a, 5, none⟩ = some (.string c.s) ∧ w'.cell? ⟨L.db j, 5, none⟩ = some (.pointer (some ⟨L.pb (K.desc j).n, 0, none⟩))) [0, 1, 2, 3, 4, 5, 6, 7, 8, 9, 10] 8 19 (by kernel_rfl) (by kernel_rfl) (fun _ _ d _ _ h => by cases d <;> exact h) s1 ?_
    simp only [List.map_cons, List.map_nil, List.getD_cons_zero, List.getD_cons_succ, List.drop_succ_cons, List.drop_zero]
    generalize w2.drew = wd at *
    go_big_quiet_step (fail)
    go_big_quiet_step (fail)
    go_big_quiet_step (fail)
    refine wpQuiet_val (.pointer (some ⟨L.db j, 0, none⟩)) rfl (fun w' hS => by (go_simp)) ?_
    simp only [Act.put, List.setIfInBounds_toArray, List.set_cons_succ, List.set_cons_zero]
    refine wpQuiet_val (.pointer (some ⟨L.db j, 5, none⟩)) rfl (fun w' hS => by (go_simp)) ?_
    simp only [Act.put, List.setIfInBounds_toArray, List.set_cons_succ, List.set_cons_zero]
    refine wpQuiet_val (.pointer (some ⟨L.pb (K.desc j).n, 0, none⟩)) rfl (fun w' hS => by
        have e : w'.cell? ⟨L.db j, 5, none⟩ = some (.pointer (some ⟨L.pb (K.desc j).n, 0, none⟩)) := hS.2.2
        go_simp) ?_
    simp only [Act.put, List.setIfInBounds_toArray, List.set_cons_succ, List.set_cons_zero]
    go_big_quiet_step (fail)
    refine wpQuiet_val (.pointer (some ⟨a, 0, none⟩)) rfl (fun w' hS => by (go_simp)) ?_
    simp only [Act.put, List.setIfInBounds_toArray, List.set_cons_succ, List.set_cons_zero]
    refine wpQuiet_val (.pointer (some ⟨a, 2, none⟩)) rfl (fun w' hS => by (go_simp)) ?_
    simp only [Act.put, List.setIfInBounds_toArray, List.set_cons_succ, List.set_cons_zero]
    refine wpQuiet_val (.pointer (some ⟨a, 5, none⟩)) rfl (fun w' hS => by (go_simp)) ?_
    simp only [Act.put, List.setIfInBounds_toArray, List.set_cons_succ, List.set_cons_zero]
    refine wpQuiet_val (.string c.s) rfl (fun w' hS => by
        have e : w'.cell? ⟨a, 5, none⟩ = some (.string c.s) := hS.2.1
        go_simp) ?_
    simp only [Act.put, List.setIfInBounds_toArray, List.set_cons_succ, List.set_cons_zero]
    refine wpQuiet_nil ?_
    refine tree_one' 11 (by kernel_rfl) (by decide) (by simp) rfl (fun Kc hK => ?_)
    simp only [List.getD_cons_zero, List.getD_cons_succ]
    go_wp2_with fail
    refine hwr.out.mono ?_
    rintro e w3 ⟨rfl, hA3, hf3⟩
    obtain ⟨A3, F3⟩ := Hpost.out w3 hf3 hA3
    have hq3 : w3.heap[L.db j]? = some (.cells (descC L j (K.desc j)) 84 (0, 0)) := (by have := F3.hd j j1 (by rw [HK2.out]; exact j2); rw [HK2.out] at this; exact this)
    have s3 : w3.cell? ⟨a, 0, none⟩ = some (.pointer (some ⟨k, 0, none⟩)) ∧ w3.cell? ⟨a, 5, none⟩ = some (.string c.s) ∧ w3.cell? ⟨L.db j, 5, none⟩ = some (.pointer (some ⟨L.pb (K.desc j).n, 0, none⟩)) := ⟨by rw [blk_cell A3]; rfl, by rw [blk_cell A3]; rfl, by rw [blk_cell hq3]; exact hpv.out⟩
    have HF3 := hide F3
    have HA3 := hide A3
    have Hf3 := hide hf3
    refine hK _ _ s3 ?_
    clear hK Kc hf3 hA3 F3 A3 hq3
    refine tree_heads (f := 1) [12, 13, 14, 15, 16, 17] (by kernel_rfl) (fun _ _ d _ _ h => by cases d <;> exact h) s3 ?_
    simp only [List.map_cons, List.map_nil, List.getD_cons_zero, List.getD_cons_succ]
    go_big_quiet_step (fail)
    refine wpQuiet_val (.int .i64 wn) rfl (fun w' hS => by (go_simp)) ?_
    simp only [Act.put, List.setIfInBounds_toArray, List.set_cons_succ, List.set_cons_zero]
    refine wpQuiet_val (.int .i64 11) rfl (fun w' hS => by (go_simp)) ?_
    simp only [Act.put, List.setIfInBounds_toArray, List.set_cons_succ, List.set_cons_zero]
    refine wpQuiet_val (.pointer (some ⟨a, 0, none⟩)) rfl (fun w' hS => by (go_simp)) ?_
    simp only [Act.put, List.setIfInBounds_toArray, List.set_cons_succ, List.set_cons_zero]
    refine wpQuiet_val (.pointer (some ⟨a, 8, none⟩)) rfl (fun w' hS => by (go_simp)) ?_
    simp only [Act.put, List.setIfInBounds_toArray, List.set_cons_succ, List.set_cons_zero]
    refine wpQuiet_val (.pointer (some ⟨a, 8, none⟩)) rfl (fun w' hS => by (go_simp)) ?_
    simp only [Act.put, List.setIfInBounds_toArray, List.set_cons_succ, List.set_cons_zero]
    refine wpQuiet_nil ?_
    refine tree_one' 18 (by kernel_rfl) (by decide) (by simp) rfl (fun Kc hK => ?_)
    simp only [List.getD_cons_zero, List.getD_cons_succ]
    have t8 : w3.cell? ⟨a, 8, none⟩ = some (.int .i64 0) := by rw [blk_cell HA3.out]; rfl
    have z8 : w3.frozen? ⟨a, 8, none⟩ = false := blk_frozen HA3.out _
    go_wp2_with fail
    obtain ⟨w4, hw4⟩ : ∃ w4, w4 = w3.setCell ⟨a, 8, none⟩ (.int .i64 wn) := ⟨_, rfl⟩
    rw [← hw4]
    have F4 : KF w4 k K2 L := by rw [hw4]; exact HF3.out.ask hao 8 _
    have A4 : AskAt w4 a k (L.qb i) c { noResV with err := 0, n := wn } := by rw [hw4]; exact ask_n HA3.out wn
    have hq4 : w4.heap[L.db j]? = some (.cells (descC L j (K.desc j)) 84 (0, 0)) := by have := F4.hd j j1 (by rw [HK2.out]; exact j2); rw [HK2.out] at this; exact this
    have s4 : w4.cell? ⟨a, 0, none⟩ = some (.pointer (some ⟨k, 0, none⟩)) ∧ w4.cell? ⟨a, 5, none⟩ = some (.string c.s) ∧ w4.cell? ⟨L.db j, 5, none⟩ = some (.pointer (some ⟨L.pb (K.desc j).n, 0, none⟩)) := ⟨by rw [blk_cell A4]; rfl, by rw [blk_cell A4]; rfl, by rw [blk_cell hq4]; exact hpv.out⟩
    have HF4 := hide F4
    have HA4 := hide A4
    have Hw4 := hide hw4
    refine hK _ _ s4 ?_
    clear hK Kc hw4 t8 z8 s3 F4 A4 hq4
    refine tree_end (by kernel_rfl) ?_
    try (simp only [List.map_cons, List.map_nil, List.getD_cons_zero, List.getD_cons_succ, List.drop_succ_cons, List.drop_zero])
    have t17 : w4.cell? ⟨a, 17, none⟩ = some (.int .i64 0) := by rw [blk_cell HA4.out]; rfl
    have z17 : w4.frozen? ⟨a, 17, none⟩ = false := blk_frozen HA4.out _
    obtain ⟨w5, hw5⟩ : ∃ w5, w5 = w4.setCell ⟨a, 17, none⟩ (.int .i64 11) := ⟨_, rfl⟩
    have A5 : AskAt w5 a k (L.qb i) c { noResV with err := 11, n := wn } := by rw [hw5]; exact ask_err HA4.out 11
    have F5 : KF w5 k K2 L := by rw [hw5]; exact HF4.out.ask hao 17 _
    have e17 : w5.cell? ⟨a, 17, none⟩ = some (.int .i64 11) := by rw [blk_cell A5]; rfl
    have hfr5 : Fr (fun b => L.o b ≠ none ∨ b = a) w w5 := by
      rw [hw5, Hw4.out]
      refine ((Hfr1.out.trans (Hf3.out.mono fun b hb e => ?_)).trans (fr_ask (L := L) w3 a 8 _)).trans (fr_ask (L := L) _ a 17 _)
      rcases e with e | e
      · exact .inl (by rw [e, Hpo.out.1]; simp)
      · exact .inl (by rw [e, Hpo.out.2]; simp)
    have hfin := hide (Hfin.out w5 F5 A5 hfr5)
    have Hw5 := hide hw5
    clear hw5 A5 F5 hfr5 HF3 HA3 HF4 HA4 Hw4 Hf3 s4 Hfr1 Hfin Hpost HK2 hpa hla
    go_upto_region 9 with (fail)
    rw [← Hw5.out]
    clear Hw5 t17 z17
    go_wp2_with fail
    go_ret
    exact hfin.out
  · have hq : writeQ K i c.a c.s = (false, { noRes with n := (min c.s.data.toList.length (64 - (K.pipe (K.desc j).n).data.length) : Nat) }, K.setP (K.desc j).n { K.pipe (K.desc j).n with data := (K.pipe (K.desc j).n).data ++ c.s.data.toList.take (64 - (K.pipe (K.desc j).n).data.length) }) := by
      unfold writeQ
      rw [hf]
      simp only
      rw [if_neg (by rw [hr]; simp), if_neg (by rw [hk]; decide), if_neg (by rw [hk]; decide), if_neg hr0, if_neg hw]
    rw [hq]
    have hre : wrE 64 (K.pipe (K.desc j).n).data (K.pipe (K.desc j).n).r c.s.data.toList = 0 := by unfold wrE; rw [if_neg hr0, if_neg hw]
    have hrn : wrN 64 (K.pipe (K.desc j).n).data (K.pipe (K.desc j).n).r c.s.data.toList = (min c.s.data.toList.length (64 - (K.pipe (K.desc j).n).data.length)) := by
      unfold wrN
      rw [if_neg hr0]
    rw [hre, hrn] at hwr
    obtain ⟨wn, hwn⟩ : ∃ wn : Int, wn = (((min c.s.data.toList.length (64 - (K.pipe (K.desc j).n).data.length)) : Nat) : Int) := ⟨_, rfl⟩
    rw [← hwn] at hwr
    obtain ⟨K2, hK2⟩ : ∃ K2, K2 = K.setP (K.desc j).n { K.pipe (K.desc j).n with data := (K.pipe (K.desc j).n).data ++ c.s.data.toList.take (64 - (K.pipe (K.desc j).n).data.length) } := ⟨_, rfl⟩
    have Hpost := hide (show ∀ w3, Fr (fun q => q = L.pb (K.desc j).n ∨ q = L.lb (K.desc j).n) w1.drew w3 → PipeAt w3 (L.pb (K.desc j).n) (L.lb (K.desc j).n) 64 ((K.pipe (K.desc j).n).data ++ c.s.data.toList.take (min c.s.data.toList.length (64 - (K.pipe (K.desc j).n).data.length))) (K.pipe (K.desc j).n).r (K.pipe (K.desc j).n).x →
        AskAt w3 a k (L.qb i) c { noResV with err := 0 } ∧ KF w3 k K2 L from fun w3 hf hA => by
      obtain ⟨fm2, cs2, hA⟩ := hA
      refine ⟨hf.get A1d (fun e => by rcases e with e | e; (· exact hpa e.symm); (· exact hla e.symm)), ?_⟩
      have F2 := F1d.pipeU p1 p2 (p := { K.pipe (K.desc j).n with data := (K.pipe (K.desc j).n).data ++ c.s.data.toList.take (min c.s.data.toList.length (64 - (K.pipe (K.desc j).n).data.length)) }) hf hA rfl
      rw [hK2]
      rw [take_min] at F2; exact F2)
    have HK2 := hide (show K2 = _ from hK2)
    have Hfin := hide (show ∀ w5, KF w5 k K2 L → AskAt w5 a k (L.qb i) c { noResV with err := 0, n := wn } → Fr (fun b => L.o b ≠ none ∨ b = a) w w5 → KaskPost w k K L i a c (false, { noRes with n := (min c.s.data.toList.length (64 - (K.pipe (K.desc j).n).data.length) : Nat) }, K.setP (K.desc j).n { K.pipe (K.desc j).n with data := (K.pipe (K.desc j).n).data ++ c.s.data.toList.take (64 - (K.pipe (K.desc j).n).data.length) }) (.returned (.bool false)) w5 from fun w5 F5 A5 hfr5 => by
      rw [hK2] at F5
      exact ⟨rfl, L, F5, ⟨rfl, Nat.le_refl _, Nat.le_refl _, Nat.le_refl _, fun _ _ _ => rfl, fun _ _ _ => rfl, fun _ _ _ => rfl, fun _ _ _ => rfl, fun _ _ e => e⟩, hfr5, fun _ e => .inl e, _, A5, fun _ => by rw [hwn]; rfl⟩)
    have Hfr1 := hide (show Fr (fun b => L.o b ≠ none ∨ b = a) w w1.drew from hfr1.drew)
    have hwr := hide hwr
    have Hpo := hide (h.op _ p1 p2)
    clear h ha hq A1 F1 hfr1 hD1 hdo hok hf hP p1 p2 hre hrn hw hr0 A1d F1d hwn hK2 hk a17 z17
    unfold ptrAt at *
    go_enter Tryz.func45, Tryz.ntmps45
    go_wp2_with fail
    refine hds.out.mono ?_
    rintro e w2 ⟨rfl, rfl⟩
    go_wp2_with fail
    refine hrd.out.mono ?_
    rintro e w2 ⟨rfl, rfl⟩
    go_upto_region 8 with (fail)
    refine region_tree (fun w' => w'.cell? ⟨a, 0, none⟩ = some (.pointer (some ⟨k, 0, none⟩)) ∧ w'.cell? ⟨a, 5, none⟩ = some (.string c.s) ∧ w'.cell? ⟨L.db j, 5, none⟩ = some (.pointer (some ⟨L.pb (K.desc j).n, 0, none⟩))) [0, 1, 2, 3, 4, 5, 6, 7, 8, 9, 10] 8 19 (by kernel_rfl) (by kernel_rfl) (fun _ _ d _ _ h => by cases d <;> exact h) s1 ?_
    simp only [List.map_cons, List.map_nil, List.getD_cons_zero, List.getD_cons_succ, List.drop_succ_cons, List.drop_zero]
    generalize w2.drew = wd at *
    go_big_quiet_step (fail)
    go_big_quiet_step (fail)
    go_big_quiet_step (fail)
    refine wpQuiet_val (.pointer (some ⟨L.db j, 0, none⟩)) rfl (fun w' hS => by (go_simp)) ?_
    simp only [Act.put, List.setIfInBounds_toArray, List.set_cons_succ, List.set_cons_zero]
    refine wpQuiet_val (.pointer (some ⟨L.db j, 5, none⟩)) rfl (fun w' hS => by (go_simp)) ?_
    simp only [Act.put, List.setIfInBounds_toArray, List.set_cons_succ, List.set_cons_zero]
    refine wpQuiet_val (.pointer (some ⟨L.pb (K.desc j).n, 0, none⟩)) rfl (fun w' hS => by
        have e : w'.cell? ⟨L.db j, 5, none⟩ = some (.pointer (some ⟨L.pb (K.desc j).n, 0, none⟩)) := hS.2.2
        go_simp) ?_
    simp only [Act.put, List.setIfInBounds_toArray, List.set_cons_succ, List.set_cons_zero]
    go_big_quiet_step (fail)
    refine wpQuiet_val (.pointer (some ⟨a, 0, none⟩)) rfl (fun w' hS => by (go_simp)) ?_
    simp only [Act.put, List.setIfInBounds_toArray, List.set_cons_succ, List.set_cons_zero]
    refine wpQuiet_val (.pointer (some ⟨a, 2, none⟩)) rfl (fun w' hS => by (go_simp)) ?_
    simp only [Act.put, List.setIfInBounds_toArray, List.set_cons_succ, List.set_cons_zero]
    refine wpQuiet_val (.pointer (some ⟨a, 5, none⟩)) rfl (fun w' hS => by (go_simp)) ?_
    simp only [Act.put, List.setIfInBounds_toArray, List.set_cons_succ, List.set_cons_zero]
    refine wpQuiet_val (.string c.s) rfl (fun w' hS => by
        have e : w'.cell? ⟨a, 5, none⟩ = some (.string c.s) := hS.2.1
        go_simp) ?_
    simp only [Act.put, List.setIfInBounds_toArray, List.set_cons_succ, List.set_cons_zero]
    refine wpQuiet_nil ?_
    refine tree_one' 11 (by kernel_rfl) (by decide) (by simp) rfl (fun Kc hK => ?_)
    simp only [List.getD_cons_zero, List.getD_cons_succ]
    go_wp2_with fail
    refine hwr.out.mono ?_
    rintro e w3 ⟨rfl, hA3, hf3⟩
    obtain ⟨A3, F3⟩ := Hpost.out w3 hf3 hA3
    have hq3 : w3.heap[L.db j]? = some (.cells (descC L j (K.desc j)) 84 (0, 0)) := (by have := F3.hd j j1 (by rw [HK2.out]; exact j2); rw [HK2.out] at this; exact this)
    have s3 : w3.cell? ⟨a, 0, none⟩ = some (.pointer (some ⟨k, 0, none⟩)) ∧ w3.cell? ⟨a, 5, none⟩ = some (.string c.s) ∧ w3.cell? ⟨L.db j, 5, none⟩ = some (.pointer (some ⟨L.pb (K.desc j).n, 0, none⟩)) := ⟨by rw [blk_cell A3]; rfl, by rw [blk_cell A3]; rfl, by rw [blk_cell hq3]; exact hpv.out⟩
    have HF3 := hide F3
    have HA3 := hide A3
    have Hf3 := hide hf3
    refine hK _ _ s3 ?_
    clear hK Kc hf3 hA3 F3 A3 hq3
    refine tree_heads (f := 1) [12, 13, 14, 15, 16, 17] (by kernel_rfl) (fun _ _ d _ _ h => by cases d <;> exact h) s3 ?_
    simp only [List.map_cons, List.map_nil, List.getD_cons_zero, List.getD_cons_succ]
    go_big_quiet_step (fail)
    refine wpQuiet_val (.int .i64 wn) rfl (fun w' hS => by (go_simp)) ?_
    simp only [Act.put, List.setIfInBounds_toArray, List.set_cons_succ, List.set_cons_zero]
    refine wpQuiet_val (.int .i64 0) rfl (fun w' hS => by (go_simp)) ?_
    simp only [Act.put, List.setIfInBounds_toArray, List.set_cons_succ, List.set_cons_zero]
    refine wpQuiet_val (.pointer (some ⟨a, 0, none⟩)) rfl (fun w' hS => by (go_simp)) ?_
    simp only [Act.put, List.setIfInBounds_toArray, List.set_cons_succ, List.set_cons_zero]
    refine wpQuiet_val (.pointer (some ⟨a, 8, none⟩)) rfl (fun w' hS => by (go_simp)) ?_
    simp only [Act.put, List.setIfInBounds_toArray, List.set_cons_succ, List.set_cons_zero]
    refine wpQuiet_val (.pointer (some ⟨a, 8, none⟩)) rfl (fun w' hS => by (go_simp)) ?_
    simp only [Act.put, List.setIfInBounds_toArray, List.set_cons_succ, List.set_cons_zero]
    refine wpQuiet_nil ?_
    refine tree_one' 18 (by kernel_rfl) (by decide) (by simp) rfl (fun Kc hK => ?_)
    simp only [List.getD_cons_zero, List.getD_cons_succ]
    have t8 : w3.cell? ⟨a, 8, none⟩ = some (.int .i64 0) := by rw [blk_cell HA3.out]; rfl
    have z8 : w3.frozen? ⟨a, 8, none⟩ = false := blk_frozen HA3.out _
    go_wp2_with fail
    obtain ⟨w4, hw4⟩ : ∃ w4, w4 = w3.setCell ⟨a, 8, none⟩ (.int .i64 wn) := ⟨_, rfl⟩
    rw [← hw4]
    have F4 : KF w4 k K2 L := by rw [hw4]; exact HF3.out.ask hao 8 _
    have A4 : AskAt w4 a k (L.qb i) c { noResV with err := 0, n := wn } := by rw [hw4]; exact ask_n HA3.out wn
    have hq4 : w4.heap[L.db j]? = some (.cells (descC L j (K.desc j)) 84 (0, 0)) := by have := F4.hd j j1 (by rw [HK2.out]; exact j2); rw [HK2.out] at this; exact this
    have s4 : w4.cell? ⟨a, 0, none⟩ = some (.pointer (some ⟨k, 0, none⟩)) ∧ w4.cell? ⟨a, 5, none⟩ = some (.string c.s) ∧ w4.cell? ⟨L.db j, 5, none⟩ = some (.pointer (some ⟨L.pb (K.desc j).n, 0, none⟩)) := ⟨by rw [blk_cell A4]; rfl, by rw [blk_cell A4]; rfl, by rw [blk_cell hq4]; exact hpv.out⟩
    have HF4 := hide F4
    have HA4 := hide A4
    have Hw4 := hide hw4
    refine hK _ _ s4 ?_
    clear hK Kc hw4 t8 z8 s3 F4 A4 hq4
    refine tree_end (by kernel_rfl) ?_
    try (simp only [List.map_cons, List.map_nil, List.getD_cons_zero, List.getD_cons_succ, List.drop_succ_cons, List.drop_zero])
    have t17 : w4.cell? ⟨a, 17, none⟩ = some (.int .i64 0) := by rw [blk_cell HA4.out]; rfl
    have z17 : w4.frozen? ⟨a, 17, none⟩ = false := blk_frozen HA4.out _
    obtain ⟨w5, hw5⟩ : ∃ w5, w5 = w4.setCell ⟨a, 17, none⟩ (.int .i64 0) := ⟨_, rfl⟩
    have A5 : AskAt w5 a k (L.qb i) c { noResV with err := 0, n := wn } := by rw [hw5]; exact ask_err HA4.out 0
    have F5 : KF w5 k K2 L := by rw [hw5]; exact HF4.out.ask hao 17 _
    have e17 : w5.cell? ⟨a, 17, none⟩ = some (.int .i64 0) := by rw [blk_cell A5]; rfl
    have hfr5 : Fr (fun b => L.o b ≠ none ∨ b = a) w w5 := by
      rw [hw5, Hw4.out]
      refine ((Hfr1.out.trans (Hf3.out.mono fun b hb e => ?_)).trans (fr_ask (L := L) w3 a 8 _)).trans (fr_ask (L := L) _ a 17 _)
      rcases e with e | e
      · exact .inl (by rw [e, Hpo.out.1]; simp)
      · exact .inl (by rw [e, Hpo.out.2]; simp)
    have hfin := hide (Hfin.out w5 F5 A5 hfr5)
    have Hw5 := hide hw5
    clear hw5 A5 F5 hfr5 HF3 HA3 HF4 HA4 Hw4 Hf3 s4 Hfr1 Hfin Hpost HK2 hpa hla
    go_upto_region 9 with (fail)
    rw [← Hw5.out]
    clear Hw5 t17 z17
    go_wp2_with fail
    go_ret
    exact hfin.out
end Go.Proofs.YtdnbfhcbcdodmaaGreatDoor

/- gate.Kernel.lives. Conditions: the contract's own premises. -/
namespace Go.Proofs.YtdnbfhcbcdodmaaGreatDoor
open Go.RowKit

attribute [local go_sem] Oper.semAt_some

/-- Is there a process of this number that hasn't ended? -/
def livesB (K : KQ) (pid : Int) : Bool := decide (1 ≤ pid ∧ pid ≤ K.qn ∧ (K.proc pid.toNat).inn = true) && !(K.proc pid.toNat).ended
def livesV (L : KLay) (K : KQ) (pid : Int) : Value := if livesB K pid = true then ptrAt (L.qb pid.toNat) else .pointer none
set_option maxRecDepth 100000 in
set_option maxHeartbeats 1000000 in
theorem lives_any (w : World) (k : Nat) (K : KQ) (L : KLay) (h : KF w k K L) (hq : 1 ≤ K.qn) (pid : Int) (hp : -9223372036854775808 ≤ pid ∧ pid ≤ 9223372036854775807) :
    Calls Tryz.prog 26 #[ptrAt k, .int .i64 pid] w fun e w' => e = .returned (livesV L K pid) ∧ w' = w := by
  obtain ⟨g, hg⟩ : ∃ g, L.qm = some g := by
    cases e : L.qm with
    | none =>
      have := h.qr
      rw [e] at this
      have : K.qn = 0 := this
      omega
    | some g => exact ⟨g, rfl⟩
  have hM : IMapAt Tryz.prog 3 w g (regL (fun i => (K.proc i).inn) (fun i => ptrAt (L.qb i)) K.qn) := by
    have := h.qr
    rw [hg] at this
    exact this
  have hlk := hM.look false (t := 65) (e := 71) Tryz.underlying3 Tryz.underlying65 (z := .pointer none) (by kernel_rfl) pid hp
  rw [regL_get] at hlk
  have c6 : w.cell? ⟨k, 6, none⟩ = some (.map (some g)) := by
    rw [blk_cell h.hk]
    show some (Value.map L.qm) = _
    rw [hg]
  by_cases hin : 1 ≤ pid ∧ pid ≤ K.qn ∧ (K.proc pid.toNat).inn = true
  · rw [if_pos hin] at hlk
    simp only [Bool.false_eq_true, if_false, Option.getD_some] at hlk
    have hpr := h.hq pid.toNat (by omega) (by omega)
    have c2 : w.cell? ⟨L.qb pid.toNat, 2, none⟩ = some (.bool (K.proc pid.toNat).ended) := by rw [blk_cell hpr]; rfl
    have hV : livesV L K pid = if (K.proc pid.toNat).ended = true then .pointer none else ptrAt (L.qb pid.toNat) := by
      unfold livesV livesB
      rw [decide_eq_true hin]
      cases (K.proc pid.toNat).ended <;> rfl
    rw [hV]
    generalize L.qb pid.toNat = qb at *
    cases he : (K.proc pid.toNat).ended with
    | true =>
      rw [he] at c2
      clear h hM hpr hV hin
      unfold ptrAt at *
      go_enter Tryz.func26, Tryz.ntmps26
      go_wp2_with fail
      go_ret
      exact ⟨rfl, rfl⟩
    | false =>
      rw [he] at c2
      clear h hM hpr hV hin
      unfold ptrAt at *
      go_enter Tryz.func26, Tryz.ntmps26
      go_wp2_with fail
      go_ret
      exact ⟨rfl, rfl⟩
  · rw [if_neg hin] at hlk
    simp only [Bool.false_eq_true, if_false, Option.getD_none] at hlk
    have hV : livesV L K pid = .pointer none := by
      unfold livesV livesB
      rw [decide_eq_false hin]
      rfl
    rw [hV]
    clear h hM hV hin
    unfold ptrAt at *
    go_enter Tryz.func26, Tryz.ntmps26
    go_wp2_with fail
    go_ret
    exact ⟨rfl, rfl⟩
end Go.Proofs.YtdnbfhcbcdodmaaGreatDoor

/- gate.asked.answer, by the number of the call. Conditions: the contract's own premises. -/
namespace Go.Proofs.YtdnbfhcbcdodmaaGreatDoor
open Go.RowKit

attribute [local go_sem] Oper.semAt_some

set_option maxRecDepth 100000 in
set_option maxHeartbeats 1000000 in
theorem ans_read (w : World) (k : Nat) (K : KQ) (L : KLay) (h : KF w k K L) (q a : Nat) (c : SysQ) (r : ResV) (ha : AskAt w a k q c r) (hno : c.no = 1) (R : Bool → World → Prop) (hc : Calls Tryz.prog 44 #[ptrAt a] w fun e w' => ∃ b, e = .returned (.bool b) ∧ R b w') :
    Calls Tryz.prog 27 #[ptrAt a] w fun e w' => ∃ b, e = .returned (.bool b) ∧ R b w' := by
  have a0 : w.cell? ⟨a, 0, none⟩ = some (.pointer (some ⟨k, 0, none⟩)) := by rw [blk_cell ha]; rfl
  have a2 : w.cell? ⟨a, 2, none⟩ = some (.int .i64 1) := by rw [blk_cell ha, ← hno]; rfl
  have k0 : w.cell? ⟨k, 0, none⟩ = some (.pointer (some ⟨L.f, 0, none⟩)) := by rw [blk_cell h.hk]; rfl
  have hc := hide hc
  clear h ha hno
  unfold ptrAt at *
  go_enter Tryz.func27, Tryz.ntmps27
  go_wp2_with fail
  refine hc.out.mono ?_
  rintro e w2 ⟨b, rfl, hR⟩
  go_wp2_with fail
  go_ret
  exact ⟨b, rfl, hR⟩
set_option maxRecDepth 100000 in
set_option maxHeartbeats 1000000 in
theorem ans_write (w : World) (k : Nat) (K : KQ) (L : KLay) (h : KF w k K L) (q a : Nat) (c : SysQ) (r : ResV) (ha : AskAt w a k q c r) (hno : c.no = 2) (R : Bool → World → Prop) (hc : Calls Tryz.prog 45 #[ptrAt a] w fun e w' => ∃ b, e = .returned (.bool b) ∧ R b w') :
    Calls Tryz.prog 27 #[ptrAt a] w fun e w' => ∃ b, e = .returned (.bool b) ∧ R b w' := by
  have a0 : w.cell? ⟨a, 0, none⟩ = some (.pointer (some ⟨k, 0, none⟩)) := by rw [blk_cell ha]; rfl
  have a2 : w.cell? ⟨a, 2, none⟩ = some (.int .i64 2) := by rw [blk_cell ha, ← hno]; rfl
  have k0 : w.cell? ⟨k, 0, none⟩ = some (.pointer (some ⟨L.f, 0, none⟩)) := by rw [blk_cell h.hk]; rfl
  have hc := hide hc
  clear h ha hno
  unfold ptrAt at *
  go_enter Tryz.func27, Tryz.ntmps27
  go_wp2_with fail
  refine hc.out.mono ?_
  rintro e w2 ⟨b, rfl, hR⟩
  go_wp2_with fail
  go_ret
  exact ⟨b, rfl, hR⟩
set_option maxRecDepth 100000 in
set_option maxHeartbeats 1000000 in
theorem ans_pipe (w : World) (k : Nat) (K : KQ) (L : KLay) (h : KF w k K L) (q a : Nat) (c : SysQ) (r : ResV) (ha : AskAt w a k q c r) (hno : c.no = 7) (R : Int → World → Prop) (hR : ∀ x w', R x w' → ∃ r', AskAt w' a k q c r') (hc : Calls Tryz.prog 49 #[ptrAt a] w fun e w' => ∃ x, e = .returned (.int .i64 x) ∧ R x w') :
    Calls Tryz.prog 27 #[ptrAt a] w fun e w' => e = .returned (.bool false) ∧ ∃ x w2, R x w2 ∧ w' = w2.setCell ⟨a, 17, none⟩ (.int .i64 x) := by
  have a0 : w.cell? ⟨a, 0, none⟩ = some (.pointer (some ⟨k, 0, none⟩)) := by rw [blk_cell ha]; rfl
  have a2 : w.cell? ⟨a, 2, none⟩ = some (.int .i64 7) := by rw [blk_cell ha, ← hno]; rfl
  have k0 : w.cell? ⟨k, 0, none⟩ = some (.pointer (some ⟨L.f, 0, none⟩)) := by rw [blk_cell h.hk]; rfl
  have hc := hide hc
  have HR := hide hR
  clear h ha hno hR
  unfold ptrAt at *
  go_enter Tryz.func27, Tryz.ntmps27
  go_wp2_with fail
  refine hc.out.mono ?_
  rintro e w2 ⟨x, rfl, hx⟩
  obtain ⟨r', hr'⟩ := HR.out x w2 hx
  have t17 : w2.cell? ⟨a, 17, none⟩ = some (.int .i64 r'.err) := by rw [blk_cell hr']; rfl
  have z17 : w2.frozen? ⟨a, 17, none⟩ = false := blk_frozen hr' _
  have Hx := hide hx
  clear hx hr' HR
  go_wp2_with fail
  go_ret
  exact ⟨rfl, x, w2, Hx.out, rfl⟩
set_option maxRecDepth 100000 in
set_option maxHeartbeats 1000000 in
theorem ans_fork (w : World) (k : Nat) (K : KQ) (L : KLay) (h : KF w k K L) (q a : Nat) (c : SysQ) (r : ResV) (ha : AskAt w a k q c r) (hno : c.no = 8) (R : Int → World → Prop) (hR : ∀ x w', R x w' → ∃ r', AskAt w' a k q c r') (hc : Calls Tryz.prog 50 #[ptrAt a] w fun e w' => ∃ x, e = .returned (.int .i64 x) ∧ R x w') :
    Calls Tryz.prog 27 #[ptrAt a] w fun e w' => e = .returned (.bool false) ∧ ∃ x w2, R x w2 ∧ w' = w2.setCell ⟨a, 17, none⟩ (.int .i64 x) := by
  have a0 : w.cell? ⟨a, 0, none⟩ = some (.pointer (some ⟨k, 0, none⟩)) := by rw [blk_cell ha]; rfl
  have a2 : w.cell? ⟨a, 2, none⟩ = some (.int .i64 8) := by rw [blk_cell ha, ← hno]; rfl
  have k0 : w.cell? ⟨k, 0, none⟩ = some (.pointer (some ⟨L.f, 0, none⟩)) := by rw [blk_cell h.hk]; rfl
  have hc := hide hc
  have HR := hide hR
  clear h ha hno hR
  unfold ptrAt at *
  go_enter Tryz.func27, Tryz.ntmps27
  go_wp2_with fail
  refine hc.out.mono ?_
  rintro e w2 ⟨x, rfl, hx⟩
  obtain ⟨r', hr'⟩ := HR.out x w2 hx
  have t17 : w2.cell? ⟨a, 17, none⟩ = some (.int .i64 r'.err) := by rw [blk_cell hr']; rfl
  have z17 : w2.frozen? ⟨a, 17, none⟩ = false := blk_frozen hr' _
  have Hx := hide hx
  clear hx hr' HR
  go_wp2_with fail
  go_ret
  exact ⟨rfl, x, w2, Hx.out, rfl⟩
end Go.Proofs.YtdnbfhcbcdodmaaGreatDoor

/- gate.Kernel.Call. Conditions: the contract's own premises. -/
namespace Go.Proofs.YtdnbfhcbcdodmaaGreatDoor
open Go.RowKit

attribute [local go_sem] Oper.semAt_some

def sysV (c : SysQ) : Value := .agg #[.int .i64 c.no, .int .i64 c.a, .int .i64 c.b, .string c.s, .string c.t, c.p]
def resC (r : ResV) : Array Value := #[.int .i64 r.n, .int .i64 r.m, .string r.s, r.list, .int .i64 r.st.ino, .int .i64 r.st.kind, .int .i64 r.st.mode, .int .i64 r.st.links, .int .i64 r.st.size, .int .i64 r.err]
def resVal (r : ResV) : Value := .agg (resC r)
set_option maxRecDepth 100000 in
set_option maxHeartbeats 1000000 in
theorem kcall_nobody (w : World) (k : Nat) (K : KQ) (L : KLay) (h : KF w k K L) (hq : 1 ≤ K.qn) (pid : Int) (hp : -9223372036854775808 ≤ pid ∧ pid ≤ 9223372036854775807) (c : SysQ) (hcp : c.p.oneCell' = true) (hl : livesB K pid = false) :
    Calls Tryz.prog 9 #[ptrAt k, .int .i64 pid, sysV c] w fun e w' => e = .returned (.tuple #[resVal { noResV with err := 3 }, .bool false]) ∧ Fr (fun _ => False) w w' := by
  obtain ⟨no, ca, cb, cs, ct, cp⟩ := c
  have hw2 : ∀ w2, Fr (fun _ => False) w w2 → Calls Tryz.prog 26 #[ptrAt k, .int .i64 pid] w2 fun e w' => e = .returned (.pointer none) ∧ w' = w2 := fun w2 hf => by
    have := lives_any w2 k K L (h.quiet hf) hq pid hp
    unfold livesV at this
    rw [if_neg (by rw [hl]; simp)] at this
    exact this
  have Hw2 := hide hw2
  clear hw2 h
  unfold ptrAt sysV resVal resC noResV noSt noBy at *
  go_enter Tryz.func9, Tryz.ntmps9
  go_wp2_with fail
  refine (Hw2.out _ (((Fr.refl _ _).alloc _).alloc _)).mono ?_
  rintro e w2 ⟨rfl, rfl⟩
  go_wp2_with fail
  go_returns
  exact ⟨rfl, ((Fr.refl _ _).alloc _).alloc _⟩

def noResC : Array Value := #[.int .i64 0, .int .i64 0, .string ⟨#[]⟩, .slice none 0 0, .int .i64 0, .int .i64 0, .int .i64 0, .int .i64 0, .int .i64 0, .int .i64 0]
/-- A call of one who lives: what the answer makes, and what it hands back. -/
def KCallPost (w : World) (A : World → Nat → Bool → ResV → World → Prop) (e : Ending) (w' : World) : Prop :=
  ∃ w2 a b r w3, Fr (fun _ => False) w w2 ∧ w.heap.size ≤ a ∧ a < w2.heap.size ∧ A w2 a b r w3 ∧ e = .returned (.tuple #[resVal (if b = true then noResV else r), .bool b]) ∧ Fr (fun x => w.heap.size ≤ x ∧ x < w2.heap.size) w3 w'
theorem setRow_fr (w : World) (g : Nat) (cs old : Array Value) (t : TypeId) (_hg : w.heap[g]? = some (.cells old t (0, 0))) (T : Nat → Prop) (hT : T g) : Fr T w (w.setRow g cs) := by
  refine ⟨rfl, rfl, rfl, by simp [World.setRow], fun k hk hne => ?_⟩
  show (w.heap.modify g _)[k]? = _
  rw [Array.getElem?_modify, if_neg (fun e => hne (by rw [← e]; exact hT))]
theorem results_row_tmp {P : Program} {fn : Func} {p u : Tmp} {ty : TypeId} (h : fn.results = #[.cell p ty, .tmp u]) (tmps : Array Value) (w : World) (g : Nat) (t : TypeId) (cs : Array Value) (fr : Nat × Nat) (d : TypeDesc)
    (hp : tmps.getD p undef = .pointer (some ⟨g, 0, none⟩)) (hg : w.heap[g]? = some (.cells cs t fr))
    (hu : P.underlying ty = some d) (hd : (match d with | .struct _ | .array _ _ => true | _ => false) = true) (hi : (P.info? ty).map (·.size) = some cs.size) (v : Value) (hv : tmps.getD u undef = v) :
    (results fn tmps).run P w = .ok (.tuple #[.agg cs, v]) w := by
  rw [results_cell_tmp h, hp, hv]
  simp [asAddr, run_loadVar_row w g t ty cs fr d hg hu hd hi]
set_option maxRecDepth 100000 in
set_option maxHeartbeats 1000000 in
theorem kcall_gen (w : World) (k : Nat) (K : KQ) (L : KLay) (h : KF w k K L) (hq : 1 ≤ K.qn) (pid : Int) (hp : -9223372036854775808 ≤ pid ∧ pid ≤ 9223372036854775807) (c : SysQ) (hcp : c.p.oneCell' = true) (hl : livesB K pid = true)
    (A : World → Nat → Bool → ResV → World → Prop) (hA : ∀ w2 a b r w3, A w2 a b r w3 → AskAt w3 a k (L.qb pid.toNat) c r ∧ (b = false → r.list.oneCell' = true) ∧ Fr (fun x => L.o x ≠ none ∨ x = a) w2 w3)
    (hans : ∀ w2 a, Fr (fun _ => False) w w2 → w.heap.size ≤ a → KF w2 k K L → AskAt w2 a k (L.qb pid.toNat) c noResV → L.o a = none → Calls Tryz.prog 27 #[ptrAt a] w2 fun e w' => ∃ b r, e = .returned (.bool b) ∧ A w2 a b r w') :
    Calls Tryz.prog 9 #[ptrAt k, .int .i64 pid, sysV c] w (KCallPost w A) := by
  obtain ⟨g, hg⟩ : ∃ g, g = w.heap.size := ⟨_, rfl⟩
  have hw2 : ∀ w2, Fr (fun _ => False) w w2 → Calls Tryz.prog 26 #[ptrAt k, .int .i64 pid] w2 fun e w' => e = .returned (ptrAt (L.qb pid.toNat)) ∧ w' = w2 := fun w2 hf => by
    have := lives_any w2 k K L (h.quiet hf) hq pid hp
    unfold livesV at this
    rw [if_pos hl] at this
    exact this
  obtain ⟨w1, hw1⟩ : ∃ w1, w1 = (w.alloc (.cells #[.int .i64 c.no, .int .i64 c.a, .int .i64 c.b, .string c.s, .string c.t, c.p] 28 (0, 0))).alloc (.cells noResC 36 (0, 0)) := ⟨_, rfl⟩
  have hf1 : Fr (fun _ => False) w w1 := by rw [hw1]; exact ((Fr.refl _ _).alloc _).alloc _
  have hz1 : w1.heap.size = g + 2 := by rw [hw1, hg]; simp
  have b0 : w1.heap[g]? = some (.cells #[.int .i64 c.no, .int .i64 c.a, .int .i64 c.b, .string c.s, .string c.t, c.p] 28 (0, 0)) := by
    rw [hw1, hg]; exact ((Fr.refl (fun _ => False) _).alloc _).get (blk_new w _) (fun e => e)
  have b1 : w1.heap[g + 1]? = some (.cells noResC 36 (0, 0)) := by rw [hw1, hg]; exact heap_alloc2_new w _ _
  obtain ⟨w2, hw2e⟩ : ∃ w2, w2 = w1.alloc (.cells (askC k (L.qb pid.toNat) c noResV) 88 (0, 0)) := ⟨_, rfl⟩
  have hf2 : Fr (fun _ => False) w1 w2 := by rw [hw2e]; exact (Fr.refl _ _).alloc _
  have hz2 : w2.heap.size = g + 3 := by rw [hw2e]; simp [hz1]
  have ha2 : AskAt w2 (g + 2) k (L.qb pid.toNat) c noResV := by unfold AskAt; rw [hw2e, ← hz1]; exact blk_new _ _
  have d0 : w1.cell? ⟨g, 0, none⟩ = some (.int .i64 c.no) := by rw [blk_cell b0]; rfl
  have d1 : w1.cell? ⟨g, 1, none⟩ = some (.int .i64 c.a) := by rw [blk_cell b0]; rfl
  have d2 : w1.cell? ⟨g, 2, none⟩ = some (.int .i64 c.b) := by rw [blk_cell b0]; rfl
  have d3 : w1.cell? ⟨g, 3, none⟩ = some (.string c.s) := by rw [blk_cell b0]; rfl
  have d4 : w1.cell? ⟨g, 4, none⟩ = some (.string c.t) := by rw [blk_cell b0]; rfl
  have d5 : w1.cell? ⟨g, 5, none⟩ = some c.p := by rw [blk_cell b0]; rfl
  have b12 : w2.heap[g + 1]? = some (.cells noResC 36 (0, 0)) := hf2.get b1 (fun e => e)
  have hca := hide (hans w2 (g + 2) (hf1.trans hf2) (by omega) (h.quiet (hf1.trans hf2)) ha2 (h.new _ (by omega)))
  have Hlv := hide (hw2 w1 hf1)
  have Hw1 := hide hw1
  have Hw2 := hide hw2e
  have Hf := hide (hf1.trans hf2)
  have HA := hide (hA w2 (g + 2))
  have Hb0 := hide b0
  have Hb12 := hide b12
  have Hg := hide hg
  have Hz1 := hide hz1
  have Hz2 := hide hz2
  have Hox := hide (h.new (g + 1) (by omega))
  have Hcp := hide hcp
  clear hw2 hf1 b0 b1 hf2 ha2 b12 hans h hq hw1 hw2e hA hz2 hl hp hcp hg hz1
  unfold ptrAt sysV at *
  go_enter Tryz.func9, Tryz.ntmps9
  go_upto_region 1 with (fail)
  rw [show w.heap.size + 1 = g + 1 from by rw [Hg.out]]
  have e1 := Hw1.out
  unfold noResC at e1
  rw [← e1, ← Hg.out]
  clear e1 Hw1
  go_wp2_with fail
  refine Hlv.out.mono ?_
  rintro e w9 ⟨rfl, rfl⟩
  clear Hlv
  go_upto_region 5 with (fail)
  have e2 := Hw2.out
  unfold askC noResV noSt noBy ptrAt at e2
  rw [← e2, Hz1.out]
  clear e2 Hw2 d0 d1 d2 d3 d4 d5
  go_wp2_with fail
  refine hca.out.mono ?_
  rintro e w3 ⟨b, r, rfl, hr⟩
  obtain ⟨ha3, hl3, hf3⟩ := HA.out b r w3 hr
  have q3 := hf3.get Hb12.out (fun e => by
    rcases e with e | e
    · exact e Hox.out
    · omega)
  have fin : ∀ w', Fr (fun x => w.heap.size ≤ x ∧ x < w2.heap.size) w3 w' → KCallPost w A (.returned (.tuple #[resVal (if b = true then noResV else r), .bool b])) w' := fun w' hf' =>
    ⟨w2, g + 2, b, r, w3, Hf.out, by rw [Hg.out]; omega, by rw [Hz2.out]; omega, hr, rfl, hf'⟩
  have Hfin := hide fin
  have Hq3 := hide q3
  have Ha3 := hide ha3
  have Hl3 := hide hl3
  clear hca HA hr hf3 q3 ha3 hl3 fin Hb12 Hox Hf
  cases b with
  | true =>
    obtain ⟨w4, hw4⟩ : ∃ w4, w4 = w3.setRow (g + 1) noResC := ⟨_, rfl⟩
    have q4 : w4.heap[g + 1]? = some (.cells noResC 36 (0, 0)) := by rw [hw4]; exact setRow_heap _ _ _ _ _ _ Hq3.out
    have hf4 : Fr (fun x => w.heap.size ≤ x ∧ x < w2.heap.size) w3 w4 := by rw [hw4]; exact setRow_fr _ _ _ _ _ Hq3.out _ ⟨by rw [← Hg.out]; omega, by rw [Hz2.out]; omega⟩
    have Hw4 := hide hw4
    have Hq4 := hide q4
    have Hf4 := hide hf4
    clear hw4 q4 hf4
    go_upto_region 6 with (fail)
    go_wp2_with (refine wpList_store_rowTo rfl 36 _ _ rfl rfl (g + 1) noResC ?s1 ?s2 36 _ Hq3.out ?s4 rfl ?s5 ?_)
    case s1 => rfl
    case s2 => rfl
    case s4 => kernel_rfl
    case s5 => kernel_rfl
    rw [← Hw4.out]
    exact bodyPost_ret (v := .tuple #[.agg noResC, .bool true]) (results_row_tmp rfl _ w4 (g + 1) 36 noResC _ _ rfl Hq4.out Tryz.underlying36 rfl (by kernel_rfl) _ rfl) rfl (Hfin.out _ Hf4.out)
  | false =>
    obtain ⟨w4, hw4⟩ : ∃ w4, w4 = w3.setRow (g + 1) (resC r) := ⟨_, rfl⟩
    have q4 : w4.heap[g + 1]? = some (.cells (resC r) 36 (0, 0)) := by rw [hw4]; exact setRow_heap _ _ _ _ _ _ Hq3.out
    have hf4 : Fr (fun x => w.heap.size ≤ x ∧ x < w2.heap.size) w3 w4 := by rw [hw4]; exact setRow_fr _ _ _ _ _ Hq3.out _ ⟨by rw [← Hg.out]; omega, by rw [Hz2.out]; omega⟩
    have hone : (resC r).all (·.oneCell') = true := by
      have := Hl3.out rfl
      simp only [resC, Array.all_eq_true_iff_forall_mem]
      intro x hx
      simp only [List.mem_toArray, List.mem_cons, List.not_mem_nil, or_false] at hx
      rcases hx with rfl | rfl | rfl | rfl | rfl | rfl | rfl | rfl | rfl | rfl
      all_goals first | rfl | exact this
    have x8 : w3.cell? ⟨g + 2, 8, none⟩ = some (.int .i64 r.n) := by rw [blk_cell Ha3.out]; rfl
    have x9 : w3.cell? ⟨g + 2, 9, none⟩ = some (.int .i64 r.m) := by rw [blk_cell Ha3.out]; rfl
    have x10 : w3.cell? ⟨g + 2, 10, none⟩ = some (.string r.s) := by rw [blk_cell Ha3.out]; rfl
    have x11 : w3.cell? ⟨g + 2, 11, none⟩ = some r.list := by rw [blk_cell Ha3.out]; rfl
    have x12 : w3.cell? ⟨g + 2, 12, none⟩ = some (.int .i64 r.st.ino) := by rw [blk_cell Ha3.out]; rfl
    have x13 : w3.cell? ⟨g + 2, 13, none⟩ = some (.int .i64 r.st.kind) := by rw [blk_cell Ha3.out]; rfl
    have x14 : w3.cell? ⟨g + 2, 14, none⟩ = some (.int .i64 r.st.mode) := by rw [blk_cell Ha3.out]; rfl
    have x15 : w3.cell? ⟨g + 2, 15, none⟩ = some (.int .i64 r.st.links) := by rw [blk_cell Ha3.out]; rfl
    have x16 : w3.cell? ⟨g + 2, 16, none⟩ = some (.int .i64 r.st.size) := by rw [blk_cell Ha3.out]; rfl
    have x17 : w3.cell? ⟨g + 2, 17, none⟩ = some (.int .i64 r.err) := by rw [blk_cell Ha3.out]; rfl
    have Hw4 := hide hw4
    have Hq4 := hide q4
    have Hf4 := hide hf4
    have Hone := hide hone
    clear hw4 q4 hf4 hone
    go_upto_region 7 with (fail)
    go_wp2_with (refine wpList_store_rowTo rfl 36 _ _ rfl rfl (g + 1) (resC r) ?s1 ?s2 36 _ Hq3.out ?s4 ?s6 ?s5 ?_)
    case s1 => rfl
    case s2 => rfl
    case s4 => kernel_rfl
    case s6 => rfl
    case s5 => exact Hone.out
    rw [← Hw4.out]
    exact bodyPost_ret (v := .tuple #[.agg (resC r), .bool false]) (results_row_tmp rfl _ w4 (g + 1) 36 (resC r) _ _ rfl Hq4.out Tryz.underlying36 rfl (by kernel_rfl) _ rfl) rfl (Hfin.out _ Hf4.out)
/-- A call of one who lives, by its answer. -/
def KAnsPost (w : World) (k : Nat) (K : KQ) (L : KLay) (R : Bool × ResQ × KQ) (e : Ending) (w' : World) : Prop :=
  e = .returned (.tuple #[resVal (if R.1 = true then noResV else resV R.2.1), .bool R.1]) ∧ ∃ L', KF w' k R.2.2 L' ∧ LExt K R.2.2 L L' ∧ Fr (fun b => L.o b ≠ none) w w' ∧ ∀ b, L'.o b ≠ none → L.o b ≠ none ∨ w.heap.size ≤ b
theorem kcall_any (w : World) (k : Nat) (K : KQ) (L : KLay) (h : KF w k K L) (hq : 1 ≤ K.qn) (pid : Int) (hp : -9223372036854775808 ≤ pid ∧ pid ≤ 9223372036854775807) (c : SysQ) (hcp : c.p.oneCell' = true) (hl : livesB K pid = true) (R : Bool × ResQ × KQ)
    (hans : ∀ w2 a, Fr (fun _ => False) w w2 → w.heap.size ≤ a → KF w2 k K L → AskAt w2 a k (L.qb pid.toNat) c noResV → L.o a = none → Calls Tryz.prog 27 #[ptrAt a] w2 (KaskPost w2 k K L pid.toNat a c R)) :
    Calls Tryz.prog 9 #[ptrAt k, .int .i64 pid, sysV c] w (KAnsPost w k K L R) := by
  refine (kcall_gen w k K L h hq pid hp c hcp hl (fun w2 a b r w3 => b = R.1 ∧ (R.1 = false → r = resV R.2.1) ∧ AskAt w3 a k (L.qb pid.toNat) c r ∧ KaskPost w2 k K L pid.toNat a c R (.returned (.bool b)) w3)
    (fun w2 a b r w3 hA => ?_) (fun w2 a f1 f2 h1 h2 h3 => (hans w2 a f1 f2 h1 h2 h3).mono ?_)).mono ?_
  · obtain ⟨h1, h2, h4, _, L', _, _, h5, _⟩ := hA
    exact ⟨h4, fun e => by rw [h2 (h1.symm.trans e)]; rfl, h5⟩
  · rintro e w3 ⟨rfl, L', a1, a2, a3, a4, r, a5, a6⟩
    exact ⟨R.1, r, rfl, rfl, a6, a5, rfl, L', a1, a2, a3, a4, r, a5, a6⟩
  · rintro e w' ⟨w2, a, b, r, w3, f1, f2, f3, ⟨rfl, g2, g4, _, L', a1, a2, a3, a4, r', a5, a6⟩, rfl, f4⟩
    have hS : ∀ x t, L'.o x = some t → ¬ (w.heap.size ≤ x ∧ x < w2.heap.size) := fun x t e e2 => by
      rcases a4 x (by rw [e]; simp) with e3 | e3
      · obtain ⟨t', e4⟩ := Option.ne_none_iff_exists'.1 e3
        have := h.lt e4
        omega
      · omega
    refine ⟨by cases hR : R.1 <;> simp [g2, hR], L', a1.still f4 hS, a2, ((f1.mono fun _ _ e => e.elim).trans' a3 fun x hx e => ?_).trans' f4 fun x hx e => ?_, fun b e => ?_⟩
    · rcases e with e | e
      · exact e
      · omega
    · omega
    · rcases a4 b e with e | e
      · exact .inl e
      · exact .inr (Nat.le_trans f1.size e)
end Go.Proofs.YtdnbfhcbcdodmaaGreatDoor

/- In the midst of a call: where the kernel stands. Conditions: each law's own premises. -/
namespace Go.Proofs.YtdnbfhcbcdodmaaGreatDoor
open Go.RowKit

/-- In the midst of a call of process i: the kernel stands at K1, laid as L1; the answer as r. -/
structure KIn (w : World) (k : Nat) (K : KQ) (L : KLay) (i a : Nat) (c : SysQ) (w1 : World) (K1 : KQ) (L1 : KLay) (r : ResV) : Prop where
  F : KF w1 k K1 L1
  E : LExt K K1 L L1
  R : Fr (fun b => L.o b ≠ none ∨ b = a) w w1
  N : ∀ b, L1.o b ≠ none → L.o b ≠ none ∨ w.heap.size ≤ b
  A : AskAt w1 a k (L.qb i) c r
  al : a < w.heap.size
  ao : L.o a = none
section
variable {w w1 w2 : World} {k : Nat} {K K1 K2 : KQ} {L L1 L2 : KLay} {i a : Nat} {c : SysQ} {r : ResV}
theorem KIn.start (h : KF w k K L) (hA : AskAt w a k (L.qb i) c r) (ha : L.o a = none) : KIn w k K L i a c w K L r :=
  ⟨h, .refl K L, Fr.refl _ _, fun _ e => .inl e, hA, blk_lt hA, ha⟩
theorem KIn.a1 (h : KIn w k K L i a c w1 K1 L1 r) : L1.o a = none := by
  by_cases e : L1.o a = none
  · exact e
  · rcases h.N a e with e2 | e2
    · exact absurd h.ao e2
    · have := h.al; omega
theorem KIn.ne (h : KIn w k K L i a c w1 K1 L1 r) {b : Nat} {t : Nat × Nat} (e : L1.o b = some t) : b ≠ a := fun e2 => by rw [e2, h.a1] at e; cases e
theorem KIn.qb (h : KIn w k K L i a c w1 K1 L1 r) (h1 : 1 ≤ i) (h2 : i ≤ K.qn) : L1.qb i = L.qb i := h.E.qb i h1 h2
theorem KIn.tb (h : KIn w k K L i a c w1 K1 L1 r) (h1 : 1 ≤ i) (h2 : i ≤ K.qn) : L1.tb i = L.tb i := h.E.tb i h1 h2
theorem KIn.hq (h : KIn w k K L i a c w1 K1 L1 r) (h1 : 1 ≤ i) (h2 : i ≤ K.qn) : w1.heap[L.qb i]? = some (.cells (procC L1 i (K1.proc i)) 76 (0, 0)) := by
  rw [← h.qb h1 h2]; exact h.F.hq i h1 (Nat.le_trans h2 h.E.qn)
theorem KIn.ht (h : KIn w k K L i a c w1 K1 L1 r) (h1 : 1 ≤ i) (h2 : i ≤ K.qn) : TabAt w1 (L.tb i) (tabS L1 (K1.proc i).fds) (L1.S (tTab i) w1) := by
  rw [← h.tb h1 h2]; exact h.F.ht i h1 (Nat.le_trans h2 h.E.qn)
/-- Nothing that is the kernel's or the call's has turned. -/
theorem KIn.still {T : Nat → Prop} (h : KIn w k K L i a c w1 K1 L1 r) (hf : Fr T w1 w2) (hT : ∀ b, T b → b < w1.heap.size → w.heap.size ≤ b ∧ L1.o b = none) : KIn w k K L i a c w2 K1 L1 r :=
  ⟨h.F.still (hf.mono (S' := fun b => b < w1.heap.size ∧ T b) fun b hb e => ⟨hb, e⟩) (fun b t e e2 => by rw [(hT b e2.2 e2.1).2] at e; cases e), h.E,
    h.R.trans' hf (fun b hb e => by have := (hT b e (Nat.lt_of_lt_of_le hb h.R.size)).1; omega), h.N, hf.get h.A (fun e => by have := (hT a e (blk_lt h.A)).1; have := h.al; omega), h.al, h.ao⟩
theorem KIn.quiet (h : KIn w k K L i a c w1 K1 L1 r) (hf : Fr (fun _ => False) w1 w2) : KIn w k K L i a c w2 K1 L1 r := h.still hf fun _ e => e.elim
theorem KIn.drew (h : KIn w k K L i a c w1 K1 L1 r) : KIn w k K L i a c w1.drew K1 L1 r := h.quiet (Fr.refl _ _).drew
theorem KIn.alloc (h : KIn w k K L i a c w1 K1 L1 r) (o : Obj) : KIn w k K L i a c (w1.alloc o) K1 L1 r := h.quiet ((Fr.refl _ _).alloc o)
/-- A cell of the answer. -/
theorem KIn.set (h : KIn w k K L i a c w1 K1 L1 r) (j : Nat) (v : Value) {r' : ResV} (e : (askC k (L.qb i) c r).setIfInBounds j v = askC k (L.qb i) c r') : KIn w k K L i a c (w1.setCell ⟨a, j, none⟩ v) K1 L1 r' :=
  ⟨h.F.ask h.a1 j v, h.E, h.R.trans (fr_ask w1 a j v), h.N, by have := blk_set h.A j v; rw [e] at this; exact this, h.al, h.ao⟩
theorem KIn.err (h : KIn w k K L i a c w1 K1 L1 r) (x : Int) : KIn w k K L i a c (w1.setCell ⟨a, 17, none⟩ (.int .i64 x)) K1 L1 { r with err := x } := h.set 17 _ rfl
theorem KIn.n (h : KIn w k K L i a c w1 K1 L1 r) (x : Int) : KIn w k K L i a c (w1.setCell ⟨a, 8, none⟩ (.int .i64 x)) K1 L1 { r with n := x } := h.set 8 _ rfl
theorem KIn.m (h : KIn w k K L i a c w1 K1 L1 r) (x : Int) : KIn w k K L i a c (w1.setCell ⟨a, 9, none⟩ (.int .i64 x)) K1 L1 { r with m := x } := h.set 9 _ rfl
theorem KIn.s (h : KIn w k K L i a c w1 K1 L1 r) (x : ByteArray) : KIn w k K L i a c (w1.setCell ⟨a, 10, none⟩ (.string x)) K1 L1 { r with s := x } := h.set 10 _ rfl
/-- The kernel has turned, and what it got is new. -/
theorem KIn.mut {X Y : Nat → Prop} (h : KIn w k K L i a c w1 K1 L1 r) (hm : KMut k K1 K2 L1 X Y w1 w2) (hX : ∀ b, X b → w.heap.size ≤ b) (hY : ∀ b, Y b → w.heap.size ≤ b) : ∃ L2, KIn w k K L i a c w2 K2 L2 r ∧ LExt K1 K2 L1 L2 := by
  obtain ⟨L2, f, e, g, n⟩ := hm
  refine ⟨L2, ⟨f, h.E.trans e, h.R.trans' g fun b hb x => ?_, fun b x => ?_, g.get h.A fun x => ?_, h.al, h.ao⟩, e⟩
  · rcases x with x | x
    · rcases h.N b x with y | y
      · exact .inl y
      · omega
    · have := hX b x; omega
  · rcases n b x with y | y | y
    · exact h.N b y
    · exact .inr (hY b y)
    · exact .inr (Nat.le_trans h.R.size y)
  · rcases x with x | x
    · exact x h.a1
    · have := hX a x; have := h.al; omega
/-- A part of the kernel has turned that was its own. -/
theorem KIn.own {T : Nat → Prop} (h : KIn w k K L i a c w1 K1 L1 r) (hF : KF w2 k K2 L2) (hE : LExt K1 K2 L1 L2) (hf : Fr T w1 w2) (hT : ∀ b, b < w1.heap.size → T b → L1.o b ≠ none) (hn : ∀ b, L2.o b ≠ none → L1.o b ≠ none ∨ w1.heap.size ≤ b) : KIn w k K L i a c w2 K2 L2 r :=
  ⟨hF, h.E.trans hE, h.R.trans' hf fun b hb x => by
      rcases h.N b (hT b (Nat.lt_of_lt_of_le hb h.R.size) x) with y | y
      · exact .inl y
      · omega, fun b x => by
      rcases hn b x with y | y
      · exact h.N b y
      · exact .inr (Nat.le_trans h.R.size y), hf.get h.A fun x => hT a (blk_lt h.A) x h.a1, h.al, h.ao⟩
theorem LExt.same {K' : KQ} (h : K.pn ≤ K'.pn ∧ K.dn ≤ K'.dn ∧ K.qn ≤ K'.qn) : LExt K K' L L := ⟨rfl, h.1, h.2.1, h.2.2, fun _ _ _ => rfl, fun _ _ _ => rfl, fun _ _ _ => rfl, fun _ _ _ => rfl, fun _ _ e => e⟩
theorem KIn.files {σ : FSt} {p : Nat → Nat} (h : KIn w k K L i a c w1 K1 L1 r) (hf : Fr (L1.S tFil w1) w1 w2) (hA : FilesAt w2 L1.f σ (L1.S tFil w1) p) : KIn w k K L i a c w2 { K1 with σ := σ } (L1.grow tFil w1 w2) r :=
  h.own (h.F.filesU hf hA) (grow_ext h.F hf.size (Nat.le_refl _) (Nat.le_refl _) (Nat.le_refl _)) hf (fun b hb e => by rcases e with e | e; (· rw [e]; simp); (· omega)) fun b e => grow_new e
theorem KIn.tab {t : TSt} (h : KIn w k K L i a c w1 K1 L1 r) {j : Nat} (h1 : 1 ≤ j) (h2 : j ≤ K1.qn) (hf : Fr (L1.S (tTab j) w1) w1 w2) (hA : TabAt w2 (L1.tb j) (tabS L1 t) (L1.S (tTab j) w1)) : KIn w k K L i a c w2 (K1.fds j t) (L1.grow (tTab j) w1 w2) r :=
  h.own (h.F.tabU h1 h2 hf hA) (grow_ext h.F hf.size (Nat.le_refl _) (Nat.le_refl _) (Nat.le_refl _)) hf (fun b hb e => by rcases e with e | e; (· rw [e]; simp); (· omega)) fun b e => grow_new e
theorem KIn.desc (h : KIn w k K L i a c w1 K1 L1 r) {j : Nat} (h1 : 1 ≤ j) (h2 : j ≤ K1.dn) {d : DescQ} (hf : Fr (fun b => b = L1.db j) w1 w2) (hb : w2.heap[L1.db j]? = some (.cells (descC L1 j d) 84 (0, 0))) (hi : d.inn = (K1.desc j).inn) : KIn w k K L i a c w2 (K1.setD j d) L1 r :=
  h.own (h.F.descU h1 h2 hf hb hi) (.same ⟨Nat.le_refl _, Nat.le_refl _, Nat.le_refl _⟩) hf (fun b _ e => by rw [e, h.F.od j h1 h2]; simp) fun b e => .inl e
theorem KIn.proc (h : KIn w k K L i a c w1 K1 L1 r) {j : Nat} (h1 : 1 ≤ j) (h2 : j ≤ K1.qn) {q : ProcQ} (hf : Fr (fun b => b = L1.qb j) w1 w2) (hb : w2.heap[L1.qb j]? = some (.cells (procC L1 j q) 76 (0, 0))) (hi : q.inn = (K1.proc j).inn) (hs : q.fds = (K1.proc j).fds) : KIn w k K L i a c w2 (K1.setQ j q) L1 r :=
  h.own (h.F.procU h1 h2 hf hb hi hs) (.same ⟨Nat.le_refl _, Nat.le_refl _, Nat.le_refl _⟩) hf (fun b _ e => by rw [e, h.F.oq j h1 h2]; simp) fun b e => .inl e
/-- What a function that answers an error leaves. -/
def KErrPost (w : World) (k : Nat) (K : KQ) (L : KLay) (i a : Nat) (c : SysQ) (R : ResQ × KQ) (e : Ending) (w' : World) : Prop :=
  e = .returned (.int .i64 R.1.err) ∧ ∃ L' r, KIn w k K L i a c w' R.2 L' r ∧ { r with err := R.1.err } = resV R.1
theorem KIn.post (h : KIn w k K L i a c w1 K1 L1 r) {R : Bool × ResQ × KQ} (e : R.2.2 = K1) (hr : R.1 = false → r = resV R.2.1) : KaskPost w k K L i a c R (.returned (.bool R.1)) w1 :=
  ⟨rfl, L1, by rw [e]; exact h.F, by rw [e]; exact h.E, h.R, h.N, r, h.A, hr⟩
end
end Go.Proofs.YtdnbfhcbcdodmaaGreatDoor
