/- shyardlaw12.told: all that can be seen of a kernel, as a text. Conditions: each contract's own premises. -/
import Derived.Test.YtdnbfhcbcdodmaaGreatDoorKerOutT
import Derived.Test.YtdnbfhcbcdodmaaGreatDoorKerOutT
namespace Go.Proofs.YtdnbfhcbcdodmaaGreatDoor
open Go.RowKit Go.Shelf Go.Maps

attribute [local go_sem] Oper.semAt_some

theorem wpIn_quiet {F : Fence} {n : Nat} {P : Program} {c : Code} {K : Act → World → Prop} {Q' : Exit → Act → World → Prop} {a : Act} {w : World} (h : c.wpIn F n P (Exit.then K (fun _ _ _ => False)) a w) : c.wpIn F n P (Exit.then K Q') a w :=
  wpIn_mono h fun e _ _ hq => by cases e <;> first | exact hq | exact hq.elim
/-- Behind the first text. -/
def ToS (w : World) (k : Nat) (K : KQ) (sp : Value) (W : World) : Prop := ∃ sb, sp = .pointer (some ⟨sb, 0, none⟩) ∧ w.heap.size < sb ∧ W.heap[w.heap.size]? = some (kbT k) ∧ W.heap[sb]? = some (.cells #[.string (headS K)] 9 (0, 0)) ∧ Fr (fun _ => False) w W
/-- A row of descriptors' numbers. -/
def ToR (w : World) (k sb bx : Nat) (ds : List Nat) (t : TSt) (s0 : ByteArray) (rb : Nat) (Y : World) (i : Value) (wr : World) : Prop :=
  ∃ j : Nat, i = .int .i64 j ∧ j ≤ 32 ∧ ToI w k sb bx ds (idsS t j s0) wr ∧ wr.heap[rb]? = some (.cells (tabI t 32) 3 (0, 0)) ∧ Fr (fun b => b = sb) Y wr
set_option maxRecDepth 100000 in
set_option maxHeartbeats 8000000 in
theorem told_F (w : World) (k : Nat) (K : KQ) (L : KLay) (h : KF w k K L) (N : Nat) (hok : KOk K N) (hN : N ≤ 1000000) (hq : 1 ≤ K.qn) (hd : 1 ≤ K.dn) (ho : ∀ n, (K.out n).size ≤ 100000000000000000) (he : ∀ x ∈ treeL K.σ, EntOk x) :
    Calls Tryz.prog 14 #[ptrAt k] w fun e w' => e = .returned (.string (toldS K)) ∧ Fr (fun _ => False) w w' := by
  have hsm := hok.small hN
  have hhs := headS_size hok.typed ho
  have hps : ∀ s, s ≤ (pidsL K).length → (procsS K s).size ≤ 200000001000000100 := fun s hs => by
    have a := procsS_size hsm hok.fds hhs s
    have b := pids_le hsm
    exact Nat.le_trans a (by generalize (procsS K s).size = p at *; omega)
  have hds : ∀ s, s ≤ (didsL K).length → (descsS K s).size ≤ 200000002000000100 := fun s hs => by
    have a := descsS_size hsm (hps _ (Nat.le_refl _)) s
    have b := dids_le hsm
    exact Nat.le_trans a (by generalize (descsS K s).size = p at *; omega)
  have hcnt := treeL_count hok.good.inv hok.good.live (hok.good.caps.mono hN)
  have hts : ∀ s, s ≤ (treeL K.σ).length → (treeT K s).size ≤ 200020002000000100 := fun s hs => by
    have a := treeT_size he (hds _ (Nat.le_refl _)) s
    exact Nat.le_trans a (by generalize (treeT K s).size = p at *; omega)
  have Hsm := hide hsm
  have Hps := hide hps
  have Hds := hide hds
  have Hts := hide hts
  have Hok := hide hok
  have Hh := hide h
  have He := hide he
  have Hhs := hide hhs
  obtain ⟨w1, hw1⟩ : ∃ w1, w1 = w.alloc (kbT k) := ⟨_, rfl⟩
  have b1 : w1.heap[w.heap.size]? = some (kbT k) := by rw [hw1]; exact blk_new _ _
  have f1 : Fr (fun _ => False) w w1 := by rw [hw1]; exact (Fr.refl _ _).alloc _
  have z1 : w1.heap.size = w.heap.size + 1 := by rw [hw1]; simp
  have Hb1 := hide b1
  have Hf1 := hide f1
  have Hz1 := hide z1
  have Hw1 := hide hw1
  clear hsm hhs hps hds hts hok h he ho hcnt b1 f1 z1 hw1
  unfold kbT at Hw1
  unfold ptrAt
  refine (callsIn_wide (n := 8)).1 ?_
  refine callsIn_of_wp_marks Tryz.func14 rfl trivial ?_ rfl
  simp only [Tryz.ntmps14, List.size_toArray, List.length_cons, List.length_nil, Nat.reduceAdd, Nat.reduceSub, Array.replicate_succ, Array.replicate_zero, List.push_toArray, List.append_toArray, List.nil_append, List.cons_append]
  gi_upto_region 1 with (fail)
  rw [← Hw1.out]
  gi_cut [3] from 13 (fun sp W => ToS w k K sp W)
  case first =>
    have Hd := hide ((Fr.refl (fun _ => False) w1).drew)
    have HS := hide (show ∀ u, Fr (fun _ => False) w1 u → u.cell? ⟨w.heap.size, 0, none⟩ = some (.pointer (some ⟨k, 0, none⟩)) from fun u hf => by rw [blk_cell (hf.get Hb1.out (fun e => e))]; rfl)
    have HO1 := hide (show ∀ u, Fr (fun _ => False) w1 u → _ from fun u hf => kout_1 u k K L (Hh.out.quiet (Hf1.out.trans hf)))
    have HO2 := hide (show ∀ u, Fr (fun _ => False) w1 u → _ from fun u hf => kout_2 u k K L (Hh.out.quiet (Hf1.out.trans hf)))
    have HTy := hide (show ∀ u, Fr (fun _ => False) w1 u → _ from fun u hf => ktyped_any u k K L (Hh.out.quiet (Hf1.out.trans hf)))
    unfold ptrAt at HO1 HO2 HTy
    have hty : K.typed.size ≤ 4096 := Hok.out.typed
    obtain ⟨n0, hn0⟩ : ∃ n, n = numB (K.typed.size : Nat) := ⟨_, rfl⟩
    have hz0 : n0.size ≤ 20 := by rw [hn0]; exact numB_size (by omega)
    have Hn0 := hide (show ∀ u, Calls Tryz.prog 35 #[.int .i64 (K.typed.size : Nat)] u (fun e w' => e = .returned (.string n0) ∧ Fr (fun _ => False) u w') from fun u => by rw [hn0]; exact num_any u _ (by omega))
    have hhd := Hhs.out
    obtain ⟨o1, ho1⟩ : ∃ c, c = K.out 1 := ⟨_, rfl⟩
    obtain ⟨o2, ho2⟩ : ∃ c, c = K.out 2 := ⟨_, rfl⟩
    obtain ⟨c15, hc15⟩ : ∃ c : ByteArray, c = ⟨#[111, 117, 116, 32]⟩ ++ o1 := ⟨_, rfl⟩
    have Hc15 := hide hc15
    obtain ⟨c16, hc16⟩ : ∃ c : ByteArray, c = c15 ++ ⟨#[124]⟩ := ⟨_, rfl⟩
    have Hc16 := hide hc16
    obtain ⟨c19, hc19⟩ : ∃ c : ByteArray, c = c16 ++ o2 := ⟨_, rfl⟩
    have Hc19 := hide hc19
    obtain ⟨c20, hc20⟩ : ∃ c : ByteArray, c = c19 ++ ⟨#[124]⟩ := ⟨_, rfl⟩
    have Hc20 := hide hc20
    obtain ⟨c24, hc24⟩ : ∃ c : ByteArray, c = c20 ++ n0 := ⟨_, rfl⟩
    have Hc24 := hide hc24
    have qc15 : c15.size = (⟨#[111, 117, 116, 32]⟩ : ByteArray).size + o1.size := by rw [hc15, ByteArray.size_append]
    have qc16 : c16.size = c15.size + (⟨#[124]⟩ : ByteArray).size := by rw [hc16, ByteArray.size_append]
    have qc19 : c19.size = c16.size + o2.size := by rw [hc19, ByteArray.size_append]
    have qc20 : c20.size = c19.size + (⟨#[124]⟩ : ByteArray).size := by rw [hc20, ByteArray.size_append]
    have qc24 : c24.size = c20.size + n0.size := by rw [hc24, ByteArray.size_append]
    have hhead : c24 = headS K := by rw [hc24, hc20, hc19, hc16, hc15, ho1, ho2, hn0]; rfl
    rw [← hhead] at hhd
    rw [← ho1] at HO1
    rw [← ho2] at HO2
    simp only [lz1, lz4] at qc15 qc16 qc19 qc20 qc24
    have zc15 : ¬ 9223372036854775807 < 4 + o1.size := by omega
    have zc16 : ¬ 9223372036854775807 < c15.size + 1 := by omega
    have zc19 : ¬ 9223372036854775807 < c16.size + o2.size := by omega
    have zc20 : ¬ 9223372036854775807 < c19.size + 1 := by omega
    have zc24 : ¬ 9223372036854775807 < c20.size + n0.size := by omega
    have Hhead := hide hhead
    clear ho1 ho2 hn0 hhead hhd hty hc15 qc15 hc16 qc16 hc19 qc19 hc20 qc20 hc24 qc24
    generalize K.typed.size = ty at *
    refine wpIn_quiet ?_
    refine region_tree_W (fun w' => w'.cell? ⟨w.heap.size, 0, none⟩ = some (.pointer (some ⟨k, 0, none⟩))) [0, 4, 8] 10 13 (by kernel_rfl) (by kernel_rfl) (fun ⟨_, _, h9⟩ => h9) (by kernel_rfl) (fun _ _ d _ _ h => by cases d <;> exact h) (HS.out _ Hd.out) ?_
    simp only [List.map_cons, List.map_nil, List.getD_cons_zero, List.getD_cons_succ, List.drop_succ_cons, List.drop_zero]
    refine wpQuiet_val (.pointer (some ⟨k, 0, none⟩)) rfl (fun w' hS => by (have e9 := hS; go_simp)) ?_
    simp only [Act.put, List.setIfInBounds_toArray, List.set_cons_succ, List.set_cons_zero]
    refine wpQuiet_val (.pointer (some ⟨k, 0, none⟩)) rfl (fun w' hS => by (have e9 := hS; go_simp)) ?_
    simp only [Act.put, List.setIfInBounds_toArray, List.set_cons_succ, List.set_cons_zero]
    refine wpQuiet_val (.pointer (some ⟨k, 0, none⟩)) rfl (fun w' hS => by (have e9 := hS; go_simp)) ?_
    simp only [Act.put, List.setIfInBounds_toArray, List.set_cons_succ, List.set_cons_zero]
    refine wpQuiet_nil ?_
    refine tree_two' 1 12 (by kernel_rfl) (by decide) (by decide) (by simp) (by simp) rfl rfl (fun Kc hK => ?_) (fun Kc hK => ?_)
    · simp only [List.getD_cons_zero, List.getD_cons_succ]
      go_wp2_with fail
      refine (HO1.out _ Hd.out).mono ?_
      rintro e u ⟨rfl, rfl⟩
      refine hK _ _ (HS.out _ Hd.out) ?_
      clear hK Kc
      refine tree_heads (f := 7) [2, 3] (by kernel_rfl) (fun _ _ d _ _ h => by cases d <;> exact h) (HS.out _ Hd.out) ?_
      simp only [List.map_cons, List.map_nil, List.getD_cons_zero, List.getD_cons_succ, List.drop_succ_cons, List.drop_zero]
      refine wpQuiet_val (.string c15) rfl (fun w' hS => by (rw [Hc15.out]; go_simp)) ?_
      simp only [Act.put, List.setIfInBounds_toArray, List.set_cons_succ, List.set_cons_zero]
      refine wpQuiet_val (.string c16) rfl (fun w' hS => by (rw [Hc16.out]; go_simp)) ?_
      simp only [Act.put, List.setIfInBounds_toArray, List.set_cons_succ, List.set_cons_zero]
      refine wpQuiet_nil ?_
      refine tree_two' 5 12 (by kernel_rfl) (by decide) (by decide) (by simp) (by simp) rfl rfl (fun Kc hK => ?_) (fun Kc hK => ?_)
      · simp only [List.getD_cons_zero, List.getD_cons_succ]
        go_wp2_with fail
        refine (HO2.out _ Hd.out).mono ?_
        rintro e u ⟨rfl, rfl⟩
        refine hK _ _ (HS.out _ Hd.out) ?_
        clear hK Kc
        refine tree_heads (f := 4) [6, 7] (by kernel_rfl) (fun _ _ d _ _ h => by cases d <;> exact h) (HS.out _ Hd.out) ?_
        simp only [List.map_cons, List.map_nil, List.getD_cons_zero, List.getD_cons_succ, List.drop_succ_cons, List.drop_zero]
        refine wpQuiet_val (.string c19) rfl (fun w' hS => by (rw [Hc19.out]; go_simp)) ?_
        simp only [Act.put, List.setIfInBounds_toArray, List.set_cons_succ, List.set_cons_zero]
        refine wpQuiet_val (.string c20) rfl (fun w' hS => by (rw [Hc20.out]; go_simp)) ?_
        simp only [Act.put, List.setIfInBounds_toArray, List.set_cons_succ, List.set_cons_zero]
        refine wpQuiet_nil ?_
        refine tree_two' 9 12 (by kernel_rfl) (by decide) (by decide) (by simp) (by simp) rfl rfl (fun Kc hK => ?_) (fun Kc hK => ?_)
        · simp only [List.getD_cons_zero, List.getD_cons_succ]
          go_wp2_with fail
          refine (HTy.out _ Hd.out).mono ?_
          rintro e u ⟨rfl, rfl⟩
          refine hK _ _ (HS.out _ Hd.out) ?_
          clear hK Kc
          refine tree_two' 10 12 (by kernel_rfl) (by decide) (by decide) (by simp) (by simp) rfl rfl (fun Kc hK => ?_) (fun Kc hK => ?_)
          · simp only [List.getD_cons_zero, List.getD_cons_succ]
            go_wp2_with fail
            refine (Hn0.out _).mono ?_
            rintro e u4 ⟨rfl, hu⟩
            have hf4 := Fr.trans Hd.out hu
            refine hK _ _ (HS.out _ hf4) ?_
            clear hK Kc
            refine tree_heads (f := 1) [11] (by kernel_rfl) (fun _ _ d _ _ h => by cases d <;> exact h) (HS.out _ hf4) ?_
            simp only [List.map_cons, List.map_nil, List.getD_cons_zero, List.getD_cons_succ, List.drop_succ_cons, List.drop_zero]
            refine wpQuiet_val (.string c24) rfl (fun w' hS => by (rw [Hc24.out]; go_simp)) ?_
            simp only [Act.put, List.setIfInBounds_toArray, List.set_cons_succ, List.set_cons_zero]
            refine wpQuiet_nil ?_
            refine tree_one' 12 (by kernel_rfl) (by decide) (by simp) rfl (fun Kc hK => ?_)
            simp only [List.getD_cons_zero, List.getD_cons_succ]
            go_wp2_with fail
            refine hK _ _ (HS.out _ ((hf4).alloc (.cells #[.string ⟨#[]⟩] 9 (0, 0)))) ?_
            clear hK Kc
            have hsl5 := Fr.size hf4
            have hfa5 := Fr.alloc hf4 (.cells #[.string ⟨#[]⟩] 9 (0, 0))
            have hfa5s := hfa5.size
            have sbA5 : ((u4).alloc (.cells #[.string ⟨#[]⟩] 9 (0, 0))).heap[u4.heap.size]? = some (.cells #[.string ⟨#[]⟩] 9 (0, 0)) := blk_new _ _
            refine tree_end (by kernel_rfl) ?_
            try (simp only [List.map_cons, List.map_nil, List.getD_cons_zero, List.getD_cons_succ, List.drop_succ_cons, List.drop_zero])
            go_wp2_with fail
            gi_meet
            exact ⟨_, rfl, by have := Hz1.out; omega, (Fr.alloc hf4 (.cells #[.string c24] 9 (0, 0))).get Hb1.out (fun e => e), by rw [← Hhead.out]; exact blk_new _ _, Hf1.out.trans (Fr.alloc hf4 (.cells #[.string c24] 9 (0, 0)))⟩
          · simp only [List.getD_cons_zero, List.getD_cons_succ]
            go_wp2_with fail
            refine hK _ _ (HS.out _ ((Hd.out).alloc (.cells #[.string ⟨#[]⟩] 9 (0, 0)))) ?_
            clear hK Kc
            have hsl6 := Fr.size Hd.out
            have hfa6 := Fr.alloc Hd.out (.cells #[.string ⟨#[]⟩] 9 (0, 0))
            have hfa6s := hfa6.size
            have sbA6 : ((w1.drew).alloc (.cells #[.string ⟨#[]⟩] 9 (0, 0))).heap[w1.heap.size]? = some (.cells #[.string ⟨#[]⟩] 9 (0, 0)) := blk_new _ _
            refine tree_one' 10 (by kernel_rfl) (by decide) (by simp) rfl (fun Kc hK => ?_)
            simp only [List.getD_cons_zero, List.getD_cons_succ]
            go_wp2_with fail
            refine (Hn0.out _).mono ?_
            rintro e u7 ⟨rfl, hu⟩
            have hf7 := Fr.trans hfa6 hu
            have sb7 := hu.get sbA6 (fun e => e)
            refine hK _ _ (HS.out _ hf7) ?_
            clear hK Kc
            refine tree_heads (f := 0) [11] (by kernel_rfl) (fun _ _ d _ _ h => by cases d <;> exact h) (HS.out _ hf7) ?_
            simp only [List.map_cons, List.map_nil, List.getD_cons_zero, List.getD_cons_succ, List.drop_succ_cons, List.drop_zero]
            refine wpQuiet_val (.string c24) rfl (fun w' hS => by (rw [Hc24.out]; go_simp)) ?_
            simp only [Act.put, List.setIfInBounds_toArray, List.set_cons_succ, List.set_cons_zero]
            refine wpQuiet_nil ?_
            refine tree_end (by kernel_rfl) ?_
            try (simp only [List.map_cons, List.map_nil, List.getD_cons_zero, List.getD_cons_succ, List.drop_succ_cons, List.drop_zero])
            have cs := (blk_cell sb7 0).trans (show _ = some (Value.string ⟨#[]⟩) from rfl)
            have zs := blk_frozen sb7 0
            go_wp2_with fail
            gi_meet
            exact ⟨_, rfl, by have := Hz1.out; omega, ((hf7).trans' (frSet _ _ 0 _) (fun b hb e => by omega)).get Hb1.out (fun e => e), by rw [blk_set sb7, Hhead.out]; rfl, Hf1.out.trans ((hf7).trans' (frSet _ _ 0 _) (fun b hb e => by omega))⟩
        · simp only [List.getD_cons_zero, List.getD_cons_succ]
          go_wp2_with fail
          refine hK _ _ (HS.out _ ((Hd.out).alloc (.cells #[.string ⟨#[]⟩] 9 (0, 0)))) ?_
          clear hK Kc
          have hsl8 := Fr.size Hd.out
          have hfa8 := Fr.alloc Hd.out (.cells #[.string ⟨#[]⟩] 9 (0, 0))
          have hfa8s := hfa8.size
          have sbA8 : ((w1.drew).alloc (.cells #[.string ⟨#[]⟩] 9 (0, 0))).heap[w1.heap.size]? = some (.cells #[.string ⟨#[]⟩] 9 (0, 0)) := blk_new _ _
          refine tree_one' 9 (by kernel_rfl) (by decide) (by simp) rfl (fun Kc hK => ?_)
          simp only [List.getD_cons_zero, List.getD_cons_succ]
          go_wp2_with fail
          refine (HTy.out _ hfa8).mono ?_
          rintro e u ⟨rfl, rfl⟩
          refine hK _ _ (HS.out _ hfa8) ?_
          clear hK Kc
          refine tree_one' 10 (by kernel_rfl) (by decide) (by simp) rfl (fun Kc hK => ?_)
          simp only [List.getD_cons_zero, List.getD_cons_succ]
          go_wp2_with fail
          refine (Hn0.out _).mono ?_
          rintro e u10 ⟨rfl, hu⟩
          have hf10 := Fr.trans hfa8 hu
          have sb10 := hu.get sbA8 (fun e => e)
          refine hK _ _ (HS.out _ hf10) ?_
          clear hK Kc
          refine tree_heads (f := 0) [11] (by kernel_rfl) (fun _ _ d _ _ h => by cases d <;> exact h) (HS.out _ hf10) ?_
          simp only [List.map_cons, List.map_nil, List.getD_cons_zero, List.getD_cons_succ, List.drop_succ_cons, List.drop_zero]
          refine wpQuiet_val (.string c24) rfl (fun w' hS => by (rw [Hc24.out]; go_simp)) ?_
          simp only [Act.put, List.setIfInBounds_toArray, List.set_cons_succ, List.set_cons_zero]
          refine wpQuiet_nil ?_
          refine tree_end (by kernel_rfl) ?_
          try (simp only [List.map_cons, List.map_nil, List.getD_cons_zero, List.getD_cons_succ, List.drop_succ_cons, List.drop_zero])
          have cs := (blk_cell sb10 0).trans (show _ = some (Value.string ⟨#[]⟩) from rfl)
          have zs := blk_frozen sb10 0
          go_wp2_with fail
          gi_meet
          exact ⟨_, rfl, by have := Hz1.out; omega, ((hf10).trans' (frSet _ _ 0 _) (fun b hb e => by omega)).get Hb1.out (fun e => e), by rw [blk_set sb10, Hhead.out]; rfl, Hf1.out.trans ((hf10).trans' (frSet _ _ 0 _) (fun b hb e => by omega))⟩
      · simp only [List.getD_cons_zero, List.getD_cons_succ]
        go_wp2_with fail
        refine hK _ _ (HS.out _ ((Hd.out).alloc (.cells #[.string ⟨#[]⟩] 9 (0, 0)))) ?_
        clear hK Kc
        have hsl11 := Fr.size Hd.out
        have hfa11 := Fr.alloc Hd.out (.cells #[.string ⟨#[]⟩] 9 (0, 0))
        have hfa11s := hfa11.size
        have sbA11 : ((w1.drew).alloc (.cells #[.string ⟨#[]⟩] 9 (0, 0))).heap[w1.heap.size]? = some (.cells #[.string ⟨#[]⟩] 9 (0, 0)) := blk_new _ _
        refine tree_one' 5 (by kernel_rfl) (by decide) (by simp) rfl (fun Kc hK => ?_)
        simp only [List.getD_cons_zero, List.getD_cons_succ]
        go_wp2_with fail
        refine (HO2.out _ hfa11).mono ?_
        rintro e u ⟨rfl, rfl⟩
        refine hK _ _ (HS.out _ hfa11) ?_
        clear hK Kc
        refine tree_heads (f := 3) [6, 7] (by kernel_rfl) (fun _ _ d _ _ h => by cases d <;> exact h) (HS.out _ hfa11) ?_
        simp only [List.map_cons, List.map_nil, List.getD_cons_zero, List.getD_cons_succ, List.drop_succ_cons, List.drop_zero]
        refine wpQuiet_val (.string c19) rfl (fun w' hS => by (rw [Hc19.out]; go_simp)) ?_
        simp only [Act.put, List.setIfInBounds_toArray, List.set_cons_succ, List.set_cons_zero]
        refine wpQuiet_val (.string c20) rfl (fun w' hS => by (rw [Hc20.out]; go_simp)) ?_
        simp only [Act.put, List.setIfInBounds_toArray, List.set_cons_succ, List.set_cons_zero]
        refine wpQuiet_nil ?_
        refine tree_one' 9 (by kernel_rfl) (by decide) (by simp) rfl (fun Kc hK => ?_)
        simp only [List.getD_cons_zero, List.getD_cons_succ]
        go_wp2_with fail
        refine (HTy.out _ hfa11).mono ?_
        rintro e u ⟨rfl, rfl⟩
        refine hK _ _ (HS.out _ hfa11) ?_
        clear hK Kc
        refine tree_one' 10 (by kernel_rfl) (by decide) (by simp) rfl (fun Kc hK => ?_)
        simp only [List.getD_cons_zero, List.getD_cons_succ]
        go_wp2_with fail
        refine (Hn0.out _).mono ?_
        rintro e u14 ⟨rfl, hu⟩
        have hf14 := Fr.trans hfa11 hu
        have sb14 := hu.get sbA11 (fun e => e)
        refine hK _ _ (HS.out _ hf14) ?_
        clear hK Kc
        refine tree_heads (f := 0) [11] (by kernel_rfl) (fun _ _ d _ _ h => by cases d <;> exact h) (HS.out _ hf14) ?_
        simp only [List.map_cons, List.map_nil, List.getD_cons_zero, List.getD_cons_succ, List.drop_succ_cons, List.drop_zero]
        refine wpQuiet_val (.string c24) rfl (fun w' hS => by (rw [Hc24.out]; go_simp)) ?_
        simp only [Act.put, List.setIfInBounds_toArray, List.set_cons_succ, List.set_cons_zero]
        refine wpQuiet_nil ?_
        refine tree_end (by kernel_rfl) ?_
        try (simp only [List.map_cons, List.map_nil, List.getD_cons_zero, List.getD_cons_succ, List.drop_succ_cons, List.drop_zero])
        have cs := (blk_cell sb14 0).trans (show _ = some (Value.string ⟨#[]⟩) from rfl)
        have zs := blk_frozen sb14 0
        go_wp2_with fail
        gi_meet
        exact ⟨_, rfl, by have := Hz1.out; omega, ((hf14).trans' (frSet _ _ 0 _) (fun b hb e => by omega)).get Hb1.out (fun e => e), by rw [blk_set sb14, Hhead.out]; rfl, Hf1.out.trans ((hf14).trans' (frSet _ _ 0 _) (fun b hb e => by omega))⟩
    · simp only [List.getD_cons_zero, List.getD_cons_succ]
      go_wp2_with fail
      refine hK _ _ (HS.out _ ((Hd.out).alloc (.cells #[.string ⟨#[]⟩] 9 (0, 0)))) ?_
      clear hK Kc
      have hsl15 := Fr.size Hd.out
      have hfa15 := Fr.alloc Hd.out (.cells #[.string ⟨#[]⟩] 9 (0, 0))
      have hfa15s := hfa15.size
      have sbA15 : ((w1.drew).alloc (.cells #[.string ⟨#[]⟩] 9 (0, 0))).heap[w1.heap.size]? = some (.cells #[.string ⟨#[]⟩] 9 (0, 0)) := blk_new _ _
      refine tree_one' 1 (by kernel_rfl) (by decide) (by simp) rfl (fun Kc hK => ?_)
      simp only [List.getD_cons_zero, List.getD_cons_succ]
      go_wp2_with fail
      refine (HO1.out _ hfa15).mono ?_
      rintro e u ⟨rfl, rfl⟩
      refine hK _ _ (HS.out _ hfa15) ?_
      clear hK Kc
      refine tree_heads (f := 6) [2, 3] (by kernel_rfl) (fun _ _ d _ _ h => by cases d <;> exact h) (HS.out _ hfa15) ?_
      simp only [List.map_cons, List.map_nil, List.getD_cons_zero, List.getD_cons_succ, List.drop_succ_cons, List.drop_zero]
      refine wpQuiet_val (.string c15) rfl (fun w' hS => by (rw [Hc15.out]; go_simp)) ?_
      simp only [Act.put, List.setIfInBounds_toArray, List.set_cons_succ, List.set_cons_zero]
      refine wpQuiet_val (.string c16) rfl (fun w' hS => by (rw [Hc16.out]; go_simp)) ?_
      simp only [Act.put, List.setIfInBounds_toArray, List.set_cons_succ, List.set_cons_zero]
      refine wpQuiet_nil ?_
      refine tree_one' 5 (by kernel_rfl) (by decide) (by simp) rfl (fun Kc hK => ?_)
      simp only [List.getD_cons_zero, List.getD_cons_succ]
      go_wp2_with fail
      refine (HO2.out _ hfa15).mono ?_
      rintro e u ⟨rfl, rfl⟩
      refine hK _ _ (HS.out _ hfa15) ?_
      clear hK Kc
      refine tree_heads (f := 3) [6, 7] (by kernel_rfl) (fun _ _ d _ _ h => by cases d <;> exact h) (HS.out _ hfa15) ?_
      simp only [List.map_cons, List.map_nil, List.getD_cons_zero, List.getD_cons_succ, List.drop_succ_cons, List.drop_zero]
      refine wpQuiet_val (.string c19) rfl (fun w' hS => by (rw [Hc19.out]; go_simp)) ?_
      simp only [Act.put, List.setIfInBounds_toArray, List.set_cons_succ, List.set_cons_zero]
      refine wpQuiet_val (.string c20) rfl (fun w' hS => by (rw [Hc20.out]; go_simp)) ?_
      simp only [Act.put, List.setIfInBounds_toArray, List.set_cons_succ, List.set_cons_zero]
      refine wpQuiet_nil ?_
      refine tree_one' 9 (by kernel_rfl) (by decide) (by simp) rfl (fun Kc hK => ?_)
      simp only [List.getD_cons_zero, List.getD_cons_succ]
      go_wp2_with fail
      refine (HTy.out _ hfa15).mono ?_
      rintro e u ⟨rfl, rfl⟩
      refine hK _ _ (HS.out _ hfa15) ?_
      clear hK Kc
      refine tree_one' 10 (by kernel_rfl) (by decide) (by simp) rfl (fun Kc hK => ?_)
      simp only [List.getD_cons_zero, List.getD_cons_succ]
      go_wp2_with fail
      refine (Hn0.out _).mono ?_
      rintro e u19 ⟨rfl, hu⟩
      have hf19 := Fr.trans hfa15 hu
      have sb19 := hu.get sbA15 (fun e => e)
      refine hK _ _ (HS.out _ hf19) ?_
      clear hK Kc
      refine tree_heads (f := 0) [11] (by kernel_rfl) (fun _ _ d _ _ h => by cases d <;> exact h) (HS.out _ hf19) ?_
      simp only [List.map_cons, List.map_nil, List.getD_cons_zero, List.getD_cons_succ, List.drop_succ_cons, List.drop_zero]
      refine wpQuiet_val (.string c24) rfl (fun w' hS => by (rw [Hc24.out]; go_simp)) ?_
      simp only [Act.put, List.setIfInBounds_toArray, List.set_cons_succ, List.set_cons_zero]
      refine wpQuiet_nil ?_
      refine tree_end (by kernel_rfl) ?_
      try (simp only [List.map_cons, List.map_nil, List.getD_cons_zero, List.getD_cons_succ, List.drop_succ_cons, List.drop_zero])
      have cs := (blk_cell sb19 0).trans (show _ = some (Value.string ⟨#[]⟩) from rfl)
      have zs := blk_frozen sb19 0
      go_wp2_with fail
      gi_meet
      exact ⟨_, rfl, by have := Hz1.out; omega, ((hf19).trans' (frSet _ _ 0 _) (fun b hb e => by omega)).get Hb1.out (fun e => e), by rw [blk_set sb19, Hhead.out]; rfl, Hf1.out.trans ((hf19).trans' (frSet _ _ 0 _) (fun b hb e => by omega))⟩
  case rest =>
    obtain ⟨sb, rfl, hsb, hkb, hsc, hfr⟩ := hcut
    have kc : wc.cell? ⟨w.heap.size, 0, none⟩ = some (.pointer (some ⟨k, 0, none⟩)) := by rw [blk_cell hkb]; rfl
    obtain ⟨W0, hW0⟩ : ∃ W0, W0 = wc.alloc (kbT k) := ⟨_, rfl⟩
    obtain ⟨b1, hb1⟩ : ∃ b1, b1 = wc.heap.size := ⟨_, rfl⟩
    have fW0 : Fr (fun _ => False) wc W0 := by rw [hW0]; exact (Fr.refl _ _).alloc _
    have zW0 : W0.heap.size = b1 + 1 := by rw [hW0, hb1]; simp
    have l1 := blk_lt hkb
    have l2 := blk_lt hsc
    have Z1 : ToZ w sb b1 [] (b1 + 1) := ⟨by omega, ⟨hsb, by omega⟩, ⟨by omega, by omega⟩, fun b hb => by cases hb⟩
    have H0 := hide (show ToJ w k sb b1 [] (b1 + 1) (pidsL K) (procsS K) 0 (fun b => b < W0.heap.size + 2) W0 from ⟨fun b hb => by omega, Nat.zero_le _, fW0.get hkb (fun e => e), fW0.get hsc (fun e => e), by rw [hW0, hb1]; exact blk_new _ _, fun b hb => (by cases hb), hfr.trans fW0⟩)
    have HZ1 := hide Z1
    have HW0 := hide hW0
    have Hb1' := hide hb1
    have HzW := hide zW0
    have Hsb := hide hsb
    clear hW0 hb1 fW0 zW0 l1 l2 Z1 hkb hsc hfr hsb
    unfold kbT at HW0
    gi_wp2
    refine ⟨trivial, (callsIn_wide.2 (procs_any _ _)).mono ?_⟩
    rintro e w' ⟨rfl, rfl⟩
    gi_wp2
    rw [← HW0.out, ← Hb1'.out]
    clear kc
    refine rf_law3b (α := Nat) (σ := Nat) (q := 27) 29 #[.pointer (some ⟨b1, 0, none⟩)] rfl (enters_of Tryz.func29 (by kernel_rfl) rfl) (fun i => .agg (procA K i)) (fun i => procA K i) 46 4
      (RStep id (· + 1) (pidsL K)) (RFin id (pidsL K)) 0 (ToJ w k sb b1 [] (b1 + 1) (pidsL K) (procsS K)) (fun _ _ _ => False) ?hI ?hImono (fun _ _ _ _ h _ => h) (fun _ _ _ _ h _ => h) H0.out ?hiter ?assign ?body ?done ?stop
    case hI =>
      rintro s A X Y h hf
      rw [HzW.out] at hf
      exact h.frame HZ1.out hf
    case hImono => exact fun s A A' X h hA => h.mono hA
    case hiter =>
      intro l' J' Jx' W' hJI' hJf' hJxf' hJA' hY' h0'
      refine procs1_iter (8 - 1) (by omega) b1 k K hq Hsm.out.qn id (· + 1) (fun _ => rfl) (ToJ w k sb b1 [] (b1 + 1) (pidsL K) (procsS K)) L ?_ ?_ 0 rfl l' J' Jx' W' hJI' hJf' hJxf' hJA' hY' h0'
      · rintro s A X ⟨a1, a2, a3⟩
        rw [blk_cell a3.bx]
        rfl
      · rintro s A X ⟨a1, a2, a3⟩
        exact Hh.out.quiet a3.fr
    case assign =>
      rintro l' s A x s' X Kc _ _ hsz hK
      have hK := hide hK
      simp only [procA]
      gi_wp2
      exact hK.out _ _ ((Fr.refl _ _).alloc _) hsz (blk_new _ _)
    case stop => exact fun c A W hx => hx.elim
    case body =>
      rintro l' s A x s' xb X ⟨hlt, hxx, rfl⟩ ⟨a1, a2, a3⟩ hxb hb hsz hA0 hA1
      simp only [id] at hlt hxx
      have hmem : x ∈ pidsL K := by rw [hxx]; exact List.getElem_mem hlt
      obtain ⟨x1, x2, x3⟩ := numsL_mem.1 hmem
      have hnext := procsS_succ K hlt
      rw [← hxx] at hnext
      have hpr := Hsm.out.pr x x1 x2
      have hqn := Hsm.out.qn
      obtain ⟨s0, hs0⟩ : ∃ c, c = procsS K s := ⟨_, rfl⟩
      have hsz0 : s0.size ≤ 200000001000000100 := by rw [hs0]; exact Hps.out s a2
      obtain ⟨n0, hn0⟩ : ∃ c, c = numB (x : Nat) := ⟨_, rfl⟩
      obtain ⟨n1, hn1⟩ : ∃ c, c = numB ((K.proc x).parent : Nat) := ⟨_, rfl⟩
      obtain ⟨n2, hn2⟩ : ∃ c, c = numB (K.proc x).status := ⟨_, rfl⟩
      have y0 : n0.size ≤ 20 := by rw [hn0]; exact numB_size (by omega)
      have y1 : n1.size ≤ 20 := by rw [hn1]; exact numB_size (by omega)
      have y2 : n2.size ≤ 20 := by rw [hn2]; exact numB_size hpr.2
      have Hn0 := hide (show ∀ u, Calls Tryz.prog 35 #[.int .i64 (x : Nat)] u (fun e w' => e = .returned (.string n0) ∧ Fr (fun _ => False) u w') from fun u => by rw [hn0]; exact num_any u _ (by omega))
      have Hn1 := hide (show ∀ u, Calls Tryz.prog 35 #[.int .i64 ((K.proc x).parent : Nat)] u (fun e w' => e = .returned (.string n1) ∧ Fr (fun _ => False) u w') from fun u => by rw [hn1]; exact num_any u _ (by omega))
      have Hn2 := hide (show ∀ u, Calls Tryz.prog 35 #[.int .i64 (K.proc x).status] u (fun e w' => e = .returned (.string n2) ∧ Fr (fun _ => False) u w') from fun u => by rw [hn2]; exact num_any u _ hpr.2)
      obtain ⟨c32, hc32⟩ : ∃ c : ByteArray, c = ⟨#[32, 112]⟩ ++ n0 := ⟨_, rfl⟩
      have Hc32 := hide hc32
      obtain ⟨c33, hc33⟩ : ∃ c : ByteArray, c = c32 ++ ⟨#[44]⟩ := ⟨_, rfl⟩
      have Hc33 := hide hc33
      obtain ⟨c37, hc37⟩ : ∃ c : ByteArray, c = c33 ++ n1 := ⟨_, rfl⟩
      have Hc37 := hide hc37
      obtain ⟨c38, hc38⟩ : ∃ c : ByteArray, c = c37 ++ ⟨#[44]⟩ := ⟨_, rfl⟩
      have Hc38 := hide hc38
      obtain ⟨c42, hc42⟩ : ∃ c : ByteArray, c = c38 ++ n2 := ⟨_, rfl⟩
      have Hc42 := hide hc42
      obtain ⟨c43, hc43⟩ : ∃ c : ByteArray, c = s0 ++ c42 := ⟨_, rfl⟩
      have Hc43 := hide hc43
      have qc32 : c32.size = (⟨#[32, 112]⟩ : ByteArray).size + n0.size := by rw [hc32, ByteArray.size_append]
      have qc33 : c33.size = c32.size + (⟨#[44]⟩ : ByteArray).size := by rw [hc33, ByteArray.size_append]
      have qc37 : c37.size = c33.size + n1.size := by rw [hc37, ByteArray.size_append]
      have qc38 : c38.size = c37.size + (⟨#[44]⟩ : ByteArray).size := by rw [hc38, ByteArray.size_append]
      have qc42 : c42.size = c38.size + n2.size := by rw [hc42, ByteArray.size_append]
      have qc43 : c43.size = s0.size + c42.size := by rw [hc43, ByteArray.size_append]
      have zc32 : ¬ 9223372036854775807 < 2 + n0.size := by
        simp only [lz1, lz2] at qc32 qc33 qc37 qc38 qc42 qc43
        omega
      have zc33 : ¬ 9223372036854775807 < c32.size + 1 := by
        simp only [lz1, lz2] at qc32 qc33 qc37 qc38 qc42 qc43
        omega
      have zc37 : ¬ 9223372036854775807 < c33.size + n1.size := by
        simp only [lz1, lz2] at qc32 qc33 qc37 qc38 qc42 qc43
        omega
      have zc38 : ¬ 9223372036854775807 < c37.size + 1 := by
        simp only [lz1, lz2] at qc32 qc33 qc37 qc38 qc42 qc43
        omega
      have zc42 : ¬ 9223372036854775807 < c38.size + n2.size := by
        simp only [lz1, lz2] at qc32 qc33 qc37 qc38 qc42 qc43
        omega
      have zc43 : ¬ 9223372036854775807 < s0.size + c42.size := by
        simp only [lz1, lz2] at qc32 qc33 qc37 qc38 qc42 qc43
        omega
      have eL : c43 = procS0 K x (procsS K s) := by rw [hc43, hc42, hc38, hc37, hc33, hc32, hs0, hn0, hn1, hn2]; rfl
      have hcz : c43.size ≤ 200000001000000300 := by
        simp only [lz1, lz2] at qc32 qc33 qc37 qc38 qc42 qc43
        omega
      clear hc32 hc33 hc37 hc38 hc42 hc43 qc32 qc33 qc37 qc38 qc42 qc43
      have Hd := hide ((Fr.refl (fun _ => False) X).drew)
      have HS := hide (show ∀ u, Fr (fun _ => False) X u → u.cell? ⟨sb, 0, none⟩ = some (.string s0) ∧ u.cell? ⟨xb, 0, none⟩ = some (.int .i64 (x : Nat)) ∧ u.cell? ⟨xb, 1, none⟩ = some (.int .i64 ((K.proc x).parent : Nat)) ∧ u.cell? ⟨xb, 3, none⟩ = some (.int .i64 (K.proc x).status) from fun u hf => ⟨by rw [blk_cell (hf.get a3.sc (fun e => e)), hs0]; rfl, by rw [blk_cell (hf.get hb (fun e => e))]; rfl, by rw [blk_cell (hf.get hb (fun e => e))]; rfl, by rw [blk_cell (hf.get hb (fun e => e))]; rfl⟩)
      have A1 := hide a1
      have A3 := hide a3
      have Hb := hide hb
      have Hxb := hide hxb
      have Hsz := hide hsz
      have HeL := hide eL
      have Hlt := hide hlt
      have Hnext := hide hnext
      have Hmem := hide hmem
      have hen : (K.proc x).ended = true ∨ (K.proc x).ended = false := by cases (K.proc x).ended <;> simp
      clear a1 a2 a3 hb hxb hsz eL hlt hnext hmem hxx hs0 hn0 hn1 hn2 hA0 hA1 hpr hqn x3
      gi_wp2
      refine region_tree_R (fun w' => w'.cell? ⟨sb, 0, none⟩ = some (.string s0) ∧ w'.cell? ⟨xb, 0, none⟩ = some (.int .i64 (x : Nat)) ∧ w'.cell? ⟨xb, 1, none⟩ = some (.int .i64 ((K.proc x).parent : Nat)) ∧ w'.cell? ⟨xb, 3, none⟩ = some (.int .i64 (K.proc x).status)) [0, 1, 2, 6, 7, 11, 12] 9 16 (by kernel_rfl) (by kernel_rfl) (fun ⟨_, _, h9⟩ => h9) (by kernel_rfl) (fun _ _ d _ _ h => by cases d <;> exact h) (HS.out _ Hd.out) ?_
      simp only [List.map_cons, List.map_nil, List.getD_cons_zero, List.getD_cons_succ, List.drop_succ_cons, List.drop_zero]
      refine wpQuiet_val (.string s0) rfl (fun w' hS => by (have e9 := hS.1; go_simp)) ?_
      simp only [Act.put, List.setIfInBounds_toArray, List.set_cons_succ, List.set_cons_zero]
      refine wpQuiet_val (.pointer (some ⟨xb, 0, none⟩)) rfl (fun w' hS => by (go_simp)) ?_
      simp only [Act.put, List.setIfInBounds_toArray, List.set_cons_succ, List.set_cons_zero]
      refine wpQuiet_val (.int .i64 (x : Nat)) rfl (fun w' hS => by (have e9 := hS.2.1; go_simp)) ?_
      simp only [Act.put, List.setIfInBounds_toArray, List.set_cons_succ, List.set_cons_zero]
      refine wpQuiet_val (.pointer (some ⟨xb, 1, none⟩)) rfl (fun w' hS => by (go_simp)) ?_
      simp only [Act.put, List.setIfInBounds_toArray, List.set_cons_succ, List.set_cons_zero]
      refine wpQuiet_val (.int .i64 ((K.proc x).parent : Nat)) rfl (fun w' hS => by (have e9 := hS.2.2.1; go_simp)) ?_
      simp only [Act.put, List.setIfInBounds_toArray, List.set_cons_succ, List.set_cons_zero]
      refine wpQuiet_val (.pointer (some ⟨xb, 3, none⟩)) rfl (fun w' hS => by (go_simp)) ?_
      simp only [Act.put, List.setIfInBounds_toArray, List.set_cons_succ, List.set_cons_zero]
      refine wpQuiet_val (.int .i64 (K.proc x).status) rfl (fun w' hS => by (have e9 := hS.2.2.2; go_simp)) ?_
      simp only [Act.put, List.setIfInBounds_toArray, List.set_cons_succ, List.set_cons_zero]
      refine wpQuiet_nil ?_
      refine tree_one' 3 (by kernel_rfl) (by decide) (by simp) rfl (fun Kc hK => ?_)
      simp only [List.getD_cons_zero, List.getD_cons_succ]
      go_wp2_with fail
      refine (Hn0.out _).mono ?_
      rintro e u0 ⟨rfl, hu⟩
      have hf0 := Hd.out.trans hu
      refine hK _ _ (HS.out _ hf0) ?_
      clear hK Kc hu
      refine tree_heads (f := 6) [4, 5] (by kernel_rfl) (fun _ _ d _ _ h => by cases d <;> exact h) (HS.out _ hf0) ?_
      simp only [List.map_cons, List.map_nil, List.getD_cons_zero, List.getD_cons_succ, List.drop_succ_cons, List.drop_zero]
      refine wpQuiet_val (.string c32) rfl (fun w' hS => by (rw [Hc32.out]; go_simp)) ?_
      simp only [Act.put, List.setIfInBounds_toArray, List.set_cons_succ, List.set_cons_zero]
      refine wpQuiet_val (.string c33) rfl (fun w' hS => by (rw [Hc33.out]; go_simp)) ?_
      simp only [Act.put, List.setIfInBounds_toArray, List.set_cons_succ, List.set_cons_zero]
      refine wpQuiet_nil ?_
      refine tree_one' 8 (by kernel_rfl) (by decide) (by simp) rfl (fun Kc hK => ?_)
      simp only [List.getD_cons_zero, List.getD_cons_succ]
      go_wp2_with fail
      refine (Hn1.out _).mono ?_
      rintro e u1 ⟨rfl, hu⟩
      have hf1 := hf0.trans hu
      refine hK _ _ (HS.out _ hf1) ?_
      clear hK Kc hu
      refine tree_heads (f := 3) [9, 10] (by kernel_rfl) (fun _ _ d _ _ h => by cases d <;> exact h) (HS.out _ hf1) ?_
      simp only [List.map_cons, List.map_nil, List.getD_cons_zero, List.getD_cons_succ, List.drop_succ_cons, List.drop_zero]
      refine wpQuiet_val (.string c37) rfl (fun w' hS => by (rw [Hc37.out]; go_simp)) ?_
      simp only [Act.put, List.setIfInBounds_toArray, List.set_cons_succ, List.set_cons_zero]
      refine wpQuiet_val (.string c38) rfl (fun w' hS => by (rw [Hc38.out]; go_simp)) ?_
      simp only [Act.put, List.setIfInBounds_toArray, List.set_cons_succ, List.set_cons_zero]
      refine wpQuiet_nil ?_
      refine tree_one' 13 (by kernel_rfl) (by decide) (by simp) rfl (fun Kc hK => ?_)
      simp only [List.getD_cons_zero, List.getD_cons_succ]
      go_wp2_with fail
      refine (Hn2.out _).mono ?_
      rintro e u2 ⟨rfl, hu⟩
      have hf2 := hf1.trans hu
      refine hK _ _ (HS.out _ hf2) ?_
      clear hK Kc hu
      refine tree_heads (f := 0) [14, 15] (by kernel_rfl) (fun _ _ d _ _ h => by cases d <;> exact h) (HS.out _ hf2) ?_
      simp only [List.map_cons, List.map_nil, List.getD_cons_zero, List.getD_cons_succ, List.drop_succ_cons, List.drop_zero]
      refine wpQuiet_val (.string c42) rfl (fun w' hS => by (rw [Hc42.out]; go_simp)) ?_
      simp only [Act.put, List.setIfInBounds_toArray, List.set_cons_succ, List.set_cons_zero]
      refine wpQuiet_val (.string c43) rfl (fun w' hS => by (rw [Hc43.out]; go_simp)) ?_
      simp only [Act.put, List.setIfInBounds_toArray, List.set_cons_succ, List.set_cons_zero]
      refine wpQuiet_nil ?_
      refine tree_end (by kernel_rfl) ?_
      try (simp only [List.map_cons, List.map_nil, List.getD_cons_zero, List.getD_cons_succ, List.drop_succ_cons, List.drop_zero])
      have hsbL := hf2.get A3.out.sc (fun e => e)
      have cs : u2.cell? ⟨sb, 0, none⟩ = some (.string s0) := (HS.out _ hf2).1
      have zs := blk_frozen hsbL 0
      obtain ⟨Y, hY⟩ : ∃ Y, Y = u2.setCell ⟨sb, 0, none⟩ (.string c43) := ⟨_, rfl⟩
      have TY : ToI w k sb b1 [] c43 Y := by rw [hY]; exact (A3.out.frame HZ1.out hf2 (fun _ _ e => e)).put HZ1.out c43
      have fY : Fr (fun b => b = sb) X Y := by rw [hY]; exact (hf2.mono fun _ _ e => e.elim).trans (frSet _ _ 0 _)
      have bY := fY.get Hb.out (by have := Hxb.out; have := HZ1.out.s.2; have := HzW.out; omega)
      have HY := hide hY
      have HTY := hide TY
      have HfY := hide fY
      have HbY := hide bY
      have k0 : Y.cell? ⟨w.heap.size, 0, none⟩ = some (.pointer (some ⟨k, 0, none⟩)) := by rw [blk_cell TY.kb]; rfl
      have x0 : Y.cell? ⟨xb, 0, none⟩ = some (.int .i64 (x : Nat)) := by rw [blk_cell bY]; rfl
      have x4 : Y.cell? ⟨xb, 2, none⟩ = some (.bool (K.proc x).ended) := by rw [blk_cell bY]; rfl
      have csY : Y.cell? ⟨sb, 0, none⟩ = some (.string c43) := by rw [blk_cell TY.sc]; rfl
      have zsY := blk_frozen TY.sc 0
      have hsbY : sb < Y.heap.size := blk_lt TY.sc
      have FY := Hh.out.quiet TY.fr
      clear hY TY fY bY hsbL
      go_wp2_with fail
      rw [← HY.out]
      rcases hen with en | en
      · rw [en] at x4
        have zb : ¬ 9223372036854775807 < c43.size + 1 := by omega
        obtain ⟨Y2, hY2⟩ : ∃ Y2, Y2 = Y.setCell ⟨sb, 0, none⟩ (.string (c43 ++ ⟨#[33]⟩)) := ⟨_, rfl⟩
        have T2 : ToI w k sb b1 [] (c43 ++ ⟨#[33]⟩) Y2 := by rw [hY2]; exact HTY.out.put HZ1.out _
        have f2 : Fr (fun b => b = sb) Y Y2 := by rw [hY2]; exact frSet _ _ 0 _
        have b2 := f2.get HbY.out (by have := Hxb.out; have := HZ1.out.s.2; have := HzW.out; omega)
        have k2 : Y2.cell? ⟨w.heap.size, 0, none⟩ = some (.pointer (some ⟨k, 0, none⟩)) := by rw [blk_cell T2.kb]; rfl
        have x2' : Y2.cell? ⟨xb, 0, none⟩ = some (.int .i64 (x : Nat)) := by rw [blk_cell b2]; rfl
        have Ht := hide (ktable_nobody Y2 k K L (Hh.out.quiet T2.fr) hq x (by have := Hsm.out.qn; omega) (by rw [livesB_mem Hmem.out, en]; rfl))
        have Hfin := hide (show rfPost3 W0.heap.size A (ToJ w k sb b1 [] (b1 + 1) (pidsL K) (procsS K)) (fun _ _ _ => False) (s + 1) X .normal ⟨#[], []⟩ Y2 from
          T2.out HZ1.out (by rw [Hnext.out]; unfold procS; rw [if_pos en, ← HeL.out]; rfl) Hlt.out A1.out ⟨by have := HZ1.out.s.2; have := HzW.out; omega, Hsz.out⟩ (HfY.out.trans f2) _)
        have HY2 := hide hY2
        unfold ptrAt at Ht
        rw [hY2] at k2 x2'
        clear hY2 T2 f2 b2 hcz hsz0
        gi_wp2
        rw [← HY2.out]
        refine ⟨trivial, (CallsIn.inRound l' (callsIn_wide.2 Ht.out)).mono ?_⟩
        rintro e v2 ⟨rfl, hv2⟩
        have Hfin2 := hide (show rfPost3 W0.heap.size A (ToJ w k sb b1 [] (b1 + 1) (pidsL K) (procsS K)) (fun _ _ _ => False) (s + 1) X .normal ⟨#[], []⟩ v2 from by rw [hv2]; exact Hfin.out)
        clear hv2 Hfin Ht k2 x2' k0 x0 x4 csY zsY
        gi_wp2
        gi_loopw [53] (fun i wr => i = .int .i64 0 ∧ Hid (wr = v2)) (fun _ _ => 0)
        case atStart => exact ⟨rfl, hide rfl⟩
        case round =>
          obtain ⟨rfl, hwr⟩ := hrel
          gi_wp2
          rw [hwr.out]
          exact Hfin2.out
      · rw [en] at x4
        have Ht := hide (ktable_any Y k K L FY Hok.out.fds x (by have := Hsm.out.qn; omega) (by rw [livesB_mem Hmem.out, en]; rfl) x rfl x1 x2)
        unfold ptrAt at Ht
        have Hen := hide en
        have hxq : x ≤ K.qn := x2
        clear FY en
        gi_wp2
        refine ⟨trivial, (CallsIn.inRound l' (callsIn_wide.2 Ht.out)).mono ?_⟩
        rintro e Z ⟨rb, rfl, hrb, hrow, hfZ⟩
        have R0 := hide (show ToR w k sb b1 [] (K.proc x).fds c43 rb Z (.int .i64 0) Z from ⟨0, rfl, by omega, HTY.out.frame HZ1.out hfZ (fun _ _ e => e), hrow, Fr.refl _ _⟩)
        have Hrb := hide (show sb ≠ rb by omega)
        have HfZ := hide hfZ
        clear hrow hfZ hrb Ht k0 x0 x4 csY zsY hsbY
        gi_wp2
        gi_loopw [53] (fun i wr => ToR w k sb b1 [] (K.proc x).fds c43 rb Z i wr) (fun i _ => 32 - (Go.RowKit.intOf i).toNat)
        case atStart => exact R0.out
        case round =>
          clear R0
          obtain ⟨j, rfl, hj, c1, c2, c3⟩ := hrel
          by_cases hlt' : j < 32
          · have e1 : wr.cell? ⟨rb, j, none⟩ = some (.int .i64 (tabN (K.proc x).fds 32 j)) := by rw [blk_cell c2, tabI_get, if_pos hlt']
            have hvb := tabN_le Hok.out.fds x1 hxq Hsm.out.dn 32
            obtain ⟨s1, hs1⟩ : ∃ c, c = idsS (K.proc x).fds j c43 := ⟨_, rfl⟩
            have hsz1 : s1.size ≤ 200000001000001300 := by
              rw [hs1]
              have := idsS_size hvb j c43
              exact Nat.le_trans this (by omega)
            obtain ⟨vt, hvt⟩ : ∃ v, v = tabN (K.proc x).fds 32 j := ⟨_, rfl⟩
            have hvt2 : vt ≤ 9223372036854775807 := by rw [hvt]; exact hvb j
            obtain ⟨m0, hm0⟩ : ∃ c, c = numB vt := ⟨_, rfl⟩
            have ym : m0.size ≤ 20 := by rw [hm0]; exact numB_size hvt2
            have Hn0 := hide (show ∀ u, Calls Tryz.prog 35 #[.int .i64 vt] u (fun e w' => e = .returned (.string m0) ∧ Fr (fun _ => False) u w') from fun u => by rw [hm0]; exact num_any u _ hvt2)
            rw [← hvt] at e1
            have l1 : (0 : Int) ≤ (j : Int) := by omega
            have l2 : (j : Int) < 32 := by omega
            obtain ⟨c60, hc60⟩ : ∃ c : ByteArray, c = ⟨#[46]⟩ ++ m0 := ⟨_, rfl⟩
            have Hc60 := hide hc60
            obtain ⟨c61, hc61⟩ : ∃ c : ByteArray, c = s1 ++ c60 := ⟨_, rfl⟩
            have Hc61 := hide hc61
            have qc60 : c60.size = (⟨#[46]⟩ : ByteArray).size + m0.size := by rw [hc60, ByteArray.size_append]
            have qc61 : c61.size = s1.size + c60.size := by rw [hc61, ByteArray.size_append]
            have zc60 : ¬ 9223372036854775807 < 1 + m0.size := by
              simp only [lz1] at qc60 qc61
              omega
            have zc61 : ¬ 9223372036854775807 < s1.size + c60.size := by
              simp only [lz1] at qc60 qc61
              omega
            have eL1 : c61 = idsS (K.proc x).fds (j + 1) c43 := by rw [hc61, hc60, hs1, hm0, hvt]; rfl
            clear hc60 hc61 qc60 qc61
            have Hd := hide ((Fr.refl (fun _ => False) wr).drew)
            have HS := hide (show ∀ u, Fr (fun _ => False) wr u → u.cell? ⟨sb, 0, none⟩ = some (.string s1) from fun u hf => by rw [blk_cell (hf.get c1.sc (fun e => e)), hs1]; rfl)
            have C1 := hide c1
            have C2 := hide c2
            have C3 := hide c3
            have HeL1 := hide eL1
            clear c1 c2 c3 eL1 hs1 hvt hm0 hvb hcz
            gi_wp2
            refine region_tree_R (fun w' => w'.cell? ⟨sb, 0, none⟩ = some (.string s1)) [0, 1] 3 5 (by kernel_rfl) (by kernel_rfl) (fun ⟨_, _, h9⟩ => h9) (by kernel_rfl) (fun _ _ d _ _ h => by cases d <;> exact h) (HS.out _ Hd.out) ?_
            simp only [List.map_cons, List.map_nil, List.getD_cons_zero, List.getD_cons_succ, List.drop_succ_cons, List.drop_zero]
            refine wpQuiet_val (.string s1) rfl (fun w' hS => by (have e9 := hS; go_simp)) ?_
            simp only [Act.put, List.setIfInBounds_toArray, List.set_cons_succ, List.set_cons_zero]
            go_big_quiet_step (fail)
            refine wpQuiet_nil ?_
            refine tree_one' 2 (by kernel_rfl) (by decide) (by simp) rfl (fun Kc hK => ?_)
            simp only [List.getD_cons_zero, List.getD_cons_succ]
            go_wp2_with fail
            refine (Hn0.out _).mono ?_
            rintro e u0 ⟨rfl, hu⟩
            have hf0 := Hd.out.trans hu
            refine hK _ _ (HS.out _ hf0) ?_
            clear hK Kc hu
            refine tree_heads (f := 0) [3, 4] (by kernel_rfl) (fun _ _ d _ _ h => by cases d <;> exact h) (HS.out _ hf0) ?_
            simp only [List.map_cons, List.map_nil, List.getD_cons_zero, List.getD_cons_succ, List.drop_succ_cons, List.drop_zero]
            refine wpQuiet_val (.string c60) rfl (fun w' hS => by (rw [Hc60.out]; go_simp)) ?_
            simp only [Act.put, List.setIfInBounds_toArray, List.set_cons_succ, List.set_cons_zero]
            refine wpQuiet_val (.string c61) rfl (fun w' hS => by (rw [Hc61.out]; go_simp)) ?_
            simp only [Act.put, List.setIfInBounds_toArray, List.set_cons_succ, List.set_cons_zero]
            refine wpQuiet_nil ?_
            refine tree_end (by kernel_rfl) ?_
            try (simp only [List.map_cons, List.map_nil, List.getD_cons_zero, List.getD_cons_succ, List.drop_succ_cons, List.drop_zero])
            have hsb1 := hf0.get C1.out.sc (fun e => e)
            have cs1 : u0.cell? ⟨sb, 0, none⟩ = some (.string s1) := HS.out _ hf0
            have zs1 := blk_frozen hsb1 0
            have hnx := hide (show ToR w k sb b1 [] (K.proc x).fds c43 rb Z (.int .i64 ((j : Int) + 1)) (u0.setCell ⟨sb, 0, none⟩ (.string c61)) from
              ⟨j + 1, by go_num, by omega, HeL1.out ▸ (C1.out.frame HZ1.out hf0 (fun _ _ e => e)).put HZ1.out c61, (frSet u0 sb 0 _).get (hf0.get C2.out (fun e => e)) (fun e => Hrb.out e.symm), (C3.out.trans (hf0.mono fun _ _ e => e.elim)).trans (frSet u0 sb 0 _)⟩)
            clear hsb1
            go_wp2_with fail
            gi_wp2
            go_roundw
            case rel => exact hnx.out
            case measure => simp [Go.RowKit.intOf]; omega
          · have hj32 : j = 32 := by omega
            subst hj32
            have Hfin := hide (show rfPost3 W0.heap.size A (ToJ w k sb b1 [] (b1 + 1) (pidsL K) (procsS K)) (fun _ _ _ => False) (s + 1) X .normal ⟨#[], []⟩ wr from
              c1.out HZ1.out (by rw [Hnext.out]; unfold procS; rw [if_neg (by rw [Hen.out]; simp), ← HeL.out]) Hlt.out A1.out ⟨by have := HZ1.out.s.2; have := HzW.out; omega, Hsz.out⟩ ((HfY.out.trans (HfZ.out.mono fun _ _ e => e.elim)).trans c3) _)
            clear c1 c2 c3
            gi_wp2
            exact Hfin.out
    case done =>
      rintro s A X hfin ⟨a1, a2, a3⟩ hK1
      have hse : s = (pidsL K).length := hfin
      subst hse
      obtain ⟨W2, hW2⟩ : ∃ W2, W2 = X.alloc (kbT k) := ⟨_, rfl⟩
      obtain ⟨b2, hb2⟩ : ∃ b2, b2 = X.heap.size := ⟨_, rfl⟩
      have fW2 : Fr (fun _ => False) X W2 := by rw [hW2]; exact (Fr.refl _ _).alloc _
      have zW2 : W2.heap.size = b2 + 1 := by rw [hW2, hb2]; simp
      have l1 := blk_lt a3.kb
      have l2 := blk_lt a3.sc
      have l3 := blk_lt hK1
      have hzw := HzW.out
      have hsb := Hsb.out
      have hs1 := HZ1.out.s.2
      have HZ2 := hide (show ToZ w sb b2 [W0.heap.size] (b2 + 1) from ⟨by omega, ⟨hsb, by omega⟩, ⟨by omega, by omega⟩, fun b hb => by
        rw [List.mem_singleton.1 hb]
        omega⟩)
      have H2 := hide (show ToJ w k sb b2 [W0.heap.size] (b2 + 1) (didsL K) (descsS K) 0 (fun b => b < W2.heap.size + 2) W2 from ⟨fun b hb => by omega, Nat.zero_le _, fW2.get a3.kb (fun e => e), fW2.get a3.sc (fun e => e), by rw [hW2, hb2]; exact blk_new _ _, fun b hb => by
        rw [List.mem_singleton.1 hb]
        exact fW2.get hK1 (fun e => e), a3.fr.trans fW2⟩)
      have kc : X.cell? ⟨w.heap.size, 0, none⟩ = some (.pointer (some ⟨k, 0, none⟩)) := by rw [blk_cell a3.kb]; rfl
      have HW2 := hide hW2
      have Hb2' := hide hb2
      have HzW2 := hide zW2
      clear hW2 hb2 fW2 zW2 l1 l2 l3 hzw hsb hs1 a1 a2 a3 hK1 hfin
      unfold kbT at HW2
      gi_wp2
      refine ⟨trivial, (callsIn_wide.2 (descs_any _ _)).mono ?_⟩
      rintro e w' ⟨rfl, rfl⟩
      gi_wp2
      rw [← HW2.out, ← Hb2'.out]
      clear kc
      refine rf_law3c (α := Nat) (σ := Nat) (q := 65) (q2 := 66) 33 #[.pointer (some ⟨b2, 0, none⟩)] rfl (enters_of Tryz.func33 (by kernel_rfl) rfl) (fun i => .int .i64 (i : Nat)) (fun i => .agg (descT K i)) (fun i => descT K i) 81 7 8
        (RStep id (· + 1) (didsL K)) (RFin id (didsL K)) 0 (ToJ w k sb b2 [W0.heap.size] (b2 + 1) (didsL K) (descsS K)) (fun _ _ _ => False) ?hI2 ?hImono2 (fun _ _ _ _ h _ => h) (fun _ _ _ _ h _ => h) H2.out ?hiter2 ?assign2 ?body2 ?done2 ?stop2
      case hI2 =>
        rintro s A X Y h hf
        rw [HzW2.out] at hf
        exact h.frame HZ2.out hf
      case hImono2 => exact fun s A A' X h hA => h.mono hA
      case hiter2 =>
        intro l' J' Jx' W' hJI' hJf' hJxf' hJA' hY' h0'
        refine descs1_iter (8 - 1) (by omega) b2 k K hd Hsm.out.dn id (· + 1) (fun _ => rfl) (ToJ w k sb b2 [W0.heap.size] (b2 + 1) (didsL K) (descsS K)) L ?_ ?_ 0 rfl l' J' Jx' W' hJI' hJf' hJxf' hJA' hY' h0'
        · rintro s A X ⟨a1, a2, a3⟩
          rw [blk_cell a3.bx]
          rfl
        · rintro s A X ⟨a1, a2, a3⟩
          exact Hh.out.quiet a3.fr
      case assign2 =>
        rintro l' s A x s' X Kc _ _ hsz hK
        simp only [descT] at hK ⊢
        have hK := hide hK
        gi_wp2
        exact hK.out _ _ ((Fr.refl _ _).alloc _) hsz (blk_new _ _)
      case stop2 => exact fun c A W hx => hx.elim
      case body2 =>
        rintro l' s A x s' xb X ⟨hlt, hxx, rfl⟩ ⟨a1, a2, a3⟩ hxb hb hsz hA0 hA1
        simp only [id] at hlt hxx
        have hmem : x ∈ didsL K := by rw [hxx]; exact List.getElem_mem hlt
        obtain ⟨x1, x2, x3⟩ := numsL_mem.1 hmem
        have hnext := descsS_succ K hlt
        rw [← hxx] at hnext
        have hdd := Hsm.out.ds x x1 x2
        have hdn := Hsm.out.dn
        have hpp := pipeR_le Hsm.out (K.desc x).n
        obtain ⟨s0, hs0⟩ : ∃ c, c = descsS K s := ⟨_, rfl⟩
        have hsz0 : s0.size ≤ 200000002000000100 := by rw [hs0]; exact Hds.out s a2
        obtain ⟨d0, hd0⟩ : ∃ c, c = numB (x : Nat) := ⟨_, rfl⟩
        obtain ⟨d1, hd1⟩ : ∃ c, c = numB ((K.desc x).kind : Nat) := ⟨_, rfl⟩
        obtain ⟨d2, hd2⟩ : ∃ c, c = numB ((K.desc x).n : Nat) := ⟨_, rfl⟩
        obtain ⟨d3, hd3⟩ : ∃ c, c = numB ((K.desc x).pos : Nat) := ⟨_, rfl⟩
        obtain ⟨d4, hd4⟩ : ∃ c, c = numB (K.desc x).refs := ⟨_, rfl⟩
        have yd0 : d0.size ≤ 20 := by rw [hd0]; exact numB_size (by omega)
        have yd1 : d1.size ≤ 20 := by rw [hd1]; exact numB_size (by omega)
        have yd2 : d2.size ≤ 20 := by rw [hd2]; exact numB_size (by omega)
        have yd3 : d3.size ≤ 20 := by rw [hd3]; exact numB_size (by omega)
        have yd4 : d4.size ≤ 20 := by rw [hd4]; exact numB_size (hdd.2.2.2)
        have Hn0 := hide (show ∀ u, Calls Tryz.prog 35 #[.int .i64 (x : Nat)] u (fun e w' => e = .returned (.string d0) ∧ Fr (fun _ => False) u w') from fun u => by rw [hd0]; exact num_any u _ (by omega))
        have Hn1 := hide (show ∀ u, Calls Tryz.prog 35 #[.int .i64 ((K.desc x).kind : Nat)] u (fun e w' => e = .returned (.string d1) ∧ Fr (fun _ => False) u w') from fun u => by rw [hd1]; exact num_any u _ (by omega))
        have Hn2 := hide (show ∀ u, Calls Tryz.prog 35 #[.int .i64 ((K.desc x).n : Nat)] u (fun e w' => e = .returned (.string d2) ∧ Fr (fun _ => False) u w') from fun u => by rw [hd2]; exact num_any u _ (by omega))
        have Hn3 := hide (show ∀ u, Calls Tryz.prog 35 #[.int .i64 ((K.desc x).pos : Nat)] u (fun e w' => e = .returned (.string d3) ∧ Fr (fun _ => False) u w') from fun u => by rw [hd3]; exact num_any u _ (by omega))
        have Hn4 := hide (show ∀ u, Calls Tryz.prog 35 #[.int .i64 (K.desc x).refs] u (fun e w' => e = .returned (.string d4) ∧ Fr (fun _ => False) u w') from fun u => by rw [hd4]; exact num_any u _ (hdd.2.2.2))
        obtain ⟨c70, hc70⟩ : ∃ c : ByteArray, c = ⟨#[32, 100]⟩ ++ d0 := ⟨_, rfl⟩
        have Hc70 := hide hc70
        obtain ⟨c71, hc71⟩ : ∃ c : ByteArray, c = c70 ++ ⟨#[44]⟩ := ⟨_, rfl⟩
        have Hc71 := hide hc71
        obtain ⟨c75, hc75⟩ : ∃ c : ByteArray, c = c71 ++ d1 := ⟨_, rfl⟩
        have Hc75 := hide hc75
        obtain ⟨c76, hc76⟩ : ∃ c : ByteArray, c = c75 ++ ⟨#[44]⟩ := ⟨_, rfl⟩
        have Hc76 := hide hc76
        obtain ⟨c80, hc80⟩ : ∃ c : ByteArray, c = c76 ++ d2 := ⟨_, rfl⟩
        have Hc80 := hide hc80
        obtain ⟨c81, hc81⟩ : ∃ c : ByteArray, c = c80 ++ ⟨#[44]⟩ := ⟨_, rfl⟩
        have Hc81 := hide hc81
        obtain ⟨c85, hc85⟩ : ∃ c : ByteArray, c = c81 ++ d3 := ⟨_, rfl⟩
        have Hc85 := hide hc85
        obtain ⟨c86, hc86⟩ : ∃ c : ByteArray, c = c85 ++ ⟨#[44]⟩ := ⟨_, rfl⟩
        have Hc86 := hide hc86
        obtain ⟨c90, hc90⟩ : ∃ c : ByteArray, c = c86 ++ d4 := ⟨_, rfl⟩
        have Hc90 := hide hc90
        obtain ⟨c91, hc91⟩ : ∃ c : ByteArray, c = s0 ++ c90 := ⟨_, rfl⟩
        have Hc91 := hide hc91
        have qc70 : c70.size = (⟨#[32, 100]⟩ : ByteArray).size + d0.size := by rw [hc70, ByteArray.size_append]
        have qc71 : c71.size = c70.size + (⟨#[44]⟩ : ByteArray).size := by rw [hc71, ByteArray.size_append]
        have qc75 : c75.size = c71.size + d1.size := by rw [hc75, ByteArray.size_append]
        have qc76 : c76.size = c75.size + (⟨#[44]⟩ : ByteArray).size := by rw [hc76, ByteArray.size_append]
        have qc80 : c80.size = c76.size + d2.size := by rw [hc80, ByteArray.size_append]
        have qc81 : c81.size = c80.size + (⟨#[44]⟩ : ByteArray).size := by rw [hc81, ByteArray.size_append]
        have qc85 : c85.size = c81.size + d3.size := by rw [hc85, ByteArray.size_append]
        have qc86 : c86.size = c85.size + (⟨#[44]⟩ : ByteArray).size := by rw [hc86, ByteArray.size_append]
        have qc90 : c90.size = c86.size + d4.size := by rw [hc90, ByteArray.size_append]
        have qc91 : c91.size = s0.size + c90.size := by rw [hc91, ByteArray.size_append]
        have zc70 : ¬ 9223372036854775807 < 2 + d0.size := by
          simp only [lz1, lz2] at qc70 qc71 qc75 qc76 qc80 qc81 qc85 qc86 qc90 qc91
          omega
        have zc71 : ¬ 9223372036854775807 < c70.size + 1 := by
          simp only [lz1, lz2] at qc70 qc71 qc75 qc76 qc80 qc81 qc85 qc86 qc90 qc91
          omega
        have zc75 : ¬ 9223372036854775807 < c71.size + d1.size := by
          simp only [lz1, lz2] at qc70 qc71 qc75 qc76 qc80 qc81 qc85 qc86 qc90 qc91
          omega
        have zc76 : ¬ 9223372036854775807 < c75.size + 1 := by
          simp only [lz1, lz2] at qc70 qc71 qc75 qc76 qc80 qc81 qc85 qc86 qc90 qc91
          omega
        have zc80 : ¬ 9223372036854775807 < c76.size + d2.size := by
          simp only [lz1, lz2] at qc70 qc71 qc75 qc76 qc80 qc81 qc85 qc86 qc90 qc91
          omega
        have zc81 : ¬ 9223372036854775807 < c80.size + 1 := by
          simp only [lz1, lz2] at qc70 qc71 qc75 qc76 qc80 qc81 qc85 qc86 qc90 qc91
          omega
        have zc85 : ¬ 9223372036854775807 < c81.size + d3.size := by
          simp only [lz1, lz2] at qc70 qc71 qc75 qc76 qc80 qc81 qc85 qc86 qc90 qc91
          omega
        have zc86 : ¬ 9223372036854775807 < c85.size + 1 := by
          simp only [lz1, lz2] at qc70 qc71 qc75 qc76 qc80 qc81 qc85 qc86 qc90 qc91
          omega
        have zc90 : ¬ 9223372036854775807 < c86.size + d4.size := by
          simp only [lz1, lz2] at qc70 qc71 qc75 qc76 qc80 qc81 qc85 qc86 qc90 qc91
          omega
        have zc91 : ¬ 9223372036854775807 < s0.size + c90.size := by
          simp only [lz1, lz2] at qc70 qc71 qc75 qc76 qc80 qc81 qc85 qc86 qc90 qc91
          omega
        have eL : c91 = descS0 K x (descsS K s) := by rw [hc91, hc90, hc86, hc85, hc81, hc80, hc76, hc75, hc71, hc70, hs0, hd0, hd1, hd2, hd3, hd4]; rfl
        have hcz : c91.size ≤ 200000002000000300 := by
          simp only [lz1, lz2] at qc70 qc71 qc75 qc76 qc80 qc81 qc85 qc86 qc90 qc91
          omega
        clear hc70 hc71 hc75 hc76 hc80 hc81 hc85 hc86 hc90 hc91 qc70 qc71 qc75 qc76 qc80 qc81 qc85 qc86 qc90 qc91
        have Hd := hide ((Fr.refl (fun _ => False) X).drew)
        have HS := hide (show ∀ u, Fr (fun _ => False) X u → u.cell? ⟨sb, 0, none⟩ = some (.string s0) ∧ u.cell? ⟨xb, 0, none⟩ = some (.int .i64 ((K.desc x).kind : Nat)) ∧ u.cell? ⟨xb, 1, none⟩ = some (.int .i64 ((K.desc x).n : Nat)) ∧ u.cell? ⟨xb, 2, none⟩ = some (.int .i64 ((K.desc x).pos : Nat)) ∧ u.cell? ⟨xb, 3, none⟩ = some (.int .i64 (K.desc x).refs) from fun u hf => ⟨by rw [blk_cell (hf.get a3.sc (fun e => e)), hs0]; rfl, by rw [blk_cell (hf.get hb (fun e => e))]; rfl, by rw [blk_cell (hf.get hb (fun e => e))]; rfl, by rw [blk_cell (hf.get hb (fun e => e))]; rfl, by rw [blk_cell (hf.get hb (fun e => e))]; rfl⟩)
        have A1 := hide a1
        have A3 := hide a3
        have Hb := hide hb
        have Hxb := hide hxb
        have Hsz := hide hsz
        have HeL := hide eL
        have Hlt := hide hlt
        have Hnext := hide hnext
        clear a1 a2 a3 hb hxb hsz eL hlt hnext hmem hxx hs0 hd0 hd1 hd2 hd3 hd4 hA0 hA1 hdn x3
        gi_wp2
        refine region_tree_R (fun w' => w'.cell? ⟨sb, 0, none⟩ = some (.string s0) ∧ w'.cell? ⟨xb, 0, none⟩ = some (.int .i64 ((K.desc x).kind : Nat)) ∧ w'.cell? ⟨xb, 1, none⟩ = some (.int .i64 ((K.desc x).n : Nat)) ∧ w'.cell? ⟨xb, 2, none⟩ = some (.int .i64 ((K.desc x).pos : Nat)) ∧ w'.cell? ⟨xb, 3, none⟩ = some (.int .i64 (K.desc x).refs)) [0, 1, 5, 6, 10, 11, 15, 16, 20, 21] 15 25 (by kernel_rfl) (by kernel_rfl) (fun ⟨_, _, h9⟩ => h9) (by kernel_rfl) (fun _ _ d _ _ h => by cases d <;> exact h) (HS.out _ Hd.out) ?_
        simp only [List.map_cons, List.map_nil, List.getD_cons_zero, List.getD_cons_succ, List.drop_succ_cons, List.drop_zero]
        refine wpQuiet_val (.string s0) rfl (fun w' hS => by (have e9 := hS.1; go_simp)) ?_
        simp only [Act.put, List.setIfInBounds_toArray, List.set_cons_succ, List.set_cons_zero]
        go_big_quiet_step (fail)
        refine wpQuiet_val (.pointer (some ⟨xb, 0, none⟩)) rfl (fun w' hS => by (go_simp)) ?_
        simp only [Act.put, List.setIfInBounds_toArray, List.set_cons_succ, List.set_cons_zero]
        refine wpQuiet_val (.int .i64 ((K.desc x).kind : Nat)) rfl (fun w' hS => by (have e9 := hS.2.1; go_simp)) ?_
        simp only [Act.put, List.setIfInBounds_toArray, List.set_cons_succ, List.set_cons_zero]
        refine wpQuiet_val (.pointer (some ⟨xb, 1, none⟩)) rfl (fun w' hS => by (go_simp)) ?_
        simp only [Act.put, List.setIfInBounds_toArray, List.set_cons_succ, List.set_cons_zero]
        refine wpQuiet_val (.int .i64 ((K.desc x).n : Nat)) rfl (fun w' hS => by (have e9 := hS.2.2.1; go_simp)) ?_
        simp only [Act.put, List.setIfInBounds_toArray, List.set_cons_succ, List.set_cons_zero]
        refine wpQuiet_val (.pointer (some ⟨xb, 2, none⟩)) rfl (fun w' hS => by (go_simp)) ?_
        simp only [Act.put, List.setIfInBounds_toArray, List.set_cons_succ, List.set_cons_zero]
        refine wpQuiet_val (.int .i64 ((K.desc x).pos : Nat)) rfl (fun w' hS => by (have e9 := hS.2.2.2.1; go_simp)) ?_
        simp only [Act.put, List.setIfInBounds_toArray, List.set_cons_succ, List.set_cons_zero]
        refine wpQuiet_val (.pointer (some ⟨xb, 3, none⟩)) rfl (fun w' hS => by (go_simp)) ?_
        simp only [Act.put, List.setIfInBounds_toArray, List.set_cons_succ, List.set_cons_zero]
        refine wpQuiet_val (.int .i64 (K.desc x).refs) rfl (fun w' hS => by (have e9 := hS.2.2.2.2; go_simp)) ?_
        simp only [Act.put, List.setIfInBounds_toArray, List.set_cons_succ, List.set_cons_zero]
        refine wpQuiet_nil ?_
        refine tree_one' 2 (by kernel_rfl) (by decide) (by simp) rfl (fun Kc hK => ?_)
        simp only [List.getD_cons_zero, List.getD_cons_succ]
        go_wp2_with fail
        refine (Hn0.out _).mono ?_
        rintro e u0 ⟨rfl, hu⟩
        have hf0 := Hd.out.trans hu
        refine hK _ _ (HS.out _ hf0) ?_
        clear hK Kc hu
        refine tree_heads (f := 12) [3, 4] (by kernel_rfl) (fun _ _ d _ _ h => by cases d <;> exact h) (HS.out _ hf0) ?_
        simp only [List.map_cons, List.map_nil, List.getD_cons_zero, List.getD_cons_succ, List.drop_succ_cons, List.drop_zero]
        refine wpQuiet_val (.string c70) rfl (fun w' hS => by (rw [Hc70.out]; go_simp)) ?_
        simp only [Act.put, List.setIfInBounds_toArray, List.set_cons_succ, List.set_cons_zero]
        refine wpQuiet_val (.string c71) rfl (fun w' hS => by (rw [Hc71.out]; go_simp)) ?_
        simp only [Act.put, List.setIfInBounds_toArray, List.set_cons_succ, List.set_cons_zero]
        refine wpQuiet_nil ?_
        refine tree_one' 7 (by kernel_rfl) (by decide) (by simp) rfl (fun Kc hK => ?_)
        simp only [List.getD_cons_zero, List.getD_cons_succ]
        go_wp2_with fail
        refine (Hn1.out _).mono ?_
        rintro e u1 ⟨rfl, hu⟩
        have hf1 := hf0.trans hu
        refine hK _ _ (HS.out _ hf1) ?_
        clear hK Kc hu
        refine tree_heads (f := 9) [8, 9] (by kernel_rfl) (fun _ _ d _ _ h => by cases d <;> exact h) (HS.out _ hf1) ?_
        simp only [List.map_cons, List.map_nil, List.getD_cons_zero, List.getD_cons_succ, List.drop_succ_cons, List.drop_zero]
        refine wpQuiet_val (.string c75) rfl (fun w' hS => by (rw [Hc75.out]; go_simp)) ?_
        simp only [Act.put, List.setIfInBounds_toArray, List.set_cons_succ, List.set_cons_zero]
        refine wpQuiet_val (.string c76) rfl (fun w' hS => by (rw [Hc76.out]; go_simp)) ?_
        simp only [Act.put, List.setIfInBounds_toArray, List.set_cons_succ, List.set_cons_zero]
        refine wpQuiet_nil ?_
        refine tree_one' 12 (by kernel_rfl) (by decide) (by simp) rfl (fun Kc hK => ?_)
        simp only [List.getD_cons_zero, List.getD_cons_succ]
        go_wp2_with fail
        refine (Hn2.out _).mono ?_
        rintro e u2 ⟨rfl, hu⟩
        have hf2 := hf1.trans hu
        refine hK _ _ (HS.out _ hf2) ?_
        clear hK Kc hu
        refine tree_heads (f := 6) [13, 14] (by kernel_rfl) (fun _ _ d _ _ h => by cases d <;> exact h) (HS.out _ hf2) ?_
        simp only [List.map_cons, List.map_nil, List.getD_cons_zero, List.getD_cons_succ, List.drop_succ_cons, List.drop_zero]
        refine wpQuiet_val (.string c80) rfl (fun w' hS => by (rw [Hc80.out]; go_simp)) ?_
        simp only [Act.put, List.setIfInBounds_toArray, List.set_cons_succ, List.set_cons_zero]
        refine wpQuiet_val (.string c81) rfl (fun w' hS => by (rw [Hc81.out]; go_simp)) ?_
        simp only [Act.put, List.setIfInBounds_toArray, List.set_cons_succ, List.set_cons_zero]
        refine wpQuiet_nil ?_
        refine tree_one' 17 (by kernel_rfl) (by decide) (by simp) rfl (fun Kc hK => ?_)
        simp only [List.getD_cons_zero, List.getD_cons_succ]
        go_wp2_with fail
        refine (Hn3.out _).mono ?_
        rintro e u3 ⟨rfl, hu⟩
        have hf3 := hf2.trans hu
        refine hK _ _ (HS.out _ hf3) ?_
        clear hK Kc hu
        refine tree_heads (f := 3) [18, 19] (by kernel_rfl) (fun _ _ d _ _ h => by cases d <;> exact h) (HS.out _ hf3) ?_
        simp only [List.map_cons, List.map_nil, List.getD_cons_zero, List.getD_cons_succ, List.drop_succ_cons, List.drop_zero]
        refine wpQuiet_val (.string c85) rfl (fun w' hS => by (rw [Hc85.out]; go_simp)) ?_
        simp only [Act.put, List.setIfInBounds_toArray, List.set_cons_succ, List.set_cons_zero]
        refine wpQuiet_val (.string c86) rfl (fun w' hS => by (rw [Hc86.out]; go_simp)) ?_
        simp only [Act.put, List.setIfInBounds_toArray, List.set_cons_succ, List.set_cons_zero]
        refine wpQuiet_nil ?_
        refine tree_one' 22 (by kernel_rfl) (by decide) (by simp) rfl (fun Kc hK => ?_)
        simp only [List.getD_cons_zero, List.getD_cons_succ]
        go_wp2_with fail
        refine (Hn4.out _).mono ?_
        rintro e u4 ⟨rfl, hu⟩
        have hf4 := hf3.trans hu
        refine hK _ _ (HS.out _ hf4) ?_
        clear hK Kc hu
        refine tree_heads (f := 0) [23, 24] (by kernel_rfl) (fun _ _ d _ _ h => by cases d <;> exact h) (HS.out _ hf4) ?_
        simp only [List.map_cons, List.map_nil, List.getD_cons_zero, List.getD_cons_succ, List.drop_succ_cons, List.drop_zero]
        refine wpQuiet_val (.string c90) rfl (fun w' hS => by (rw [Hc90.out]; go_simp)) ?_
        simp only [Act.put, List.setIfInBounds_toArray, List.set_cons_succ, List.set_cons_zero]
        refine wpQuiet_val (.string c91) rfl (fun w' hS => by (rw [Hc91.out]; go_simp)) ?_
        simp only [Act.put, List.setIfInBounds_toArray, List.set_cons_succ, List.set_cons_zero]
        refine wpQuiet_nil ?_
        refine tree_end (by kernel_rfl) ?_
        try (simp only [List.map_cons, List.map_nil, List.getD_cons_zero, List.getD_cons_succ, List.drop_succ_cons, List.drop_zero])
        have hsbL := hf4.get A3.out.sc (fun e => e)
        have cs : u4.cell? ⟨sb, 0, none⟩ = some (.string s0) := (HS.out _ hf4).1
        have zs := blk_frozen hsbL 0
        obtain ⟨Y, hY⟩ : ∃ Y, Y = u4.setCell ⟨sb, 0, none⟩ (.string c91) := ⟨_, rfl⟩
        have TY : ToI w k sb b2 [W0.heap.size] c91 Y := by rw [hY]; exact (A3.out.frame HZ2.out hf4 (fun _ _ e => e)).put HZ2.out c91
        have fY : Fr (fun b => b = sb) X Y := by rw [hY]; exact (hf4.mono fun _ _ e => e.elim).trans (frSet _ _ 0 _)
        have bY := fY.get Hb.out (by have := Hxb.out; have := HZ2.out.s.2; have := HzW2.out; omega)
        have HY := hide hY
        have HTY := hide TY
        have HfY := hide fY
        have k0 : Y.cell? ⟨w.heap.size, 0, none⟩ = some (.pointer (some ⟨k, 0, none⟩)) := by rw [blk_cell TY.kb]; rfl
        have x1' : Y.cell? ⟨xb, 1, none⟩ = some (.int .i64 ((K.desc x).n : Nat)) := by rw [blk_cell bY]; rfl
        have Hp := hide (kpipe_any Y k K L (Hh.out.quiet TY.fr) ((K.desc x).n : Nat) ⟨by omega, by omega⟩)
        obtain ⟨r1, hr1⟩ : ∃ r, r = (pipeR K (K.desc x).n).1 := ⟨_, rfl⟩
        obtain ⟨r2, hr2⟩ : ∃ r, r = (pipeR K (K.desc x).n).2.1 := ⟨_, rfl⟩
        obtain ⟨r3, hr3⟩ : ∃ r, r = (pipeR K (K.desc x).n).2.2 := ⟨_, rfl⟩
        unfold pipeT ptrAt at Hp
        rw [← hr1, ← hr2, ← hr3] at Hp hpp
        have HrX := hide (And.intro hr1 (And.intro hr2 hr3))
        clear hY TY fY bY hsbL hr1 hr2 hr3
        go_wp2_with fail
        rw [← HY.out]
        gi_wp2
        refine ⟨trivial, (CallsIn.inRound l' (callsIn_wide.2 Hp.out)).mono ?_⟩
        rintro e Y2 ⟨rfl, hfp⟩
        obtain ⟨g0, hg0⟩ : ∃ c, c = numB (r1 : Nat) := ⟨_, rfl⟩
        obtain ⟨g1, hg1⟩ : ∃ c, c = numB (r2 : Nat) := ⟨_, rfl⟩
        obtain ⟨g2, hg2⟩ : ∃ c, c = numB (r3 : Nat) := ⟨_, rfl⟩
        have yg0 : g0.size ≤ 20 := by rw [hg0]; exact numB_size (by omega)
        have yg1 : g1.size ≤ 20 := by rw [hg1]; exact numB_size (by omega)
        have yg2 : g2.size ≤ 20 := by rw [hg2]; exact numB_size (by omega)
        have Hn0 := hide (show ∀ u, Calls Tryz.prog 35 #[.int .i64 (r1 : Nat)] u (fun e w' => e = .returned (.string g0) ∧ Fr (fun _ => False) u w') from fun u => by rw [hg0]; exact num_any u _ (by omega))
        have Hn1 := hide (show ∀ u, Calls Tryz.prog 35 #[.int .i64 (r2 : Nat)] u (fun e w' => e = .returned (.string g1) ∧ Fr (fun _ => False) u w') from fun u => by rw [hg1]; exact num_any u _ (by omega))
        have Hn2 := hide (show ∀ u, Calls Tryz.prog 35 #[.int .i64 (r3 : Nat)] u (fun e w' => e = .returned (.string g2) ∧ Fr (fun _ => False) u w') from fun u => by rw [hg2]; exact num_any u _ (by omega))
        obtain ⟨c103, hc103⟩ : ∃ c : ByteArray, c = ⟨#[44]⟩ ++ g0 := ⟨_, rfl⟩
        have Hc103 := hide hc103
        obtain ⟨c104, hc104⟩ : ∃ c : ByteArray, c = c103 ++ ⟨#[44]⟩ := ⟨_, rfl⟩
        have Hc104 := hide hc104
        obtain ⟨c107, hc107⟩ : ∃ c : ByteArray, c = c104 ++ g1 := ⟨_, rfl⟩
        have Hc107 := hide hc107
        obtain ⟨c108, hc108⟩ : ∃ c : ByteArray, c = c107 ++ ⟨#[44]⟩ := ⟨_, rfl⟩
        have Hc108 := hide hc108
        obtain ⟨c111, hc111⟩ : ∃ c : ByteArray, c = c108 ++ g2 := ⟨_, rfl⟩
        have Hc111 := hide hc111
        obtain ⟨c112, hc112⟩ : ∃ c : ByteArray, c = c91 ++ c111 := ⟨_, rfl⟩
        have Hc112 := hide hc112
        have qc103 : c103.size = (⟨#[44]⟩ : ByteArray).size + g0.size := by rw [hc103, ByteArray.size_append]
        have qc104 : c104.size = c103.size + (⟨#[44]⟩ : ByteArray).size := by rw [hc104, ByteArray.size_append]
        have qc107 : c107.size = c104.size + g1.size := by rw [hc107, ByteArray.size_append]
        have qc108 : c108.size = c107.size + (⟨#[44]⟩ : ByteArray).size := by rw [hc108, ByteArray.size_append]
        have qc111 : c111.size = c108.size + g2.size := by rw [hc111, ByteArray.size_append]
        have qc112 : c112.size = c91.size + c111.size := by rw [hc112, ByteArray.size_append]
        have zc103 : ¬ 9223372036854775807 < 1 + g0.size := by
          simp only [lz1] at qc103 qc104 qc107 qc108 qc111 qc112
          omega
        have zc104 : ¬ 9223372036854775807 < c103.size + 1 := by
          simp only [lz1] at qc103 qc104 qc107 qc108 qc111 qc112
          omega
        have zc107 : ¬ 9223372036854775807 < c104.size + g1.size := by
          simp only [lz1] at qc103 qc104 qc107 qc108 qc111 qc112
          omega
        have zc108 : ¬ 9223372036854775807 < c107.size + 1 := by
          simp only [lz1] at qc103 qc104 qc107 qc108 qc111 qc112
          omega
        have zc111 : ¬ 9223372036854775807 < c108.size + g2.size := by
          simp only [lz1] at qc103 qc104 qc107 qc108 qc111 qc112
          omega
        have zc112 : ¬ 9223372036854775807 < c91.size + c111.size := by
          simp only [lz1] at qc103 qc104 qc107 qc108 qc111 qc112
          omega
        have eL2 : c112 = descS K x (descsS K s) := by rw [hc112, hc111, hc108, hc107, hc104, hc103, HeL.out, hg0, hg1, hg2, HrX.out.1, HrX.out.2.1, HrX.out.2.2]; rfl
        clear hc103 hc104 hc107 hc108 hc111 hc112 qc103 qc104 qc107 qc108 qc111 qc112
        have Hd := hide ((Fr.refl (fun _ => False) Y2).drew)
        have T2 := HTY.out.frame HZ2.out hfp (fun _ _ e => e)
        have HS := hide (show ∀ u, Fr (fun _ => False) Y2 u → u.cell? ⟨sb, 0, none⟩ = some (.string c91) from fun u hf => by rw [blk_cell (hf.get T2.sc (fun e => e))]; rfl)
        have HT2 := hide T2
        have Hfp := hide hfp
        have HeL2 := hide eL2
        clear T2 hfp eL2 hg0 hg1 hg2 Hp k0 x1' cs zs hcz hsz0
        gi_wp2
        refine region_tree_R (fun w' => w'.cell? ⟨sb, 0, none⟩ = some (.string c91)) [0, 1, 5, 9] 9 13 (by kernel_rfl) (by kernel_rfl) (fun ⟨_, _, h9⟩ => h9) (by kernel_rfl) (fun _ _ d _ _ h => by cases d <;> exact h) (HS.out _ Hd.out) ?_
        simp only [List.map_cons, List.map_nil, List.getD_cons_zero, List.getD_cons_succ, List.drop_succ_cons, List.drop_zero]
        refine wpQuiet_val (.string c91) rfl (fun w' hS => by (have e9 := hS; go_simp)) ?_
        simp only [Act.put, List.setIfInBounds_toArray, List.set_cons_succ, List.set_cons_zero]
        go_big_quiet_step (fail)
        go_big_quiet_step (fail)
        go_big_quiet_step (fail)
        refine wpQuiet_nil ?_
        refine tree_one' 2 (by kernel_rfl) (by decide) (by simp) rfl (fun Kc hK => ?_)
        simp only [List.getD_cons_zero, List.getD_cons_succ]
        go_wp2_with fail
        refine (Hn0.out _).mono ?_
        rintro e u0 ⟨rfl, hu⟩
        have hf0 := Hd.out.trans hu
        refine hK _ _ (HS.out _ hf0) ?_
        clear hK Kc hu
        refine tree_heads (f := 6) [3, 4] (by kernel_rfl) (fun _ _ d _ _ h => by cases d <;> exact h) (HS.out _ hf0) ?_
        simp only [List.map_cons, List.map_nil, List.getD_cons_zero, List.getD_cons_succ, List.drop_succ_cons, List.drop_zero]
        refine wpQuiet_val (.string c103) rfl (fun w' hS => by (rw [Hc103.out]; go_simp)) ?_
        simp only [Act.put, List.setIfInBounds_toArray, List.set_cons_succ, List.set_cons_zero]
        refine wpQuiet_val (.string c104) rfl (fun w' hS => by (rw [Hc104.out]; go_simp)) ?_
        simp only [Act.put, List.setIfInBounds_toArray, List.set_cons_succ, List.set_cons_zero]
        refine wpQuiet_nil ?_
        refine tree_one' 6 (by kernel_rfl) (by decide) (by simp) rfl (fun Kc hK => ?_)
        simp only [List.getD_cons_zero, List.getD_cons_succ]
        go_wp2_with fail
        refine (Hn1.out _).mono ?_
        rintro e u1 ⟨rfl, hu⟩
        have hf1 := hf0.trans hu
        refine hK _ _ (HS.out _ hf1) ?_
        clear hK Kc hu
        refine tree_heads (f := 3) [7, 8] (by kernel_rfl) (fun _ _ d _ _ h => by cases d <;> exact h) (HS.out _ hf1) ?_
        simp only [List.map_cons, List.map_nil, List.getD_cons_zero, List.getD_cons_succ, List.drop_succ_cons, List.drop_zero]
        refine wpQuiet_val (.string c107) rfl (fun w' hS => by (rw [Hc107.out]; go_simp)) ?_
        simp only [Act.put, List.setIfInBounds_toArray, List.set_cons_succ, List.set_cons_zero]
        refine wpQuiet_val (.string c108) rfl (fun w' hS => by (rw [Hc108.out]; go_simp)) ?_
        simp only [Act.put, List.setIfInBounds_toArray, List.set_cons_succ, List.set_cons_zero]
        refine wpQuiet_nil ?_
        refine tree_one' 10 (by kernel_rfl) (by decide) (by simp) rfl (fun Kc hK => ?_)
        simp only [List.getD_cons_zero, List.getD_cons_succ]
        go_wp2_with fail
        refine (Hn2.out _).mono ?_
        rintro e u2 ⟨rfl, hu⟩
        have hf2 := hf1.trans hu
        refine hK _ _ (HS.out _ hf2) ?_
        clear hK Kc hu
        refine tree_heads (f := 0) [11, 12] (by kernel_rfl) (fun _ _ d _ _ h => by cases d <;> exact h) (HS.out _ hf2) ?_
        simp only [List.map_cons, List.map_nil, List.getD_cons_zero, List.getD_cons_succ, List.drop_succ_cons, List.drop_zero]
        refine wpQuiet_val (.string c111) rfl (fun w' hS => by (rw [Hc111.out]; go_simp)) ?_
        simp only [Act.put, List.setIfInBounds_toArray, List.set_cons_succ, List.set_cons_zero]
        refine wpQuiet_val (.string c112) rfl (fun w' hS => by (rw [Hc112.out]; go_simp)) ?_
        simp only [Act.put, List.setIfInBounds_toArray, List.set_cons_succ, List.set_cons_zero]
        refine wpQuiet_nil ?_
        refine tree_end (by kernel_rfl) ?_
        try (simp only [List.map_cons, List.map_nil, List.getD_cons_zero, List.getD_cons_succ, List.drop_succ_cons, List.drop_zero])
        have hsb2 := hf2.get HT2.out.sc (fun e => e)
        have cs2 : u2.cell? ⟨sb, 0, none⟩ = some (.string c91) := HS.out _ hf2
        have zs2 := blk_frozen hsb2 0
        have Hfin := hide (show rfPost3 W2.heap.size A (ToJ w k sb b2 [W0.heap.size] (b2 + 1) (didsL K) (descsS K)) (fun _ _ _ => False) (s + 1) X .normal ⟨#[], []⟩ (u2.setCell ⟨sb, 0, none⟩ (.string c112)) from
          ((HT2.out.frame HZ2.out hf2 (fun _ _ e => e)).put HZ2.out c112).out HZ2.out (by rw [Hnext.out]; exact HeL2.out) Hlt.out A1.out ⟨by have := HZ2.out.s.2; have := HzW2.out; omega, Hsz.out⟩ ((HfY.out.trans (Hfp.out.mono fun _ _ e => e.elim)).trans ((hf2.mono fun _ _ e => e.elim).trans (frSet u2 sb 0 _))) _)
        clear hsb2
        go_wp2_with fail
        exact Hfin.out
      case done2 =>
        rintro s A X hfin ⟨a1, a2, a3⟩ hK2
        have hse : s = (didsL K).length := hfin
        subst hse
        obtain ⟨p0, hA⟩ := Hh.out.files
        have HA := hide hA
        have kc : X.cell? ⟨w.heap.size, 0, none⟩ = some (.pointer (some ⟨k, 0, none⟩)) := by rw [blk_cell a3.kb]; rfl
        have hfl := hide (kfiles_any X k K L (Hh.out.quiet a3.fr))
        obtain ⟨W3, hW3⟩ : ∃ W3, W3 = X.alloc (.cells #[.pointer (some ⟨L.f, 0, none⟩)] 53 (0, 0)) := ⟨_, rfl⟩
        obtain ⟨b3, hb3⟩ : ∃ b3, b3 = X.heap.size := ⟨_, rfl⟩
        have fW3 : Fr (fun _ => False) X W3 := by rw [hW3]; exact (Fr.refl _ _).alloc _
        have zW3 : W3.heap.size = b3 + 1 := by rw [hW3, hb3]; simp
        have l1 := blk_lt a3.kb
        have l2 := blk_lt a3.sc
        have l3 := blk_lt hK2
        have l4 := blk_lt a3.bx
        have l5 := blk_lt (a3.dd W0.heap.size List.mem_cons_self)
        have hzw := HzW2.out
        have hsb := Hsb.out
        have hs2 := HZ2.out.s.2
        have hne := HZ2.out.b.1
        have hd2 := (HZ2.out.d W0.heap.size List.mem_cons_self).2
        have HZ3 := hide (show ToZ w sb b2 [W2.heap.size, W0.heap.size] (b3 + 1) from ⟨by omega, ⟨hsb, by omega⟩, ⟨hne, by omega⟩, fun b hb => by
          rcases List.mem_cons.1 hb with rfl | hb
          · omega
          · rw [List.mem_singleton.1 hb]
            omega⟩)
        have I3 : ToJ w k sb b2 [W2.heap.size, W0.heap.size] (b3 + 1) (treeL K.σ) (treeT K) 0 (fun b => b < W3.heap.size + 2) W3 := ⟨fun b hb => by omega, Nat.zero_le _, fW3.get a3.kb (fun e => e), fW3.get a3.sc (fun e => e), fW3.get a3.bx (fun e => e), fun b hb => by
          rcases List.mem_cons.1 hb with rfl | hb
          · exact fW3.get hK2 (fun e => e)
          · rw [List.mem_singleton.1 hb]
            exact fW3.get (a3.dd _ List.mem_cons_self) (fun e => e), a3.fr.trans fW3⟩
        have b3x : W3.heap[b3]? = some (.cells #[.pointer (some ⟨L.f, 0, none⟩)] 53 (0, 0)) := by rw [hW3, hb3]; exact blk_new _ _
        obtain ⟨TL, hTL⟩ : ∃ TL, Hid (TL = treeL K.σ) := ⟨_, hide rfl⟩
        have H3 := hide (show ToJ w k sb b2 [W2.heap.size, W0.heap.size] (b3 + 1) TL (treeT K) 0 (fun b => b < W3.heap.size + 2) W3 ∧ W3.heap[b3]? = some (.cells #[.pointer (some ⟨L.f, 0, none⟩)] 53 (0, 0)) from ⟨by rw [hTL.out]; exact I3, b3x⟩)
        have hb3s : b3 ≠ sb := by omega
        have Hb3s := hide hb3s
        have HW3 := hide hW3
        have Hb3' := hide hb3
        have HzW3 := hide zW3
        clear hW3 hb3 fW3 zW3 l1 l2 l3 l4 l5 hzw hsb hs2 hne hd2 a1 a2 a3 hK2 hfin hA I3 b3x hb3s
        unfold ptrAt at hfl
        gi_wp2
        refine ⟨trivial, (callsIn_wide.2 hfl.out).mono ?_⟩
        rintro e w' ⟨rfl, hw'⟩
        rw [hw']
        clear hw'
        gi_wp2
        refine ⟨trivial, (callsIn_wide.2 (Tree_some L.f _)).mono ?_⟩
        rintro e w' ⟨rfl, rfl⟩
        gi_wp2
        rw [← HW3.out, ← Hb3'.out]
        clear kc
        refine rf_law3b (α := EntQ) (σ := Nat) (q := 116) 69 #[.pointer (some ⟨b3, 0, none⟩)] rfl (enters_of Tryz.func69 (by kernel_rfl) rfl) entV (fun x => #[.string (baL x.path), .int .i64 x.kind, .int .i64 x.mode, .string (baL x.data)]) 107 12
          (FStep TL) (FFin TL) 0 (fun s A W => ToJ w k sb b2 [W2.heap.size, W0.heap.size] (b3 + 1) TL (treeT K) s A W ∧ W.heap[b3]? = some (.cells #[.pointer (some ⟨L.f, 0, none⟩)] 53 (0, 0))) (fun _ _ _ => False) ?hI3 ?hImono3 (fun _ _ _ _ h _ => h) (fun _ _ _ _ h _ => h) H3.out ?hiter3 ?assign3 ?body3 ?done3 ?stop3
        case hI3 =>
          rintro s A X Y ⟨h, hb⟩ hf
          rw [HzW3.out] at hf
          exact ⟨h.frame HZ3.out hf, hf.get hb fun e => by
            rcases e with e | e | e
            · omega
            · omega
            · exact e (h.1 b3 (by omega))⟩
        case hImono3 => exact fun s A A' X h hA => ⟨h.1.mono hA, h.2⟩
        case hiter3 =>
          intro l' J' Jx' W' hJI' hJf' hJxf' hJA' hY' h0'
          obtain rfl := hTL.out
          refine ftree1_iter (f := L.f) (S := L.S tFil w) (p := p0) Hok.out.good.inv (Hok.out.good.b hN) (8 - 1) b3 _ ?_ l' J' Jx' W' hJI' hJf' hJxf' hJA' hY' h0'
          rintro s A X ⟨⟨a1, a2, a3⟩, hb⟩
          exact ⟨HA.out.frame a3.fr (fun _ _ _ e => e), by rw [blk_cell hb]; rfl⟩
        case assign3 =>
          rintro l' s A x s' X Kc _ _ hsz hK
          have hK := hide hK
          simp only [entV]
          gi_wp2
          exact hK.out _ _ ((Fr.refl _ _).alloc _) hsz (blk_new _ _)
        case stop3 => exact fun c A W hx => hx.elim
        case body3 =>
          rintro l' s A x s' xb X ⟨hlt, hxx, rfl⟩ ⟨⟨a1, a2, a3⟩, hbb⟩ hxb hb hsz hA0 hA1
          have hmem : x ∈ treeL K.σ := by rw [← hTL.out, hxx]; exact List.getElem_mem hlt
          have heo := He.out x hmem
          have hnext : treeT K (s + 1) = entT x (treeT K s) := by
            have hl2 : s < (treeL K.σ).length := by rw [← hTL.out]; exact hlt
            rw [treeT_succ K hl2]
            congr 1
            rw [hxx]
            simp only [hTL.out]
          have hs0' : (treeT K s).size ≤ 200020002000000100 := Hts.out s (by rw [← hTL.out]; exact a2)
          obtain ⟨s0, hs0⟩ : ∃ c, c = treeT K s := ⟨_, rfl⟩
          rw [← hs0] at hs0'
          have e1 : (baL x.path).size = x.path.length := by unfold baL; simp [ByteArray.size]
          have e2 : (baL x.data).size = x.data.length := by unfold baL; simp [ByteArray.size]
          have ho1 := heo.1
          have ho2 := heo.2.1
          have ho3 := heo.2.2.1
          have ho4 := heo.2.2.2
          obtain ⟨pa, hpa⟩ : ∃ c, c = baL x.path := ⟨_, rfl⟩
          obtain ⟨da, hda⟩ : ∃ c, c = baL x.data := ⟨_, rfl⟩
          have zpa : pa.size ≤ 3400 := by rw [hpa, e1]; exact ho1
          have zda : da.size ≤ 65536 := by rw [hda, e2]; exact ho4
          clear heo e1 e2 ho1 ho4
          obtain ⟨t0, ht0⟩ : ∃ c, c = numB x.kind := ⟨_, rfl⟩
          obtain ⟨t1, ht1⟩ : ∃ c, c = numB x.mode := ⟨_, rfl⟩
          obtain ⟨t2, ht2⟩ : ∃ c, c = numB (da.size : Nat) := ⟨_, rfl⟩
          have yt0 : t0.size ≤ 20 := by rw [ht0]; exact numB_size (by omega)
          have yt1 : t1.size ≤ 20 := by rw [ht1]; exact numB_size (ho3)
          have yt2 : t2.size ≤ 20 := by rw [ht2]; exact numB_size (by omega)
          have Hn0 := hide (show ∀ u, Calls Tryz.prog 35 #[.int .i64 x.kind] u (fun e w' => e = .returned (.string t0) ∧ Fr (fun _ => False) u w') from fun u => by rw [ht0]; exact num_any u _ (by omega))
          have Hn1 := hide (show ∀ u, Calls Tryz.prog 35 #[.int .i64 x.mode] u (fun e w' => e = .returned (.string t1) ∧ Fr (fun _ => False) u w') from fun u => by rw [ht1]; exact num_any u _ (ho3))
          have Hn2 := hide (show ∀ u, Calls Tryz.prog 35 #[.int .i64 (da.size : Nat)] u (fun e w' => e = .returned (.string t2) ∧ Fr (fun _ => False) u w') from fun u => by rw [ht2]; exact num_any u _ (by omega))
          obtain ⟨c120, hc120⟩ : ∃ c : ByteArray, c = ⟨#[32, 102]⟩ ++ pa := ⟨_, rfl⟩
          have Hc120 := hide hc120
          obtain ⟨c121, hc121⟩ : ∃ c : ByteArray, c = c120 ++ ⟨#[44]⟩ := ⟨_, rfl⟩
          have Hc121 := hide hc121
          obtain ⟨c125, hc125⟩ : ∃ c : ByteArray, c = c121 ++ t0 := ⟨_, rfl⟩
          have Hc125 := hide hc125
          obtain ⟨c126, hc126⟩ : ∃ c : ByteArray, c = c125 ++ ⟨#[44]⟩ := ⟨_, rfl⟩
          have Hc126 := hide hc126
          obtain ⟨c130, hc130⟩ : ∃ c : ByteArray, c = c126 ++ t1 := ⟨_, rfl⟩
          have Hc130 := hide hc130
          obtain ⟨c131, hc131⟩ : ∃ c : ByteArray, c = c130 ++ ⟨#[44]⟩ := ⟨_, rfl⟩
          have Hc131 := hide hc131
          obtain ⟨c136, hc136⟩ : ∃ c : ByteArray, c = c131 ++ t2 := ⟨_, rfl⟩
          have Hc136 := hide hc136
          obtain ⟨c139, hc139⟩ : ∃ c : ByteArray, c = c136 ++ da := ⟨_, rfl⟩
          have Hc139 := hide hc139
          obtain ⟨c140, hc140⟩ : ∃ c : ByteArray, c = s0 ++ c139 := ⟨_, rfl⟩
          have Hc140 := hide hc140
          have qc120 : c120.size = (⟨#[32, 102]⟩ : ByteArray).size + pa.size := by rw [hc120, ByteArray.size_append]
          have qc121 : c121.size = c120.size + (⟨#[44]⟩ : ByteArray).size := by rw [hc121, ByteArray.size_append]
          have qc125 : c125.size = c121.size + t0.size := by rw [hc125, ByteArray.size_append]
          have qc126 : c126.size = c125.size + (⟨#[44]⟩ : ByteArray).size := by rw [hc126, ByteArray.size_append]
          have qc130 : c130.size = c126.size + t1.size := by rw [hc130, ByteArray.size_append]
          have qc131 : c131.size = c130.size + (⟨#[44]⟩ : ByteArray).size := by rw [hc131, ByteArray.size_append]
          have qc136 : c136.size = c131.size + t2.size := by rw [hc136, ByteArray.size_append]
          have qc139 : c139.size = c136.size + da.size := by rw [hc139, ByteArray.size_append]
          have qc140 : c140.size = s0.size + c139.size := by rw [hc140, ByteArray.size_append]
          simp only [lz1, lz2] at qc120 qc121 qc125 qc126 qc130 qc131 qc136 qc139 qc140
          have zc120 : ¬ 9223372036854775807 < 2 + pa.size := by omega
          have zc121 : ¬ 9223372036854775807 < c120.size + 1 := by omega
          have zc125 : ¬ 9223372036854775807 < c121.size + t0.size := by omega
          have zc126 : ¬ 9223372036854775807 < c125.size + 1 := by omega
          have zc130 : ¬ 9223372036854775807 < c126.size + t1.size := by omega
          have zc131 : ¬ 9223372036854775807 < c130.size + 1 := by omega
          have zc136 : ¬ 9223372036854775807 < c131.size + t2.size := by omega
          have zc139 : ¬ 9223372036854775807 < c136.size + da.size := by omega
          have zc140 : ¬ 9223372036854775807 < s0.size + c139.size := by omega
          have eL : c140 = entT x (treeT K s) := by rw [hc140, hc139, hc136, hc131, hc130, hc126, hc125, hc121, hc120, hs0, ht0, ht1, ht2, hpa, hda]; rfl
          have Hd := hide ((Fr.refl (fun _ => False) X).drew)
          have HS := hide (show ∀ u, Fr (fun _ => False) X u → u.cell? ⟨sb, 0, none⟩ = some (.string s0) ∧ u.cell? ⟨xb, 0, none⟩ = some (.string pa) ∧ u.cell? ⟨xb, 1, none⟩ = some (.int .i64 x.kind) ∧ u.cell? ⟨xb, 2, none⟩ = some (.int .i64 x.mode) ∧ u.cell? ⟨xb, 3, none⟩ = some (.string da) from fun u hf => ⟨by rw [blk_cell (hf.get a3.sc (fun e => e)), hs0]; rfl, by rw [blk_cell (hf.get hb (fun e => e)), hpa]; rfl, by rw [blk_cell (hf.get hb (fun e => e))]; rfl, by rw [blk_cell (hf.get hb (fun e => e))]; rfl, by rw [blk_cell (hf.get hb (fun e => e)), hda]; rfl⟩)
          have Hfin := hide (show ∀ u, Fr (fun _ => False) X u → ∀ a, rfPost3 W3.heap.size A (fun s A W => ToJ w k sb b2 [W2.heap.size, W0.heap.size] (b3 + 1) TL (treeT K) s A W ∧ W.heap[b3]? = some (.cells #[.pointer (some ⟨L.f, 0, none⟩)] 53 (0, 0))) (fun _ _ _ => False) (s + 1) X .normal a (u.setCell ⟨sb, 0, none⟩ (.string c140)) from fun u hf a => by
            have hset : Fr (fun b => b = sb) X (u.setCell ⟨sb, 0, none⟩ (.string c140)) := (hf.mono fun _ _ e => e.elim).trans (frSet u sb 0 _)
            obtain ⟨q1, q2, q3⟩ := ((a3.frame HZ3.out hf (fun _ _ e => e)).put HZ3.out c140).out (D := W3.heap.size) (f := treeT K) (n := s + 1) (l := TL) HZ3.out (by rw [hnext]; exact eL) hlt a1 ⟨by have := HZ3.out.s.2; have := HzW3.out; omega, hsz⟩ hset a
            exact ⟨q1, q2, q3, hset.get hbb Hb3s.out⟩)
          have Hsc := hide (show ∀ u, Fr (fun _ => False) X u → u.heap[sb]? = some (.cells #[.string (treeT K s)] 9 (0, 0)) from fun u hf => hf.get a3.sc (fun e => e))
          clear a1 a2 a3 hb hxb hsz eL hlt hnext hmem hxx hs0 ht0 ht1 ht2 hpa hda hA0 hA1 hbb hc120 qc120 hc121 qc121 hc125 qc125 hc126 qc126 hc130 qc130 hc131 qc131 hc136 qc136 hc139 qc139 hc140 qc140
          gi_wp2
          refine region_tree_R (fun w' => w'.cell? ⟨sb, 0, none⟩ = some (.string s0) ∧ w'.cell? ⟨xb, 0, none⟩ = some (.string pa) ∧ w'.cell? ⟨xb, 1, none⟩ = some (.int .i64 x.kind) ∧ w'.cell? ⟨xb, 2, none⟩ = some (.int .i64 x.mode) ∧ w'.cell? ⟨xb, 3, none⟩ = some (.string da)) [0, 1, 2, 3, 4, 5, 6, 10, 11, 15, 16, 20, 21] 11 24 (by kernel_rfl) (by kernel_rfl) (fun ⟨_, _, h9⟩ => h9) (by kernel_rfl) (fun _ _ d _ _ h => by cases d <;> exact h) (HS.out _ Hd.out) ?_
          simp only [List.map_cons, List.map_nil, List.getD_cons_zero, List.getD_cons_succ, List.drop_succ_cons, List.drop_zero]
          refine wpQuiet_val (.string s0) rfl (fun w' hS => by (have e9 := hS.1; go_simp)) ?_
          simp only [Act.put, List.setIfInBounds_toArray, List.set_cons_succ, List.set_cons_zero]
          refine wpQuiet_val (.pointer (some ⟨xb, 0, none⟩)) rfl (fun w' hS => by (go_simp)) ?_
          simp only [Act.put, List.setIfInBounds_toArray, List.set_cons_succ, List.set_cons_zero]
          refine wpQuiet_val (.string pa) rfl (fun w' hS => by (have e9 := hS.2.1; go_simp)) ?_
          simp only [Act.put, List.setIfInBounds_toArray, List.set_cons_succ, List.set_cons_zero]
          refine wpQuiet_val (.string c120) rfl (fun w' hS => by (rw [Hc120.out]; go_simp)) ?_
          simp only [Act.put, List.setIfInBounds_toArray, List.set_cons_succ, List.set_cons_zero]
          refine wpQuiet_val (.string c121) rfl (fun w' hS => by (rw [Hc121.out]; go_simp)) ?_
          simp only [Act.put, List.setIfInBounds_toArray, List.set_cons_succ, List.set_cons_zero]
          refine wpQuiet_val (.pointer (some ⟨xb, 1, none⟩)) rfl (fun w' hS => by (go_simp)) ?_
          simp only [Act.put, List.setIfInBounds_toArray, List.set_cons_succ, List.set_cons_zero]
          refine wpQuiet_val (.int .i64 x.kind) rfl (fun w' hS => by (have e9 := hS.2.2.1; go_simp)) ?_
          simp only [Act.put, List.setIfInBounds_toArray, List.set_cons_succ, List.set_cons_zero]
          refine wpQuiet_val (.pointer (some ⟨xb, 2, none⟩)) rfl (fun w' hS => by (go_simp)) ?_
          simp only [Act.put, List.setIfInBounds_toArray, List.set_cons_succ, List.set_cons_zero]
          refine wpQuiet_val (.int .i64 x.mode) rfl (fun w' hS => by (have e9 := hS.2.2.2.1; go_simp)) ?_
          simp only [Act.put, List.setIfInBounds_toArray, List.set_cons_succ, List.set_cons_zero]
          refine wpQuiet_val (.pointer (some ⟨xb, 3, none⟩)) rfl (fun w' hS => by (go_simp)) ?_
          simp only [Act.put, List.setIfInBounds_toArray, List.set_cons_succ, List.set_cons_zero]
          refine wpQuiet_val (.string da) rfl (fun w' hS => by (have e9 := hS.2.2.2.2; go_simp)) ?_
          simp only [Act.put, List.setIfInBounds_toArray, List.set_cons_succ, List.set_cons_zero]
          refine wpQuiet_val (.pointer (some ⟨xb, 3, none⟩)) rfl (fun w' hS => by (go_simp)) ?_
          simp only [Act.put, List.setIfInBounds_toArray, List.set_cons_succ, List.set_cons_zero]
          refine wpQuiet_val (.string da) rfl (fun w' hS => by (have e9 := hS.2.2.2.2; go_simp)) ?_
          simp only [Act.put, List.setIfInBounds_toArray, List.set_cons_succ, List.set_cons_zero]
          refine wpQuiet_nil ?_
          refine tree_two' 7 17 (by kernel_rfl) (by decide) (by decide) (by simp) (by simp) rfl rfl (fun Kc hK => ?_) (fun Kc hK => ?_)
          · simp only [List.getD_cons_zero, List.getD_cons_succ]
            go_wp2_with fail
            refine (Hn0.out _).mono ?_
            rintro e u101 ⟨rfl, hu⟩
            have hf101 := Fr.trans Hd.out hu
            refine hK _ _ (HS.out _ hf101) ?_
            clear hK Kc hu
            refine tree_heads (f := 8) [8, 9] (by kernel_rfl) (fun _ _ d _ _ h => by cases d <;> exact h) (HS.out _ hf101) ?_
            simp only [List.map_cons, List.map_nil, List.getD_cons_zero, List.getD_cons_succ, List.drop_succ_cons, List.drop_zero]
            refine wpQuiet_val (.string c125) rfl (fun w' hS => by (rw [Hc125.out]; go_simp)) ?_
            simp only [Act.put, List.setIfInBounds_toArray, List.set_cons_succ, List.set_cons_zero]
            refine wpQuiet_val (.string c126) rfl (fun w' hS => by (rw [Hc126.out]; go_simp)) ?_
            simp only [Act.put, List.setIfInBounds_toArray, List.set_cons_succ, List.set_cons_zero]
            refine wpQuiet_nil ?_
            refine tree_two' 12 17 (by kernel_rfl) (by decide) (by decide) (by simp) (by simp) rfl rfl (fun Kc hK => ?_) (fun Kc hK => ?_)
            · simp only [List.getD_cons_zero, List.getD_cons_succ]
              go_wp2_with fail
              refine (Hn1.out _).mono ?_
              rintro e u102 ⟨rfl, hu⟩
              have hf102 := Fr.trans hf101 hu
              refine hK _ _ (HS.out _ hf102) ?_
              clear hK Kc hu
              refine tree_heads (f := 5) [13, 14] (by kernel_rfl) (fun _ _ d _ _ h => by cases d <;> exact h) (HS.out _ hf102) ?_
              simp only [List.map_cons, List.map_nil, List.getD_cons_zero, List.getD_cons_succ, List.drop_succ_cons, List.drop_zero]
              refine wpQuiet_val (.string c130) rfl (fun w' hS => by (rw [Hc130.out]; go_simp)) ?_
              simp only [Act.put, List.setIfInBounds_toArray, List.set_cons_succ, List.set_cons_zero]
              refine wpQuiet_val (.string c131) rfl (fun w' hS => by (rw [Hc131.out]; go_simp)) ?_
              simp only [Act.put, List.setIfInBounds_toArray, List.set_cons_succ, List.set_cons_zero]
              refine wpQuiet_nil ?_
              refine tree_one' 17 (by kernel_rfl) (by decide) (by simp) rfl (fun Kc hK => ?_)
              simp only [List.getD_cons_zero, List.getD_cons_succ]
              go_wp2_with fail
              refine hK _ _ (HS.out _ hf102) ?_
              clear hK Kc
              refine tree_one' 18 (by kernel_rfl) (by decide) (by simp) rfl (fun Kc hK => ?_)
              simp only [List.getD_cons_zero, List.getD_cons_succ]
              go_wp2_with fail
              refine (Hn2.out _).mono ?_
              rintro e u103 ⟨rfl, hu⟩
              have hf103 := Fr.trans hf102 hu
              refine hK _ _ (HS.out _ hf103) ?_
              clear hK Kc hu
              refine tree_heads (f := 0) [19, 22, 23] (by kernel_rfl) (fun _ _ d _ _ h => by cases d <;> exact h) (HS.out _ hf103) ?_
              simp only [List.map_cons, List.map_nil, List.getD_cons_zero, List.getD_cons_succ, List.drop_succ_cons, List.drop_zero]
              refine wpQuiet_val (.string c136) rfl (fun w' hS => by (rw [Hc136.out]; go_simp)) ?_
              simp only [Act.put, List.setIfInBounds_toArray, List.set_cons_succ, List.set_cons_zero]
              refine wpQuiet_val (.string c139) rfl (fun w' hS => by (rw [Hc139.out]; go_simp)) ?_
              simp only [Act.put, List.setIfInBounds_toArray, List.set_cons_succ, List.set_cons_zero]
              refine wpQuiet_val (.string c140) rfl (fun w' hS => by (rw [Hc140.out]; go_simp)) ?_
              simp only [Act.put, List.setIfInBounds_toArray, List.set_cons_succ, List.set_cons_zero]
              refine wpQuiet_nil ?_
              refine tree_end (by kernel_rfl) ?_
              try (simp only [List.map_cons, List.map_nil, List.getD_cons_zero, List.getD_cons_succ, List.drop_succ_cons, List.drop_zero])
              have csL := (HS.out _ hf103).1
              have zsL := blk_frozen (Hsc.out _ hf103) 0
              have HfL := hide (Hfin.out _ hf103)
              go_wp2_with fail
              exact HfL.out _
            · simp only [List.getD_cons_zero, List.getD_cons_succ]
              go_wp2_with fail
              refine hK _ _ (HS.out _ hf101) ?_
              clear hK Kc
              refine tree_one' 12 (by kernel_rfl) (by decide) (by simp) rfl (fun Kc hK => ?_)
              simp only [List.getD_cons_zero, List.getD_cons_succ]
              go_wp2_with fail
              refine (Hn1.out _).mono ?_
              rintro e u105 ⟨rfl, hu⟩
              have hf105 := Fr.trans hf101 hu
              refine hK _ _ (HS.out _ hf105) ?_
              clear hK Kc hu
              refine tree_heads (f := 4) [13, 14] (by kernel_rfl) (fun _ _ d _ _ h => by cases d <;> exact h) (HS.out _ hf105) ?_
              simp only [List.map_cons, List.map_nil, List.getD_cons_zero, List.getD_cons_succ, List.drop_succ_cons, List.drop_zero]
              refine wpQuiet_val (.string c130) rfl (fun w' hS => by (rw [Hc130.out]; go_simp)) ?_
              simp only [Act.put, List.setIfInBounds_toArray, List.set_cons_succ, List.set_cons_zero]
              refine wpQuiet_val (.string c131) rfl (fun w' hS => by (rw [Hc131.out]; go_simp)) ?_
              simp only [Act.put, List.setIfInBounds_toArray, List.set_cons_succ, List.set_cons_zero]
              refine wpQuiet_nil ?_
              refine tree_one' 18 (by kernel_rfl) (by decide) (by simp) rfl (fun Kc hK => ?_)
              simp only [List.getD_cons_zero, List.getD_cons_succ]
              go_wp2_with fail
              refine (Hn2.out _).mono ?_
              rintro e u106 ⟨rfl, hu⟩
              have hf106 := Fr.trans hf105 hu
              refine hK _ _ (HS.out _ hf106) ?_
              clear hK Kc hu
              refine tree_heads (f := 0) [19, 22, 23] (by kernel_rfl) (fun _ _ d _ _ h => by cases d <;> exact h) (HS.out _ hf106) ?_
              simp only [List.map_cons, List.map_nil, List.getD_cons_zero, List.getD_cons_succ, List.drop_succ_cons, List.drop_zero]
              refine wpQuiet_val (.string c136) rfl (fun w' hS => by (rw [Hc136.out]; go_simp)) ?_
              simp only [Act.put, List.setIfInBounds_toArray, List.set_cons_succ, List.set_cons_zero]
              refine wpQuiet_val (.string c139) rfl (fun w' hS => by (rw [Hc139.out]; go_simp)) ?_
              simp only [Act.put, List.setIfInBounds_toArray, List.set_cons_succ, List.set_cons_zero]
              refine wpQuiet_val (.string c140) rfl (fun w' hS => by (rw [Hc140.out]; go_simp)) ?_
              simp only [Act.put, List.setIfInBounds_toArray, List.set_cons_succ, List.set_cons_zero]
              refine wpQuiet_nil ?_
              refine tree_end (by kernel_rfl) ?_
              try (simp only [List.map_cons, List.map_nil, List.getD_cons_zero, List.getD_cons_succ, List.drop_succ_cons, List.drop_zero])
              have csL := (HS.out _ hf106).1
              have zsL := blk_frozen (Hsc.out _ hf106) 0
              have HfL := hide (Hfin.out _ hf106)
              go_wp2_with fail
              exact HfL.out _
          · simp only [List.getD_cons_zero, List.getD_cons_succ]
            go_wp2_with fail
            refine hK _ _ (HS.out _ Hd.out) ?_
            clear hK Kc
            refine tree_one' 7 (by kernel_rfl) (by decide) (by simp) rfl (fun Kc hK => ?_)
            simp only [List.getD_cons_zero, List.getD_cons_succ]
            go_wp2_with fail
            refine (Hn0.out _).mono ?_
            rintro e u108 ⟨rfl, hu⟩
            have hf108 := Fr.trans Hd.out hu
            refine hK _ _ (HS.out _ hf108) ?_
            clear hK Kc hu
            refine tree_heads (f := 7) [8, 9] (by kernel_rfl) (fun _ _ d _ _ h => by cases d <;> exact h) (HS.out _ hf108) ?_
            simp only [List.map_cons, List.map_nil, List.getD_cons_zero, List.getD_cons_succ, List.drop_succ_cons, List.drop_zero]
            refine wpQuiet_val (.string c125) rfl (fun w' hS => by (rw [Hc125.out]; go_simp)) ?_
            simp only [Act.put, List.setIfInBounds_toArray, List.set_cons_succ, List.set_cons_zero]
            refine wpQuiet_val (.string c126) rfl (fun w' hS => by (rw [Hc126.out]; go_simp)) ?_
            simp only [Act.put, List.setIfInBounds_toArray, List.set_cons_succ, List.set_cons_zero]
            refine wpQuiet_nil ?_
            refine tree_one' 12 (by kernel_rfl) (by decide) (by simp) rfl (fun Kc hK => ?_)
            simp only [List.getD_cons_zero, List.getD_cons_succ]
            go_wp2_with fail
            refine (Hn1.out _).mono ?_
            rintro e u109 ⟨rfl, hu⟩
            have hf109 := Fr.trans hf108 hu
            refine hK _ _ (HS.out _ hf109) ?_
            clear hK Kc hu
            refine tree_heads (f := 4) [13, 14] (by kernel_rfl) (fun _ _ d _ _ h => by cases d <;> exact h) (HS.out _ hf109) ?_
            simp only [List.map_cons, List.map_nil, List.getD_cons_zero, List.getD_cons_succ, List.drop_succ_cons, List.drop_zero]
            refine wpQuiet_val (.string c130) rfl (fun w' hS => by (rw [Hc130.out]; go_simp)) ?_
            simp only [Act.put, List.setIfInBounds_toArray, List.set_cons_succ, List.set_cons_zero]
            refine wpQuiet_val (.string c131) rfl (fun w' hS => by (rw [Hc131.out]; go_simp)) ?_
            simp only [Act.put, List.setIfInBounds_toArray, List.set_cons_succ, List.set_cons_zero]
            refine wpQuiet_nil ?_
            refine tree_one' 18 (by kernel_rfl) (by decide) (by simp) rfl (fun Kc hK => ?_)
            simp only [List.getD_cons_zero, List.getD_cons_succ]
            go_wp2_with fail
            refine (Hn2.out _).mono ?_
            rintro e u110 ⟨rfl, hu⟩
            have hf110 := Fr.trans hf109 hu
            refine hK _ _ (HS.out _ hf110) ?_
            clear hK Kc hu
            refine tree_heads (f := 0) [19, 22, 23] (by kernel_rfl) (fun _ _ d _ _ h => by cases d <;> exact h) (HS.out _ hf110) ?_
            simp only [List.map_cons, List.map_nil, List.getD_cons_zero, List.getD_cons_succ, List.drop_succ_cons, List.drop_zero]
            refine wpQuiet_val (.string c136) rfl (fun w' hS => by (rw [Hc136.out]; go_simp)) ?_
            simp only [Act.put, List.setIfInBounds_toArray, List.set_cons_succ, List.set_cons_zero]
            refine wpQuiet_val (.string c139) rfl (fun w' hS => by (rw [Hc139.out]; go_simp)) ?_
            simp only [Act.put, List.setIfInBounds_toArray, List.set_cons_succ, List.set_cons_zero]
            refine wpQuiet_val (.string c140) rfl (fun w' hS => by (rw [Hc140.out]; go_simp)) ?_
            simp only [Act.put, List.setIfInBounds_toArray, List.set_cons_succ, List.set_cons_zero]
            refine wpQuiet_nil ?_
            refine tree_end (by kernel_rfl) ?_
            try (simp only [List.map_cons, List.map_nil, List.getD_cons_zero, List.getD_cons_succ, List.drop_succ_cons, List.drop_zero])
            have csL := (HS.out _ hf110).1
            have zsL := blk_frozen (Hsc.out _ hf110) 0
            have HfL := hide (Hfin.out _ hf110)
            go_wp2_with fail
            exact HfL.out _
        case done3 =>
          rintro s A X hfin ⟨⟨a1, a2, a3⟩, hbb⟩ hK3
          have hse : s = TL.length := hfin
          have hls : s = (treeL K.σ).length := by rw [hse, hTL.out]
          have hres : treeT K s = toldS K := by rw [hls]; rfl
          rw [hres] at a3
          have cs : X.cell? ⟨sb, 0, none⟩ = some (.string (toldS K)) := by rw [blk_cell a3.sc]; rfl
          have hzw := HzW.out
          have hzw2 := HzW2.out
          have hzw3 := HzW3.out
          have hs1 := HZ1.out.s
          have hd2 := HZ2.out.d W0.heap.size List.mem_cons_self
          have hd3 := HZ3.out.d W2.heap.size List.mem_cons_self
          have hk1 := HZ1.out.k
          have HK2 := hide (show (X.putObj W3.heap.size (.deferred none)).heap[W2.heap.size]? = some (.deferred (some [])) from (World.putObj_heap_other (by omega)).trans (a3.dd _ List.mem_cons_self))
          have HK1 := hide (show ((X.putObj W3.heap.size (.deferred none)).putObj W2.heap.size (.deferred none)).heap[W0.heap.size]? = some (.deferred (some [])) from (World.putObj_heap_other (by omega)).trans ((World.putObj_heap_other (by omega)).trans (a3.dd _ (List.mem_cons_of_mem _ List.mem_cons_self))))
          have Hall := hide (show Fr (fun _ => False) w (((X.putObj W3.heap.size (.deferred none)).putObj W2.heap.size (.deferred none)).putObj W0.heap.size (.deferred none)) from
            ((a3.fr.trans' (fr_putObj (S := fun b => b = W3.heap.size) _ rfl) (fun b hb e => by omega)).trans' (fr_putObj (S := fun b => b = W2.heap.size) _ rfl) (fun b hb e => by omega)).trans' (fr_putObj (S := fun b => b = W0.heap.size) _ rfl) (fun b hb e => by omega))
          have HK3 := hide hK3
          clear hse hls hres a1 a2 a3 hbb hK3 hfin hzw hzw2 hzw3 hs1 hd2 hd3 hk1
          generalize hts : toldS K = ts at *
          have Hts := hide hts
          clear hts
          gi_wp2
          refine ⟨by simp, .inl ⟨_, _, rfl, run_takeDeferred HK3.out, ?_⟩⟩
          refine ⟨by simp, .inl ⟨_, _, rfl, run_takeDeferred HK2.out, ?_⟩⟩
          refine ⟨by simp, .inl ⟨_, _, rfl, run_takeDeferred HK1.out, ?_⟩⟩
          refine ⟨_, results_tmp rfl _ _ _, ?_, Hall.out⟩
          rw [Hts.out]
          rfl
end Go.Proofs.YtdnbfhcbcdodmaaGreatDoor
