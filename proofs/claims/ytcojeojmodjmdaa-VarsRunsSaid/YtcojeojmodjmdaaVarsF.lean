/- vars.Vars.Copy; the document's Texts. Conditions: each contract's own premises. -/
import Derived.Test.YtcojeojmodjmdaaVarsE
namespace Go.Proofs.Ytcojeojmodjmdaa
open Go.RowKit

theorem ArgsV.at {w : World} {S : Nat → Prop} {a : Option Addr} {n cap : Nat} {l : List ByteArray} (h : ArgsV w S (.slice a n cap) l) : n = l.length ∧ n ≤ cap ∧ (n = 0 ∨ ∃ g o, a = some ⟨g, o, none⟩ ∧ ∀ k (hk : k < l.length), w.cell? ⟨g, o + k, none⟩ = some (.string l[k])) := by
  obtain ⟨a', cap', h1, h2, h3, h4⟩ := h
  cases h1
  refine ⟨rfl, h2, ?_⟩
  rcases h4 with h4 | ⟨g, o, h5, _, _, h8⟩
  · exact .inl (by rw [h4]; rfl)
  · exact .inr ⟨g, o, h5, h8⟩
theorem ba_bne {s t : ByteArray} (h : ¬ s = t) : (s.toList == t.toList) = false := by
  rw [ByteArray.toList_eq, ByteArray.toList_eq, beq_eq_false_iff_ne]
  intro e
  apply h
  cases s; cases t
  simp only [ByteArray.mk.injEq]
  exact Array.toList_inj.1 e
def TextsPost (w : World) (b : Bool) (e : Ending) (w' : World) : Prop := e = .returned (.bool b) ∧ Fr (fun _ => False) w w'
def TextsRel (w : World) (l1 l2 : List ByteArray) (i : Value) (wr : World) : Prop := ∃ k : Nat, k ≤ l1.length ∧ i = .int .i64 k ∧ l1.take k = l2.take k ∧ Fr (fun _ => False) w wr
theorem take_eq_get {l1 l2 : List ByteArray} {k n : Nat} (h : l1.take k = l2.take k) (hn : n < k) (h1 : n < l1.length) (h2 : n < l2.length) : l1[n] = l2[n] := by
  have := congrArg (fun l => l[n]?) h
  simp only [List.getElem?_take, if_pos hn, List.getElem?_eq_getElem h1, List.getElem?_eq_getElem h2] at this
  exact Option.some.inj this
set_option maxRecDepth 100000 in
set_option maxHeartbeats 2000000 in
theorem texts_any (w : World) (S1 S2 : Nat → Prop) (v1 v2 : Value) (l1 l2 : List ByteArray) (h1 : ArgsV w S1 v1 l1) (h2 : ArgsV w S2 v2 l2) (hl1 : l1.length ≤ 9223372036854775807) (hl2 : l2.length ≤ 9223372036854775807) :
    Calls Try.prog 16 #[v1, v2] w (TextsPost w (decide (l1 = l2))) := by
  obtain ⟨a1, c1, rfl⟩ := h1.form
  obtain ⟨a2, c2, rfl⟩ := h2.form
  by_cases hne : l1.length = l2.length
  rotate_left
  · rw [show decide (l1 = l2) = false by simp; intro e; exact hne (by rw [e])]
    go_enter Try.func16, Try.ntmps16
    go_wp2_with fail
    go_ret
    exact ⟨rfl, Fr.refl _ _⟩
  have A1 := hide h1.at
  have A2 := hide h2.at
  clear h1 h2
  go_enter Try.func16, Try.ntmps16
  go_upto_region 4 with fail
  go_loopw [5] (fun i wr => TextsRel w l1 l2 i wr) (fun i _ => l1.length - (intOf i).toNat)
  case atStart => exact ⟨0, by omega, rfl, rfl, Fr.refl _ _⟩
  case round =>
    obtain ⟨k, hk, rfl, htk, hfr⟩ := hrel
    by_cases hkl : k < l1.length
    · obtain ⟨_, hcap1, B1⟩ := A1.out
      obtain ⟨_, hcap2, B2⟩ := A2.out
      rcases B1 with B1 | ⟨g1, o1, rfl, C1⟩
      · omega
      rcases B2 with B2 | ⟨g2, o2, rfl, C2⟩
      · omega
      have e1 := C1 k hkl
      have e2 := C2 k (by omega)
      have d1 := (World.cell?_of_block (w := w) (a := ⟨g1, o1 + k, none⟩) (hfr.block g1 (World.block_lt_of_cell? _ _ e1) (fun h => h))).trans e1
      have d2 := (World.cell?_of_block (w := w) (a := ⟨g2, o2 + k, none⟩) (hfr.block g2 (World.block_lt_of_cell? _ _ e2) (fun h => h))).trans e2
      clear e1 e2 C1 C2
      by_cases hs : l1[k] = l2[k]'(by omega)
      · have hrel' : TextsRel w l1 l2 (.int .i64 ((k : Int) + 1)) wr.drew := ⟨k + 1, by omega, by go_num, by rw [List.take_succ_eq_append_getElem hkl, List.take_succ_eq_append_getElem (show k < l2.length by omega), htk, hs], hfr.drew⟩
        have hrel' := hide hrel'
        rw [hs] at d1
        clear hs htk
        go_wp2_with fail
        refine region_still (by kernel_rfl) (by kernel_rfl) ?_
        repeat go_big_quiet_step (fail)
        refine wpQuiet_nil ?_
        go_wp2
        all_goals exact ⟨hrel'.out, by simp [intOf]; omega⟩
      · have hfin : TextsPost w (decide (l1 = l2)) (.returned (.bool false)) wr.drew := ⟨by rw [show decide (l1 = l2) = false by simp only [decide_eq_false_iff_not]; rintro rfl; exact hs rfl], hfr.drew⟩
        have hfin := hide hfin
        have hnn := ba_bne hs
        go_wp2_with fail
        refine region_still (by kernel_rfl) (by kernel_rfl) ?_
        repeat go_big_quiet_step (fail)
        refine wpQuiet_nil ?_
        go_wp2
        go_ret
        exact hfin.out
    · have hk' : k = l1.length := by omega
      subst hk'
      rw [List.take_length, hne, List.take_length] at htk
      have hfin : TextsPost w (decide (l1 = l2)) (.returned (.bool true)) wr := ⟨by simp [htk], hfr⟩
      have hfin := hide hfin
      clear htk
      go_wp2
      go_ret
      exact hfin.out
def CopyVPost (w : World) (M : KA VR) (args : List ByteArray) (e : Ending) (w' : World) : Prop :=
  ∃ b', e = .returned (.pointer (some ⟨b', 0, none⟩)) ∧ VarsAt w' b' M args (fun k => w.heap.size ≤ k) ∧ Fr (fun _ => False) w w'
theorem mclone_any (w : World) (mb : Nat) (L : KL) (h : SMapAt Try.prog 9 w mb L) :
    Calls Try.prog 32 #[.map (some mb)] w fun e w' => e = .returned (.map (some w.heap.size)) ∧ SMapAt Try.prog 9 w' w.heap.size L ∧ Fr (fun _ => False) w w' ∧ w'.heap.size = w.heap.size + 1 := by
  obtain ⟨es, clock, hb, F, hs, hD⟩ := h.own
  refine (AnyW.maps_Clone Try.mclone32 mb es clock w hb).mono ?_
  rintro e w' ⟨rfl, rfl⟩
  exact ⟨rfl, ⟨⟨es, clock, blk_new _ _, F, hs, hD⟩, h.sorted⟩, (Fr.refl _ _).alloc _, by simp⟩
set_option maxRecDepth 100000 in
set_option maxHeartbeats 4000000 in
theorem vcopy_any (w : World) (b : Nat) (M : KA VR) (args : List ByteArray) (S : Nat → Prop) (h : VarsAt w b M args S) (hlen : args.length ≤ 200) :
    Calls Try.prog 18 #[.pointer (some ⟨b, 0, none⟩)] w (CopyVPost w M args) := by
  obtain ⟨mb, av, hf⟩ := h
  have Hf := hide hf
  have key0 : ∀ w', Fr (fun _ => False) w w' → w'.cell? ⟨b, 0, none⟩ = some (.map (some mb)) := fun w' h' => by rw [blk_cell (h'.get hf.hb (fun h => h))]; rfl
  have key1 : ∀ w', Fr (fun _ => False) w w' → w'.cell? ⟨b, 1, none⟩ = some av := fun w' h' => by rw [blk_cell (h'.get hf.hb (fun h => h))]; rfl
  obtain ⟨aa, ac, rfl⟩ := hf.ha.form
  go_enter Try.func18, Try.ntmps18
  go_wp2_with fail
  refine region_calls (fun w' => Fr (fun _ => False) w w') [0, 1, 2, 3, 5, 6, 7, 8] [4, 9] 10 (by kernel_rfl) (by kernel_rfl) (fun _ _ d _ _ h => by cases d <;> exact h) (Fr.refl _ _).drew ?_
  simp only [List.map_cons, List.map_nil, List.getD_cons_zero, List.getD_cons_succ, List.drop_succ_cons, List.drop_zero]
  go_big_quiet_step (fail)
  refine wpQuiet_val (.pointer (some ⟨b, 0, none⟩)) rfl (fun w' _ => by go_simp) ?_
  simp only [Act.put, List.setIfInBounds_toArray, List.set_cons_succ, List.set_cons_zero]
  refine wpQuiet_val (.pointer (some ⟨b, 0, none⟩)) rfl (fun w' _ => by go_simp) ?_
  simp only [Act.put, List.setIfInBounds_toArray, List.set_cons_succ, List.set_cons_zero]
  refine wpQuiet_val (.map (some mb)) rfl (fun w' hS => by have e2 := key0 w' hS
                                                           go_simp) ?_
  simp only [Act.put, List.setIfInBounds_toArray, List.set_cons_succ, List.set_cons_zero]
  go_big_quiet_step (fail)
  refine wpQuiet_val (.pointer (some ⟨b, 0, none⟩)) rfl (fun w' _ => by go_simp) ?_
  simp only [Act.put, List.setIfInBounds_toArray, List.set_cons_succ, List.set_cons_zero]
  refine wpQuiet_val (.pointer (some ⟨b, 1, none⟩)) rfl (fun w' _ => by go_simp) ?_
  simp only [Act.put, List.setIfInBounds_toArray, List.set_cons_succ, List.set_cons_zero]
  refine wpQuiet_val (.slice aa args.length ac) rfl (fun w' hS => by have e2 := key1 w' hS
                                                                     go_simp) ?_
  simp only [Act.put, List.setIfInBounds_toArray, List.set_cons_succ, List.set_cons_zero]
  refine wpQuiet_nil ?_
  have hfd := Hf.out.frame (Fr.refl (fun _ => False) w).drew (fun _ _ _ e => e)
  refine chainS_step rfl (fun K hK => ?_)
  go_wp2_with fail
  refine (mclone_any _ mb _ hfd.hm).mono ?_
  rintro e w1 ⟨rfl, hm1, hf1, hs1⟩
  have hfr1 : Fr (fun _ => False) w w1 := (Fr.refl _ _).drew.trans hf1
  have hff1 := hfd.frame hf1 (fun _ _ _ e => e)
  refine hK _ _ hfr1 ?_
  clear hK K
  refine chainS_step rfl (fun K hK => ?_)
  go_wp2_with fail
  refine (sclone_any _ _ _ _ hff1.ha (by omega)).mono ?_
  rintro e w2 ⟨v', rfl, hv', hf2⟩
  have hsz2 := hf2.size
  refine hK _ _ (hfr1.trans hf2) ?_
  clear hK K
  refine chainS_nil ?_
  obtain ⟨a', c', rfl⟩ := hv'.form
  have hfin : CopyVPost w M args (.returned (.pointer (some ⟨w2.heap.size, 0, none⟩))) (w2.alloc (.cells #[.map (some w.heap.size), .slice a' args.length c'] 64 (0, 0))) := by
    have hsd : w.drew.heap.size = w.heap.size := rfl
    rw [hsd] at hm1 hs1
    have hfa := (Fr.refl (fun _ => False) w2).alloc (.cells #[.map (some w.heap.size), .slice a' args.length c'] 64 (0, 0))
    refine ⟨_, rfl, ⟨w.heap.size, _, blk_new _ _, (hm1.frame hf2 (fun h => h)).frame hfa (fun h => h), by omega, (hv'.frame hfa (fun _ _ _ e => e)).mono (fun k _ hk => by omega), by omega, Nat.le_refl _, fun k hk => by simp at hk; omega, Hf.out.len, Hf.out.sz⟩, (hfr1.trans hf2).trans hfa⟩
  have hfin := hide hfin
  go_wp2_with fail
  go_ret
  exact hfin.out
end Go.Proofs.Ytcojeojmodjmdaa
