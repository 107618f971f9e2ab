/- shyardref08.FS.put. Printed by wip/gen/frefL.py. Conditions: the contract's own premises. -/
import Derived.Test.YtlhmmiolnbgloaaGreatDoorFrefK
namespace Go.Proofs.YtlhmmiolnbgloaaGreatDoor
open Go.RowKit

theorem intsL_one {l : List Nat} (u : Value) (h : u ∈ intsL l) : u.oneCell' = true := by
  simp only [intsL, List.mem_map] at h
  obtain ⟨_, _, rfl⟩ := h
  rfl
def PutRel (L : KA Nat) (s : List UInt8) (w : World) (gk : Nat) (i : Value) (wr : World) : Prop := ∃ k, gk + k = L.length ∧ i = .int .i64 k ∧ (∀ j (hj : j < L.length), j < k → bytesBefore L[j].1 s = true) ∧ w = wr
set_option maxRecDepth 100000 in
set_option maxHeartbeats 4000000 in
theorem rput_any (w : World) (g : Nat) (σ : FSt) (S : Nat → Prop) (h : RfAt w g σ S) (hL : σ.length ≤ 1000000) (i : Nat) (n : Nd) (hn : σ.nd i = some n) (hE : n.ents.length ≤ 1000000000000) (s : ByteArray) (b : Nat) (hnew : kget s.data.toList n.ents = none) :
    Calls Tryz.prog 55 #[.pointer (some ⟨g, 0, none⟩), .int .i64 i, .string s, .int .i64 b] w (RmutPost g (linkS σ i s.data.toList b) S (.tuple #[]) w) := by
  obtain ⟨i0, hinf, hz0, hz1, hz2⟩ := info_parts Tryz.infoStr
  obtain ⟨j0, jinf, jz0, jz1, jz2⟩ := info_parts Tryz.infoInt
  obtain ⟨rv, nv, iv, hF⟩ := h
  have hi := (hF.cells hn).1
  have c0 : w.cell? ⟨g, 0, none⟩ = some rv := by rw [blk_cell hF.hb]; rfl
  obtain ⟨nb, cap, rfl, hnb, k0, k1, k2, k3, k4, dt, na, nc, ia, ic, hnode, hA, hI, q0, q1, q2, q3, q4, q5, q6, q7, hsm, -⟩ := hF.node hi
  obtain ⟨rfl, rfl, rfl, rfl, rfl, rfl⟩ := hsm n hn
  have hents : entsAt σ i = n.ents := by unfold entsAt; rw [hn]
  rw [hents] at hnode hA hI q6 q7
  have hiI : (i : Int) < (((σ.length + 1 : Nat)) : Int) := by omega
  have hi0 : (0 : Int) ≤ (i : Int) := by omega
  obtain ⟨w1, hw1⟩ : ∃ w1, w1 = w.alloc (.cells #[.int .i64 (kindN n), .int .i64 n.mode, .int .i64 n.links, .int .i64 n.holds, .int .i64 n.par, .string (baL n.data), .slice na n.ents.length nc, .slice ia n.ents.length ic] 82 (0, 0)) := ⟨_, rfl⟩
  obtain ⟨bb, hbb⟩ : ∃ bb, bb = w.heap.size := ⟨_, rfl⟩
  have hf1 : Fr (fun _ => False) w w1 := by rw [hw1]; exact (Fr.refl _ _).alloc _
  have hbk1 : w1.heap[bb]? = some (.cells #[.int .i64 (kindN n), .int .i64 n.mode, .int .i64 n.links, .int .i64 n.holds, .int .i64 n.par, .string (baL n.data), .slice na n.ents.length nc, .slice ia n.ents.length ic] 82 (0, 0)) := by rw [hw1, hbb]; exact blk_new _ _
  have HF := hide hF
  have Hf1 := hide hf1
  have Hbk1 := hide hbk1
  have Hbb := hide hbb
  have HA := hide (hA.frame hf1 (fun _ _ _ e => e))
  have HI := hide (hI.frame hf1 (fun _ _ _ e => e))
  have Hn := hide hn
  have hfinA := hide (show ∀ (w4 : World) (v6 v7 : Value) (D : KA Nat), D = kput s.data.toList b n.ents → Fr (fun _ => False) w w4 → ArgsV w4 (fun q => S q ∧ q ≠ g ∧ q ≠ nb) v6 (namesB D) → IntsV w4 (fun q => S q ∧ q ≠ g ∧ q ≠ nb) v7 (D.map (·.2)) →
      RmutPost g (linkS σ i s.data.toList b) S (.tuple #[]) w (.returned (.tuple #[])) (w4.setCells nb (i * 8) [.int .i64 (kindN n), .int .i64 n.mode, .int .i64 n.links, .int .i64 n.holds, .int .i64 n.par, .string (baL n.data), v6, v7]) from fun w4 v6 v7 D hD hf4 h6 h7 => by
    have hcs : linkS σ i s.data.toList b = σ.put i (some { n with ents := D }) := by unfold linkS entS; rw [hn, hD]
    have hσn : ∀ x j, (σ.put i x).nd j = if j = i then x else σ.nd j := fun x j => put_nd hn x j
    have hF4 := hF.frame hf4 (fun _ _ _ e => e)
    rw [hcs, set8_eq]
    refine ⟨rfl, ⟨_, fun j => if j = i then v6 else nv j, fun j => if j = i then v7 else iv j, hF4.write hi (put_len _ _ _) (fun j hj => ⟨by rw [hσn, if_neg hj], if_neg hj, if_neg hj⟩) (fun m hm => ?_) (fun m hm => ?_) ?_⟩, (hf4.mono (fun _ _ e => e.elim)).trans' (set8_fr _ _ _ _ _ _ _ _ _ _ _) (fun k _ e => e ▸ (hF.ownr nb rfl).1)⟩
    · rw [hσn, if_pos rfl] at hm
      cases hm
      rw [if_pos rfl]
      exact h6
    · rw [hσn, if_pos rfl] at hm
      cases hm
      rw [if_pos rfl]
      exact h7
    · unfold nodeR
      rw [hσn, if_pos rfl]
      simp only
      rfl)
  have HI0 := hide hI
  have HE := hide hE
  go_enter Tryz.func55, Tryz.ntmps55
  go_upto_region 1 with (fail)
  rw [← hw1, ← hbb]
  have r6 : w1.cell? ⟨bb, 6, none⟩ = some (.slice na n.ents.length nc) := by rw [blk_cell Hbk1.out]; rfl
  clear hw1 hbb q0 q1 q2 q3 q4 q5 q6 q7 c0 hF hf1 hbk1 hnode hA hI hents hsm hn
  generalize hEnts : n.ents = L at *
  have HEnts := hide hEnts
  clear hEnts
  have OkA := hide HA.out.ok
  have OkI := hide HI.out.ok
  have Key6 := hide (show ∀ w', Fr (fun _ => False) w1 w' → w'.cell? ⟨bb, 6, none⟩ = some (.slice na L.length nc) from fun w' h => by rw [blk_cell (h.get Hbk1.out (fun h => h))]; rfl)
  go_wp2_with fail
  go_loopg [9] L.length (fun gk i wr => PutRel L s.data.toList w1 gk i wr)
  case atStart => exact ⟨0, by omega, rfl, fun j _ h => absurd h (Nat.not_lt_zero j), rfl⟩
  case round =>
    obtain ⟨k, hgk, rfl, hlo, rfl⟩ := hrel
    have Hgk := hide hgk
    have Hlo := hide hlo
    have HkL := hide (show k ≤ L.length by omega)
    clear hgk hlo
    by_cases hlt : k < L.length
    · obtain ⟨-, -, hA2⟩ := HA.out.at
      obtain ⟨g1, o1, rfl, hc1⟩ := hA2.resolve_left (by omega)
      have x1 := hc1 k (by unfold namesB; rw [List.length_map]; exact hlt)
      simp only [namesB, List.getElem_map] at x1
      have hkI : (k : Int) < (L.length : Int) := by omega
      have hk0 : (0 : Int) ≤ (k : Int) := by omega
      clear hc1 hA2
      have hless := less_before L[k].1 s.data.toList
      cases hb : bytesBefore L[k].1 s.data.toList with
      | true =>
        rw [hb] at hless
        have hl2 : Op.bytesLess (⟨L[k].1.toArray⟩ : ByteArray).toList s.toList = true := by rw [ByteArray.toList_eq, ByteArray.toList_eq]; exact hless
        have hnext := hide (show PutRel L s.data.toList w1 (gk - 1) (.int .i64 ((k : Int) + 1)) w1 from ⟨k + 1, by have := Hgk.out; omega, by go_num, fun j hj hjk => by
          rcases Nat.lt_or_ge j k with h1 | h1
          · exact Hlo.out j hj h1
          · obtain rfl : j = k := by omega
            exact hb, rfl⟩)
        generalize (⟨L[k].1.toArray⟩ : ByteArray) = q at x1 hl2
        clear hless hb
        go_wp2_with fail
        go_roundg (gk - 1)
        case measure => have := Hgk.out; omega
        case rel => exact hnext.out
      | false =>
        rw [hb] at hless
        have hl2 : Op.bytesLess (⟨L[k].1.toArray⟩ : ByteArray).toList s.toList = false := by rw [ByteArray.toList_eq, ByteArray.toList_eq]; exact hless
        have Hst := hide (show ∀ hk : k < L.length, bytesBefore L[k].1 s.data.toList = false from fun _ => hb)
        generalize (⟨L[k].1.toArray⟩ : ByteArray) = q at x1 hl2
        clear hless hb
        obtain ⟨na, hna⟩ : ∃ na, na = some (⟨g1, o1, none⟩ : Addr) := ⟨_, rfl⟩
        rw [← hna] at OkA Key6 HA Hbk1
        obtain ⟨sa, sc, hcl, hsc⟩ := cutLo (T := 28) Tryz.underlying28 (fun w' => by kernel_rfl) HkL.out OkA.out.1 OkA.out.2.1
        have Lo6 := hide hcl
        have Lo6c := hide hsc
        have Hi6 := hide (cutHi (T := 28) (la := na) Tryz.underlying28 (fun w' => by kernel_rfl) HkL.out OkA.out.1)
        clear hcl hsc
        subst hna
        go_upto_region 4 with (fail)
        refine region_tree (fun w' => Fr (fun _ => False) w1 w') [1, 2, 3, 4, 6, 9, 10, 11, 12] 5 14 (by kernel_rfl) (by kernel_rfl) (fun _ _ d _ _ h => by cases d <;> exact h) (Fr.refl _ _).drew ?_
        simp only [List.map_cons, List.map_nil, List.getD_cons_zero, List.getD_cons_succ, List.drop_succ_cons, List.drop_zero]
        refine wpQuiet_val (.pointer (some ⟨bb, 6, none⟩)) rfl (fun w' hS => by (go_simp)) ?_
        simp only [Act.put, List.setIfInBounds_toArray, List.set_cons_succ, List.set_cons_zero]
        refine wpQuiet_val (.slice (some ⟨g1, o1, none⟩) L.length nc) rfl (fun w' hS => by (have e2 := Key6.out w' hS; go_simp)) ?_
        simp only [Act.put, List.setIfInBounds_toArray, List.set_cons_succ, List.set_cons_zero]
        go_big_quiet_step (fail)
        refine wpQuiet_val (.slice (some ⟨g1, o1, none⟩) k nc) rfl (fun w' hS => by (have e2 := Hi6.out w'; go_simp)) ?_
        simp only [Act.put, List.setIfInBounds_toArray, List.set_cons_succ, List.set_cons_zero]
        go_big_quiet_step (fail)
        refine wpQuiet_val (.pointer (some ⟨bb, 6, none⟩)) rfl (fun w' hS => by (go_simp)) ?_
        simp only [Act.put, List.setIfInBounds_toArray, List.set_cons_succ, List.set_cons_zero]
        refine wpQuiet_val (.slice (some ⟨g1, o1, none⟩) L.length nc) rfl (fun w' hS => by (have e2 := Key6.out w' hS; go_simp)) ?_
        simp only [Act.put, List.setIfInBounds_toArray, List.set_cons_succ, List.set_cons_zero]
        go_big_quiet_step (fail)
        refine wpQuiet_val (.slice sa (L.length - k) sc) rfl (fun w' hS => by (have e2 := Lo6.out w'; go_simp)) ?_
        simp only [Act.put, List.setIfInBounds_toArray, List.set_cons_succ, List.set_cons_zero]
        refine wpQuiet_nil ?_
        refine tree_app3 0 5 7 8 13 (by kernel_rfl) 33 38 40 41 46 (by decide) (by simp) rfl rfl rfl rfl rfl rfl rfl rfl 28 9 37 45 (.tmp 39) #[.string s] (by simp) rfl rfl rfl ?h06 ?h26 i0 (.string ⟨#[]⟩) 1 16 Tryz.underlying28 hinf hz0 hz1 hz2 rfl (by decide) (some ⟨g1, o1, none⟩) k nc ((strs (namesB L)).take k) rfl ?l16 (OkA.out.hi HkL.out) ?o16 rfl ?o26 sa (L.length - k) sc ((strs (namesB L)).drop k) rfl ?l46 (OkA.out.lo HkL.out Lo6c.out) ?o46 ?m16 ?m26 (Fr.refl _ _).drew ?_
        case h06 =>
          intro a1 w1' K hK
          simp only [List.getD_cons_zero, List.getD_cons_succ]
          go_wp2_with fail
          exact hK
        case h26 =>
          intro a1 w1' K he hK
          replace he : a1.eval (.tmp 39) = .string s := he
          exact wp_buildSlice 28 9 1 #[(0, .tmp 39)] rfl #[.string s] i0 (.string ⟨#[]⟩) Tryz.underlying28 hinf hz0 (by rw [hz1]; decide) (by rw [hz1]; decide) (by rw [hz1]; simp [he]; kernel_rfl) hK
        case l16 => have := HkL.out; have := OkA.out.2.2.1; rw [List.length_take]; omega
        case o16 => exact fun u hu => strs_one _ (List.mem_of_mem_take hu)
        case o26 => intro u hu; simp at hu; subst hu; rfl
        case l46 => have := HkL.out; have := OkA.out.2.2.1; rw [List.length_drop]; omega
        case o46 => exact fun u hu => strs_one _ (List.mem_of_mem_drop hu)
        case m16 => have := HkL.out; have := HE.out; unfold maxLen; omega
        case m26 => have := HkL.out; have := HE.out; omega
        intro x0 x1 x2 x3 v2 w2 own2 fr2
        obtain ⟨a2, c2, rfl⟩ := own_form own2
        try simp only [Act.put, List.setIfInBounds_toArray, List.set_cons_succ, List.set_cons_zero]
        have hb2 := fr2.get Hbk1.out (fun h => h)
        have z6 := blk_frozen hb2 6
        have y6 := Key6.out w2 fr2
        obtain ⟨w3, hw3⟩ : ∃ w3, w3 = w2.setCell ⟨bb, 6, none⟩ (.slice a2 (k + 1 + (L.length - k)) c2) := ⟨_, rfl⟩
        have hb3 : w3.heap[bb]? = some (.cells #[.int .i64 (kindN n), .int .i64 n.mode, .int .i64 n.links, .int .i64 n.holds, .int .i64 n.par, .string (baL n.data), .slice a2 (k + 1 + (L.length - k)) c2, .slice ia L.length ic] 82 (0, 0)) := by rw [hw3, blk_set hb2 6 _]; rfl
        have hfr3 : Fr (fun q => q = bb) w2 w3 := by rw [hw3]; exact (Fr.refl (fun q => q = bb) w2).setCell (.inl rfl) _
        have hbb1 := blk_lt Hbk1.out
        have own3 := own_frame own2 hfr3 (fun q e e2 => by have := (own2.lt _ e).1; omega)
        have hf3 : Fr (fun _ => False) w w3 := (Hf1.out.trans fr2).trans' hfr3 (fun q hq e => by have := Hbb.out; omega)
        have Own3 := hide own3
        have Hf3 := hide hf3
        have Hb3 := hide hb3
        have Hs3 := hide (Nat.le_trans fr2.size hfr3.size)
        have OkI := hide (HI0.out.frame hf3 (fun _ _ _ e => e)).ok
        have Key7 := hide (show ∀ w', Fr (fun _ => False) w3 w' → w'.cell? ⟨bb, 7, none⟩ = some (.slice ia L.length ic) from fun w' h => by rw [blk_cell (h.get hb3 (fun h => h))]; rfl)
        obtain ⟨ta, tc, hcl, hsc⟩ := cutLo (T := 80) Tryz.underlying80 (fun w' => by kernel_rfl) HkL.out OkI.out.1 OkI.out.2.1
        have Lo7 := hide hcl
        have Lo7c := hide hsc
        have Hi7 := hide (cutHi (T := 80) (la := ia) Tryz.underlying80 (fun w' => by kernel_rfl) HkL.out OkI.out.1)
        clear hcl hsc own2 fr2 hb2 hfr3 own3 hf3 hb3 hbb1
        try simp only [List.drop_succ_cons, List.drop_zero]
        go_upto_region 5 with (fail)
        rw [← hw3]
        clear hw3 z6 y6
        refine region_tree (fun w' => Fr (fun _ => False) w3 w') [1, 2, 3, 4, 6, 9, 10, 11, 12] 5 14 (by kernel_rfl) (by kernel_rfl) (fun _ _ d _ _ h => by cases d <;> exact h) (Fr.refl _ _).drew ?_
        simp only [List.map_cons, List.map_nil, List.getD_cons_zero, List.getD_cons_succ, List.drop_succ_cons, List.drop_zero]
        refine wpQuiet_val (.pointer (some ⟨bb, 7, none⟩)) rfl (fun w' hS => by (go_simp)) ?_
        simp only [Act.put, List.setIfInBounds_toArray, List.set_cons_succ, List.set_cons_zero]
        refine wpQuiet_val (.slice ia L.length ic) rfl (fun w' hS => by (have e2 := Key7.out w' hS; go_simp)) ?_
        simp only [Act.put, List.setIfInBounds_toArray, List.set_cons_succ, List.set_cons_zero]
        go_big_quiet_step (fail)
        refine wpQuiet_val (.slice ia k ic) rfl (fun w' hS => by (have e2 := Hi7.out w'; go_simp)) ?_
        simp only [Act.put, List.setIfInBounds_toArray, List.set_cons_succ, List.set_cons_zero]
        go_big_quiet_step (fail)
        refine wpQuiet_val (.pointer (some ⟨bb, 7, none⟩)) rfl (fun w' hS => by (go_simp)) ?_
        simp only [Act.put, List.setIfInBounds_toArray, List.set_cons_succ, List.set_cons_zero]
        refine wpQuiet_val (.slice ia L.length ic) rfl (fun w' hS => by (have e2 := Key7.out w' hS; go_simp)) ?_
        simp only [Act.put, List.setIfInBounds_toArray, List.set_cons_succ, List.set_cons_zero]
        go_big_quiet_step (fail)
        refine wpQuiet_val (.slice ta (L.length - k) tc) rfl (fun w' hS => by (have e2 := Lo7.out w'; go_simp)) ?_
        simp only [Act.put, List.setIfInBounds_toArray, List.set_cons_succ, List.set_cons_zero]
        refine wpQuiet_nil ?_
        refine tree_app3 0 5 7 8 13 (by kernel_rfl) 48 53 55 56 61 (by decide) (by simp) rfl rfl rfl rfl rfl rfl rfl rfl 80 3 52 60 (.tmp 54) #[.int .i64 (b : Nat)] (by simp) rfl rfl rfl ?h07 ?h27 j0 (.int .i64 0) 1 8 Tryz.underlying80 jinf jz0 jz1 jz2 rfl (by decide) ia k ic ((intsL (L.map (·.2))).take k) rfl ?l17 (OkI.out.hi HkL.out) ?o17 rfl ?o27 ta (L.length - k) tc ((intsL (L.map (·.2))).drop k) rfl ?l47 (OkI.out.lo HkL.out Lo7c.out) ?o47 ?m17 ?m27 (Fr.refl _ _).drew ?_
        case h07 =>
          intro a1 w1' K hK
          simp only [List.getD_cons_zero, List.getD_cons_succ]
          go_wp2_with fail
          exact hK
        case h27 =>
          intro a1 w1' K he hK
          replace he : a1.eval (.tmp 54) = .int .i64 (b : Nat) := he
          exact wp_buildSlice 80 3 1 #[(0, .tmp 54)] rfl #[.int .i64 (b : Nat)] j0 (.int .i64 0) Tryz.underlying80 jinf jz0 (by rw [jz1]; decide) (by rw [jz1]; decide) (by rw [jz1]; simp [he]; kernel_rfl) hK
        case l17 => have := HkL.out; have := OkI.out.2.2.1; rw [List.length_take]; omega
        case o17 => exact fun u hu => intsL_one _ (List.mem_of_mem_take hu)
        case o27 => intro u hu; simp at hu; subst hu; rfl
        case l47 => have := HkL.out; have := OkI.out.2.2.1; rw [List.length_drop]; omega
        case o47 => exact fun u hu => intsL_one _ (List.mem_of_mem_drop hu)
        case m17 => have := HkL.out; have := HE.out; unfold maxLen; omega
        case m27 => have := HkL.out; have := HE.out; omega
        intro x0 x1 x2 x3 v5 w5 own5 fr5
        obtain ⟨a5, c5, rfl⟩ := own_form own5
        try simp only [Act.put, List.setIfInBounds_toArray, List.set_cons_succ, List.set_cons_zero]
        have hb5 := fr5.get Hb3.out (fun h => h)
        have z7 := blk_frozen hb5 7
        have y7 := Key7.out w5 fr5
        obtain ⟨w4, hw4⟩ : ∃ w4, w4 = w5.setCell ⟨bb, 7, none⟩ (.slice a5 (k + 1 + (L.length - k)) c5) := ⟨_, rfl⟩
        have hb4 : w4.heap[bb]? = some (.cells #[.int .i64 (kindN n), .int .i64 n.mode, .int .i64 n.links, .int .i64 n.holds, .int .i64 n.par, .string (baL n.data), .slice a2 (k + 1 + (L.length - k)) c2, .slice a5 (k + 1 + (L.length - k)) c5] 82 (0, 0)) := by rw [hw4, blk_set hb5 7 _]; rfl
        have hfr4 : Fr (fun q => q = bb) w5 w4 := by rw [hw4]; exact (Fr.refl (fun q => q = bb) w5).setCell (.inl rfl) _
        have hbb1 := blk_lt Hbk1.out
        have hD : kput s.data.toList b L = L.take k ++ (s.data.toList, b) :: L.drop k := kput_new (HEnts.out ▸ hnew) HkL.out Hlo.out Hst.out
        have own4 := own_frame (own_frame Own3.out fr5 (fun _ _ h => h)) hfr4 (fun q e e2 => by have := (Own3.out.lt _ e).1; omega)
        have int4 := own_frame own5 hfr4 (fun q e e2 => by have := (own5.lt _ e).1; have := Hs3.out; omega)
        have hf4 : Fr (fun _ => False) w w4 := (Hf3.out.trans fr5).trans' hfr4 (fun q hq e => by have := Hbb.out; omega)
        have hlen : k + 1 + (L.length - k) = (kput s.data.toList b L).length := by have := HkL.out; rw [hD]; simp; omega
        have hS : ∀ q, w1.heap.size ≤ q → S q ∧ q ≠ g ∧ q ≠ nb := fun q hq => by
          have := Hf1.out.size
          have hg4 : g < w.heap.size := blk_lt HF.out.hb
          exact ⟨HF.out.up q (by omega), by omega, by omega⟩
        have e6 : (strs (namesB L)).take k ++ #[Value.string s].toList ++ (strs (namesB L)).drop k = strs (namesB (kput s.data.toList b L)) := by
          rw [hD]; simp [strs, namesB, List.map_take, List.map_drop]
        have e7 : (intsL (L.map (·.2))).take k ++ #[Value.int .i64 (b : Nat)].toList ++ (intsL (L.map (·.2))).drop k = intsL ((kput s.data.toList b L).map (·.2)) := by
          rw [hD]; simp [intsL, List.map_take, List.map_drop]
        rw [e6] at own4
        rw [e7] at int4
        have hfin := hide (hfinA.out w4.drew _ _ _ rfl hf4.drew ((own_args own4 (by rw [hlen]; simp [namesB]) hS).frame (Fr.refl (fun _ => False) w4).drew (fun _ _ _ e => e)) ((own_ints int4 (by rw [hlen]; simp) (fun q hq => hS q (Nat.le_trans Hs3.out hq))).frame (Fr.refl (fun _ => False) w4).drew (fun _ _ _ e => e)))
        have hF4 := HF.out.frame hf4 (fun _ _ _ e => e)
        have hbd := blk_drew hb4
        have d0 : w4.drew.cell? ⟨bb, 0, none⟩ = some (.int .i64 (kindN n)) := by rw [blk_cell hbd]; rfl
        have d1 : w4.drew.cell? ⟨bb, 1, none⟩ = some (.int .i64 n.mode) := by rw [blk_cell hbd]; rfl
        have d2 : w4.drew.cell? ⟨bb, 2, none⟩ = some (.int .i64 n.links) := by rw [blk_cell hbd]; rfl
        have d3 : w4.drew.cell? ⟨bb, 3, none⟩ = some (.int .i64 n.holds) := by rw [blk_cell hbd]; rfl
        have d4 : w4.drew.cell? ⟨bb, 4, none⟩ = some (.int .i64 n.par) := by rw [blk_cell hbd]; rfl
        have d5 : w4.drew.cell? ⟨bb, 5, none⟩ = some (.string (baL n.data)) := by rw [blk_cell hbd]; rfl
        have d6 : w4.drew.cell? ⟨bb, 6, none⟩ = some (.slice a2 (k + 1 + (L.length - k)) c2) := by rw [blk_cell hbd]; rfl
        have d7 : w4.drew.cell? ⟨bb, 7, none⟩ = some (.slice a5 (k + 1 + (L.length - k)) c5) := by rw [blk_cell hbd]; rfl
        have cg : w4.drew.cell? ⟨g, 0, none⟩ = some (.slice (some ⟨nb, 0, none⟩) (σ.length + 1) cap) := by rw [blk_cell (blk_drew hF4.hb)]; rfl
        have hth : w4.drew.there nb (i * 8) 8 := (World.there_drew _ _ _ _).2 (hF4.there hi)
        clear hD hfr4 own4 int4 hf4 hS hF4 hbd hb4 hbb1 HF hlen e6 e7 own5 fr5 hb5
        generalize k + 1 + (L.length - k) = dl at *
        try simp only [List.drop_succ_cons, List.drop_zero]
        go_upto_region 6 with (fail)
        rw [← hw4]
        clear hw4 z7 y7
        refine region_tail 7 (by kernel_rfl) (by kernel_rfl) ?_
        simp only [List.take_succ_cons, List.take_zero, List.drop_succ_cons, List.drop_zero]
        generalize w4.drew = wd at *
        repeat go_big_quiet_step (fail)
        refine wpQuiet_nil ?_
        refine wpList_store_mid rfl 82 _ _ rfl nb (i * 8) #[.int .i64 (kindN n), .int .i64 n.mode, .int .i64 n.links, .int .i64 n.holds, .int .i64 n.par, .string (baL n.data), .slice a2 dl c2, .slice a5 dl c5] rfl rfl hth (by kernel_rfl) (by simp [Value.oneCell']) ?_
        go_wp2_with fail
        go_end0
        exact hfin.out
    · have hkI : ¬ (k : Int) < (L.length : Int) := by omega
      have Hst := hide (show ∀ hk : k < L.length, bytesBefore L[k].1 s.data.toList = false from fun hk => absurd hk hlt)
      obtain ⟨sa, sc, hcl, hsc⟩ := cutLo (T := 28) Tryz.underlying28 (fun w' => by kernel_rfl) HkL.out OkA.out.1 OkA.out.2.1
      have Lo6 := hide hcl
      have Lo6c := hide hsc
      have Hi6 := hide (cutHi (T := 28) (la := na) Tryz.underlying28 (fun w' => by kernel_rfl) HkL.out OkA.out.1)
      clear hcl hsc
      go_upto_region 4 with (fail)
      refine region_tree (fun w' => Fr (fun _ => False) w1 w') [1, 2, 3, 4, 6, 9, 10, 11, 12] 5 14 (by kernel_rfl) (by kernel_rfl) (fun _ _ d _ _ h => by cases d <;> exact h) (Fr.refl _ _).drew ?_
      simp only [List.map_cons, List.map_nil, List.getD_cons_zero, List.getD_cons_succ, List.drop_succ_cons, List.drop_zero]
      refine wpQuiet_val (.pointer (some ⟨bb, 6, none⟩)) rfl (fun w' hS => by (go_simp)) ?_
      simp only [Act.put, List.setIfInBounds_toArray, List.set_cons_succ, List.set_cons_zero]
      refine wpQuiet_val (.slice na L.length nc) rfl (fun w' hS => by (have e2 := Key6.out w' hS; go_simp)) ?_
      simp only [Act.put, List.setIfInBounds_toArray, List.set_cons_succ, List.set_cons_zero]
      go_big_quiet_step (fail)
      refine wpQuiet_val (.slice na k nc) rfl (fun w' hS => by (have e2 := Hi6.out w'; go_simp)) ?_
      simp only [Act.put, List.setIfInBounds_toArray, List.set_cons_succ, List.set_cons_zero]
      go_big_quiet_step (fail)
      refine wpQuiet_val (.pointer (some ⟨bb, 6, none⟩)) rfl (fun w' hS => by (go_simp)) ?_
      simp only [Act.put, List.setIfInBounds_toArray, List.set_cons_succ, List.set_cons_zero]
      refine wpQuiet_val (.slice na L.length nc) rfl (fun w' hS => by (have e2 := Key6.out w' hS; go_simp)) ?_
      simp only [Act.put, List.setIfInBounds_toArray, List.set_cons_succ, List.set_cons_zero]
      go_big_quiet_step (fail)
      refine wpQuiet_val (.slice sa (L.length - k) sc) rfl (fun w' hS => by (have e2 := Lo6.out w'; go_simp)) ?_
      simp only [Act.put, List.setIfInBounds_toArray, List.set_cons_succ, List.set_cons_zero]
      refine wpQuiet_nil ?_
      refine tree_app3 0 5 7 8 13 (by kernel_rfl) 33 38 40 41 46 (by decide) (by simp) rfl rfl rfl rfl rfl rfl rfl rfl 28 9 37 45 (.tmp 39) #[.string s] (by simp) rfl rfl rfl ?h06 ?h26 i0 (.string ⟨#[]⟩) 1 16 Tryz.underlying28 hinf hz0 hz1 hz2 rfl (by decide) na k nc ((strs (namesB L)).take k) rfl ?l16 (OkA.out.hi HkL.out) ?o16 rfl ?o26 sa (L.length - k) sc ((strs (namesB L)).drop k) rfl ?l46 (OkA.out.lo HkL.out Lo6c.out) ?o46 ?m16 ?m26 (Fr.refl _ _).drew ?_
      case h06 =>
        intro a1 w1' K hK
        simp only [List.getD_cons_zero, List.getD_cons_succ]
        go_wp2_with fail
        exact hK
      case h26 =>
        intro a1 w1' K he hK
        replace he : a1.eval (.tmp 39) = .string s := he
        exact wp_buildSlice 28 9 1 #[(0, .tmp 39)] rfl #[.string s] i0 (.string ⟨#[]⟩) Tryz.underlying28 hinf hz0 (by rw [hz1]; decide) (by rw [hz1]; decide) (by rw [hz1]; simp [he]; kernel_rfl) hK
      case l16 => have := HkL.out; have := OkA.out.2.2.1; rw [List.length_take]; omega
      case o16 => exact fun u hu => strs_one _ (List.mem_of_mem_take hu)
      case o26 => intro u hu; simp at hu; subst hu; rfl
      case l46 => have := HkL.out; have := OkA.out.2.2.1; rw [List.length_drop]; omega
      case o46 => exact fun u hu => strs_one _ (List.mem_of_mem_drop hu)
      case m16 => have := HkL.out; have := HE.out; unfold maxLen; omega
      case m26 => have := HkL.out; have := HE.out; omega
      intro x0 x1 x2 x3 v2 w2 own2 fr2
      obtain ⟨a2, c2, rfl⟩ := own_form own2
      try simp only [Act.put, List.setIfInBounds_toArray, List.set_cons_succ, List.set_cons_zero]
      have hb2 := fr2.get Hbk1.out (fun h => h)
      have z6 := blk_frozen hb2 6
      have y6 := Key6.out w2 fr2
      obtain ⟨w3, hw3⟩ : ∃ w3, w3 = w2.setCell ⟨bb, 6, none⟩ (.slice a2 (k + 1 + (L.length - k)) c2) := ⟨_, rfl⟩
      have hb3 : w3.heap[bb]? = some (.cells #[.int .i64 (kindN n), .int .i64 n.mode, .int .i64 n.links, .int .i64 n.holds, .int .i64 n.par, .string (baL n.data), .slice a2 (k + 1 + (L.length - k)) c2, .slice ia L.length ic] 82 (0, 0)) := by rw [hw3, blk_set hb2 6 _]; rfl
      have hfr3 : Fr (fun q => q = bb) w2 w3 := by rw [hw3]; exact (Fr.refl (fun q => q = bb) w2).setCell (.inl rfl) _
      have hbb1 := blk_lt Hbk1.out
      have own3 := own_frame own2 hfr3 (fun q e e2 => by have := (own2.lt _ e).1; omega)
      have hf3 : Fr (fun _ => False) w w3 := (Hf1.out.trans fr2).trans' hfr3 (fun q hq e => by have := Hbb.out; omega)
      have Own3 := hide own3
      have Hf3 := hide hf3
      have Hb3 := hide hb3
      have Hs3 := hide (Nat.le_trans fr2.size hfr3.size)
      have OkI := hide (HI0.out.frame hf3 (fun _ _ _ e => e)).ok
      have Key7 := hide (show ∀ w', Fr (fun _ => False) w3 w' → w'.cell? ⟨bb, 7, none⟩ = some (.slice ia L.length ic) from fun w' h => by rw [blk_cell (h.get hb3 (fun h => h))]; rfl)
      obtain ⟨ta, tc, hcl, hsc⟩ := cutLo (T := 80) Tryz.underlying80 (fun w' => by kernel_rfl) HkL.out OkI.out.1 OkI.out.2.1
      have Lo7 := hide hcl
      have Lo7c := hide hsc
      have Hi7 := hide (cutHi (T := 80) (la := ia) Tryz.underlying80 (fun w' => by kernel_rfl) HkL.out OkI.out.1)
      clear hcl hsc own2 fr2 hb2 hfr3 own3 hf3 hb3 hbb1
      try simp only [List.drop_succ_cons, List.drop_zero]
      go_upto_region 5 with (fail)
      rw [← hw3]
      clear hw3 z6 y6
      refine region_tree (fun w' => Fr (fun _ => False) w3 w') [1, 2, 3, 4, 6, 9, 10, 11, 12] 5 14 (by kernel_rfl) (by kernel_rfl) (fun _ _ d _ _ h => by cases d <;> exact h) (Fr.refl _ _).drew ?_
      simp only [List.map_cons, List.map_nil, List.getD_cons_zero, List.getD_cons_succ, List.drop_succ_cons, List.drop_zero]
      refine wpQuiet_val (.pointer (some ⟨bb, 7, none⟩)) rfl (fun w' hS => by (go_simp)) ?_
      simp only [Act.put, List.setIfInBounds_toArray, List.set_cons_succ, List.set_cons_zero]
      refine wpQuiet_val (.slice ia L.length ic) rfl (fun w' hS => by (have e2 := Key7.out w' hS; go_simp)) ?_
      simp only [Act.put, List.setIfInBounds_toArray, List.set_cons_succ, List.set_cons_zero]
      go_big_quiet_step (fail)
      refine wpQuiet_val (.slice ia k ic) rfl (fun w' hS => by (have e2 := Hi7.out w'; go_simp)) ?_
      simp only [Act.put, List.setIfInBounds_toArray, List.set_cons_succ, List.set_cons_zero]
      go_big_quiet_step (fail)
      refine wpQuiet_val (.pointer (some ⟨bb, 7, none⟩)) rfl (fun w' hS => by (go_simp)) ?_
      simp only [Act.put, List.setIfInBounds_toArray, List.set_cons_succ, List.set_cons_zero]
      refine wpQuiet_val (.slice ia L.length ic) rfl (fun w' hS => by (have e2 := Key7.out w' hS; go_simp)) ?_
      simp only [Act.put, List.setIfInBounds_toArray, List.set_cons_succ, List.set_cons_zero]
      go_big_quiet_step (fail)
      refine wpQuiet_val (.slice ta (L.length - k) tc) rfl (fun w' hS => by (have e2 := Lo7.out w'; go_simp)) ?_
      simp only [Act.put, List.setIfInBounds_toArray, List.set_cons_succ, List.set_cons_zero]
      refine wpQuiet_nil ?_
      refine tree_app3 0 5 7 8 13 (by kernel_rfl) 48 53 55 56 61 (by decide) (by simp) rfl rfl rfl rfl rfl rfl rfl rfl 80 3 52 60 (.tmp 54) #[.int .i64 (b : Nat)] (by simp) rfl rfl rfl ?h07 ?h27 j0 (.int .i64 0) 1 8 Tryz.underlying80 jinf jz0 jz1 jz2 rfl (by decide) ia k ic ((intsL (L.map (·.2))).take k) rfl ?l17 (OkI.out.hi HkL.out) ?o17 rfl ?o27 ta (L.length - k) tc ((intsL (L.map (·.2))).drop k) rfl ?l47 (OkI.out.lo HkL.out Lo7c.out) ?o47 ?m17 ?m27 (Fr.refl _ _).drew ?_
      case h07 =>
        intro a1 w1' K hK
        simp only [List.getD_cons_zero, List.getD_cons_succ]
        go_wp2_with fail
        exact hK
      case h27 =>
        intro a1 w1' K he hK
        replace he : a1.eval (.tmp 54) = .int .i64 (b : Nat) := he
        exact wp_buildSlice 80 3 1 #[(0, .tmp 54)] rfl #[.int .i64 (b : Nat)] j0 (.int .i64 0) Tryz.underlying80 jinf jz0 (by rw [jz1]; decide) (by rw [jz1]; decide) (by rw [jz1]; simp [he]; kernel_rfl) hK
      case l17 => have := HkL.out; have := OkI.out.2.2.1; rw [List.length_take]; omega
      case o17 => exact fun u hu => intsL_one _ (List.mem_of_mem_take hu)
      case o27 => intro u hu; simp at hu; subst hu; rfl
      case l47 => have := HkL.out; have := OkI.out.2.2.1; rw [List.length_drop]; omega
      case o47 => exact fun u hu => intsL_one _ (List.mem_of_mem_drop hu)
      case m17 => have := HkL.out; have := HE.out; unfold maxLen; omega
      case m27 => have := HkL.out; have := HE.out; omega
      intro x0 x1 x2 x3 v5 w5 own5 fr5
      obtain ⟨a5, c5, rfl⟩ := own_form own5
      try simp only [Act.put, List.setIfInBounds_toArray, List.set_cons_succ, List.set_cons_zero]
      have hb5 := fr5.get Hb3.out (fun h => h)
      have z7 := blk_frozen hb5 7
      have y7 := Key7.out w5 fr5
      obtain ⟨w4, hw4⟩ : ∃ w4, w4 = w5.setCell ⟨bb, 7, none⟩ (.slice a5 (k + 1 + (L.length - k)) c5) := ⟨_, rfl⟩
      have hb4 : w4.heap[bb]? = some (.cells #[.int .i64 (kindN n), .int .i64 n.mode, .int .i64 n.links, .int .i64 n.holds, .int .i64 n.par, .string (baL n.data), .slice a2 (k + 1 + (L.length - k)) c2, .slice a5 (k + 1 + (L.length - k)) c5] 82 (0, 0)) := by rw [hw4, blk_set hb5 7 _]; rfl
      have hfr4 : Fr (fun q => q = bb) w5 w4 := by rw [hw4]; exact (Fr.refl (fun q => q = bb) w5).setCell (.inl rfl) _
      have hbb1 := blk_lt Hbk1.out
      have hD : kput s.data.toList b L = L.take k ++ (s.data.toList, b) :: L.drop k := kput_new (HEnts.out ▸ hnew) HkL.out Hlo.out Hst.out
      have own4 := own_frame (own_frame Own3.out fr5 (fun _ _ h => h)) hfr4 (fun q e e2 => by have := (Own3.out.lt _ e).1; omega)
      have int4 := own_frame own5 hfr4 (fun q e e2 => by have := (own5.lt _ e).1; have := Hs3.out; omega)
      have hf4 : Fr (fun _ => False) w w4 := (Hf3.out.trans fr5).trans' hfr4 (fun q hq e => by have := Hbb.out; omega)
      have hlen : k + 1 + (L.length - k) = (kput s.data.toList b L).length := by have := HkL.out; rw [hD]; simp; omega
      have hS : ∀ q, w1.heap.size ≤ q → S q ∧ q ≠ g ∧ q ≠ nb := fun q hq => by
        have := Hf1.out.size
        have hg4 : g < w.heap.size := blk_lt HF.out.hb
        exact ⟨HF.out.up q (by omega), by omega, by omega⟩
      have e6 : (strs (namesB L)).take k ++ #[Value.string s].toList ++ (strs (namesB L)).drop k = strs (namesB (kput s.data.toList b L)) := by
        rw [hD]; simp [strs, namesB, List.map_take, List.map_drop]
      have e7 : (intsL (L.map (·.2))).take k ++ #[Value.int .i64 (b : Nat)].toList ++ (intsL (L.map (·.2))).drop k = intsL ((kput s.data.toList b L).map (·.2)) := by
        rw [hD]; simp [intsL, List.map_take, List.map_drop]
      rw [e6] at own4
      rw [e7] at int4
      have hfin := hide (hfinA.out w4.drew _ _ _ rfl hf4.drew ((own_args own4 (by rw [hlen]; simp [namesB]) hS).frame (Fr.refl (fun _ => False) w4).drew (fun _ _ _ e => e)) ((own_ints int4 (by rw [hlen]; simp) (fun q hq => hS q (Nat.le_trans Hs3.out hq))).frame (Fr.refl (fun _ => False) w4).drew (fun _ _ _ e => e)))
      have hF4 := HF.out.frame hf4 (fun _ _ _ e => e)
      have hbd := blk_drew hb4
      have d0 : w4.drew.cell? ⟨bb, 0, none⟩ = some (.int .i64 (kindN n)) := by rw [blk_cell hbd]; rfl
      have d1 : w4.drew.cell? ⟨bb, 1, none⟩ = some (.int .i64 n.mode) := by rw [blk_cell hbd]; rfl
      have d2 : w4.drew.cell? ⟨bb, 2, none⟩ = some (.int .i64 n.links) := by rw [blk_cell hbd]; rfl
      have d3 : w4.drew.cell? ⟨bb, 3, none⟩ = some (.int .i64 n.holds) := by rw [blk_cell hbd]; rfl
      have d4 : w4.drew.cell? ⟨bb, 4, none⟩ = some (.int .i64 n.par) := by rw [blk_cell hbd]; rfl
      have d5 : w4.drew.cell? ⟨bb, 5, none⟩ = some (.string (baL n.data)) := by rw [blk_cell hbd]; rfl
      have d6 : w4.drew.cell? ⟨bb, 6, none⟩ = some (.slice a2 (k + 1 + (L.length - k)) c2) := by rw [blk_cell hbd]; rfl
      have d7 : w4.drew.cell? ⟨bb, 7, none⟩ = some (.slice a5 (k + 1 + (L.length - k)) c5) := by rw [blk_cell hbd]; rfl
      have cg : w4.drew.cell? ⟨g, 0, none⟩ = some (.slice (some ⟨nb, 0, none⟩) (σ.length + 1) cap) := by rw [blk_cell (blk_drew hF4.hb)]; rfl
      have hth : w4.drew.there nb (i * 8) 8 := (World.there_drew _ _ _ _).2 (hF4.there hi)
      clear hD hfr4 own4 int4 hf4 hS hF4 hbd hb4 hbb1 HF hlen e6 e7 own5 fr5 hb5
      generalize k + 1 + (L.length - k) = dl at *
      try simp only [List.drop_succ_cons, List.drop_zero]
      go_upto_region 6 with (fail)
      rw [← hw4]
      clear hw4 z7 y7
      refine region_tail 7 (by kernel_rfl) (by kernel_rfl) ?_
      simp only [List.take_succ_cons, List.take_zero, List.drop_succ_cons, List.drop_zero]
      generalize w4.drew = wd at *
      repeat go_big_quiet_step (fail)
      refine wpQuiet_nil ?_
      refine wpList_store_mid rfl 82 _ _ rfl nb (i * 8) #[.int .i64 (kindN n), .int .i64 n.mode, .int .i64 n.links, .int .i64 n.holds, .int .i64 n.par, .string (baL n.data), .slice a2 dl c2, .slice a5 dl c5] rfl rfl hth (by kernel_rfl) (by simp [Value.oneCell']) ?_
      go_wp2_with fail
      go_end0
      exact hfin.out
end Go.Proofs.YtlhmmiolnbgloaaGreatDoor
