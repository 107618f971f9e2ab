/- shyardref08: FS.below, Tree. Printed by wip/gen/frefZ.py. Conditions: each contract's own premises. -/
import Derived.Test.YthikjdpnlahkfaaGreatDoorFrefW
import Derived.Test.YthikjdpnlahkfaaGreatDoorFilesKeepsL
import Derived.Test.YthikjdpnlahkfaaGreatDoorFwantE
import Derived.Test.YthikjdpnlahkfaaGreatDoorFilesAskL
import Derived.Test.YthikjdpnlahkfaaGreatDoorFrefP
import Derived.Test.YthikjdpnlahkfaaGreatDoorFrefY
import Derived.Test.YthikjdpnlahkfaaGreatDoorFrefY
namespace Go.Proofs.YthikjdpnlahkfaaGreatDoor
open Go.RowKit

theorem treeF_le {σ : FSt} (h : Inv σ 0) (hL : Live σ) {c : Nat} (hc : Caps σ c) {fuel i d : Nat} {P : List UInt8} {n : Nd} (hn : σ.nd i = some n) (hd : n.d = true) (hdep : Dep σ 0 1 i d) : (treeF σ fuel P i).length ≤ 101 * c := by
  obtain ⟨l, h1, h2, h3⟩ := treeF_count h hL hc fuel i d P n hn hd hdep
  have h4 := nodup_le (σ.length + 1) l h1 fun x hx => by
    obtain ⟨a, b⟩ := FSt.nd_lt (h2 x hx).2.1
    omega
  have h5 := hL.len
  exact Nat.le_trans h3 (Nat.mul_le_mul_right _ (by omega))
theorem entCells_append (L M : List EntQ) : entCells (L ++ M) = entCells L ++ entCells M := by unfold entCells; rw [List.map_append, List.flatten_append]
theorem entCells_one (L : List EntQ) : ∀ u ∈ entCells L, u.oneCell' = true := by
  intro u hu
  unfold entCells at hu
  obtain ⟨l, hl, hu⟩ := List.mem_flatten.1 hu
  obtain ⟨x, _, rfl⟩ := List.mem_map.1 hl
  simp only [entC, List.mem_cons, List.not_mem_nil, or_false] at hu
  rcases hu with rfl | rfl | rfl | rfl <;> rfl
theorem own_src {w : World} {base : Nat} {e : TypeId} {size : Nat} {v : Value} {n : Nat} {xs : List Value} (h : w.ownsRow base e size v n xs) : ∃ sa c, v = .slice sa n c ∧ ((sa = none ∧ n = 0 ∧ c = 0) ∨ ∃ ad, sa = some ad ∧ ∀ j u, xs[j]? = some u → w.cell? (ad.add j) = some u) := by
  have hl := h.1
  rcases h.2 with ⟨h1, h2⟩ | ⟨g, cap, cur, rfl, hb, hg, hn, hm, hs, ht⟩
  · subst h1
    subst h2
    exact ⟨none, 0, rfl, .inl ⟨rfl, rfl, rfl⟩⟩
  · refine ⟨_, _, rfl, .inr ⟨_, rfl, fun j u hj => ?_⟩⟩
    have hjl := (List.getElem?_eq_some_iff.1 hj).1
    rw [hl] at hjl
    rw [Addr.add_lit, Nat.zero_add]
    exact (h.cellAt j hjl).trans hj
def RbelPost (σ : FSt) (fuel i : Nat) (P : List UInt8) (w : World) (e : Ending) (w' : World) : Prop := ∃ v, e = .returned v ∧ EntRow w' w.heap.size v (treeF σ fuel P i) ∧ Fr (fun _ => False) w w'
def BlRel (σ : FSt) (fuel : Nat) (P : List UInt8) (n : Nd) (base : Nat) (w1 : World) (gk : Nat) (lv iv : Value) (wr : World) : Prop :=
  ∃ k v, gk + k = n.ents.length ∧ iv = .int .i64 (k : Nat) ∧ v = lv ∧ wr.ownsRow base 98 4 v (tot σ fuel P n k).length (entCells (tot σ fuel P n k)) ∧ Fr (fun _ => False) w1 wr
set_option maxRecDepth 100000 in
set_option maxHeartbeats 8000000 in
theorem rbelow_any {σ : FSt} {g : Nat} {S : Nat → Prop} (hG : RG σ) (hI : Inv σ 0) (hc : Caps σ 1000000) : ∀ (fuel i d : Nat) (P : List UInt8) (w : World) (n : Nd), σ.nd i = some n → n.d = true → Dep σ 0 1 i d → d + fuel = 101 → P.length ≤ 33 * d → RfAt w g σ S →
    Calls Tryz.prog 56 #[.pointer (some ⟨g, 0, none⟩), .int .i64 (i : Nat), .string (baL P)] w (RbelPost σ fuel i P w)
  | 0, i, d, P, w, n, hn, hd, hdep, hfu, hP, h => by
    have := hdep.short hG.live
    omega
  | fuel + 1, i, d, P, w, n, hn, hd, hdep, hfu, hP, h => by
    have IH := hide (rbelow_any (g := g) (S := S) hG hI hc fuel)
    obtain ⟨i0, hinf, hz0, hz1, hz2⟩ := info_parts Tryz.infoEntry
    have hlen := hG.live.len
    have hdl := hdep.short hG.live
    have hcnt := treeF_le hI hG.live hc (fuel := fuel + 1) (P := P) hn hd hdep
    have hall := tot_all hn fuel P
    obtain ⟨nb, cap, na, nc, ia, ic, c0, hnb, hi1, hi0, ⟨q0, q1, q2, q3, q4, q5, q6, q7⟩, hA, hII, -⟩ := h.open hn
    obtain ⟨w1, hw1⟩ : ∃ w1, w1 = w.alloc (.cells #[.int .i64 (kindN n), .int .i64 n.mode, .int .i64 n.links, .int .i64 n.holds, .int .i64 n.par, .string (baL n.data), .slice na n.ents.length nc, .slice ia n.ents.length ic] 63 (0, 0)) := ⟨_, rfl⟩
    obtain ⟨bb, hbb⟩ : ∃ bb, bb = w.heap.size := ⟨_, rfl⟩
    have hf1 : Fr (fun _ => False) w w1 := by rw [hw1]; exact (Fr.refl _ _).alloc _
    have hbk1 : w1.heap[bb]? = some (.cells #[.int .i64 (kindN n), .int .i64 n.mode, .int .i64 n.links, .int .i64 n.holds, .int .i64 n.par, .string (baL n.data), .slice na n.ents.length nc, .slice ia n.ents.length ic] 63 (0, 0)) := by rw [hw1, hbb]; exact blk_new _ _
    have hsz1 : w1.heap.size = w.heap.size + 1 := by rw [hw1]; simp
    have HA := hide (hA.frame hf1 (fun _ _ _ e => e))
    have HII := hide (hII.frame hf1 (fun _ _ _ e => e))
    have HR1 := hide (h.frame hf1 (fun _ _ _ e => e))
    have Hf1 := hide hf1
    have Hbk1 := hide hbk1
    have Hsz1 := hide hsz1
    have Hn := hide hn
    have Hdep := hide hdep
    have HG := hide hG
    have HI := hide hI
    have hcapn := (hG.cap i n hn).2.2
    have hpl : (baL P).size = P.length := rfl
    obtain ⟨pb, hpb⟩ : ∃ pb, pb = baL P := ⟨_, rfl⟩
    have hpbl : pb.size ≤ 3400 := by rw [hpb, hpl]; omega
    have Hpb := hide hpb
    have Hall := hide hall
    rw [← hpb]
    clear hA hII hf1 hbk1 hsz1 h hn hd hdep hG hI hpl hpb hall
    go_enter Tryz.func56, Tryz.ntmps56
    go_upto_block 1 with fail
    rw [← hw1]
    rw [← hbb]
    have Hbb := hide hbb
    clear hw1 hbb q0 q1 q2 q3 q4 q5 q6 q7 c0 hnb hi1 hi0
    go_loopg [7, 9] n.ents.length (fun gk lv iv wr => BlRel σ fuel P n (w.heap.size + 1) w1 gk lv iv wr)
    case atStart => exact ⟨0, _, by omega, rfl, rfl, by simpa [tot, entCells] using World.ownsRow_nil _ _ _ _, Fr.refl _ _⟩
    case round =>
      obtain ⟨k, lv, hgk, rfl, rfl, hrow, hfr⟩ := hrel
      have Hgk := hide hgk
      have Hrow := hide hrow
      have Hfr := hide hfr
      have hk0 : (0 : Int) ≤ (k : Int) := by omega
      have r6 : wr.cell? ⟨bb, 6, none⟩ = some (.slice na n.ents.length nc) := by rw [blk_cell (hfr.get Hbk1.out (fun h => h))]; rfl
      have r7 : wr.cell? ⟨bb, 7, none⟩ = some (.slice ia n.ents.length ic) := by rw [blk_cell (hfr.get Hbk1.out (fun h => h))]; rfl
      by_cases hk : k < n.ents.length
      · obtain ⟨-, -, h2⟩ := (HII.out.frame hfr (fun _ _ _ e => e)).at
        obtain ⟨g1, o1, rfl, hc1⟩ := h2.resolve_left (by omega)
        have y1 := hc1 k (by rw [List.length_map]; exact hk)
        simp only [List.getElem_map] at y1
        obtain ⟨-, -, h3⟩ := (HA.out.frame hfr (fun _ _ _ e => e)).at
        obtain ⟨g2, o2, rfl, hc2⟩ := h3.resolve_left (by omega)
        have y2 := hc2 k (by unfold namesB; rw [List.length_map]; exact hk)
        simp only [namesB, List.getElem_map] at y2
        have hkI : (k : Int) < (n.ents.length : Int) := by omega
        have hmem : n.ents[k] ∈ n.ents := List.getElem_mem hk
        have hnl := HG.out.live.names _ _ Hn.out _ hmem
        have hkg := kget_of_mem (HI.out.srt _ _ Hn.out) hmem
        obtain ⟨m, hm⟩ := Option.isSome_iff_exists.1 (HG.out.live.ents _ _ Hn.out _ hmem)
        have htot := tot_succ σ fuel P n k hk
        obtain ⟨rr, hrr⟩ := tot_part σ fuel P n k hk
        have hlenA : (tot σ fuel P n k).length + (entL σ (treeF σ fuel) P n.ents[k]).length ≤ 101000000 := by
          have e1 := congrArg List.length hrr
          rw [← Hall.out, List.length_append, List.length_append] at e1
          omega
        have KI1 := hide (show ∀ w', Fr (fun _ => False) w1 w' → w'.cell? ⟨g1, o1 + k, none⟩ = some (.int .i64 (n.ents[k].2 : Nat)) from fun w' hf => by
          obtain ⟨-, -, h9⟩ := (HII.out.frame hf (fun _ _ _ e => e)).at
          obtain ⟨g', o', e, hc⟩ := h9.resolve_left (by omega)
          cases e
          have := hc k (by rw [List.length_map]; exact hk)
          simpa using this)
        clear hc1 hc2 h2 h3 hrr hmem
        generalize n.ents[k] = x at *
        obtain ⟨nm, kid⟩ := x
        simp only at y1 y2 hnl hkg hm htot hlenA
        have HRr := hide (HR1.out.frame hfr (fun _ _ _ e => e))
        obtain ⟨nb, cap, mna, mnc, mia, mic, c0, hnb, hk1, hkd0, ⟨p0, p1, p2, p3, p4, p5, p6, p7⟩, -, -, -⟩ := HRr.out.open hm
        have hg1l := hide (World.block_lt_of_cell? _ _ y1)
        have hbbl := hide (World.block_lt_of_cell? _ _ r7)
        have Kw := hide (show ∀ (w' : World) (b o : Nat) v, Fr (fun _ => False) wr w' → wr.cell? ⟨b, o, none⟩ = some v → w'.cell? ⟨b, o, none⟩ = some v from fun w' b o v hf hv => (World.cell?_of_block (w := wr) (a := ⟨b, o, none⟩) (hf.block b (World.block_lt_of_cell? _ _ hv) (fun h => h))).trans hv)
        have K0 := hide (fun w' hf => Kw.out w' _ _ _ hf c0)
        have K7 := hide (fun w' hf => Kw.out w' _ _ _ hf r7)
        have KI := hide (fun w' hf => Kw.out w' _ _ _ hf y1)
        have KP := hide (fun w' hf => (⟨Kw.out w' _ _ _ hf p0, Kw.out w' _ _ _ hf p1, Kw.out w' _ _ _ hf p2, Kw.out w' _ _ _ hf p3, Kw.out w' _ _ _ hf p4, Kw.out w' _ _ _ hf p5, Kw.out w' _ _ _ hf p6, Kw.out w' _ _ _ hf p7⟩ : _ ∧ _ ∧ _ ∧ _ ∧ _ ∧ _ ∧ _ ∧ _))
        obtain ⟨zb, hzb⟩ : ∃ zb, zb = (⟨nm.toArray⟩ : ByteArray) := ⟨_, rfl⟩
        rw [← hzb] at y2
        have hzl : zb.size ≤ 32 := by rw [hzb]; exact hnl
        obtain ⟨w2, hw2⟩ : ∃ w2, w2 = (wr.alloc (.cells #[.int .i64 (kindN m), .int .i64 m.mode, .int .i64 m.links, .int .i64 m.holds, .int .i64 m.par, .string (baL m.data), .slice mna m.ents.length mnc, .slice mia m.ents.length mic] 63 (0, 0))).drew := ⟨_, rfl⟩
        obtain ⟨kb, hkb⟩ : ∃ kb, kb = wr.heap.size := ⟨_, rfl⟩
        have hf2 : Fr (fun _ => False) wr w2 := by rw [hw2]; exact ((Fr.refl _ _).alloc _).drew
        have hbk2 : w2.heap[kb]? = some (.cells #[.int .i64 (kindN m), .int .i64 m.mode, .int .i64 m.links, .int .i64 m.holds, .int .i64 m.par, .string (baL m.data), .slice mna m.ents.length mnc, .slice mia m.ents.length mic] 63 (0, 0)) := by rw [hw2, hkb]; exact blk_drew (blk_new _ _)
        have s0 : w2.cell? ⟨kb, 0, none⟩ = some (.int .i64 (kindN m)) := by rw [blk_cell hbk2]; rfl
        have s1 : w2.cell? ⟨kb, 1, none⟩ = some (.int .i64 m.mode) := by rw [blk_cell hbk2]; rfl
        have s5 : w2.cell? ⟨kb, 5, none⟩ = some (.string (baL m.data)) := by rw [blk_cell hbk2]; rfl
        have Hbk2 := hide hbk2
        have Hf2 := hide hf2
        have Hkb := hide hkb
        have Hzb := hide hzb
        have Hm := hide hm
        have Hkg := hide hkg
        have Htot := hide htot
        have hnlen := hnl
        clear hgk hrow hfr hbk2 hf2 hzb hm hkg htot hnl hk
        go_upto_region 7 with (fail)
        refine region_calls (fun w' => Fr (fun _ => False) wr w') [0, 1, 2, 3, 4, 5, 6, 7, 8, 9, 10] [11] 12 (by kernel_rfl) (by kernel_rfl) (fun _ _ d _ _ h => by cases d <;> exact h) (Fr.refl _ _).drew ?_
        simp only [List.map_cons, List.map_nil, List.getD_cons_zero, List.getD_cons_succ, List.drop_succ_cons, List.drop_zero]
        go_big_quiet_step (fail)
        refine wpQuiet_val (.pointer (some ⟨g, 0, none⟩)) rfl (fun w' hS => by (go_simp)) ?_
        simp only [Act.put, List.setIfInBounds_toArray, List.set_cons_succ, List.set_cons_zero]
        refine wpQuiet_val (.pointer (some ⟨g, 0, none⟩)) rfl (fun w' hS => by (go_simp)) ?_
        simp only [Act.put, List.setIfInBounds_toArray, List.set_cons_succ, List.set_cons_zero]
        refine wpQuiet_val (.slice (some ⟨nb, 0, none⟩) (σ.length + 1) cap) rfl (fun w' hS => by (have e2 := K0.out w' hS; go_simp)) ?_
        simp only [Act.put, List.setIfInBounds_toArray, List.set_cons_succ, List.set_cons_zero]
        refine wpQuiet_val (.pointer (some ⟨bb, 7, none⟩)) rfl (fun w' hS => by (go_simp)) ?_
        simp only [Act.put, List.setIfInBounds_toArray, List.set_cons_succ, List.set_cons_zero]
        refine wpQuiet_val (.slice (some ⟨g1, o1, none⟩) n.ents.length ic) rfl (fun w' hS => by (have e2 := K7.out w' hS; go_simp)) ?_
        simp only [Act.put, List.setIfInBounds_toArray, List.set_cons_succ, List.set_cons_zero]
        go_big_quiet_step (fail)
        refine wpQuiet_val (.pointer (some ⟨g1, o1 + k, none⟩)) rfl (fun w' hS => by (go_simp <;> (intro hle; exfalso; omega))) ?_
        simp only [Act.put, List.setIfInBounds_toArray, List.set_cons_succ, List.set_cons_zero]
        refine wpQuiet_val (.int .i64 (kid : Nat)) rfl (fun w' hS => by (have e2 := KI.out w' hS; go_simp)) ?_
        simp only [Act.put, List.setIfInBounds_toArray, List.set_cons_succ, List.set_cons_zero]
        refine wpQuiet_val (.pointer (some ⟨nb, kid * 8, none⟩)) rfl (fun w' hS => by (go_simp <;> (intro hle; exfalso; omega))) ?_
        simp only [Act.put, List.setIfInBounds_toArray, List.set_cons_succ, List.set_cons_zero]
        refine wpQuiet_val (.agg #[.int .i64 (kindN m), .int .i64 m.mode, .int .i64 m.links, .int .i64 m.holds, .int .i64 m.par, .string (baL m.data), .slice mna m.ents.length mnc, .slice mia m.ents.length mic]) rfl (fun w' hS => by (obtain ⟨e0, e1, e2, e3, e4, e5, e6, e7⟩ := KP.out w' hS; go_simp)) ?_
        simp only [Act.put, List.setIfInBounds_toArray, List.set_cons_succ, List.set_cons_zero]
        refine wpQuiet_nil ?_
        refine chainS_step rfl (fun K hK => ?_)
        go_wp2_with fail
        refine hK _ _ ((Fr.refl _ _).drew.alloc _) ?_
        clear hK K
        refine chainS_nil ?_
        go_upto_region 8 with (fail)
        rw [← hw2, ← hkb]
        clear hw2 hkb K0 K7 KI KP p0 p1 p2 p3 p4 p5 p6 p7 c0 r6 y2
        have hrow2 := own_frame Hrow.out Hf2.out (fun _ _ h => h)
        have hrowA : (w2.alloc (.cells #[.string (pb ++ zb), .int .i64 (kindN m), .int .i64 m.mode, .string (baL m.data)] 98)).ownsRow (w.heap.size + 1) 98 4 lv (tot σ fuel P n k).length (entCells (tot σ fuel P n k)) := hrow2.alloc _
        have hcz := hide (blk_new w2 (.cells #[.string (pb ++ zb), .int .i64 (kindN m), .int .i64 m.mode, .string (baL m.data)] 98))
        have hbase2 := hide (show w.heap.size + 1 ≤ w2.heap.size by have := Hsz1.out; have := Hfr.out.size; have := Hf2.out.size; omega)
        have hlt2 := hide (fun q e => hrow2.lt q e)
        have hlenB : (tot σ fuel P n k).length + 1 ≤ 101000001 := by omega
        clear hrow2
        have hsrcA : ((some (⟨w2.heap.size, 0, none⟩ : Addr)) = none ∧ 1 = 0 ∧ 1 = 0) ∨ ∃ ad, (some (⟨w2.heap.size, 0, none⟩ : Addr)) = some ad ∧ ∀ j u, ([.string (pb ++ zb), .int .i64 (kindN m), .int .i64 m.mode, .string (baL m.data)] : List Value)[j]? = some u → (w2.alloc (.cells #[.string (pb ++ zb), .int .i64 (kindN m), .int .i64 m.mode, .string (baL m.data)] 98)).cell? (ad.add j) = some u := .inr ⟨_, rfl, fun j u hj => by
          rw [Addr.add_lit, Nat.zero_add, blk_cell hcz.out]
          simpa using hj⟩
        have honeA : ∀ u ∈ ([.string (pb ++ zb), .int .i64 (kindN m), .int .i64 m.mode, .string (baL m.data)] : List Value), u.oneCell' = true := by simp [Value.oneCell']
        have h63A : (tot σ fuel P n k).length + 1 ≤ maxLen := by unfold maxLen; omega
        have hbyA : ((tot σ fuel P n k).length + 1) * 48 ≤ 140737488355328 := by omega
        have hbaA : w.heap.size + 1 ≤ (w2.alloc (.cells #[.string (pb ++ zb), .int .i64 (kindN m), .int .i64 m.mode, .string (baL m.data)] 98)).heap.size := by have := hbase2.out; simp; omega
        go_wp2_with (at_builtin; refine wpList_append_src rfl _ _ 39 rfl (w.heap.size + 1) 98 i0 _ 4 48 Tryz.underlying39 hinf hz0 hz1 hz2 rfl (by decide) _ _ _ ?ya0 hrowA (some ⟨w2.heap.size, 0, none⟩) 1 1 [.string (pb ++ zb), .int .i64 (kindN m), .int .i64 m.mode, .string (baL m.data)] ?ya1 ?ya2 hsrcA honeA h63A hbyA hbaA ?_)
        case ya0 => rfl
        case ya1 => rfl
        case ya2 => rfl
        intro v3 w3 own3 fr3 at3
        have hlvlt := fun q (e : lv.ownBlock = some q) => Hrow.out.lt q e
        have hf13 : Fr (fun _ => False) w1 w3 := ((Hfr.out.trans Hf2.out).alloc _).trans' fr3 (fun q hq e => by have := (hlvlt q e).1; have := Hsz1.out; omega)
        have hbk3 := fr3.get (blk_alloc Hbk2.out (.cells #[.string (pb ++ zb), .int .i64 (kindN m), .int .i64 m.mode, .string (baL m.data)] 98)) (fun e => by have := (hlvlt _ e).2; have := Hkb.out; omega)
        have s0 : w3.cell? ⟨kb, 0, none⟩ = some (.int .i64 (kindN m)) := by rw [blk_cell hbk3]; rfl
        have hpath : pb ++ zb = baL (P ++ nm) := by
          apply ba_of_data
          rw [ba_append, Hpb.out, Hzb.out]
          rfl
        have hpath2 : (pb ++ zb) ++ (⟨#[47]⟩ : ByteArray) = baL (P ++ nm ++ [slashB]) := by
          apply ba_of_data
          rw [hpath, ba_append]
          rfl
        have hcellsE : ([.string (pb ++ zb), .int .i64 (kindN m), .int .i64 m.mode, .string (baL m.data)] : List Value) = entC (entQ P nm m) := by
          unfold entC entQ
          rw [hpath]
        rw [hcellsE] at own3
        have Own3 := hide own3
        have Hf13 := hide hf13
        have hgk1 : 0 < gk := by have := Hgk.out; omega
        clear own3 hf13 fr3 at3 hbk3 hcellsE hlvlt hsrcA honeA h63A hbyA hbaA hrowA
        cases hmd : m.d with
        | false =>
          rw [show kindN m = 1 by unfold kindN; rw [hmd]; rfl] at s0
          have hel := entL_file (σ := σ) (g := treeF σ fuel) (P := P) (nm := nm) (k := kid) Hm.out hmd
          have ht : tot σ fuel P n (k + 1) = tot σ fuel P n k ++ [entQ P nm m] := by rw [Htot.out, hel]
          have hnext := hide (show BlRel σ fuel P n (w.heap.size + 1) w1 (gk - 1) v3 (.int .i64 ((k : Int) + 1)) w3 from ⟨k + 1, v3, by have := Hgk.out; omega, by go_num, rfl, by rw [ht, entCells_append, List.length_append]; exact Own3.out, Hf13.out⟩)
          clear hmd hel ht hpath hpath2
          go_wp2_with fail
          go_roundg (gk - 1)
          case measure => omega
          case rel => exact hnext.out
        | true =>
          rw [show kindN m = 2 by unfold kindN; rw [hmd]; rfl] at s0
          have hel := entL_dir (σ := σ) (g := treeF σ fuel) (P := P) (nm := nm) (k := kid) Hm.out hmd
          rw [hel, List.length_cons] at hlenA
          have ht : tot σ fuel P n (k + 1) = tot σ fuel P n k ++ [entQ P nm m] ++ treeF σ fuel (P ++ nm ++ [slashB]) kid := by rw [Htot.out, hel]; simp
          have hdk := HI.out.deeper Hdep.out Hn.out Hkg.out Hm.out hmd
          have hrec := hide (IH.out kid (d + 1) (P ++ nm ++ [slashB]) w3 m Hm.out hmd hdk (by omega) (by simp only [List.length_append, List.length_cons, List.length_nil]; omega) (HR1.out.frame Hf13.out (fun _ _ _ e => e)))
          rw [← hpath2] at hrec
          have r7 : w3.cell? ⟨bb, 7, none⟩ = some (.slice (some ⟨g1, o1, none⟩) n.ents.length ic) := by rw [blk_cell (Hf13.out.get Hbk1.out (fun h => h))]; rfl
          have y1 := KI1.out w3 Hf13.out
          have Ht := hide ht
          clear hmd hel ht hdk hpath hpath2
          go_wp2_with fail
          refine hrec.out.mono ?_
          rintro e w5 ⟨v5, rfl, hrow5, hf5⟩
          generalize treeF σ fuel (P ++ nm ++ [slashB]) kid = Q at *
          obtain ⟨sa, c5, rfl, hsrc5⟩ := own_src hrow5
          have hrow3 := own_frame Own3.out hf5 (fun _ _ h => h)
          have honeB := entCells_one Q
          have hlB := entCells_length Q
          have h63B : (tot σ fuel P n k).length + 1 + Q.length ≤ maxLen := by unfold maxLen; omega
          have hbyB : ((tot σ fuel P n k).length + 1 + Q.length) * 48 ≤ 140737488355328 := by omega
          have hbaB : w.heap.size + 1 ≤ w5.heap.size := by have := hf5.size; have := Hf13.out.size; have := Hsz1.out; omega
          have Hf5 := hide hf5
          have Hlt3 := hide (fun q e => Own3.out.lt q e)
          clear hf5 hrow5 hrec
          go_wp2_with (at_builtin; refine wpList_append_src rfl _ _ 39 rfl (w.heap.size + 1) 98 i0 _ 4 48 Tryz.underlying39 hinf hz0 hz1 hz2 rfl (by decide) _ _ _ ?yb0 hrow3 sa _ c5 _ ?yb1 hlB hsrc5 honeB h63B hbyB hbaB ?_)
          case yb0 => rfl
          case yb1 => rfl
          intro v6 w6 own6 fr6 at6
          have hf16 : Fr (fun _ => False) w1 w6 := (Hf13.out.trans Hf5.out).trans' fr6 (fun q hq e => by have := (Hlt3.out q e).1; have := Hsz1.out; omega)
          have hnext := hide (show BlRel σ fuel P n (w.heap.size + 1) w1 (gk - 1) v6 (.int .i64 ((k : Int) + 1)) w6 from ⟨k + 1, v6, by have := Hgk.out; omega, by go_num, rfl, by rw [Ht.out, entCells_append, entCells_append, List.length_append, List.length_append]; simpa [entCells] using own6, hf16⟩)
          clear own6 fr6 at6 hf16 hrow3 hsrc5 honeB hlB h63B hbyB
          go_wp2_with fail
          go_roundg (gk - 1)
          case measure => omega
          case rel => exact hnext.out
      · have hkI : ¬ (k : Int) < (n.ents.length : Int) := by omega
        have hke : k = n.ents.length := by omega
        have hres := hide (show RbelPost σ (fuel + 1) i P w (.returned lv) wr from ⟨lv, rfl, by
          unfold EntRow
          rw [Hall.out, ← hke]
          exact own_base hrow (fun q e => by have := (hrow.lt q e).1; omega), Hf1.out.trans hfr⟩)
        clear hgk hrow hfr hk hke
        go_wp2_with fail
        go_returns
        exact hres.out
set_option maxRecDepth 100000 in
theorem rtree_any (w : World) (g : Nat) (σ : FSt) (S : Nat → Prop) (h : RfAt w g σ S) (hG : RG σ) (hI : Inv σ 0) (hc : Caps σ 1000000) :
    Calls Tryz.prog 17 #[.pointer (some ⟨g, 0, none⟩)] w (TreePost σ w) := by
  obtain ⟨r1, hr1, hd, _⟩ := hG.live.root
  have hb := hide (rbelow_any (g := g) (S := S) hG hI hc 101 1 0 [] w r1 hr1 hd (.base (.inl rfl)) rfl (by simp) h)
  clear h
  have e : baL [] = (⟨#[]⟩ : ByteArray) := rfl
  rw [e] at hb
  go_enter Tryz.func17, Tryz.ntmps17
  go_wp2_with fail
  refine hb.out.mono ?_
  rintro e w1 ⟨v, rfl, h1, h2⟩
  have H1 := hide h1
  have H2 := hide h2
  clear h1 h2
  go_wp2_with fail
  go_returns
  exact ⟨v, rfl, H1.out, H2.out⟩
end Go.Proofs.YthikjdpnlahkfaaGreatDoor

/- shyardlaw08.want at the document's tree of files. Conditions: the contract's own premises. -/
namespace Go.Proofs.YthikjdpnlahkfaaGreatDoor
open Go.RowKit

theorem FilesAt.allM {w : World} {f : Nat} {σ : FSt} {S : Nat → Prop} {p : Nat → Nat} (h : FilesAt w f σ S p) : AllM σ := fun i n hn => by
  obtain ⟨_, _, _, hN⟩ := h.node hn
  exact hN.md
def WantL (σ : FSt) (c : CallQ) (g : Nat) (S : Nat → Prop) (w : World) (a : AnsQ) (w' : World) : Prop := a = askA σ c ∧ RfAt w' g (askS σ c) S ∧ Fr S w w'
theorem RfAt.askW {w : World} {g : Nat} {σ : FSt} {S : Nat → Prop} (h : RfAt w g σ S) (c : CallQ) : RfAt (askW w c) g σ (fun k => S k ∧ ¬ Mine w k) := by
  obtain ⟨rv, nv, iv, hF⟩ := h
  have hf := askW_fr w c
  have hm : ∀ k, k < w.heap.size → ¬ Mine w k := fun k hk e => by have := e.1; omega
  refine ⟨rv, nv, iv, ⟨hf.get hF.hb (fun e => e), own_frame hF.hr hf (fun _ _ e => e), fun i n hn => ((hF.nm i n hn).mono (fun k hk h2 => ⟨⟨h2.1, hm k hk⟩, h2.2⟩)).frame hf (fun _ _ _ e => e), fun i n hn => ((hF.im i n hn).mono (fun k hk h2 => ⟨⟨h2.1, hm k hk⟩, h2.2⟩)).frame hf (fun _ _ _ e => e),
    ⟨hF.own, hm _ (blk_lt hF.hb)⟩, fun q e => ⟨⟨(hF.ownr q e).1, hm q (hF.hr.lt q e).2⟩, (hF.ownr q e).2⟩, fun k hk => ?_⟩⟩
  rw [askW_size] at hk
  exact ⟨hF.up k (by omega), fun e => by have := e.2; omega⟩
theorem wantL_ok {w w1 : World} {g : Nat} {σ : FSt} {S : Nat → Prop} {c : CallQ} {a : AnsQ} (ha : a = askA σ c) (h1 : RfAt w1 g (askS σ c) (fun k => S k ∧ ¬ Mine w k)) (hf : Fr (fun k => S k ∧ ¬ Mine w k) (askW w c) w1) : AskR w (askW w c) (WantL σ c g S w) a w1 := by
  refine ⟨hf.mono (fun _ _ e => e.2), fun w2 h2 => ⟨ha, ?_, ?_⟩⟩
  · exact (h1.frame h2 (fun _ _ e => e.2)).mono fun _ e => e.1
  · exact (((askW_fr w c).mono (S' := S) (fun _ _ e => e.elim)).trans (hf.mono fun _ _ e => e.1)).trans' h2 (fun i hi e => by have := e.1; omega)
theorem wantOf_live (w : World) (g : Nat) (σ : FSt) (S : Nat → Prop) (h : RfAt w g σ S) {k : Nat} (hG : Good σ k) (hk : k ≤ 1000000) (hM : AllM σ) (c : CallQ) (hc : CallOk c) : WantOf (.pointer (some ⟨g, 0, none⟩)) c (askW w c) (AskR w (askW w c) (WantL σ c g S w)) := by
  have hA := h.askW c
  have hcap : CapB σ := hG.b hk
  have hI := hG.inv
  have hR : RG σ := ⟨hG.live, hM, hcap⟩
  have hlen := hG.live.len
  have hL : σ.length ≤ 1000000 := by omega
  have hn := hc.n
  have hp : c.path.size ≤ 9223372036854775807 := Nat.le_trans hc.path (by decide)
  have ho : c.other.size ≤ 9223372036854775807 := Nat.le_trans hc.other (by decide)
  have still : ∀ w1 a, askS σ c = σ → a = askA σ c → Fr (fun _ => False) (askW w c) w1 → AskR w (askW w c) (WantL σ c g S w) a w1 := fun w1 a h1 h2 h3 =>
    wantL_ok h2 (by rw [h1]; exact hA.frame h3 (fun _ _ _ e => e)) (h3.mono (fun _ _ e => e.elim))
  have mutx : ∀ {v e w1 τ} (a), RmutPost g τ (fun k => S k ∧ ¬ Mine w k) v (askW w c) e w1 → τ = askS σ c → a = askA σ c → e = .returned v ∧ AskR w (askW w c) (WantL σ c g S w) a w1 := fun a h1 h2 h3 => by
    subst h2
    exact ⟨h1.1, wantL_ok h3 h1.2.1 h1.2.2⟩
  refine ⟨fun e0 => (rwalk_any _ _ _ _ hA hR _ hn _ hp).mono ?_, fun e0 => (rcreate_any _ _ _ _ hA hR _ hn _ hp _ hc.m).mono ?_, fun e0 => (rmkdir_any _ _ _ _ hA hR _ hn _ hp _ hc.m).mono ?_, fun e0 => (runlink_any _ _ _ _ hA hR hI _ hn _ hp).mono ?_, fun e0 => (rrmdir_any _ _ _ _ hA hR hI _ hn _ hp).mono ?_,
    fun e0 => (rlink_any _ _ _ _ hA hR _ hn _ _ hp ho).mono ?_, fun e0 => (rrename_any _ _ _ _ hA hR hG _ hn _ _ hp ho).mono ?_, fun e0 => (rread_any _ _ _ _ hA hR _ _ _ hn hc.m hc.k).mono ?_, fun e0 => (rwrite_any _ _ _ _ hA hR _ _ _ hn hc.m ho).mono ?_, fun e0 => (rtrunc_any _ _ _ _ hA hR _ _ hn hc.m).mono ?_,
    fun e0 => (rchmod_any _ _ _ _ hA hL _ _ hn hc.m).mono ?_, fun e0 => (rstat_any _ _ _ _ hA hR _ hn).mono ?_, fun e0 => (rlist_any _ _ _ _ hA hL _ hn).mono ?_, fun e0 => (rhold_any _ _ _ _ hA hR _ hn).mono ?_, fun e0 => (rdrop_any _ _ _ _ hA hR _ hn).mono ?_, fun e0 => (rpath_any _ _ _ _ hA hR hI _ hn).mono ?_, fun e0 => ?_⟩
  · rintro e w' ⟨rfl, hf⟩
    exact ⟨_, _, rfl, still _ _ (by simp [askS, e0]) (by simp [askA, e0]) hf⟩
  · intro e w' hx
    obtain ⟨rfl, h2⟩ := mutx { errA (createR σ c.n c.p c.m).2.1 with n := (createR σ c.n c.p c.m).1 } hx (by simp [askS, e0]) (by simp [askA, e0])
    exact ⟨_, _, rfl, h2⟩
  · intro e w' hx
    obtain ⟨rfl, h2⟩ := mutx (errA (makeR σ c.n c.p true c.m).1) hx (by simp [askS, e0]) (by simp [askA, e0])
    exact ⟨_, rfl, h2⟩
  · intro e w' hx
    obtain ⟨rfl, h2⟩ := mutx (errA (unlinkR σ c.n c.p).1) hx (by simp [askS, e0]) (by simp [askA, e0])
    exact ⟨_, rfl, h2⟩
  · intro e w' hx
    obtain ⟨rfl, h2⟩ := mutx (errA (rmdirR σ c.n c.p).1) hx (by simp [askS, e0]) (by simp [askA, e0])
    exact ⟨_, rfl, h2⟩
  · intro e w' hx
    obtain ⟨rfl, h2⟩ := mutx (errA (linkR σ c.n c.p c.o).1) hx (by simp [askS, e0]) (by simp [askA, e0])
    exact ⟨_, rfl, h2⟩
  · intro e w' hx
    obtain ⟨rfl, h2⟩ := mutx (errA (renR σ c.n c.p c.o).1) hx (by simp [askS, e0]) (by simp [askA, e0])
    exact ⟨_, rfl, h2⟩
  · rintro e w' ⟨rfl, rfl⟩
    exact ⟨_, _, rfl, still _ _ (by simp [askS, e0]) (by simp [askA, e0]) (Fr.refl _ _)⟩
  · intro e w' hx
    obtain ⟨rfl, h2⟩ := mutx { errA (writeR σ c.n c.m c.o).2.1 with n := (writeR σ c.n c.m c.o).1 } hx (by simp [askS, e0]) (by simp [askA, e0])
    exact ⟨_, _, rfl, h2⟩
  · intro e w' hx
    obtain ⟨rfl, h2⟩ := mutx (errA (truncR σ c.n c.m).1) hx (by simp [askS, e0]) (by simp [askA, e0])
    exact ⟨_, rfl, h2⟩
  · intro e w' hx
    obtain ⟨rfl, h2⟩ := mutx (errA (chmodR σ c.n c.m).1) hx (by simp [askS, e0]) (by simp [askA, e0])
    exact ⟨_, rfl, h2⟩
  · rintro e w' ⟨rfl, hf⟩
    exact ⟨_, _, rfl, still _ _ (by simp [askS, e0]) (by simp [askA, e0]) hf⟩
  · rintro e w' ⟨v, rfl, hv, rfl⟩
    obtain ⟨l1, l2⟩ := list_sizes hG.live hG.caps c.n
    exact ⟨v, _, _, _, rfl, hv, by omega, fun x hx => by have := l2 x hx; omega, still _ _ (by simp [askS, e0]) (by simp [askA, e0]) (Fr.refl _ _)⟩
  · intro e w' hx
    obtain ⟨rfl, h2⟩ := mutx (errA (holdR σ c.n).1) hx (by simp [askS, e0]) (by simp [askA, e0])
    exact ⟨_, rfl, h2⟩
  · intro e w' hx
    obtain ⟨rfl, h2⟩ := mutx (errA (dropR σ c.n).1) hx (by simp [askS, e0]) (by simp [askA, e0])
    exact ⟨_, rfl, h2⟩
  · rintro e w' ⟨rfl, hf⟩
    exact ⟨_, _, rfl, still _ _ (by simp [askS, e0]) (by simp [askA, e0]) hf⟩
  · refine still _ _ ?_ ?_ (Fr.refl _ _)
    · unfold askS; repeat rw [if_neg (by omega)]
    · unfold askA; repeat rw [if_neg (by omega)]
theorem wantL_any (w : World) (g : Nat) (σ : FSt) (S : Nat → Prop) (h : RfAt w g σ S) {k : Nat} (hG : Good σ k) (hk : k ≤ 1000000) (hM : AllM σ) (c : CallQ) (hc : CallOk c) : Calls Tryz.prog 8 #[.pointer (some ⟨g, 0, none⟩), callV c] w (AskPost (WantL σ c g S w)) :=
  want_any _ _ _ _ (wantOf_live w g σ S h hG hk hM c hc)
end Go.Proofs.YthikjdpnlahkfaaGreatDoor

/- FilesRuns: the program's tree and the document's side by side. No program in sight but what lies where. Conditions: the laws' own premises. -/
namespace Go.Proofs.YthikjdpnlahkfaaGreatDoor
open Go.RowKit

theorem RfAt.apartsT {w w' : World} {g : Nat} {σ : FSt} {S T : Nat → Prop} (h : RfAt w g σ S) (hf : Fr T w w') (hd : ∀ k, k < w.heap.size → S k → ¬ T k) : RfAt w' g σ (fun k => S k ∧ ¬ (w.heap.size ≤ k ∧ k < w'.heap.size)) := by
  obtain ⟨rv, nv, iv, hF⟩ := h
  have hm : ∀ k, k < w.heap.size → ¬ (w.heap.size ≤ k ∧ k < w'.heap.size) := fun k hk e => by have := e.1; omega
  exact ⟨rv, nv, iv, ⟨hf.get hF.hb (hd _ (blk_lt hF.hb) hF.own), own_frame hF.hr hf (fun q e => hd _ (hF.hr.lt q e).2 (hF.ownr q e).1), fun i n hn => ((hF.nm i n hn).mono (fun k hk h2 => ⟨⟨h2.1, hm k hk⟩, h2.2⟩)).frame hf (fun k hk h2 => hd k hk h2.1.1),
    fun i n hn => ((hF.im i n hn).mono (fun k hk h2 => ⟨⟨h2.1, hm k hk⟩, h2.2⟩)).frame hf (fun k hk h2 => hd k hk h2.1.1), ⟨hF.own, hm _ (blk_lt hF.hb)⟩, fun q e => ⟨⟨(hF.ownr q e).1, hm q (hF.hr.lt q e).2⟩, (hF.ownr q e).2⟩, fun k hk => ⟨hF.up k (Nat.le_trans hf.size hk), fun e => by have := e.2; omega⟩⟩⟩
theorem FilesF.apartsT {w w' : World} {f : Nat} {σ : FSt} {S T : Nat → Prop} {p : Nat → Nat} {dv ev pv : Nat → Value} {lv : Value} (h : FilesF w f σ S p dv ev pv lv) (hf : Fr T w w') (hd : ∀ k, k < w.heap.size → S k → ¬ T k) : FilesF w' f σ (fun k => S k ∧ ¬ (w.heap.size ≤ k ∧ k < w'.heap.size)) p dv ev pv lv := by
  have h' := h.frame hf hd
  have nl : ∀ i, (σ.nd i).isSome = true → ∃ n, NodeF w p (p i) i n (dv i) (ev i) (pv i) := fun i hi => by
    obtain ⟨n, hn⟩ := Option.isSome_iff_exists.1 hi
    exact ⟨n, h.nd i n hn⟩
  exact ⟨h'.hb, h'.hl, h'.nd, h.inj, h.injd, h.inje, ⟨h.own, by have := blk_lt h.hb; omega⟩, fun g e => ⟨h.ownl g e, by have := (h.hl.lt g e).2; omega⟩,
    fun i hi => ⟨h.ownn i hi, by obtain ⟨n, hn⟩ := nl i hi; have := blk_lt hn.hb; omega⟩, fun i g hi e => ⟨h.ownd i g hi e, by obtain ⟨n, hn⟩ := nl i hi; have := hn.data.lt e; omega⟩,
    fun i m hi e => ⟨h.owne i m hi e, by obtain ⟨n, hn⟩ := nl i hi; have := hn.map_lt e; omega⟩, fun k hk => ⟨h.up k (Nat.le_trans hf.size hk), by omega⟩, h.live⟩
theorem FilesAt.apartsT {w w' : World} {f : Nat} {σ : FSt} {S T : Nat → Prop} {p : Nat → Nat} (h : FilesAt w f σ S p) (hf : Fr T w w') (hd : ∀ k, k < w.heap.size → S k → ¬ T k) : FilesAt w' f σ (fun k => S k ∧ ¬ (w.heap.size ≤ k ∧ k < w'.heap.size)) p := by
  obtain ⟨_, _, _, _, h⟩ := h
  exact ⟨_, _, _, _, h.apartsT hf hd⟩
/-- Both trees, apart. -/
structure Both2 (W : World) (f g : Nat) (k : Nat) (wr : World) (σ : FSt) (p : Nat → Nat) (S1 S2 : Nat → Prop) : Prop where
  fa : FilesAt wr f σ S1 p
  rf : RfAt wr g σ S2
  gd : Good σ k
  ap : ∀ q, q < wr.heap.size → S1 q → ¬ S2 q
  lo1 : ∀ q, S1 q → W.heap.size ≤ q
  lo2 : ∀ q, S2 q → W.heap.size ≤ q
  fr : Fr (fun q => W.heap.size ≤ q) W wr
theorem Both2.still {W : World} {f g k : Nat} {wr w' : World} {σ : FSt} {p : Nat → Nat} {S1 S2 : Nat → Prop} (h : Both2 W f g k wr σ p S1 S2) (hf : Fr (fun _ => False) wr w') : Both2 W f g k w' σ p (fun q => S1 q ∧ ¬ (wr.heap.size ≤ q ∧ q < w'.heap.size)) (fun q => S2 q ∧ ¬ (wr.heap.size ≤ q ∧ q < w'.heap.size)) where
  fa := h.fa.apartsT hf (fun _ _ _ e => e)
  rf := h.rf.apartsT hf (fun _ _ _ e => e)
  gd := h.gd
  ap q hq h1 h2 := h.ap q (by have := h1.2; omega) h1.1 h2.1
  lo1 q h1 := h.lo1 q h1.1
  lo2 q h1 := h.lo2 q h1.1
  fr := h.fr.trans hf.no
def RunI (W : World) (f g k : Nat) (wr : World) : Prop := ∃ σ p S1 S2, Both2 W f g (1 + 2 * k) wr σ p S1 S2
/-- Behind a call of the program's and the same of the document's. -/
theorem Both2.asked {W : World} {f g k : Nat} {wa w4 w5 : World} {σ : FSt} {p : Nat → Nat} {S1 S2 : Nat → Prop} {c : CallQ} {A B : AnsQ} (h : Both2 W f g k wa σ p S1 S2) (h1 : AskL σ c f S1 wa A w4) (h2 : WantL σ c g (fun q => S2 q ∧ ¬ (wa.heap.size ≤ q ∧ q < w4.heap.size)) w4 B w5) :
    B = A ∧ ∃ p', Both2 W f g (k + 2) w5 (askS σ c) p' (fun q => S1 q ∧ ¬ (w4.heap.size ≤ q ∧ q < w5.heap.size)) (fun q => S2 q ∧ ¬ (wa.heap.size ≤ q ∧ q < w4.heap.size)) := by
  have hgd := h1.good h.gd
  obtain ⟨a1, ⟨p', a2⟩, a3⟩ := h1
  obtain ⟨b1, b2, b3⟩ := h2
  refine ⟨b1.trans a1.symm, p', ⟨a2.apartsT b3 fun q hq x1 x2 => ?_, b2, hgd, fun q hq x1 x2 => ?_, fun q x => h.lo1 q x.1, fun q x => h.lo2 q x.1, (h.fr.trans (a3.mono fun q _ x => h.lo1 q x)).trans (b3.mono fun q _ x => h.lo2 q x.1)⟩⟩
  · exact h.ap q (by have := x2.2; omega) x1 x2.1
  · have e1 := x1.2
    have e2 := x2.2
    exact h.ap q (by omega) x1.1 x2.1
end Go.Proofs.YthikjdpnlahkfaaGreatDoor
