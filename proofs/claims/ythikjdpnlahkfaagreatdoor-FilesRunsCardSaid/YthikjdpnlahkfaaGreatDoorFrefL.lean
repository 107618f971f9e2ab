/- shyardref08.FS.change. Conditions: the contract's own premises. -/
import Derived.Test.YthikjdpnlahkfaaGreatDoorFrefH
import Derived.Deep.MidRow
import Derived.Great.BuildSlice
import Derived.Test.YthikjdpnlahkfaaGreatDoorRegionTree
import Derived.Great.Frames
namespace Go.Proofs.YthikjdpnlahkfaaGreatDoor
open Go.RowKit

theorem RfF.there {w : World} {g : Nat} {σ : FSt} {S : Nat → Prop} {nb cap : Nat} {nv iv : Nat → Value} (h : RfF w g σ S (.slice (some ⟨nb, 0, none⟩) (σ.length + 1) cap) nv iv) {i : Nat} (hi : i ≤ σ.length) : w.there nb (i * 8) 8 := by
  obtain ⟨_, _, e, -, -, -, ⟨cur, hcur⟩, hc⟩ := h.row
  cases e
  intro j hj
  refine ⟨?_, blk_frozen hcur _⟩
  rw [hc i hi j hj, List.getElem?_eq_getElem (by rw [nodeR_len]; exact hj)]
  rfl
theorem set8_eq (w : World) (nb i : Nat) (c0 c1 c2 c3 c4 c5 c6 c7 : Value) : w.setCells nb (i * 8) [c0, c1, c2, c3, c4, c5, c6, c7] = set8 w nb i c0 c1 c2 c3 c4 c5 c6 c7 := rfl
def RmutPost (g : Nat) (τ : FSt) (S : Nat → Prop) (v : Value) (w : World) (e : Ending) (w' : World) : Prop := e = .returned v ∧ RfAt w' g τ S ∧ Fr S w w'
theorem put_len (σ : FSt) (i : Nat) (x : Option Nd) : (σ.put i x).length = σ.length := by unfold FSt.put; rw [List.length_set]
set_option maxRecDepth 100000 in
set_option maxHeartbeats 4000000 in
theorem rchange_any (w : World) (g : Nat) (σ : FSt) (S : Nat → Prop) (h : RfAt w g σ S) (hL : σ.length ≤ 1000000) (i : Nat) (n : Nd) (hn : σ.nd i = some n) (dl dh : Int) (l' h' : Nat) (hl : (n.links : Int) + dl = l') (hh : (n.holds : Int) + dh = h')
    (hb1 : n.links ≤ 10000000000000 ∧ l' ≤ 10000000000000) (hb2 : n.holds ≤ 10000000000000 ∧ h' ≤ 10000000000000) :
    Calls Tryz.prog 79 #[.pointer (some ⟨g, 0, none⟩), .int .i64 i, .int .i64 dl, .int .i64 dh] w (RmutPost g (letS (σ.put i (some { n with links := l', holds := h' })) i) S (.tuple #[]) w) := by
  obtain ⟨rv, nv, iv, hF⟩ := h
  have hi := (hF.cells hn).1
  have c0 : w.cell? ⟨g, 0, none⟩ = some rv := by rw [blk_cell hF.hb]; rfl
  obtain ⟨nb, cap, rfl, hnb, k0, k1, k2, k3, k4, dt, na, nc, ia, ic, hnode, hA, hI, q0, q1, q2, q3, q4, q5, q6, q7, hsm, -⟩ := hF.node hi
  obtain ⟨rfl, rfl, rfl, rfl, rfl, rfl⟩ := hsm n hn
  have hiI : (i : Int) < (((σ.length + 1 : Nat)) : Int) := by omega
  have hi0 : (0 : Int) ≤ (i : Int) := by omega
  obtain ⟨w1, hw1⟩ : ∃ w1, w1 = w.alloc (.cells #[.int .i64 (kindN n), .int .i64 n.mode, .int .i64 n.links, .int .i64 n.holds, .int .i64 n.par, .string (baL n.data), .slice na (entsAt σ i).length nc, .slice ia (entsAt σ i).length ic] 63 (0, 0)) := ⟨_, rfl⟩
  obtain ⟨bb, hbb⟩ : ∃ bb, bb = w.heap.size := ⟨_, rfl⟩
  have hf1 : Fr (fun _ => False) w w1 := by rw [hw1]; exact (Fr.refl _ _).alloc _
  have hbk1 : w1.heap[bb]? = some (.cells #[.int .i64 (kindN n), .int .i64 n.mode, .int .i64 n.links, .int .i64 n.holds, .int .i64 n.par, .string (baL n.data), .slice na (entsAt σ i).length nc, .slice ia (entsAt σ i).length ic] 63 (0, 0)) := by rw [hw1, hbb]; exact blk_new _ _
  have r2 : w1.cell? ⟨bb, 2, none⟩ = some (.int .i64 n.links) := by rw [blk_cell hbk1]; rfl
  have r3 : w1.cell? ⟨bb, 3, none⟩ = some (.int .i64 n.holds) := by rw [blk_cell hbk1]; rfl
  have z2 := blk_frozen hbk1 2
  have z3 := blk_frozen hbk1 3
  have HF := hide hF
  have Hf1 := hide hf1
  have Hbk1 := hide hbk1
  have Hbb := hide hbb
  go_enter Tryz.func79, Tryz.ntmps79
  go_upto_region 1 with (fail)
  rw [← hw1, ← hbb]
  clear hw1 hbb q0 q1 q2 q3 q4 q5 q6 q7 c0 hF hf1 hbk1 hnode
  go_upto_region 3 with (fail)
  obtain ⟨w3, hw3⟩ : ∃ w3, w3 = (w1.setCell ⟨bb, 2, none⟩ (.int .i64 l')).setCell ⟨bb, 3, none⟩ (.int .i64 h') := ⟨_, rfl⟩
  have hb3 : w3.heap[bb]? = some (.cells #[.int .i64 (kindN n), .int .i64 n.mode, .int .i64 l', .int .i64 h', .int .i64 n.par, .string (baL n.data), .slice na (entsAt σ i).length nc, .slice ia (entsAt σ i).length ic] 63 (0, 0)) := by
    rw [hw3, blk_set (blk_set Hbk1.out 2 _) 3 _]; rfl
  have hf3 : Fr (fun _ => False) w w3 := by
    rw [hw3]
    exact Hf1.out.trans' (((Fr.refl (fun q => q = bb) w1).setCell (.inl rfl) _).setCell (.inl rfl) _) (fun q hq e => by have := Hbb.out; omega)
  rw [← hw3]
  clear hw3 r2 r3 z2 z3 Hbk1 Hf1
  have hF3 := HF.out.frame hf3 (fun _ _ _ e => e)
  have hA3 := hA.frame hf3 (fun _ _ _ e => e)
  have hI3 := hI.frame hf3 (fun _ _ _ e => e)
  have hents : entsAt σ i = n.ents := by unfold entsAt; rw [hn]
  have hσn : ∀ x j, (σ.put i x).nd j = if j = i then x else σ.nd j := fun x j => put_nd hn x j
  have hgr : ∀ q w' : World, Fr (fun k => k = nb) q w' → Fr (fun _ => False) w q → Fr S w w' := fun q w' h1 h2 => (h2.mono (fun _ _ e => e.elim)).trans' h1 (fun k _ e => e ▸ (HF.out.ownr nb rfl).1)
  by_cases hz : l' = 0 ∧ h' = 0
  · obtain ⟨rfl, rfl⟩ := hz
    have r2 : w3.cell? ⟨bb, 2, none⟩ = some (.int .i64 0) := by rw [blk_cell hb3]; rfl
    have r3 : w3.cell? ⟨bb, 3, none⟩ = some (.int .i64 0) := by rw [blk_cell hb3]; rfl
    have hτ : letS (σ.put i (some { n with links := 0, holds := 0 })) i = (σ.put i (some { n with links := 0, holds := 0 })).put i none := by
      unfold letS
      rw [hσn, if_pos rfl]
      simp only [and_self, if_true]
    have hpp : (σ.put i (some { n with links := 0, holds := 0 })).put i none = σ.put i none := by unfold FSt.put; rw [List.set_set]
    obtain ⟨w4, hw4⟩ : ∃ w4, w4 = w3.setRow bb #[.int .i64 0, .int .i64 0, .int .i64 0, .int .i64 0, .int .i64 0, .string ⟨#[]⟩, .slice none 0 0, .slice none 0 0] := ⟨_, rfl⟩
    have hb4 : w4.heap[bb]? = some (.cells #[.int .i64 0, .int .i64 0, .int .i64 0, .int .i64 0, .int .i64 0, .string ⟨#[]⟩, .slice none 0 0, .slice none 0 0] 63 (0, 0)) := by rw [hw4]; exact setRow_heap _ _ _ _ _ _ hb3
    have hf34 : Fr (fun q => q = bb) w3 w4 := by
      rw [hw4]
      refine ⟨rfl, rfl, rfl, by simp [World.setRow], fun k hk hne => ?_⟩
      show (w3.heap.modify bb _)[k]? = _
      rw [Array.getElem?_modify, if_neg (fun e => hne e.symm)]
    have hf4 : Fr (fun _ => False) w w4 := hf3.trans' hf34 (fun q hq e => by have := Hbb.out; omega)
    have hF4 := HF.out.frame hf4 (fun _ _ _ e => e)
    have hnv : ∀ j, j ≠ i → (σ.put i none).nd j = σ.nd j := fun j hj => by rw [hσn, if_neg hj]
    have hfin := hide (show RmutPost g (letS (σ.put i (some { n with links := 0, holds := 0 })) i) S (.tuple #[]) w (.returned (.tuple #[])) (set8 w4.drew nb i (.int .i64 0) (.int .i64 0) (.int .i64 0) (.int .i64 0) (.int .i64 0) (.string ⟨#[]⟩) (.slice none 0 0) (.slice none 0 0)) from by
      rw [hτ, hpp]
      refine ⟨rfl, ⟨_, nv, iv, (hF4.frame (Fr.refl (fun _ => False) w4).drew (fun _ _ _ e => e)).write hi (put_len _ _ _) (fun j hj => ⟨hnv j hj, rfl, rfl⟩) (fun m hm => ?_) (fun m hm => ?_) ?_⟩, hgr _ _ (set8_fr _ _ _ _ _ _ _ _ _ _ _) hf4.drew⟩
      · rw [hσn, if_pos rfl] at hm; cases hm
      · rw [hσn, if_pos rfl] at hm; cases hm
      · unfold nodeR
        rw [hσn, if_pos rfl])
    rw [← set8_eq] at hfin
    have hbd := blk_drew hb4
    have d0 : w4.drew.cell? ⟨bb, 0, none⟩ = some (.int .i64 0) := by rw [blk_cell hbd]; rfl
    have d1 : w4.drew.cell? ⟨bb, 1, none⟩ = some (.int .i64 0) := by rw [blk_cell hbd]; rfl
    have d2 : w4.drew.cell? ⟨bb, 2, none⟩ = some (.int .i64 0) := by rw [blk_cell hbd]; rfl
    have d3 : w4.drew.cell? ⟨bb, 3, none⟩ = some (.int .i64 0) := by rw [blk_cell hbd]; rfl
    have d4 : w4.drew.cell? ⟨bb, 4, none⟩ = some (.int .i64 0) := by rw [blk_cell hbd]; rfl
    have d5 : w4.drew.cell? ⟨bb, 5, none⟩ = some (.string ⟨#[]⟩) := by rw [blk_cell hbd]; rfl
    have d6 : w4.drew.cell? ⟨bb, 6, none⟩ = some (.slice none 0 0) := by rw [blk_cell hbd]; rfl
    have d7 : w4.drew.cell? ⟨bb, 7, none⟩ = some (.slice none 0 0) := by rw [blk_cell hbd]; rfl
    have cg : w4.drew.cell? ⟨g, 0, none⟩ = some (.slice (some ⟨nb, 0, none⟩) (σ.length + 1) cap) := by rw [blk_cell (blk_drew hF4.hb)]; rfl
    have hth : w4.drew.there nb (i * 8) 8 := (World.there_drew _ _ _ _).2 (hF4.there hi)
    clear hF3 hA3 hI3 hA hI hsm hbd hf3 hτ hpp hnv hσn hgr hents hn HF hF4 hf34 hf4
    go_upto_region 4 with (fail)
    go_wp2_with (refine wpList_store_rowTo rfl 63 _ _ rfl rfl bb #[.int .i64 0, .int .i64 0, .int .i64 0, .int .i64 0, .int .i64 0, .string ⟨#[]⟩, .slice none 0 0, .slice none 0 0] ?s1 ?s2 63 _ hb3 ?s4 rfl ?s5 ?_)
    case s1 => rfl
    case s2 => rfl
    case s4 => kernel_rfl
    case s5 => kernel_rfl
    rw [← hw4]
    clear hw4 hb3 r2 r3
    refine region_tail 7 (by kernel_rfl) (by kernel_rfl) ?_
    simp only [List.take_succ_cons, List.take_zero, List.drop_succ_cons, List.drop_zero]
    generalize w4.drew = wd at *
    repeat go_big_quiet_step (fail)
    refine wpQuiet_nil ?_
    refine wpList_store_mid rfl 63 _ _ rfl nb (i * 8) #[.int .i64 0, .int .i64 0, .int .i64 0, .int .i64 0, .int .i64 0, .string ⟨#[]⟩, .slice none 0 0, .slice none 0 0] rfl rfl hth (by kernel_rfl) (by simp [Value.oneCell']) ?_
    go_wp2_with fail
    go_end0
    exact hfin.out
  · have hτ : letS (σ.put i (some { n with links := l', holds := h' })) i = σ.put i (some { n with links := l', holds := h' }) := by
      unfold letS
      rw [hσn, if_pos rfl]
      simp only
      rw [if_neg hz]
    have hnv : ∀ j, j ≠ i → (σ.put i (some { n with links := l', holds := h' })).nd j = σ.nd j := fun j hj => by rw [hσn, if_neg hj]
    have hfin := hide (show RmutPost g (letS (σ.put i (some { n with links := l', holds := h' })) i) S (.tuple #[]) w (.returned (.tuple #[])) (set8 w3.drew nb i (.int .i64 (kindN n)) (.int .i64 n.mode) (.int .i64 l') (.int .i64 h') (.int .i64 n.par) (.string (baL n.data)) (.slice na (entsAt σ i).length nc) (.slice ia (entsAt σ i).length ic)) from by
      rw [hτ]
      refine ⟨rfl, ⟨_, fun j => if j = i then .slice na (entsAt σ i).length nc else nv j, fun j => if j = i then .slice ia (entsAt σ i).length ic else iv j, (hF3.frame (Fr.refl (fun _ => False) w3).drew (fun _ _ _ e => e)).write hi (put_len _ _ _) (fun j hj => ⟨hnv j hj, if_neg hj, if_neg hj⟩) (fun m hm => ?_) (fun m hm => ?_) ?_⟩, hgr _ _ (set8_fr _ _ _ _ _ _ _ _ _ _ _) hf3.drew⟩
      · rw [hσn, if_pos rfl] at hm
        cases hm
        rw [if_pos rfl]
        show ArgsV _ _ _ (namesB n.ents)
        rw [← hents]
        exact hA3.frame (Fr.refl (fun _ => False) w3).drew (fun _ _ _ e => e)
      · rw [hσn, if_pos rfl] at hm
        cases hm
        rw [if_pos rfl]
        show IntsV _ _ _ (n.ents.map (·.2))
        rw [← hents]
        exact hI3.frame (Fr.refl (fun _ => False) w3).drew (fun _ _ _ e => e)
      · unfold nodeR
        rw [hσn, if_pos rfl]
        simp only
        rfl)
    rw [← set8_eq] at hfin
    have hbd := blk_drew hb3
    have d0 : w3.drew.cell? ⟨bb, 0, none⟩ = some (.int .i64 (kindN n)) := by rw [blk_cell hbd]; rfl
    have d1 : w3.drew.cell? ⟨bb, 1, none⟩ = some (.int .i64 n.mode) := by rw [blk_cell hbd]; rfl
    have d2 : w3.drew.cell? ⟨bb, 2, none⟩ = some (.int .i64 l') := by rw [blk_cell hbd]; rfl
    have d3 : w3.drew.cell? ⟨bb, 3, none⟩ = some (.int .i64 h') := by rw [blk_cell hbd]; rfl
    have d4 : w3.drew.cell? ⟨bb, 4, none⟩ = some (.int .i64 n.par) := by rw [blk_cell hbd]; rfl
    have d5 : w3.drew.cell? ⟨bb, 5, none⟩ = some (.string (baL n.data)) := by rw [blk_cell hbd]; rfl
    have d6 : w3.drew.cell? ⟨bb, 6, none⟩ = some (.slice na (entsAt σ i).length nc) := by rw [blk_cell hbd]; rfl
    have d7 : w3.drew.cell? ⟨bb, 7, none⟩ = some (.slice ia (entsAt σ i).length ic) := by rw [blk_cell hbd]; rfl
    have r2 : w3.cell? ⟨bb, 2, none⟩ = some (.int .i64 l') := by rw [blk_cell hb3]; rfl
    have r3 : w3.cell? ⟨bb, 3, none⟩ = some (.int .i64 h') := by rw [blk_cell hb3]; rfl
    have cg : w3.drew.cell? ⟨g, 0, none⟩ = some (.slice (some ⟨nb, 0, none⟩) (σ.length + 1) cap) := by rw [blk_cell (blk_drew hF3.hb)]; rfl
    have hth : w3.drew.there nb (i * 8) 8 := (World.there_drew _ _ _ _).2 (hF3.there hi)
    clear hF3 hA3 hI3 hA hI hsm hbd hb3 hf3 hτ hnv hσn hgr hents hn HF
    by_cases hl0 : l' = 0
    · have hh0 : ¬ ((h' : Int) = 0) := fun e => hz ⟨hl0, by omega⟩
      clear hz
      subst hl0
      go_wp2_with fail
      refine region_tail 7 (by kernel_rfl) (by kernel_rfl) ?_
      simp only [List.take_succ_cons, List.take_zero, List.drop_succ_cons, List.drop_zero]
      generalize w3.drew = wd at *
      repeat go_big_quiet_step (fail)
      refine wpQuiet_nil ?_
      refine wpList_store_mid rfl 63 _ _ rfl nb (i * 8) #[.int .i64 (kindN n), .int .i64 n.mode, .int .i64 0, .int .i64 h', .int .i64 n.par, .string (baL n.data), .slice na (entsAt σ i).length nc, .slice ia (entsAt σ i).length ic] rfl rfl hth (by kernel_rfl) (by simp [Value.oneCell']) ?_
      go_wp2_with fail
      go_end0
      exact hfin.out
    · have hl0' : ¬ ((l' : Int) = 0) := by omega
      clear hz
      go_wp2_with fail
      refine region_tail 7 (by kernel_rfl) (by kernel_rfl) ?_
      simp only [List.take_succ_cons, List.take_zero, List.drop_succ_cons, List.drop_zero]
      generalize w3.drew = wd at *
      repeat go_big_quiet_step (fail)
      refine wpQuiet_nil ?_
      refine wpList_store_mid rfl 63 _ _ rfl nb (i * 8) #[.int .i64 (kindN n), .int .i64 n.mode, .int .i64 l', .int .i64 h', .int .i64 n.par, .string (baL n.data), .slice na (entsAt σ i).length nc, .slice ia (entsAt σ i).length ic] rfl rfl hth (by kernel_rfl) (by simp [Value.oneCell']) ?_
      go_wp2_with fail
      go_end0
      exact hfin.out
end Go.Proofs.YthikjdpnlahkfaaGreatDoor

/- shyardref08.FS.cut. Conditions: the contract's own premises. -/
namespace Go.Proofs.YthikjdpnlahkfaaGreatDoor
open Go.RowKit

def intsL (l : List Nat) : List Value := l.map fun k => .int .i64 (k : Nat)
theorem own_ints {w : World} {base n : Nat} {v : Value} {l : List Nat} {S : Nat → Prop} (h : w.ownsRow base 3 1 v n (intsL l)) (hn : n = l.length) (hS : ∀ k, base ≤ k → S k) : IntsV w S v l := by
  subst hn
  have hh := h
  obtain ⟨_, h1 | ⟨g, cap, cur, h1, hb, hg, h2, _⟩⟩ := h
  · exact ⟨none, 0, by rw [h1.1, h1.2], by rw [h1.2]; exact Nat.le_refl _, fun _ => rfl, .inl (List.eq_nil_of_length_eq_zero h1.2)⟩
  · subst h1
    refine ⟨_, _, rfl, h2, fun e => by simp at e, ?_⟩
    by_cases h0 : l.length = 0
    · exact .inl (List.eq_nil_of_length_eq_zero h0)
    · obtain ⟨g', he, h3, h4, h5⟩ := own_cells hh (by omega)
      refine .inr ⟨g', 0, he, hS _ h3, h4, fun k hk => ?_⟩
      rw [Nat.zero_add]
      exact h5 k _ (by simp [intsL, hk])
theorem Tryz.infoInt : (Tryz.prog.info? 3).map (fun i => (i.zero, i.size, i.bytes)) = some (some (.int .i64 0), 1, 8) := by kernel_rfl
theorem kdel_succ {s : List UInt8} {L : KA Nat} {k : Nat} (hk : k < L.length) : kdel s (L.take (k + 1)) = kdel s (L.take k) ++ (if L[k].1 = s then [] else [L[k]]) := by
  unfold kdel
  rw [List.take_add_one, List.getElem?_eq_getElem hk, List.filter_append]
  congr 1
  by_cases e : L[k].1 = s
  · simp [e]
  · simp [e]
theorem kdel_le {s : List UInt8} (L : KA Nat) (k : Nat) : (kdel s (L.take k)).length ≤ k := Nat.le_trans (List.length_filter_le _ _) (by rw [List.length_take]; exact Nat.min_le_left _ _)
def CutRel (L : KA Nat) (s : List UInt8) (w : World) (gk : Nat) (lv nv i : Value) (wr : World) : Prop :=
  ∃ (k : Nat) (D : KA Nat), gk + k = L.length ∧ i = .int .i64 k ∧ D = kdel s (L.take k) ∧ wr.ownsRow w.heap.size 9 1 lv D.length (strs (namesB D)) ∧ wr.ownsRow w.heap.size 3 1 nv D.length (intsL (D.map (·.2))) ∧
    (∀ q, lv.ownBlock = some q → nv.ownBlock ≠ some q) ∧ Fr (fun _ => False) w wr
set_option maxRecDepth 100000 in
set_option maxHeartbeats 4000000 in
theorem rcut_any (w : World) (g : Nat) (σ : FSt) (S : Nat → Prop) (h : RfAt w g σ S) (hL : σ.length ≤ 1000000) (i : Nat) (n : Nd) (hn : σ.nd i = some n) (hE : n.ents.length ≤ 1000000000000) (s : ByteArray) :
    Calls Tryz.prog 78 #[.pointer (some ⟨g, 0, none⟩), .int .i64 i, .string s] w (RmutPost g (cutS σ i s.data.toList) S (.tuple #[]) w) := by
  obtain ⟨i0, hinf, hz0, hz1, hz2⟩ := info_parts Tryz.infoStr
  obtain ⟨j0, jinf, jz0, jz1, jz2⟩ := info_parts Tryz.infoInt
  obtain ⟨rv, nv, iv, hF⟩ := h
  have hi := (hF.cells hn).1
  have c0 : w.cell? ⟨g, 0, none⟩ = some rv := by rw [blk_cell hF.hb]; rfl
  obtain ⟨nb, cap, rfl, hnb, k0, k1, k2, k3, k4, dt, na, nc, ia, ic, hnode, hA, hI, q0, q1, q2, q3, q4, q5, q6, q7, hsm, -⟩ := hF.node hi
  obtain ⟨rfl, rfl, rfl, rfl, rfl, rfl⟩ := hsm n hn
  have hents : entsAt σ i = n.ents := by unfold entsAt; rw [hn]
  rw [hents] at hnode hA hI q6 q7
  have hiI : (i : Int) < (((σ.length + 1 : Nat)) : Int) := by omega
  have hi0 : (0 : Int) ≤ (i : Int) := by omega
  obtain ⟨w1, hw1⟩ : ∃ w1, w1 = w.alloc (.cells #[.int .i64 (kindN n), .int .i64 n.mode, .int .i64 n.links, .int .i64 n.holds, .int .i64 n.par, .string (baL n.data), .slice na n.ents.length nc, .slice ia n.ents.length ic] 63 (0, 0)) := ⟨_, rfl⟩
  obtain ⟨bb, hbb⟩ : ∃ bb, bb = w.heap.size := ⟨_, rfl⟩
  have hf1 : Fr (fun _ => False) w w1 := by rw [hw1]; exact (Fr.refl _ _).alloc _
  have hbk1 : w1.heap[bb]? = some (.cells #[.int .i64 (kindN n), .int .i64 n.mode, .int .i64 n.links, .int .i64 n.holds, .int .i64 n.par, .string (baL n.data), .slice na n.ents.length nc, .slice ia n.ents.length ic] 63 (0, 0)) := by rw [hw1, hbb]; exact blk_new _ _
  have HF := hide hF
  have Hf1 := hide hf1
  have Hbk1 := hide hbk1
  have Hbb := hide hbb
  have HA := hide (hA.frame hf1 (fun _ _ _ e => e))
  have HI := hide (hI.frame hf1 (fun _ _ _ e => e))
  have Hn := hide hn
  have hfinA := hide (show ∀ (w4 : World) (v6 v7 : Value) (D : KA Nat), D = kdel s.data.toList n.ents → Fr (fun _ => False) w w4 → ArgsV w4 (fun q => S q ∧ q ≠ g ∧ q ≠ nb) v6 (namesB D) → IntsV w4 (fun q => S q ∧ q ≠ g ∧ q ≠ nb) v7 (D.map (·.2)) →
      RmutPost g (cutS σ i s.data.toList) S (.tuple #[]) w (.returned (.tuple #[])) (w4.setCells nb (i * 8) [.int .i64 (kindN n), .int .i64 n.mode, .int .i64 n.links, .int .i64 n.holds, .int .i64 n.par, .string (baL n.data), v6, v7]) from fun w4 v6 v7 D hD hf4 h6 h7 => by
    have hcs : cutS σ i s.data.toList = σ.put i (some { n with ents := D }) := by unfold cutS entS; rw [hn, hD]
    have hσn : ∀ x j, (σ.put i x).nd j = if j = i then x else σ.nd j := fun x j => put_nd hn x j
    have hF4 := hF.frame hf4 (fun _ _ _ e => e)
    rw [hcs, set8_eq]
    refine ⟨rfl, ⟨_, fun j => if j = i then v6 else nv j, fun j => if j = i then v7 else iv j, hF4.write hi (put_len _ _ _) (fun j hj => ⟨by rw [hσn, if_neg hj], if_neg hj, if_neg hj⟩) (fun m hm => ?_) (fun m hm => ?_) ?_⟩, (hf4.mono (fun _ _ e => e.elim)).trans' (set8_fr _ _ _ _ _ _ _ _ _ _ _) (fun k _ e => e ▸ (hF.ownr nb rfl).1)⟩
    · rw [hσn, if_pos rfl] at hm
      cases hm
      rw [if_pos rfl]
      exact h6
    · rw [hσn, if_pos rfl] at hm
      cases hm
      rw [if_pos rfl]
      exact h7
    · unfold nodeR
      rw [hσn, if_pos rfl]
      simp only
      rfl)
  go_enter Tryz.func78, Tryz.ntmps78
  go_upto_region 1 with (fail)
  rw [← hw1, ← hbb]
  clear hw1 hbb q0 q1 q2 q3 q4 q5 q6 q7 c0 hF hf1 hbk1 hnode hA hI hents hsm hn
  generalize hEnts : n.ents = L at *
  have HEnts := hide hEnts
  clear hEnts
  go_wp2_with fail
  go_loopg [7, 8, 9] L.length (fun gk lv nv i wr => CutRel L s.data.toList w1 gk lv nv i wr)
  case atStart => exact ⟨0, [], by omega, rfl, by rw [List.take_zero]; rfl, World.ownsRow_nil _ _ _ _, World.ownsRow_nil _ _ _ _, fun q e => by simp [Value.ownBlock] at e, Fr.refl _ _⟩
  case round =>
    obtain ⟨k, D, hgk, rfl, hD, hown, hint, hdis, hfr⟩ := hrel
    have Hgk := hide hgk
    have HD := hide hD
    have Hown := hide hown
    have Hint := hide hint
    have Hdis := hide hdis
    have Hfr := hide hfr
    have hDk : D.length ≤ k := by rw [hD]; exact kdel_le _ _
    obtain ⟨va, vc, rfl⟩ := own_form hown
    obtain ⟨ua, uc, rfl⟩ := own_form hint
    have hbr := hfr.get Hbk1.out (fun e => e)
    have r6 : wr.cell? ⟨bb, 6, none⟩ = some (.slice na L.length nc) := by rw [blk_cell hbr]; rfl
    have r7 : wr.cell? ⟨bb, 7, none⟩ = some (.slice ia L.length ic) := by rw [blk_cell hbr]; rfl
    have HDk := hide hDk
    clear hgk hD hown hint hdis hfr hDk
    by_cases hlt : k < L.length
    · obtain ⟨-, -, hA2⟩ := (HA.out.frame Hfr.out (fun _ _ _ e => e)).at
      obtain ⟨g1, o1, rfl, hc1⟩ := hA2.resolve_left (by omega)
      obtain ⟨-, -, hI2⟩ := (HI.out.frame Hfr.out (fun _ _ _ e => e)).at
      obtain ⟨g2, o2, rfl, hc2⟩ := hI2.resolve_left (by omega)
      have x1 := hc1 k (by unfold namesB; rw [List.length_map]; exact hlt)
      have x2 := hc2 k (by rw [List.length_map]; exact hlt)
      simp only [namesB, List.getElem_map] at x1 x2
      have hkI : (k : Int) < (L.length : Int) := by omega
      have hk0 : (0 : Int) ≤ (k : Int) := by omega
      clear hbr hc1 hc2 hA2 hI2
      by_cases he : L[k].1 = s.data.toList
      · have hse : (⟨L[k].1.toArray⟩ : ByteArray) = s := ba_of_data he
        have hnext := hide (show CutRel L s.data.toList w1 (gk - 1) (.slice va D.length vc) (.slice ua D.length uc) (.int .i64 ((k : Int) + 1)) wr from ⟨k + 1, D, by have := Hgk.out; omega, by go_num, by rw [kdel_succ hlt, if_pos he, List.append_nil]; exact HD.out, Hown.out, Hint.out, Hdis.out, Hfr.out⟩)
        rw [hse] at x1
        have hb : (s.toList == s.toList) = true := beq_self_eq_true _
        clear he hse x2
        go_wp2_with fail
        go_roundg (gk - 1)
        case measure => have := Hgk.out; omega
        case rel => exact hnext.out
      · have hse : ¬ (⟨L[k].1.toArray⟩ : ByteArray) = s := fun e => he (by rw [← e])
        have hb := ba_bne hse
        have hnext := hide (show ∀ v' u' w', w'.ownsRow w1.heap.size 9 1 v' (D.length + 1) (strs (namesB D) ++ [.string ⟨L[k].1.toArray⟩]) → w'.ownsRow w1.heap.size 3 1 u' (D.length + 1) (intsL (D.map (·.2)) ++ [.int .i64 (L[k].2 : Nat)]) → (∀ q, v'.ownBlock = some q → u'.ownBlock ≠ some q) → Fr (fun _ => False) w1 w' →
            CutRel L s.data.toList w1 (gk - 1) v' u' (.int .i64 ((k : Int) + 1)) w' from fun v' u' w' h1 h2 h3 h4 => ⟨k + 1, D ++ [L[k]], by have := Hgk.out; omega, by go_num, by rw [kdel_succ hlt, if_neg he, ← HD.out], by
              rw [List.length_append]
              have e : strs (namesB (D ++ [L[k]])) = strs (namesB D) ++ [.string ⟨L[k].1.toArray⟩] := by simp [strs, namesB]
              rw [e]; exact h1, by
              rw [List.length_append]
              have e : intsL ((D ++ [L[k]]).map (·.2)) = intsL (D.map (·.2)) ++ [.int .i64 (L[k].2 : Nat)] := by simp [intsL]
              rw [e]; exact h2, h3, h4⟩)
        have Hlt := hide hlt
        generalize hx2v : L[k].2 = x2v at *
        have Hx2v := hide hx2v
        clear hx2v
        generalize (⟨L[k].1.toArray⟩ : ByteArray) = t at *
        generalize D.length = dl at *
        clear he hse hlt
        go_wp2_with (at_builtin; refine wpList_append_src rfl _ _ 60 rfl w1.heap.size 9 i0 (.string ⟨#[]⟩) 1 16 Tryz.underlying60 hinf hz0 hz1 hz2 rfl (by decide) _ _ _ rfl (Hown.out.alloc _) (some ⟨wr.heap.size, 0, none⟩) 1 1 [.string t] rfl rfl ?za1 ?za2 ?za3 ?za4 ?za5 ?_)
        case za1 => exact .inr ⟨_, rfl, cell_one_new _ _ _⟩
        case za2 => intro u hu; simp at hu; subst hu; rfl
        case za3 => have := HDk.out; have := Hlt.out; unfold maxLen; omega
        case za4 => have := HDk.out; have := Hlt.out; omega
        case za5 => have := Hfr.out.size; simp; omega
        intro v' w2 hown' hgrow hat
        have hf2 : Fr (fun q => (Value.slice va dl vc).ownBlock = some q) wr w2 := ((Fr.refl _ _).alloc _).trans hgrow
        have hf12 : Fr (fun _ => False) w1 w2 := Hfr.out.trans' hf2 (fun q hq e => by have := (Hown.out.lt _ e).1; omega)
        have hint2 := hide (own_frame Hint.out hf2 (fun q e e2 => Hdis.out q e2 e))
        have hdis2 := hide (show ∀ q, v'.ownBlock = some q → (Value.slice ua dl uc).ownBlock ≠ some q ∧ w1.heap.size ≤ q from fun q e => by
          rcases hat with h1 | h1
          · rw [h1] at e
            exact ⟨Hdis.out q e, (Hown.out.lt _ e).1⟩
          · rw [h1] at e
            obtain rfl := Option.some.inj e
            refine ⟨fun e2 => ?_, ?_⟩
            · have := (Hint.out.lt _ e2).2
              omega
            · have := Hfr.out.size; simp; omega)
        have hb2 := hf12.get Hbk1.out (fun e => e)
        have r62 : w2.cell? ⟨bb, 6, none⟩ = some (.slice (some ⟨g1, o1, none⟩) L.length nc) := by rw [blk_cell hb2]; rfl
        have r72 : w2.cell? ⟨bb, 7, none⟩ = some (.slice (some ⟨g2, o2, none⟩) L.length ic) := by rw [blk_cell hb2]; rfl
        have x22 : w2.cell? ⟨g2, o2 + k, none⟩ = some (.int .i64 (x2v : Nat)) := by
          obtain ⟨-, -, hI3⟩ := (HI.out.frame hf12 (fun _ _ _ e => e)).at
          obtain ⟨g3, o3, e3, hc3⟩ := hI3.resolve_left (by have := Hlt.out; omega)
          cases e3
          have := hc3 k (by rw [List.length_map]; exact Hlt.out)
          have e5 : (L.map (·.2))[k]'(by rw [List.length_map]; exact Hlt.out) = x2v := by rw [List.getElem_map]; exact Hx2v.out
          rw [this, e5]
        have Hown2 := hide hown'
        have Hf12 := hide hf12
        have Hint2 := hide hint2.out
        clear hown' hgrow hat hf2 hf12 hint2 hb2 r6 r7 x1 x2
        obtain ⟨v2a, v2c, rfl⟩ := own_form Hown2.out
        go_wp2_with (at_builtin; refine wpList_append_src rfl _ _ 61 rfl w1.heap.size 3 j0 (.int .i64 0) 1 8 Tryz.underlying61 jinf jz0 jz1 jz2 rfl (by decide) _ _ _ rfl (Hint2.out.alloc _) (some ⟨w2.heap.size, 0, none⟩) 1 1 [.int .i64 (x2v : Nat)] rfl rfl ?zb1 ?zb2 ?zb3 ?zb4 ?zb5 ?_)
        case zb1 => exact .inr ⟨_, rfl, cell_one_new _ _ _⟩
        case zb2 => intro u hu; simp at hu; subst hu; rfl
        case zb3 => have := HDk.out; have := Hlt.out; unfold maxLen; omega
        case zb4 => have := HDk.out; have := Hlt.out; omega
        case zb5 => have := Hf12.out.size; simp; omega
        intro u' w3 hint' hgrow hat
        have hf3 : Fr (fun q => (Value.slice ua dl uc).ownBlock = some q) w2 w3 := ((Fr.refl _ _).alloc _).trans hgrow
        have hnx := hide (hnext.out _ u' w3 (own_frame Hown2.out hf3 (fun q e e2 => (hdis2.out q e).1 e2)) hint' (fun q e e2 => by
          rcases hat with h1 | h1
          · rw [h1] at e2
            exact (hdis2.out q e).1 e2
          · rw [h1] at e2
            obtain rfl := Option.some.inj e2
            have := (Hown2.out.lt _ e).2
            omega) (Hf12.out.trans' hf3 (fun q hq e => by have := (Hint2.out.lt _ e).1; omega)))
        clear hint' hgrow hat hf3 hnext
        go_wp2_with fail
        go_roundg (gk - 1)
        case measure => have := Hgk.out; omega
        case rel => exact hnx.out
    · have hke : k = L.length := by have := Hgk.out; omega
      have hkI : ¬ (k : Int) < (L.length : Int) := by omega
      have hD2 : D = kdel s.data.toList L := by have := HD.out; rw [hke, List.take_length] at this; exact this
      have z6 := blk_frozen hbr 6
      have z7 := blk_frozen hbr 7
      obtain ⟨w4, hw4⟩ : ∃ w4, w4 = (wr.setCell ⟨bb, 6, none⟩ (.slice va D.length vc)).setCell ⟨bb, 7, none⟩ (.slice ua D.length uc) := ⟨_, rfl⟩
      have hb4 : w4.heap[bb]? = some (.cells #[.int .i64 (kindN n), .int .i64 n.mode, .int .i64 n.links, .int .i64 n.holds, .int .i64 n.par, .string (baL n.data), .slice va D.length vc, .slice ua D.length uc] 63 (0, 0)) := by
        rw [hw4, blk_set (blk_set hbr 6 _) 7 _]; rfl
      have hfr4 : Fr (fun q => q = bb) wr w4 := by rw [hw4]; exact ((Fr.refl (fun q => q = bb) wr).setCell (.inl rfl) _).setCell (.inl rfl) _
      have hbb1 := blk_lt Hbk1.out
      have own4 := own_frame Hown.out hfr4 (fun q e e2 => by have := (Hown.out.lt _ e).1; omega)
      have int4 := own_frame Hint.out hfr4 (fun q e e2 => by have := (Hint.out.lt _ e).1; omega)
      have hf4 : Fr (fun _ => False) w w4 := (Hf1.out.trans Hfr.out).trans' hfr4 (fun q hq e => by have := Hbb.out; omega)
      have hg4 : g < w.heap.size := blk_lt HF.out.hb
      have hS : ∀ q, w1.heap.size ≤ q → S q ∧ q ≠ g ∧ q ≠ nb := fun q hq => by
        have := Hf1.out.size
        exact ⟨HF.out.up q (by omega), by omega, by omega⟩
      have hfin := hide (hfinA.out w4.drew _ _ D hD2 hf4.drew ((own_args own4 (by simp [namesB]) hS).frame (Fr.refl (fun _ => False) w4).drew (fun _ _ _ e => e)) ((own_ints int4 (by simp) hS).frame (Fr.refl (fun _ => False) w4).drew (fun _ _ _ e => e)))
      have hF4 := HF.out.frame hf4 (fun _ _ _ e => e)
      have hbd := blk_drew hb4
      have d0 : w4.drew.cell? ⟨bb, 0, none⟩ = some (.int .i64 (kindN n)) := by rw [blk_cell hbd]; rfl
      have d1 : w4.drew.cell? ⟨bb, 1, none⟩ = some (.int .i64 n.mode) := by rw [blk_cell hbd]; rfl
      have d2 : w4.drew.cell? ⟨bb, 2, none⟩ = some (.int .i64 n.links) := by rw [blk_cell hbd]; rfl
      have d3 : w4.drew.cell? ⟨bb, 3, none⟩ = some (.int .i64 n.holds) := by rw [blk_cell hbd]; rfl
      have d4 : w4.drew.cell? ⟨bb, 4, none⟩ = some (.int .i64 n.par) := by rw [blk_cell hbd]; rfl
      have d5 : w4.drew.cell? ⟨bb, 5, none⟩ = some (.string (baL n.data)) := by rw [blk_cell hbd]; rfl
      have d6 : w4.drew.cell? ⟨bb, 6, none⟩ = some (.slice va D.length vc) := by rw [blk_cell hbd]; rfl
      have d7 : w4.drew.cell? ⟨bb, 7, none⟩ = some (.slice ua D.length uc) := by rw [blk_cell hbd]; rfl
      have cg : w4.drew.cell? ⟨g, 0, none⟩ = some (.slice (some ⟨nb, 0, none⟩) (σ.length + 1) cap) := by rw [blk_cell (blk_drew hF4.hb)]; rfl
      have hth : w4.drew.there nb (i * 8) 8 := (World.there_drew _ _ _ _).2 (hF4.there hi)
      clear hD2 hfr4 own4 int4 hf4 hg4 hS hF4 hbd hke hbr hb4 hbb1 HF
      generalize D.length = dl at *
      go_upto_region 11 with (fail)
      rw [← hw4]
      clear hw4 z6 z7 r6 r7
      refine region_tail 7 (by kernel_rfl) (by kernel_rfl) ?_
      simp only [List.take_succ_cons, List.take_zero, List.drop_succ_cons, List.drop_zero]
      generalize w4.drew = wd at *
      repeat go_big_quiet_step (fail)
      refine wpQuiet_nil ?_
      refine wpList_store_mid rfl 63 _ _ rfl nb (i * 8) #[.int .i64 (kindN n), .int .i64 n.mode, .int .i64 n.links, .int .i64 n.holds, .int .i64 n.par, .string (baL n.data), .slice va dl vc, .slice ua dl uc] rfl rfl hth (by kernel_rfl) (by simp [Value.oneCell']) ?_
      go_wp2_with fail
      go_end0
      exact hfin.out
end Go.Proofs.YthikjdpnlahkfaaGreatDoor

/- Within a drawn region: append(append(append([]T{}, head...), x), tail...), in every order that is left: one law with one continuation. Conditions: closed facts on the region, by the kernel; the appends' premises. -/
namespace Go.Proofs.YthikjdpnlahkfaaGreatDoor
open Go.RowKit

section
variable {P : Program} {Q : Exit → Act → World → Prop}
/-- What append may take from. -/
def Src (w : World) (sa : Option Addr) (m c : Nat) (news : List Value) : Prop := (sa = none ∧ m = 0 ∧ c = 0) ∨ ∃ ad, sa = some ad ∧ ∀ j u, news[j]? = some u → w.cell? (ad.add j) = some u
theorem Src.frame {w w' : World} {T : Nat → Prop} {sa : Option Addr} {m c : Nat} {news : List Value} (h : Src w sa m c news) (hf : Fr T w w') (hT : ∀ ad, sa = some ad → ¬ T ad.block) : Src w' sa m c news := by
  refine h.imp id ?_
  rintro ⟨ad, h1, h2⟩
  exact ⟨ad, h1, fun j u hj => (World.cell?_of_block (hf.block _ (World.block_lt_of_cell? _ _ (h2 j u hj)) (fun hh => hT ad h1 (by unfold Addr.add at hh; split at hh <;> exact hh)))).trans (h2 j u hj)⟩
def rd (ops : Array Oper) (listed : Array Bool) (is : List Nat) : Array Bool := listAll is listed
theorem pne {x y : Nat} (h : x ≠ y) : ∀ d, some x = some d → some y ≠ some d := fun d e1 e2 => h (Option.some.inj (e1.trans e2.symm))
/-- The orders that are left. -/
def app3B (ops : Array Oper) (listed : Array Bool) (g n i0 i1 i2 i3 i4 : Nat) : Bool :=
  (Region.ready .any ops listed == [i0, i2]) && (Region.ready .any ops (listed.setIfInBounds i0 true) == [i1, i2]) && (Region.ready .any ops ((listed.setIfInBounds i0 true).setIfInBounds i1 true) == [i2]) &&
  (Region.ready .any ops ((listed.setIfInBounds i0 true).setIfInBounds i2 true) == [i1]) && (Region.ready .any ops (listed.setIfInBounds i2 true) == [i0]) && (Region.ready .any ops ((listed.setIfInBounds i2 true).setIfInBounds i0 true) == [i1]) &&
  (Region.ready .any ops (((listed.setIfInBounds i0 true).setIfInBounds i1 true).setIfInBounds i2 true) == [i3]) && (Region.ready .any ops ((((listed.setIfInBounds i0 true).setIfInBounds i1 true).setIfInBounds i2 true).setIfInBounds i3 true) == [i4]) &&
  Region.seqB .any ops g n (((((listed.setIfInBounds i0 true).setIfInBounds i1 true).setIfInBounds i2 true).setIfInBounds i3 true).setIfInBounds i4 true) &&
  decide (i0 < n ∧ i1 < n ∧ i2 < n ∧ i3 < n ∧ i4 < n ∧ n < ops.size ∧ i0 ≠ i1 ∧ i0 ≠ i2 ∧ i1 ≠ i2)
theorem tree_app3 {l : List Oper} {L : Act → World → Prop} {listed : Array Bool} {a : Act} {w W : World} {n g : Nat} (i0 i1 i2 i3 i4 : Nat) (hB : app3B l.toArray listed g n i0 i1 i2 i3 i4 = true)
    (d0 d1 d2 d3 d4 : Nat) (hd : (decide (d0 < d1 ∧ d1 < d2 ∧ d2 < d3 ∧ d3 < d4)) = true) (hsz : d4 < a.tmps.size)
    (hg0 : (l.getD i0 default).guard = none) (hg1 : (l.getD i1 default).guard = none) (hg2 : (l.getD i2 default).guard = none) (hg3 : (l.getD i3 default).guard = none) (hg4 : (l.getD i4 default).guard = none)
    (ht1 : (l.getD i1 default).dst = some d1) (ht3 : (l.getD i3 default).dst = some d3) (ht4 : (l.getD i4 default).dst = some d4)
    (t e : TypeId) (y1 y4 : Nat) (x2 : Operand) (cl : Array Value)
    (hy1 : ∀ d ∈ [d0, d1, d2, d3, d4], d ≠ y1 ∧ d ≠ y4 ∧ x2 ≠ .tmp d)
    (ho1 : (l.getD i1 default).op = .call { callee := .builtin .append, args := #[.tmp d0, .tmp y1], argTypes := #[t, t] })
    (ho3 : (l.getD i3 default).op = .call { callee := .builtin .append, args := #[.tmp d1, .tmp d2], argTypes := #[t, t] })
    (ho4 : (l.getD i4 default).op = .call { callee := .builtin .append, args := #[.tmp d3, .tmp y4], argTypes := #[t, t] })
    (h0 : ∀ (a1 : Act) (w1 : World) (K : Act → World → Prop), K (a1.put (some d0) (.slice (some ⟨w1.heap.size, 0, none⟩) 0 0)) (w1.alloc (.cells #[] e)) → (l.getD i0 default).wp P a1 w1 K Q)
    (h2 : ∀ (a1 : Act) (w1 : World) (K : Act → World → Prop), a1.eval x2 = a.eval x2 → K (a1.put (some d2) (.slice (some ⟨w1.heap.size, 0, none⟩) 1 1)) (w1.alloc (.cells cl e)) → (l.getD i2 default).wp P a1 w1 K Q)
    (i : TypeInfo) (z : Value) (size bytes : Nat) (hti : P.underlying t = some (.slice e)) (hi : P.info? e = some i) (hz : i.zero = some z)
    (hsize : i.size = size) (hby : i.bytes = bytes) (hzs : z.cells.size = size) (hs0 : 0 < size)
    (sa : Option Addr) (m c : Nat) (xs : List Value) (he1 : a.eval (.tmp y1) = .slice sa m c) (hl1 : xs.length = m * size) (src1 : Src W sa m c xs) (one1 : ∀ u ∈ xs, u.oneCell' = true)
    (hcl : cl.size = size) (one2 : ∀ u ∈ cl.toList, u.oneCell' = true)
    (sb : Option Addr) (m' c' : Nat) (ys : List Value) (he4 : a.eval (.tmp y4) = .slice sb m' c') (hl4 : ys.length = m' * size) (src4 : Src W sb m' c' ys) (one4 : ∀ u ∈ ys, u.oneCell' = true)
    (hm1 : m + 1 + m' ≤ maxLen) (hm2 : (m + 1 + m') * bytes ≤ 140737488355328) (hw : Fr (fun _ => False) W w)
    (h : ∀ v0 v1 v2 v3 v4 w', w'.ownsRow W.heap.size e size v4 (m + 1 + m') (xs ++ cl.toList ++ ys) → Fr (fun _ => False) W w' → L (((((a.put (some d0) v0).put (some d1) v1).put (some d2) v2).put (some d3) v3).put (some d4) v4) w') :
    treeS P l.toArray Q (fun w' => Fr (fun _ => False) W w') n g L 5 listed a w := by
  simp only [app3B, Bool.and_eq_true, decide_eq_true_eq] at hB
  obtain ⟨⟨⟨⟨⟨⟨⟨⟨⟨r0, r1⟩, r2⟩, r3⟩, r4⟩, r5⟩, r6⟩, r7⟩, r8⟩, n0, n1, n2, n3, n4, nn, e01, e02, e12⟩ := hB
  have hn : n < l.length := by simpa using nn
  simp only [decide_eq_true_eq] at hd
  obtain ⟨q01, q12, q23, q34⟩ := hd
  simp only [List.mem_cons, List.not_mem_nil, or_false, forall_eq_or_imp, forall_eq] at hy1
  obtain ⟨⟨b01, b04, b0x⟩, ⟨b11, b14, b1x⟩, ⟨b21, b24, b2x⟩, ⟨b31, b34, b3x⟩, ⟨b41, b44, b4x⟩⟩ := hy1
  have c12 : ((listed.setIfInBounds i0 true).setIfInBounds i2 true).setIfInBounds i1 true = ((listed.setIfInBounds i0 true).setIfInBounds i1 true).setIfInBounds i2 true := (Array.setIfInBounds_comm _ _ e12).symm
  have c02 : (listed.setIfInBounds i2 true).setIfInBounds i0 true = (listed.setIfInBounds i0 true).setIfInBounds i2 true := (Array.setIfInBounds_comm _ _ e02).symm
  have srcCl : ∀ w1 : World, Src (w1.alloc (.cells cl e)) (some ⟨w1.heap.size, 0, none⟩) 1 1 cl.toList := fun w1 => .inr ⟨_, rfl, fun j u hj => by
    rw [Addr.add_lit, Nat.zero_add, blk_cell (blk_new _ _)]
    simpa using hj⟩
  -- the end, for any order of the first three
  have fin : ∀ v0 v1 b2 w3, w3.ownsRow W.heap.size e size v1 m xs → Src w3 (some ⟨b2, 0, none⟩) 1 1 cl.toList → (∀ q, v1.ownBlock = some q → q ≠ b2) → Fr (fun _ => False) W w3 →
      treeS P l.toArray Q (fun w' => Fr (fun _ => False) W w') n g L 2 (((listed.setIfInBounds i0 true).setIfInBounds i1 true).setIfInBounds i2 true) (((a.put (some d0) v0).put (some d1) v1).put (some d2) (.slice (some ⟨b2, 0, none⟩) 1 1)) w3 := by
    intro v0 v1 b2 w3 own1 hs2 hne hf3
    refine tree_one' i3 r6 n3 (by omega) hg3 (fun K hK => ?_)
    refine wp_append_src (.tmp d1) (.tmp d2) t ho3 W.heap.size e i z size bytes hti hi hz hsize hby hzs hs0 v1 m xs ?_ own1 (some ⟨b2, 0, none⟩) 1 1 cl.toList ?_ (by simp [hcl]) hs2 one2 (by omega) (Nat.le_trans (Nat.mul_le_mul_right _ (by omega)) hm2) hf3.size ?_
    · rw [Act.eval_put_ne _ _ _ _ (by omega), Act.eval_put_same _ _ _ (by rw [Act.size_put]; omega)]
    · rw [Act.eval_put_same _ _ _ (by rw [Act.size_put, Act.size_put]; omega)]
    intro v3 w4 own3 fr4 at3
    have hf4 : Fr (fun _ => False) W w4 := hf3.trans' fr4 (fun q _ e => by have := (own1.lt _ e).1; omega)
    rw [ht3]
    refine hK _ _ hf4 ?_
    refine tree_one' i4 r7 n4 (by omega) hg4 (fun K hK => ?_)
    refine wp_append_src (.tmp d3) (.tmp y4) t ho4 W.heap.size e i z size bytes hti hi hz hsize hby hzs hs0 v3 (m + 1) (xs ++ cl.toList) ?_ own3 sb m' c' ys ?_ hl4 (src4.frame hf4 (fun _ _ h => h)) one4 hm1 hm2 hf4.size ?_
    · rw [Act.eval_put_same _ _ _ (by rw [Act.size_put, Act.size_put, Act.size_put]; omega)]
    · rw [Act.eval_put_ne _ _ _ _ b34, Act.eval_put_ne _ _ _ _ b24, Act.eval_put_ne _ _ _ _ b14, Act.eval_put_ne _ _ _ _ b04, he4]
    intro v4 w5 own4 fr5 at4
    have hf5 : Fr (fun _ => False) W w5 := hf4.trans' fr5 (fun q _ e => by have := (own3.lt _ e).1; omega)
    rw [ht4]
    refine hK _ _ hf5 ?_
    exact tree_end r8 (h _ _ _ _ _ _ own4 hf5)
  have own0 : ∀ w1 : World, Fr (fun _ => False) W w1 → (w1.alloc (.cells #[] e)).ownsRow W.heap.size e size (.slice (some ⟨w1.heap.size, 0, none⟩) 0 0) 0 [] := fun w1 hf => World.ownsRow_made w1 #[] 0 hf.size (Nat.zero_le _) (by simp)
  refine tree_two' i0 i2 r0 n0 n2 (by omega) (by omega) hg0 hg2 (fun K hK => ?_) (fun K hK => ?_)
  · refine h0 _ _ _ (hK _ _ (hw.alloc _) ?_)
    refine tree_two' i1 i2 r1 n1 n2 (by omega) (by omega) hg1 hg2 (fun K hK => ?_) (fun K hK => ?_)
    · refine wp_append_src (.tmp d0) (.tmp y1) t ho1 W.heap.size e i z size bytes hti hi hz hsize hby hzs hs0 _ 0 [] ?_ (own0 w hw) sa m c xs ?_ hl1 (src1.frame (hw.alloc _) (fun _ _ h => h)) one1 (by omega) (Nat.le_trans (Nat.mul_le_mul_right _ (by omega)) hm2) (hw.alloc _).size ?_
      · rw [Act.eval_put_same _ _ _ (by omega)]
      · rw [Act.eval_put_ne _ _ _ _ b01, he1]
      intro v1 w2 own1 fr2 at1
      have hf2 : Fr (fun _ => False) W w2 := (hw.alloc _).trans' fr2 (fun q _ e => by have := ((own0 w hw).lt _ e).1; omega)
      rw [ht1]
      refine hK _ _ hf2 ?_
      refine tree_one' i2 r2 n2 (by omega) hg2 (fun K hK => ?_)
      refine h2 _ _ _ ?_ (hK _ _ (hf2.alloc _) ?_)
      · rw [Act.eval_put (fun d hd => by cases hd; exact b1x), Act.eval_put (fun d hd => by cases hd; exact b0x)]
      · refine fin _ _ _ _ (by simpa using own1.alloc _) (srcCl w2) (fun q hq e => by have := (own1.lt _ hq).2; omega) (hf2.alloc _)
    · refine h2 _ _ _ ?_ (hK _ _ ((hw.alloc _).alloc _) ?_)
      · rw [Act.eval_put (fun d hd => by cases hd; exact b0x)]
      refine tree_one' i1 r3 n1 (by omega) hg1 (fun K hK => ?_)
      refine wp_append_src (.tmp d0) (.tmp y1) t ho1 W.heap.size e i z size bytes hti hi hz hsize hby hzs hs0 _ 0 [] ?_ ((own0 w hw).alloc _) sa m c xs ?_ hl1 (src1.frame ((hw.alloc _).alloc _) (fun _ _ h => h)) one1 (by omega) (Nat.le_trans (Nat.mul_le_mul_right _ (by omega)) hm2) ((hw.alloc _).alloc _).size ?_
      · rw [Act.eval_put_ne _ _ _ _ (by omega), Act.eval_put_same _ _ _ (by omega)]
      · rw [Act.eval_put_ne _ _ _ _ b21, Act.eval_put_ne _ _ _ _ b01, he1]
      intro v1 w2 own1 fr2 at1
      have hf2 : Fr (fun _ => False) W w2 := ((hw.alloc _).alloc _).trans' fr2 (fun q _ e => by have := ((own0 w hw).lt _ e).1; omega)
      rw [ht1]
      refine hK _ _ hf2 ?_
      rw [c12, Act.put_comm _ _ _ (fun d hd => by cases hd; simp; omega)]
      refine fin _ _ _ _ (by simpa using own1) ((srcCl _).frame fr2 (fun ad hd e => by cases hd; have := ((own0 w hw).lt _ e).2; simp at this)) (fun q hq e => ?_) hf2
      rcases at1 with h1 | h1
      · rw [h1] at hq
        simp [Value.ownBlock] at hq e
        omega
      · rw [h1] at hq
        simp at hq e
        omega
  · refine h2 _ _ _ rfl (hK _ _ (hw.alloc _) ?_)
    refine tree_one' i0 r4 n0 (by omega) hg0 (fun K hK => ?_)
    refine h0 _ _ _ (hK _ _ ((hw.alloc _).alloc _) ?_)
    refine tree_one' i1 r5 n1 (by omega) hg1 (fun K hK => ?_)
    refine wp_append_src (.tmp d0) (.tmp y1) t ho1 W.heap.size e i z size bytes hti hi hz hsize hby hzs hs0 _ 0 [] ?_ (own0 _ (hw.alloc _)) sa m c xs ?_ hl1 (src1.frame ((hw.alloc _).alloc _) (fun _ _ h => h)) one1 (by omega) (Nat.le_trans (Nat.mul_le_mul_right _ (by omega)) hm2) ((hw.alloc _).alloc _).size ?_
    · rw [Act.eval_put_same _ _ _ (by rw [Act.size_put]; omega)]
    · rw [Act.eval_put_ne _ _ _ _ b01, Act.eval_put_ne _ _ _ _ b21, he1]
    intro v1 w2 own1 fr2 at1
    have hf2 : Fr (fun _ => False) W w2 := ((hw.alloc _).alloc _).trans' fr2 (fun q _ e => by have := ((own0 _ (hw.alloc _)).lt _ e).1; omega)
    rw [ht1]
    refine hK _ _ hf2 ?_
    rw [c02, c12, Act.put_comm a (x := some d2) (y := some d0) _ _ (pne (by omega)), Act.put_comm (a.put (some d0) _) (x := some d2) (y := some d1) _ _ (pne (by omega))]
    refine fin _ _ _ _ (by simpa using own1) (((srcCl w).frame ((Fr.refl (fun _ => False) (w.alloc (.cells cl e))).alloc (.cells #[] e)) (fun _ _ h => h)).frame fr2 (fun ad hd e => by cases hd; simp [Value.ownBlock] at e)) (fun q hq e => ?_) hf2
    rcases at1 with h1 | h1
    · rw [h1] at hq
      simp [Value.ownBlock] at hq e
      omega
    · rw [h1] at hq
      simp at hq e
      omega
end
end Go.Proofs.YthikjdpnlahkfaaGreatDoor

/- Rows that are cut and appended to; an entry put in its place. Conditions: the laws' own premises. -/
namespace Go.Proofs.YthikjdpnlahkfaaGreatDoor
open Go.RowKit

variable {α : Type}
theorem less_before : ∀ a b : List UInt8, Op.bytesLess a b = bytesBefore a b
  | [], [] => rfl
  | [], _ :: _ => rfl
  | _ :: _, [] => rfl
  | a :: r, b :: s => by unfold Op.bytesLess bytesBefore; rw [less_before r s]
theorem kins_split {s : List UInt8} {X : α} : ∀ {M : KA α} {k : Nat} (_ : k ≤ M.length), (∀ j (hj : j < M.length), j < k → bytesBefore M[j].1 s = true) → (∀ hk : k < M.length, bytesBefore M[k].1 s = false) → (∀ p ∈ M, p.1 ≠ s) → kins (s, X) M = M.take k ++ (s, X) :: M.drop k
  | [], 0, _, _, _, _ => rfl
  | p :: r, 0, _, _, h2, h3 => by
    rw [kins_cons, if_pos]
    · rfl
    · rcases WideAt.bytes_total p.1 s (h3 p List.mem_cons_self) with h | h
      · have := h2 (by simp); simp only [List.getElem_cons_zero] at this; rw [this] at h; cases h
      · exact h
  | p :: r, k + 1, hk, h1, h2, h3 => by
    rw [kins_cons, if_neg]
    · rw [kins_split (M := r) (k := k) (by simpa using hk) (fun j hj hlt => h1 (j + 1) (by simpa using hj) (by omega)) (fun h => h2 (by simpa using h)) (fun q hq => h3 q (List.mem_cons_of_mem _ hq))]
      rfl
    · intro e
      have h4 := h1 0 (by simp) (by omega)
      have := WideShapes.bytes_trans _ _ _ e h4
      simp only [List.getElem_cons_zero] at this
      rw [WideAt.bytes_irrefl] at this
      cases this
theorem kput_new {s : List UInt8} {X : α} {M : KA α} {k : Nat} (hn : kget s M = none) (hk : k ≤ M.length) (h1 : ∀ j (hj : j < M.length), j < k → bytesBefore M[j].1 s = true) (h2 : ∀ hk : k < M.length, bytesBefore M[k].1 s = false) : kput s X M = M.take k ++ (s, X) :: M.drop k := by
  unfold kput
  rw [kdel_same hn]
  exact kins_split hk h1 h2 fun p hp => kget_none hn p hp
/-- A row of one-cell values that is read. -/
def RowOk (w : World) (a : Option Addr) (n cap : Nat) (cells : List Value) : Prop := n ≤ cap ∧ (a = none → cap = 0) ∧ cells.length = n ∧ ∀ x, a = some x → ∀ j u, cells[j]? = some u → w.cell? (x.add j) = some u
theorem ArgsV.ok {w : World} {S : Nat → Prop} {a : Option Addr} {n cap : Nat} {l : List ByteArray} (h : ArgsV w S (.slice a n cap) l) : RowOk w a n cap (strs l) := by
  obtain ⟨a', cap', h1, h2, h3, h4⟩ := h
  cases h1
  refine ⟨h2, h3, by simp [strs], fun x hx j u hj => ?_⟩
  rcases h4 with h4 | ⟨g, o, h5, -, -, h8⟩
  · subst h4; simp [strs] at hj
  · rw [hx] at h5
    cases h5
    obtain ⟨hj1, rfl⟩ := List.getElem?_eq_some_iff.1 hj
    rw [Addr.add_lit]
    simp only [strs, List.length_map] at hj1
    rw [h8 j hj1]
    simp [strs]
theorem IntsV.ok {w : World} {S : Nat → Prop} {a : Option Addr} {n cap : Nat} {l : List Nat} (h : IntsV w S (.slice a n cap) l) : RowOk w a n cap (intsL l) := by
  obtain ⟨a', cap', h1, h2, h3, h4⟩ := h
  cases h1
  refine ⟨h2, h3, by simp [intsL], fun x hx j u hj => ?_⟩
  rcases h4 with h4 | ⟨g, o, h5, -, -, h8⟩
  · subst h4; simp [intsL] at hj
  · rw [hx] at h5
    cases h5
    obtain ⟨hj1, rfl⟩ := List.getElem?_eq_some_iff.1 hj
    rw [Addr.add_lit]
    simp only [intsL, List.length_map] at hj1
    rw [h8 j hj1]
    simp [intsL]
theorem RowOk.hi {w : World} {a : Option Addr} {n cap : Nat} {cells : List Value} (h : RowOk w a n cap cells) {k : Nat} (hk : k ≤ n) : Src w a k cap (cells.take k) := by
  obtain ⟨h1, h2, h3, h4⟩ := h
  cases a with
  | none => have := h2 rfl; exact .inl ⟨rfl, by omega, by omega⟩
  | some x =>
    refine .inr ⟨x, rfl, fun j u hj => ?_⟩
    rw [List.getElem?_take] at hj
    split at hj
    · exact h4 x rfl j u hj
    · cases hj
theorem RowOk.lo {w : World} {a : Option Addr} {n cap : Nat} {cells : List Value} (h : RowOk w a n cap cells) {k : Nat} (hk : k ≤ n) {sa : Option Addr} {sc : Nat} (hc : (a = none ∧ sa = none ∧ sc = 0) ∨ ∃ x, a = some x ∧ (sa = some (x.add (k * 1)) ∨ (sa = some x ∧ n = k))) : Src w sa (n - k) sc (cells.drop k) := by
  obtain ⟨h1, h2, h3, h4⟩ := h
  rcases hc with ⟨e1, e2, e3⟩ | ⟨x, e1, e2⟩
  · have := h2 e1; exact .inl ⟨e2, by omega, e3⟩
  · right
    rcases e2 with e2 | ⟨e2, e3⟩
    · refine ⟨_, e2, fun j u hj => ?_⟩
      rw [List.getElem?_drop] at hj
      have := h4 x e1 _ u hj
      rw [Nat.mul_one, show (x.add k).add j = x.add (k + j) from by
        by_cases hj0 : j = 0
        · subst hj0; unfold Addr.add; simp
        · by_cases hk0 : k = 0
          · subst hk0; unfold Addr.add; simp [hj0]
          · unfold Addr.add; simp [hj0, hk0, Nat.add_assoc]]
      exact this
    · refine ⟨_, e2, fun j u hj => ?_⟩
      rw [List.drop_of_length_le (by omega)] at hj
      simp at hj
theorem cutLo {T : TypeId} (ht : Tryz.prog.underlying T = some (.slice (Tryz.prog.elem T))) (hsz : ∀ w', (sizeOf (Tryz.prog.elem T)).run Tryz.prog w' = .ok 1 w') {la : Option Addr} {n lc k : Nat} (hk : k ≤ n) (hn : n ≤ lc) (hnone : la = none → lc = 0) : ∃ sa sc, (∀ w', (Instr.sliceAt T (.slice la n lc) (some (.int .i64 k)) none none).run Tryz.prog w' = .ok (.slice sa (n - k) sc) w') ∧
    ((la = none ∧ sa = none ∧ sc = 0) ∨ ∃ x, la = some x ∧ (sa = some (x.add (k * 1)) ∨ (sa = some x ∧ n = k))) := by
  have key : ∀ w', (Instr.sliceAt T (.slice la n lc) (some (.int .i64 k)) none none).run Tryz.prog w' = .ok (sliced la k n lc 1) w' := fun w' => by
    rw [run_sliceAt_slice (h := ht), run_slice_l (ht := ht) (h0 := by omega) (h1 := by omega), hsz]
    simp
  by_cases hc : lc = k
  · refine ⟨la, lc - k, fun w' => by rw [key]; simp [sliced, hc], ?_⟩
    cases la with
    | none => exact .inl ⟨rfl, rfl, by have := hnone rfl; omega⟩
    | some x => exact .inr ⟨x, rfl, .inr ⟨rfl, by omega⟩⟩
  · refine ⟨la.map (·.add (k * 1)), lc - k, fun w' => by rw [key]; simp [sliced, hc], ?_⟩
    cases la with
    | none => exact .inl ⟨rfl, rfl, by have := hnone rfl; omega⟩
    | some x => exact .inr ⟨x, rfl, .inl rfl⟩
theorem cutHi {T : TypeId} (ht : Tryz.prog.underlying T = some (.slice (Tryz.prog.elem T))) (hsz : ∀ w', (sizeOf (Tryz.prog.elem T)).run Tryz.prog w' = .ok 1 w') {la : Option Addr} {n lc k : Nat} (hk : k ≤ n) (hn : n ≤ lc) : ∀ w', (Instr.sliceAt T (.slice la n lc) none (some (.int .i64 k)) none).run Tryz.prog w' = .ok (.slice la k lc) w' := by
  intro w'
  rw [run_sliceAt_slice (h := ht), run_slice_h (ht := ht) (h0 := by omega) (h2 := by omega), hsz]
  cases la <;> simp [sliced, Addr.add]
end Go.Proofs.YthikjdpnlahkfaaGreatDoor

/- shyardref08.FS.put. Printed by wip/gen/frefL.py. Conditions: the contract's own premises. -/
namespace Go.Proofs.YthikjdpnlahkfaaGreatDoor
open Go.RowKit

theorem intsL_one {l : List Nat} (u : Value) (h : u ∈ intsL l) : u.oneCell' = true := by
  simp only [intsL, List.mem_map] at h
  obtain ⟨_, _, rfl⟩ := h
  rfl
def PutRel (L : KA Nat) (s : List UInt8) (w : World) (gk : Nat) (i : Value) (wr : World) : Prop := ∃ k, gk + k = L.length ∧ i = .int .i64 k ∧ (∀ j (hj : j < L.length), j < k → bytesBefore L[j].1 s = true) ∧ w = wr
set_option maxRecDepth 100000 in
set_option maxHeartbeats 4000000 in
theorem rput_any (w : World) (g : Nat) (σ : FSt) (S : Nat → Prop) (h : RfAt w g σ S) (hL : σ.length ≤ 1000000) (i : Nat) (n : Nd) (hn : σ.nd i = some n) (hE : n.ents.length ≤ 1000000000000) (s : ByteArray) (b : Nat) (hnew : kget s.data.toList n.ents = none) :
    Calls Tryz.prog 80 #[.pointer (some ⟨g, 0, none⟩), .int .i64 i, .string s, .int .i64 b] w (RmutPost g (linkS σ i s.data.toList b) S (.tuple #[]) w) := by
  obtain ⟨i0, hinf, hz0, hz1, hz2⟩ := info_parts Tryz.infoStr
  obtain ⟨j0, jinf, jz0, jz1, jz2⟩ := info_parts Tryz.infoInt
  obtain ⟨rv, nv, iv, hF⟩ := h
  have hi := (hF.cells hn).1
  have c0 : w.cell? ⟨g, 0, none⟩ = some rv := by rw [blk_cell hF.hb]; rfl
  obtain ⟨nb, cap, rfl, hnb, k0, k1, k2, k3, k4, dt, na, nc, ia, ic, hnode, hA, hI, q0, q1, q2, q3, q4, q5, q6, q7, hsm, -⟩ := hF.node hi
  obtain ⟨rfl, rfl, rfl, rfl, rfl, rfl⟩ := hsm n hn
  have hents : entsAt σ i = n.ents := by unfold entsAt; rw [hn]
  rw [hents] at hnode hA hI q6 q7
  have hiI : (i : Int) < (((σ.length + 1 : Nat)) : Int) := by omega
  have hi0 : (0 : Int) ≤ (i : Int) := by omega
  obtain ⟨w1, hw1⟩ : ∃ w1, w1 = w.alloc (.cells #[.int .i64 (kindN n), .int .i64 n.mode, .int .i64 n.links, .int .i64 n.holds, .int .i64 n.par, .string (baL n.data), .slice na n.ents.length nc, .slice ia n.ents.length ic] 63 (0, 0)) := ⟨_, rfl⟩
  obtain ⟨bb, hbb⟩ : ∃ bb, bb = w.heap.size := ⟨_, rfl⟩
  have hf1 : Fr (fun _ => False) w w1 := by rw [hw1]; exact (Fr.refl _ _).alloc _
  have hbk1 : w1.heap[bb]? = some (.cells #[.int .i64 (kindN n), .int .i64 n.mode, .int .i64 n.links, .int .i64 n.holds, .int .i64 n.par, .string (baL n.data), .slice na n.ents.length nc, .slice ia n.ents.length ic] 63 (0, 0)) := by rw [hw1, hbb]; exact blk_new _ _
  have HF := hide hF
  have Hf1 := hide hf1
  have Hbk1 := hide hbk1
  have Hbb := hide hbb
  have HA := hide (hA.frame hf1 (fun _ _ _ e => e))
  have HI := hide (hI.frame hf1 (fun _ _ _ e => e))
  have Hn := hide hn
  have hfinA := hide (show ∀ (w4 : World) (v6 v7 : Value) (D : KA Nat), D = kput s.data.toList b n.ents → Fr (fun _ => False) w w4 → ArgsV w4 (fun q => S q ∧ q ≠ g ∧ q ≠ nb) v6 (namesB D) → IntsV w4 (fun q => S q ∧ q ≠ g ∧ q ≠ nb) v7 (D.map (·.2)) →
      RmutPost g (linkS σ i s.data.toList b) S (.tuple #[]) w (.returned (.tuple #[])) (w4.setCells nb (i * 8) [.int .i64 (kindN n), .int .i64 n.mode, .int .i64 n.links, .int .i64 n.holds, .int .i64 n.par, .string (baL n.data), v6, v7]) from fun w4 v6 v7 D hD hf4 h6 h7 => by
    have hcs : linkS σ i s.data.toList b = σ.put i (some { n with ents := D }) := by unfold linkS entS; rw [hn, hD]
    have hσn : ∀ x j, (σ.put i x).nd j = if j = i then x else σ.nd j := fun x j => put_nd hn x j
    have hF4 := hF.frame hf4 (fun _ _ _ e => e)
    rw [hcs, set8_eq]
    refine ⟨rfl, ⟨_, fun j => if j = i then v6 else nv j, fun j => if j = i then v7 else iv j, hF4.write hi (put_len _ _ _) (fun j hj => ⟨by rw [hσn, if_neg hj], if_neg hj, if_neg hj⟩) (fun m hm => ?_) (fun m hm => ?_) ?_⟩, (hf4.mono (fun _ _ e => e.elim)).trans' (set8_fr _ _ _ _ _ _ _ _ _ _ _) (fun k _ e => e ▸ (hF.ownr nb rfl).1)⟩
    · rw [hσn, if_pos rfl] at hm
      cases hm
      rw [if_pos rfl]
      exact h6
    · rw [hσn, if_pos rfl] at hm
      cases hm
      rw [if_pos rfl]
      exact h7
    · unfold nodeR
      rw [hσn, if_pos rfl]
      simp only
      rfl)
  have HI0 := hide hI
  have HE := hide hE
  go_enter Tryz.func80, Tryz.ntmps80
  go_upto_region 1 with (fail)
  rw [← hw1, ← hbb]
  have r6 : w1.cell? ⟨bb, 6, none⟩ = some (.slice na n.ents.length nc) := by rw [blk_cell Hbk1.out]; rfl
  clear hw1 hbb q0 q1 q2 q3 q4 q5 q6 q7 c0 hF hf1 hbk1 hnode hA hI hents hsm hn
  generalize hEnts : n.ents = L at *
  have HEnts := hide hEnts
  clear hEnts
  have OkA := hide HA.out.ok
  have OkI := hide HI.out.ok
  have Key6 := hide (show ∀ w', Fr (fun _ => False) w1 w' → w'.cell? ⟨bb, 6, none⟩ = some (.slice na L.length nc) from fun w' h => by rw [blk_cell (h.get Hbk1.out (fun h => h))]; rfl)
  go_wp2_with fail
  go_loopg [9] L.length (fun gk i wr => PutRel L s.data.toList w1 gk i wr)
  case atStart => exact ⟨0, by omega, rfl, fun j _ h => absurd h (Nat.not_lt_zero j), rfl⟩
  case round =>
    obtain ⟨k, hgk, rfl, hlo, rfl⟩ := hrel
    have Hgk := hide hgk
    have Hlo := hide hlo
    have HkL := hide (show k ≤ L.length by omega)
    clear hgk hlo
    by_cases hlt : k < L.length
    · obtain ⟨-, -, hA2⟩ := HA.out.at
      obtain ⟨g1, o1, rfl, hc1⟩ := hA2.resolve_left (by omega)
      have x1 := hc1 k (by unfold namesB; rw [List.length_map]; exact hlt)
      simp only [namesB, List.getElem_map] at x1
      have hkI : (k : Int) < (L.length : Int) := by omega
      have hk0 : (0 : Int) ≤ (k : Int) := by omega
      clear hc1 hA2
      have hless := less_before L[k].1 s.data.toList
      cases hb : bytesBefore L[k].1 s.data.toList with
      | true =>
        rw [hb] at hless
        have hl2 : Op.bytesLess (⟨L[k].1.toArray⟩ : ByteArray).toList s.toList = true := by rw [ByteArray.toList_eq, ByteArray.toList_eq]; exact hless
        have hnext := hide (show PutRel L s.data.toList w1 (gk - 1) (.int .i64 ((k : Int) + 1)) w1 from ⟨k + 1, by have := Hgk.out; omega, by go_num, fun j hj hjk => by
          rcases Nat.lt_or_ge j k with h1 | h1
          · exact Hlo.out j hj h1
          · obtain rfl : j = k := by omega
            exact hb, rfl⟩)
        generalize (⟨L[k].1.toArray⟩ : ByteArray) = q at x1 hl2
        clear hless hb
        go_wp2_with fail
        go_roundg (gk - 1)
        case measure => have := Hgk.out; omega
        case rel => exact hnext.out
      | false =>
        rw [hb] at hless
        have hl2 : Op.bytesLess (⟨L[k].1.toArray⟩ : ByteArray).toList s.toList = false := by rw [ByteArray.toList_eq, ByteArray.toList_eq]; exact hless
        have Hst := hide (show ∀ hk : k < L.length, bytesBefore L[k].1 s.data.toList = false from fun _ => hb)
        generalize (⟨L[k].1.toArray⟩ : ByteArray) = q at x1 hl2
        clear hless hb
        obtain ⟨na, hna⟩ : ∃ na, na = some (⟨g1, o1, none⟩ : Addr) := ⟨_, rfl⟩
        rw [← hna] at OkA Key6 HA Hbk1
        obtain ⟨sa, sc, hcl, hsc⟩ := cutLo (T := 60) Tryz.underlying60 (fun w' => by kernel_rfl) HkL.out OkA.out.1 OkA.out.2.1
        have Lo6 := hide hcl
        have Lo6c := hide hsc
        have Hi6 := hide (cutHi (T := 60) (la := na) Tryz.underlying60 (fun w' => by kernel_rfl) HkL.out OkA.out.1)
        clear hcl hsc
        subst hna
        go_upto_region 4 with (fail)
        refine region_tree (fun w' => Fr (fun _ => False) w1 w') [1, 2, 3, 4, 6, 9, 10, 11, 12] 5 14 (by kernel_rfl) (by kernel_rfl) (fun _ _ d _ _ h => by cases d <;> exact h) (Fr.refl _ _).drew ?_
        simp only [List.map_cons, List.map_nil, List.getD_cons_zero, List.getD_cons_succ, List.drop_succ_cons, List.drop_zero]
        refine wpQuiet_val (.pointer (some ⟨bb, 6, none⟩)) rfl (fun w' hS => by (go_simp)) ?_
        simp only [Act.put, List.setIfInBounds_toArray, List.set_cons_succ, List.set_cons_zero]
        refine wpQuiet_val (.slice (some ⟨g1, o1, none⟩) L.length nc) rfl (fun w' hS => by (have e2 := Key6.out w' hS; go_simp)) ?_
        simp only [Act.put, List.setIfInBounds_toArray, List.set_cons_succ, List.set_cons_zero]
        go_big_quiet_step (fail)
        refine wpQuiet_val (.slice (some ⟨g1, o1, none⟩) k nc) rfl (fun w' hS => by (have e2 := Hi6.out w'; go_simp)) ?_
        simp only [Act.put, List.setIfInBounds_toArray, List.set_cons_succ, List.set_cons_zero]
        go_big_quiet_step (fail)
        refine wpQuiet_val (.pointer (some ⟨bb, 6, none⟩)) rfl (fun w' hS => by (go_simp)) ?_
        simp only [Act.put, List.setIfInBounds_toArray, List.set_cons_succ, List.set_cons_zero]
        refine wpQuiet_val (.slice (some ⟨g1, o1, none⟩) L.length nc) rfl (fun w' hS => by (have e2 := Key6.out w' hS; go_simp)) ?_
        simp only [Act.put, List.setIfInBounds_toArray, List.set_cons_succ, List.set_cons_zero]
        go_big_quiet_step (fail)
        refine wpQuiet_val (.slice sa (L.length - k) sc) rfl (fun w' hS => by (have e2 := Lo6.out w'; go_simp)) ?_
        simp only [Act.put, List.setIfInBounds_toArray, List.set_cons_succ, List.set_cons_zero]
        refine wpQuiet_nil ?_
        refine tree_app3 0 5 7 8 13 (by kernel_rfl) 33 38 40 41 46 (by decide) (by simp) rfl rfl rfl rfl rfl rfl rfl rfl 60 9 37 45 (.tmp 39) #[.string s] (by simp) rfl rfl rfl ?h06 ?h26 i0 (.string ⟨#[]⟩) 1 16 Tryz.underlying60 hinf hz0 hz1 hz2 rfl (by decide) (some ⟨g1, o1, none⟩) k nc ((strs (namesB L)).take k) rfl ?l16 (OkA.out.hi HkL.out) ?o16 rfl ?o26 sa (L.length - k) sc ((strs (namesB L)).drop k) rfl ?l46 (OkA.out.lo HkL.out Lo6c.out) ?o46 ?m16 ?m26 (Fr.refl _ _).drew ?_
        case h06 =>
          intro a1 w1' K hK
          simp only [List.getD_cons_zero, List.getD_cons_succ]
          go_wp2_with fail
          exact hK
        case h26 =>
          intro a1 w1' K he hK
          replace he : a1.eval (.tmp 39) = .string s := he
          exact wp_buildSlice 60 9 1 #[(0, .tmp 39)] rfl #[.string s] i0 (.string ⟨#[]⟩) Tryz.underlying60 hinf hz0 (by rw [hz1]; decide) (by rw [hz1]; decide) (by rw [hz1]; simp [he]; kernel_rfl) hK
        case l16 => have := HkL.out; have := OkA.out.2.2.1; rw [List.length_take]; omega
        case o16 => exact fun u hu => strs_one _ (List.mem_of_mem_take hu)
        case o26 => intro u hu; simp at hu; subst hu; rfl
        case l46 => have := HkL.out; have := OkA.out.2.2.1; rw [List.length_drop]; omega
        case o46 => exact fun u hu => strs_one _ (List.mem_of_mem_drop hu)
        case m16 => have := HkL.out; have := HE.out; unfold maxLen; omega
        case m26 => have := HkL.out; have := HE.out; omega
        intro x0 x1 x2 x3 v2 w2 own2 fr2
        obtain ⟨a2, c2, rfl⟩ := own_form own2
        try simp only [Act.put, List.setIfInBounds_toArray, List.set_cons_succ, List.set_cons_zero]
        have hb2 := fr2.get Hbk1.out (fun h => h)
        have z6 := blk_frozen hb2 6
        have y6 := Key6.out w2 fr2
        obtain ⟨w3, hw3⟩ : ∃ w3, w3 = w2.setCell ⟨bb, 6, none⟩ (.slice a2 (k + 1 + (L.length - k)) c2) := ⟨_, rfl⟩
        have hb3 : w3.heap[bb]? = some (.cells #[.int .i64 (kindN n), .int .i64 n.mode, .int .i64 n.links, .int .i64 n.holds, .int .i64 n.par, .string (baL n.data), .slice a2 (k + 1 + (L.length - k)) c2, .slice ia L.length ic] 63 (0, 0)) := by rw [hw3, blk_set hb2 6 _]; rfl
        have hfr3 : Fr (fun q => q = bb) w2 w3 := by rw [hw3]; exact (Fr.refl (fun q => q = bb) w2).setCell (.inl rfl) _
        have hbb1 := blk_lt Hbk1.out
        have own3 := own_frame own2 hfr3 (fun q e e2 => by have := (own2.lt _ e).1; omega)
        have hf3 : Fr (fun _ => False) w w3 := (Hf1.out.trans fr2).trans' hfr3 (fun q hq e => by have := Hbb.out; omega)
        have Own3 := hide own3
        have Hf3 := hide hf3
        have Hb3 := hide hb3
        have Hs3 := hide (Nat.le_trans fr2.size hfr3.size)
        have OkI := hide (HI0.out.frame hf3 (fun _ _ _ e => e)).ok
        have Key7 := hide (show ∀ w', Fr (fun _ => False) w3 w' → w'.cell? ⟨bb, 7, none⟩ = some (.slice ia L.length ic) from fun w' h => by rw [blk_cell (h.get hb3 (fun h => h))]; rfl)
        obtain ⟨ta, tc, hcl, hsc⟩ := cutLo (T := 61) Tryz.underlying61 (fun w' => by kernel_rfl) HkL.out OkI.out.1 OkI.out.2.1
        have Lo7 := hide hcl
        have Lo7c := hide hsc
        have Hi7 := hide (cutHi (T := 61) (la := ia) Tryz.underlying61 (fun w' => by kernel_rfl) HkL.out OkI.out.1)
        clear hcl hsc own2 fr2 hb2 hfr3 own3 hf3 hb3 hbb1
        try simp only [List.drop_succ_cons, List.drop_zero]
        go_upto_region 5 with (fail)
        rw [← hw3]
        clear hw3 z6 y6
        refine region_tree (fun w' => Fr (fun _ => False) w3 w') [1, 2, 3, 4, 6, 9, 10, 11, 12] 5 14 (by kernel_rfl) (by kernel_rfl) (fun _ _ d _ _ h => by cases d <;> exact h) (Fr.refl _ _).drew ?_
        simp only [List.map_cons, List.map_nil, List.getD_cons_zero, List.getD_cons_succ, List.drop_succ_cons, List.drop_zero]
        refine wpQuiet_val (.pointer (some ⟨bb, 7, none⟩)) rfl (fun w' hS => by (go_simp)) ?_
        simp only [Act.put, List.setIfInBounds_toArray, List.set_cons_succ, List.set_cons_zero]
        refine wpQuiet_val (.slice ia L.length ic) rfl (fun w' hS => by (have e2 := Key7.out w' hS; go_simp)) ?_
        simp only [Act.put, List.setIfInBounds_toArray, List.set_cons_succ, List.set_cons_zero]
        go_big_quiet_step (fail)
        refine wpQuiet_val (.slice ia k ic) rfl (fun w' hS => by (have e2 := Hi7.out w'; go_simp)) ?_
        simp only [Act.put, List.setIfInBounds_toArray, List.set_cons_succ, List.set_cons_zero]
        go_big_quiet_step (fail)
        refine wpQuiet_val (.pointer (some ⟨bb, 7, none⟩)) rfl (fun w' hS => by (go_simp)) ?_
        simp only [Act.put, List.setIfInBounds_toArray, List.set_cons_succ, List.set_cons_zero]
        refine wpQuiet_val (.slice ia L.length ic) rfl (fun w' hS => by (have e2 := Key7.out w' hS; go_simp)) ?_
        simp only [Act.put, List.setIfInBounds_toArray, List.set_cons_succ, List.set_cons_zero]
        go_big_quiet_step (fail)
        refine wpQuiet_val (.slice ta (L.length - k) tc) rfl (fun w' hS => by (have e2 := Lo7.out w'; go_simp)) ?_
        simp only [Act.put, List.setIfInBounds_toArray, List.set_cons_succ, List.set_cons_zero]
        refine wpQuiet_nil ?_
        refine tree_app3 0 5 7 8 13 (by kernel_rfl) 48 53 55 56 61 (by decide) (by simp) rfl rfl rfl rfl rfl rfl rfl rfl 61 3 52 60 (.tmp 54) #[.int .i64 (b : Nat)] (by simp) rfl rfl rfl ?h07 ?h27 j0 (.int .i64 0) 1 8 Tryz.underlying61 jinf jz0 jz1 jz2 rfl (by decide) ia k ic ((intsL (L.map (·.2))).take k) rfl ?l17 (OkI.out.hi HkL.out) ?o17 rfl ?o27 ta (L.length - k) tc ((intsL (L.map (·.2))).drop k) rfl ?l47 (OkI.out.lo HkL.out Lo7c.out) ?o47 ?m17 ?m27 (Fr.refl _ _).drew ?_
        case h07 =>
          intro a1 w1' K hK
          simp only [List.getD_cons_zero, List.getD_cons_succ]
          go_wp2_with fail
          exact hK
        case h27 =>
          intro a1 w1' K he hK
          replace he : a1.eval (.tmp 54) = .int .i64 (b : Nat) := he
          exact wp_buildSlice 61 3 1 #[(0, .tmp 54)] rfl #[.int .i64 (b : Nat)] j0 (.int .i64 0) Tryz.underlying61 jinf jz0 (by rw [jz1]; decide) (by rw [jz1]; decide) (by rw [jz1]; simp [he]; kernel_rfl) hK
        case l17 => have := HkL.out; have := OkI.out.2.2.1; rw [List.length_take]; omega
        case o17 => exact fun u hu => intsL_one _ (List.mem_of_mem_take hu)
        case o27 => intro u hu; simp at hu; subst hu; rfl
        case l47 => have := HkL.out; have := OkI.out.2.2.1; rw [List.length_drop]; omega
        case o47 => exact fun u hu => intsL_one _ (List.mem_of_mem_drop hu)
        case m17 => have := HkL.out; have := HE.out; unfold maxLen; omega
        case m27 => have := HkL.out; have := HE.out; omega
        intro x0 x1 x2 x3 v5 w5 own5 fr5
        obtain ⟨a5, c5, rfl⟩ := own_form own5
        try simp only [Act.put, List.setIfInBounds_toArray, List.set_cons_succ, List.set_cons_zero]
        have hb5 := fr5.get Hb3.out (fun h => h)
        have z7 := blk_frozen hb5 7
        have y7 := Key7.out w5 fr5
        obtain ⟨w4, hw4⟩ : ∃ w4, w4 = w5.setCell ⟨bb, 7, none⟩ (.slice a5 (k + 1 + (L.length - k)) c5) := ⟨_, rfl⟩
        have hb4 : w4.heap[bb]? = some (.cells #[.int .i64 (kindN n), .int .i64 n.mode, .int .i64 n.links, .int .i64 n.holds, .int .i64 n.par, .string (baL n.data), .slice a2 (k + 1 + (L.length - k)) c2, .slice a5 (k + 1 + (L.length - k)) c5] 63 (0, 0)) := by rw [hw4, blk_set hb5 7 _]; rfl
        have hfr4 : Fr (fun q => q = bb) w5 w4 := by rw [hw4]; exact (Fr.refl (fun q => q = bb) w5).setCell (.inl rfl) _
        have hbb1 := blk_lt Hbk1.out
        have hD : kput s.data.toList b L = L.take k ++ (s.data.toList, b) :: L.drop k := kput_new (HEnts.out ▸ hnew) HkL.out Hlo.out Hst.out
        have own4 := own_frame (own_frame Own3.out fr5 (fun _ _ h => h)) hfr4 (fun q e e2 => by have := (Own3.out.lt _ e).1; omega)
        have int4 := own_frame own5 hfr4 (fun q e e2 => by have := (own5.lt _ e).1; have := Hs3.out; omega)
        have hf4 : Fr (fun _ => False) w w4 := (Hf3.out.trans fr5).trans' hfr4 (fun q hq e => by have := Hbb.out; omega)
        have hlen : k + 1 + (L.length - k) = (kput s.data.toList b L).length := by have := HkL.out; rw [hD]; simp; omega
        have hS : ∀ q, w1.heap.size ≤ q → S q ∧ q ≠ g ∧ q ≠ nb := fun q hq => by
          have := Hf1.out.size
          have hg4 : g < w.heap.size := blk_lt HF.out.hb
          exact ⟨HF.out.up q (by omega), by omega, by omega⟩
        have e6 : (strs (namesB L)).take k ++ #[Value.string s].toList ++ (strs (namesB L)).drop k = strs (namesB (kput s.data.toList b L)) := by
          rw [hD]; simp [strs, namesB, List.map_take, List.map_drop]
        have e7 : (intsL (L.map (·.2))).take k ++ #[Value.int .i64 (b : Nat)].toList ++ (intsL (L.map (·.2))).drop k = intsL ((kput s.data.toList b L).map (·.2)) := by
          rw [hD]; simp [intsL, List.map_take, List.map_drop]
        rw [e6] at own4
        rw [e7] at int4
        have hfin := hide (hfinA.out w4.drew _ _ _ rfl hf4.drew ((own_args own4 (by rw [hlen]; simp [namesB]) hS).frame (Fr.refl (fun _ => False) w4).drew (fun _ _ _ e => e)) ((own_ints int4 (by rw [hlen]; simp) (fun q hq => hS q (Nat.le_trans Hs3.out hq))).frame (Fr.refl (fun _ => False) w4).drew (fun _ _ _ e => e)))
        have hF4 := HF.out.frame hf4 (fun _ _ _ e => e)
        have hbd := blk_drew hb4
        have d0 : w4.drew.cell? ⟨bb, 0, none⟩ = some (.int .i64 (kindN n)) := by rw [blk_cell hbd]; rfl
        have d1 : w4.drew.cell? ⟨bb, 1, none⟩ = some (.int .i64 n.mode) := by rw [blk_cell hbd]; rfl
        have d2 : w4.drew.cell? ⟨bb, 2, none⟩ = some (.int .i64 n.links) := by rw [blk_cell hbd]; rfl
        have d3 : w4.drew.cell? ⟨bb, 3, none⟩ = some (.int .i64 n.holds) := by rw [blk_cell hbd]; rfl
        have d4 : w4.drew.cell? ⟨bb, 4, none⟩ = some (.int .i64 n.par) := by rw [blk_cell hbd]; rfl
        have d5 : w4.drew.cell? ⟨bb, 5, none⟩ = some (.string (baL n.data)) := by rw [blk_cell hbd]; rfl
        have d6 : w4.drew.cell? ⟨bb, 6, none⟩ = some (.slice a2 (k + 1 + (L.length - k)) c2) := by rw [blk_cell hbd]; rfl
        have d7 : w4.drew.cell? ⟨bb, 7, none⟩ = some (.slice a5 (k + 1 + (L.length - k)) c5) := by rw [blk_cell hbd]; rfl
        have cg : w4.drew.cell? ⟨g, 0, none⟩ = some (.slice (some ⟨nb, 0, none⟩) (σ.length + 1) cap) := by rw [blk_cell (blk_drew hF4.hb)]; rfl
        have hth : w4.drew.there nb (i * 8) 8 := (World.there_drew _ _ _ _).2 (hF4.there hi)
        clear hD hfr4 own4 int4 hf4 hS hF4 hbd hb4 hbb1 HF hlen e6 e7 own5 fr5 hb5
        generalize k + 1 + (L.length - k) = dl at *
        try simp only [List.drop_succ_cons, List.drop_zero]
        go_upto_region 6 with (fail)
        rw [← hw4]
        clear hw4 z7 y7
        refine region_tail 7 (by kernel_rfl) (by kernel_rfl) ?_
        simp only [List.take_succ_cons, List.take_zero, List.drop_succ_cons, List.drop_zero]
        generalize w4.drew = wd at *
        repeat go_big_quiet_step (fail)
        refine wpQuiet_nil ?_
        refine wpList_store_mid rfl 63 _ _ rfl nb (i * 8) #[.int .i64 (kindN n), .int .i64 n.mode, .int .i64 n.links, .int .i64 n.holds, .int .i64 n.par, .string (baL n.data), .slice a2 dl c2, .slice a5 dl c5] rfl rfl hth (by kernel_rfl) (by simp [Value.oneCell']) ?_
        go_wp2_with fail
        go_end0
        exact hfin.out
    · have hkI : ¬ (k : Int) < (L.length : Int) := by omega
      have Hst := hide (show ∀ hk : k < L.length, bytesBefore L[k].1 s.data.toList = false from fun hk => absurd hk hlt)
      obtain ⟨sa, sc, hcl, hsc⟩ := cutLo (T := 60) Tryz.underlying60 (fun w' => by kernel_rfl) HkL.out OkA.out.1 OkA.out.2.1
      have Lo6 := hide hcl
      have Lo6c := hide hsc
      have Hi6 := hide (cutHi (T := 60) (la := na) Tryz.underlying60 (fun w' => by kernel_rfl) HkL.out OkA.out.1)
      clear hcl hsc
      go_upto_region 4 with (fail)
      refine region_tree (fun w' => Fr (fun _ => False) w1 w') [1, 2, 3, 4, 6, 9, 10, 11, 12] 5 14 (by kernel_rfl) (by kernel_rfl) (fun _ _ d _ _ h => by cases d <;> exact h) (Fr.refl _ _).drew ?_
      simp only [List.map_cons, List.map_nil, List.getD_cons_zero, List.getD_cons_succ, List.drop_succ_cons, List.drop_zero]
      refine wpQuiet_val (.pointer (some ⟨bb, 6, none⟩)) rfl (fun w' hS => by (go_simp)) ?_
      simp only [Act.put, List.setIfInBounds_toArray, List.set_cons_succ, List.set_cons_zero]
      refine wpQuiet_val (.slice na L.length nc) rfl (fun w' hS => by (have e2 := Key6.out w' hS; go_simp)) ?_
      simp only [Act.put, List.setIfInBounds_toArray, List.set_cons_succ, List.set_cons_zero]
      go_big_quiet_step (fail)
      refine wpQuiet_val (.slice na k nc) rfl (fun w' hS => by (have e2 := Hi6.out w'; go_simp)) ?_
      simp only [Act.put, List.setIfInBounds_toArray, List.set_cons_succ, List.set_cons_zero]
      go_big_quiet_step (fail)
      refine wpQuiet_val (.pointer (some ⟨bb, 6, none⟩)) rfl (fun w' hS => by (go_simp)) ?_
      simp only [Act.put, List.setIfInBounds_toArray, List.set_cons_succ, List.set_cons_zero]
      refine wpQuiet_val (.slice na L.length nc) rfl (fun w' hS => by (have e2 := Key6.out w' hS; go_simp)) ?_
      simp only [Act.put, List.setIfInBounds_toArray, List.set_cons_succ, List.set_cons_zero]
      go_big_quiet_step (fail)
      refine wpQuiet_val (.slice sa (L.length - k) sc) rfl (fun w' hS => by (have e2 := Lo6.out w'; go_simp)) ?_
      simp only [Act.put, List.setIfInBounds_toArray, List.set_cons_succ, List.set_cons_zero]
      refine wpQuiet_nil ?_
      refine tree_app3 0 5 7 8 13 (by kernel_rfl) 33 38 40 41 46 (by decide) (by simp) rfl rfl rfl rfl rfl rfl rfl rfl 60 9 37 45 (.tmp 39) #[.string s] (by simp) rfl rfl rfl ?h06 ?h26 i0 (.string ⟨#[]⟩) 1 16 Tryz.underlying60 hinf hz0 hz1 hz2 rfl (by decide) na k nc ((strs (namesB L)).take k) rfl ?l16 (OkA.out.hi HkL.out) ?o16 rfl ?o26 sa (L.length - k) sc ((strs (namesB L)).drop k) rfl ?l46 (OkA.out.lo HkL.out Lo6c.out) ?o46 ?m16 ?m26 (Fr.refl _ _).drew ?_
      case h06 =>
        intro a1 w1' K hK
        simp only [List.getD_cons_zero, List.getD_cons_succ]
        go_wp2_with fail
        exact hK
      case h26 =>
        intro a1 w1' K he hK
        replace he : a1.eval (.tmp 39) = .string s := he
        exact wp_buildSlice 60 9 1 #[(0, .tmp 39)] rfl #[.string s] i0 (.string ⟨#[]⟩) Tryz.underlying60 hinf hz0 (by rw [hz1]; decide) (by rw [hz1]; decide) (by rw [hz1]; simp [he]; kernel_rfl) hK
      case l16 => have := HkL.out; have := OkA.out.2.2.1; rw [List.length_take]; omega
      case o16 => exact fun u hu => strs_one _ (List.mem_of_mem_take hu)
      case o26 => intro u hu; simp at hu; subst hu; rfl
      case l46 => have := HkL.out; have := OkA.out.2.2.1; rw [List.length_drop]; omega
      case o46 => exact fun u hu => strs_one _ (List.mem_of_mem_drop hu)
      case m16 => have := HkL.out; have := HE.out; unfold maxLen; omega
      case m26 => have := HkL.out; have := HE.out; omega
      intro x0 x1 x2 x3 v2 w2 own2 fr2
      obtain ⟨a2, c2, rfl⟩ := own_form own2
      try simp only [Act.put, List.setIfInBounds_toArray, List.set_cons_succ, List.set_cons_zero]
      have hb2 := fr2.get Hbk1.out (fun h => h)
      have z6 := blk_frozen hb2 6
      have y6 := Key6.out w2 fr2
      obtain ⟨w3, hw3⟩ : ∃ w3, w3 = w2.setCell ⟨bb, 6, none⟩ (.slice a2 (k + 1 + (L.length - k)) c2) := ⟨_, rfl⟩
      have hb3 : w3.heap[bb]? = some (.cells #[.int .i64 (kindN n), .int .i64 n.mode, .int .i64 n.links, .int .i64 n.holds, .int .i64 n.par, .string (baL n.data), .slice a2 (k + 1 + (L.length - k)) c2, .slice ia L.length ic] 63 (0, 0)) := by rw [hw3, blk_set hb2 6 _]; rfl
      have hfr3 : Fr (fun q => q = bb) w2 w3 := by rw [hw3]; exact (Fr.refl (fun q => q = bb) w2).setCell (.inl rfl) _
      have hbb1 := blk_lt Hbk1.out
      have own3 := own_frame own2 hfr3 (fun q e e2 => by have := (own2.lt _ e).1; omega)
      have hf3 : Fr (fun _ => False) w w3 := (Hf1.out.trans fr2).trans' hfr3 (fun q hq e => by have := Hbb.out; omega)
      have Own3 := hide own3
      have Hf3 := hide hf3
      have Hb3 := hide hb3
      have Hs3 := hide (Nat.le_trans fr2.size hfr3.size)
      have OkI := hide (HI0.out.frame hf3 (fun _ _ _ e => e)).ok
      have Key7 := hide (show ∀ w', Fr (fun _ => False) w3 w' → w'.cell? ⟨bb, 7, none⟩ = some (.slice ia L.length ic) from fun w' h => by rw [blk_cell (h.get hb3 (fun h => h))]; rfl)
      obtain ⟨ta, tc, hcl, hsc⟩ := cutLo (T := 61) Tryz.underlying61 (fun w' => by kernel_rfl) HkL.out OkI.out.1 OkI.out.2.1
      have Lo7 := hide hcl
      have Lo7c := hide hsc
      have Hi7 := hide (cutHi (T := 61) (la := ia) Tryz.underlying61 (fun w' => by kernel_rfl) HkL.out OkI.out.1)
      clear hcl hsc own2 fr2 hb2 hfr3 own3 hf3 hb3 hbb1
      try simp only [List.drop_succ_cons, List.drop_zero]
      go_upto_region 5 with (fail)
      rw [← hw3]
      clear hw3 z6 y6
      refine region_tree (fun w' => Fr (fun _ => False) w3 w') [1, 2, 3, 4, 6, 9, 10, 11, 12] 5 14 (by kernel_rfl) (by kernel_rfl) (fun _ _ d _ _ h => by cases d <;> exact h) (Fr.refl _ _).drew ?_
      simp only [List.map_cons, List.map_nil, List.getD_cons_zero, List.getD_cons_succ, List.drop_succ_cons, List.drop_zero]
      refine wpQuiet_val (.pointer (some ⟨bb, 7, none⟩)) rfl (fun w' hS => by (go_simp)) ?_
      simp only [Act.put, List.setIfInBounds_toArray, List.set_cons_succ, List.set_cons_zero]
      refine wpQuiet_val (.slice ia L.length ic) rfl (fun w' hS => by (have e2 := Key7.out w' hS; go_simp)) ?_
      simp only [Act.put, List.setIfInBounds_toArray, List.set_cons_succ, List.set_cons_zero]
      go_big_quiet_step (fail)
      refine wpQuiet_val (.slice ia k ic) rfl (fun w' hS => by (have e2 := Hi7.out w'; go_simp)) ?_
      simp only [Act.put, List.setIfInBounds_toArray, List.set_cons_succ, List.set_cons_zero]
      go_big_quiet_step (fail)
      refine wpQuiet_val (.pointer (some ⟨bb, 7, none⟩)) rfl (fun w' hS => by (go_simp)) ?_
      simp only [Act.put, List.setIfInBounds_toArray, List.set_cons_succ, List.set_cons_zero]
      refine wpQuiet_val (.slice ia L.length ic) rfl (fun w' hS => by (have e2 := Key7.out w' hS; go_simp)) ?_
      simp only [Act.put, List.setIfInBounds_toArray, List.set_cons_succ, List.set_cons_zero]
      go_big_quiet_step (fail)
      refine wpQuiet_val (.slice ta (L.length - k) tc) rfl (fun w' hS => by (have e2 := Lo7.out w'; go_simp)) ?_
      simp only [Act.put, List.setIfInBounds_toArray, List.set_cons_succ, List.set_cons_zero]
      refine wpQuiet_nil ?_
      refine tree_app3 0 5 7 8 13 (by kernel_rfl) 48 53 55 56 61 (by decide) (by simp) rfl rfl rfl rfl rfl rfl rfl rfl 61 3 52 60 (.tmp 54) #[.int .i64 (b : Nat)] (by simp) rfl rfl rfl ?h07 ?h27 j0 (.int .i64 0) 1 8 Tryz.underlying61 jinf jz0 jz1 jz2 rfl (by decide) ia k ic ((intsL (L.map (·.2))).take k) rfl ?l17 (OkI.out.hi HkL.out) ?o17 rfl ?o27 ta (L.length - k) tc ((intsL (L.map (·.2))).drop k) rfl ?l47 (OkI.out.lo HkL.out Lo7c.out) ?o47 ?m17 ?m27 (Fr.refl _ _).drew ?_
      case h07 =>
        intro a1 w1' K hK
        simp only [List.getD_cons_zero, List.getD_cons_succ]
        go_wp2_with fail
        exact hK
      case h27 =>
        intro a1 w1' K he hK
        replace he : a1.eval (.tmp 54) = .int .i64 (b : Nat) := he
        exact wp_buildSlice 61 3 1 #[(0, .tmp 54)] rfl #[.int .i64 (b : Nat)] j0 (.int .i64 0) Tryz.underlying61 jinf jz0 (by rw [jz1]; decide) (by rw [jz1]; decide) (by rw [jz1]; simp [he]; kernel_rfl) hK
      case l17 => have := HkL.out; have := OkI.out.2.2.1; rw [List.length_take]; omega
      case o17 => exact fun u hu => intsL_one _ (List.mem_of_mem_take hu)
      case o27 => intro u hu; simp at hu; subst hu; rfl
      case l47 => have := HkL.out; have := OkI.out.2.2.1; rw [List.length_drop]; omega
      case o47 => exact fun u hu => intsL_one _ (List.mem_of_mem_drop hu)
      case m17 => have := HkL.out; have := HE.out; unfold maxLen; omega
      case m27 => have := HkL.out; have := HE.out; omega
      intro x0 x1 x2 x3 v5 w5 own5 fr5
      obtain ⟨a5, c5, rfl⟩ := own_form own5
      try simp only [Act.put, List.setIfInBounds_toArray, List.set_cons_succ, List.set_cons_zero]
      have hb5 := fr5.get Hb3.out (fun h => h)
      have z7 := blk_frozen hb5 7
      have y7 := Key7.out w5 fr5
      obtain ⟨w4, hw4⟩ : ∃ w4, w4 = w5.setCell ⟨bb, 7, none⟩ (.slice a5 (k + 1 + (L.length - k)) c5) := ⟨_, rfl⟩
      have hb4 : w4.heap[bb]? = some (.cells #[.int .i64 (kindN n), .int .i64 n.mode, .int .i64 n.links, .int .i64 n.holds, .int .i64 n.par, .string (baL n.data), .slice a2 (k + 1 + (L.length - k)) c2, .slice a5 (k + 1 + (L.length - k)) c5] 63 (0, 0)) := by rw [hw4, blk_set hb5 7 _]; rfl
      have hfr4 : Fr (fun q => q = bb) w5 w4 := by rw [hw4]; exact (Fr.refl (fun q => q = bb) w5).setCell (.inl rfl) _
      have hbb1 := blk_lt Hbk1.out
      have hD : kput s.data.toList b L = L.take k ++ (s.data.toList, b) :: L.drop k := kput_new (HEnts.out ▸ hnew) HkL.out Hlo.out Hst.out
      have own4 := own_frame (own_frame Own3.out fr5 (fun _ _ h => h)) hfr4 (fun q e e2 => by have := (Own3.out.lt _ e).1; omega)
      have int4 := own_frame own5 hfr4 (fun q e e2 => by have := (own5.lt _ e).1; have := Hs3.out; omega)
      have hf4 : Fr (fun _ => False) w w4 := (Hf3.out.trans fr5).trans' hfr4 (fun q hq e => by have := Hbb.out; omega)
      have hlen : k + 1 + (L.length - k) = (kput s.data.toList b L).length := by have := HkL.out; rw [hD]; simp; omega
      have hS : ∀ q, w1.heap.size ≤ q → S q ∧ q ≠ g ∧ q ≠ nb := fun q hq => by
        have := Hf1.out.size
        have hg4 : g < w.heap.size := blk_lt HF.out.hb
        exact ⟨HF.out.up q (by omega), by omega, by omega⟩
      have e6 : (strs (namesB L)).take k ++ #[Value.string s].toList ++ (strs (namesB L)).drop k = strs (namesB (kput s.data.toList b L)) := by
        rw [hD]; simp [strs, namesB, List.map_take, List.map_drop]
      have e7 : (intsL (L.map (·.2))).take k ++ #[Value.int .i64 (b : Nat)].toList ++ (intsL (L.map (·.2))).drop k = intsL ((kput s.data.toList b L).map (·.2)) := by
        rw [hD]; simp [intsL, List.map_take, List.map_drop]
      rw [e6] at own4
      rw [e7] at int4
      have hfin := hide (hfinA.out w4.drew _ _ _ rfl hf4.drew ((own_args own4 (by rw [hlen]; simp [namesB]) hS).frame (Fr.refl (fun _ => False) w4).drew (fun _ _ _ e => e)) ((own_ints int4 (by rw [hlen]; simp) (fun q hq => hS q (Nat.le_trans Hs3.out hq))).frame (Fr.refl (fun _ => False) w4).drew (fun _ _ _ e => e)))
      have hF4 := HF.out.frame hf4 (fun _ _ _ e => e)
      have hbd := blk_drew hb4
      have d0 : w4.drew.cell? ⟨bb, 0, none⟩ = some (.int .i64 (kindN n)) := by rw [blk_cell hbd]; rfl
      have d1 : w4.drew.cell? ⟨bb, 1, none⟩ = some (.int .i64 n.mode) := by rw [blk_cell hbd]; rfl
      have d2 : w4.drew.cell? ⟨bb, 2, none⟩ = some (.int .i64 n.links) := by rw [blk_cell hbd]; rfl
      have d3 : w4.drew.cell? ⟨bb, 3, none⟩ = some (.int .i64 n.holds) := by rw [blk_cell hbd]; rfl
      have d4 : w4.drew.cell? ⟨bb, 4, none⟩ = some (.int .i64 n.par) := by rw [blk_cell hbd]; rfl
      have d5 : w4.drew.cell? ⟨bb, 5, none⟩ = some (.string (baL n.data)) := by rw [blk_cell hbd]; rfl
      have d6 : w4.drew.cell? ⟨bb, 6, none⟩ = some (.slice a2 (k + 1 + (L.length - k)) c2) := by rw [blk_cell hbd]; rfl
      have d7 : w4.drew.cell? ⟨bb, 7, none⟩ = some (.slice a5 (k + 1 + (L.length - k)) c5) := by rw [blk_cell hbd]; rfl
      have cg : w4.drew.cell? ⟨g, 0, none⟩ = some (.slice (some ⟨nb, 0, none⟩) (σ.length + 1) cap) := by rw [blk_cell (blk_drew hF4.hb)]; rfl
      have hth : w4.drew.there nb (i * 8) 8 := (World.there_drew _ _ _ _).2 (hF4.there hi)
      clear hD hfr4 own4 int4 hf4 hS hF4 hbd hb4 hbb1 HF hlen e6 e7 own5 fr5 hb5
      generalize k + 1 + (L.length - k) = dl at *
      try simp only [List.drop_succ_cons, List.drop_zero]
      go_upto_region 6 with (fail)
      rw [← hw4]
      clear hw4 z7 y7
      refine region_tail 7 (by kernel_rfl) (by kernel_rfl) ?_
      simp only [List.take_succ_cons, List.take_zero, List.drop_succ_cons, List.drop_zero]
      generalize w4.drew = wd at *
      repeat go_big_quiet_step (fail)
      refine wpQuiet_nil ?_
      refine wpList_store_mid rfl 63 _ _ rfl nb (i * 8) #[.int .i64 (kindN n), .int .i64 n.mode, .int .i64 n.links, .int .i64 n.holds, .int .i64 n.par, .string (baL n.data), .slice a2 dl c2, .slice a5 dl c5] rfl rfl hth (by kernel_rfl) (by simp [Value.oneCell']) ?_
      go_wp2_with fail
      go_end0
      exact hfin.out
end Go.Proofs.YthikjdpnlahkfaaGreatDoor
