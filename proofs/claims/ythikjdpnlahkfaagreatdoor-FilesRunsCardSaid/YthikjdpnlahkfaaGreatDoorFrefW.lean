/- shyardref08: FS.Hold, Drop, file, Read. Conditions: each contract's own premises. -/
import Derived.Test.YthikjdpnlahkfaaGreatDoorFrefP
import Derived.Test.YthikjdpnlahkfaaGreatDoorFilesY
import Derived.BigQuiet
namespace Go.Proofs.YthikjdpnlahkfaaGreatDoor
open Go.RowKit

theorem Fr.no {w w' : World} {S : Nat → Prop} (h : Fr (fun _ => False) w w') : Fr S w w' := h.mono (fun _ _ e => e.elim)
set_option maxRecDepth 100000 in
theorem rhold_any (w : World) (g : Nat) (σ : FSt) (S : Nat → Prop) (h : RfAt w g σ S) (hG : RG σ) (i : Int) (hi : -9223372036854775808 ≤ i ∧ i ≤ 9223372036854775807) :
    Calls Tryz.prog 49 #[.pointer (some ⟨g, 0, none⟩), .int .i64 i] w (RmutPost g (holdR σ i).2 S (.int .i64 (holdR σ i).1) w) := by
  have hlen := hG.live.len
  have his := hide (ris_any w g σ S h (by omega) i hi)
  cases hn : σ.ndI i with
  | none =>
    rw [show isB σ i = false by unfold isB; rw [hn]; rfl] at his
    have hr : holdR σ i = (9, σ) := by unfold holdR; rw [hn]
    rw [hr]
    have H := hide h
    clear hn hr hG hlen h
    go_enter Tryz.func49, Tryz.ntmps49
    go_wp2_with fail
    refine his.out.mono ?_
    rintro e w1 ⟨rfl, rfl⟩
    go_wp2_with fail
    go_returns
    exact ⟨rfl, H.out, Fr.refl _ _⟩
  | some n =>
    obtain ⟨k, rfl, hk⟩ := ndI_some hn
    rw [show isB σ k = true by unfold isB; rw [hn]; rfl] at his
    have hcap := hG.cap k n hk
    have hch := rchange_any w g σ S h (by omega) k n hk 0 1 n.links (n.holds + 1) (by omega) (by omega) ⟨by omega, by omega⟩ ⟨by omega, by omega⟩
    have hr : holdR σ k = (0, letS (σ.put k (some { n with links := n.links, holds := n.holds + 1 })) k) := by
      unfold holdR
      rw [hn]
      simp only [Int.toNat_natCast]
      unfold letS
      rw [put_nd hk, if_pos rfl]
      simp only
      rw [if_neg (by omega)]
    rw [hr]
    have Hch := hide hch
    clear hn hr hG hlen h hch hk hcap
    go_enter Tryz.func49, Tryz.ntmps49
    go_wp2_with fail
    refine his.out.mono ?_
    rintro e w1 ⟨rfl, rfl⟩
    go_wp2_with fail
    refine Hch.out.mono ?_
    rintro e w2 ⟨rfl, h1, h2⟩
    go_wp2_with fail
    go_returns
    exact ⟨rfl, h1, h2⟩
set_option maxRecDepth 100000 in
theorem rdrop_any (w : World) (g : Nat) (σ : FSt) (S : Nat → Prop) (h : RfAt w g σ S) (hG : RG σ) (i : Int) (hi : -9223372036854775808 ≤ i ∧ i ≤ 9223372036854775807) :
    Calls Tryz.prog 50 #[.pointer (some ⟨g, 0, none⟩), .int .i64 i] w (RmutPost g (dropR σ i).2 S (.int .i64 (dropR σ i).1) w) := by
  have hlen := hG.live.len
  have his := hide (ris_any w g σ S h (by omega) i hi)
  cases hn : σ.ndI i with
  | none =>
    rw [show isB σ i = false by unfold isB; rw [hn]; rfl] at his
    have hr : dropR σ i = (9, σ) := by unfold dropR; rw [hn]
    rw [hr]
    have H := hide h
    clear hn hr hG hlen h
    go_enter Tryz.func50, Tryz.ntmps50
    go_wp2_with fail
    refine his.out.mono ?_
    rintro e w1 ⟨rfl, rfl⟩
    go_wp2_with fail
    go_returns
    exact ⟨rfl, H.out, Fr.refl _ _⟩
  | some n =>
    obtain ⟨k, rfl, hk⟩ := ndI_some hn
    rw [show isB σ k = true by unfold isB; rw [hn]; rfl] at his
    have hcap := hG.cap k n hk
    obtain ⟨rv, nv, iv, hF⟩ := h
    have hi := (hF.cells hk).1
    have c0 : w.cell? ⟨g, 0, none⟩ = some rv := by rw [blk_cell hF.hb]; rfl
    obtain ⟨nb, cap, rfl, hnb, k0, k1, k2, k3, k4, dt, na, nc, ia, ic, hnode, hA, hI, q0, q1, q2, q3, q4, q5, q6, q7, hsm, -⟩ := hF.node hi
    obtain ⟨rfl, rfl, rfl, rfl, rfl, rfl⟩ := hsm n hk
    have hiI : (k : Int) < (((σ.length + 1 : Nat)) : Int) := by omega
    have hi0 : (0 : Int) ≤ (k : Int) := by omega
    have h : RfAt w g σ S := ⟨_, _, _, hF⟩
    clear q0 q1 q2 q4 q5 q6 q7 hsm hnode hA hI
    by_cases hh : n.holds = 0
    · have hr : dropR σ k = (22, σ) := by unfold dropR; rw [hn]; simp only; rw [if_pos hh]
      rw [hr]
      have hh0 : (n.holds : Int) = 0 := by omega
      have H := hide h
      clear hn hr hG hlen h hk hcap hF hh
      go_enter Tryz.func50, Tryz.ntmps50
      go_wp2_with fail
      refine his.out.mono ?_
      rintro e w1 ⟨rfl, rfl⟩
      go_wp2_with fail
      go_returns
      exact ⟨rfl, H.out, Fr.refl _ _⟩
    · have hch := rchange_any w g σ S h (by omega) k n hk 0 (-1) n.links (n.holds - 1) (by omega) (by omega) ⟨by omega, by omega⟩ ⟨by omega, by omega⟩
      have hr : dropR σ k = (0, letS (σ.put k (some { n with links := n.links, holds := n.holds - 1 })) k) := by
        unfold dropR
        rw [hn]
        simp only [Int.toNat_natCast]
        rw [if_neg hh]
      rw [hr]
      have hh0 : ¬ (n.holds : Int) = 0 := by omega
      have Hch := hide hch
      clear hn hr hG hlen h hch hk hcap hF hh
      go_enter Tryz.func50, Tryz.ntmps50
      go_wp2_with fail
      refine his.out.mono ?_
      rintro e w1 ⟨rfl, rfl⟩
      go_wp2_with fail
      refine Hch.out.mono ?_
      rintro e w2 ⟨rfl, h1, h2⟩
      go_wp2_with fail
      go_returns
      exact ⟨rfl, h1, h2⟩
set_option maxRecDepth 100000 in
theorem rfile_any (w : World) (g : Nat) (σ : FSt) (S : Nat → Prop) (h : RfAt w g σ S) (hL : σ.length ≤ 1000000) (i : Int) (hi : -9223372036854775808 ≤ i ∧ i ≤ 9223372036854775807) :
    Calls Tryz.prog 82 #[.pointer (some ⟨g, 0, none⟩), .int .i64 i] w fun e w' => e = .returned (.int .i64 (fileE σ i)) ∧ w' = w := by
  have his := hide (ris_any w g σ S h hL i hi)
  cases hn : σ.ndI i with
  | none =>
    rw [show isB σ i = false by unfold isB; rw [hn]; rfl] at his
    have hr : fileE σ i = 9 := by unfold fileE; rw [hn]
    rw [hr]
    clear hn hr h
    go_enter Tryz.func82, Tryz.ntmps82
    go_wp2_with fail
    refine his.out.mono ?_
    rintro e w1 ⟨rfl, rfl⟩
    go_wp2_with fail
    go_returns
    exact ⟨rfl, rfl⟩
  | some n =>
    obtain ⟨k, rfl, hk⟩ := ndI_some hn
    rw [show isB σ k = true by unfold isB; rw [hn]; rfl] at his
    obtain ⟨rv, nv, iv, hF⟩ := h
    have hi := (hF.cells hk).1
    have c0 : w.cell? ⟨g, 0, none⟩ = some rv := by rw [blk_cell hF.hb]; rfl
    obtain ⟨nb, cap, rfl, hnb, k0, k1, k2, k3, k4, dt, na, nc, ia, ic, -, -, -, q0, -, -, -, -, -, -, -, hsm, -⟩ := hF.node hi
    obtain ⟨rfl, -⟩ := hsm n hk
    have hiI : (k : Int) < (((σ.length + 1 : Nat)) : Int) := by omega
    have hi0 : (0 : Int) ≤ (k : Int) := by omega
    have hr : fileE σ k = if n.d then 21 else 0 := by unfold fileE; rw [hn]
    rw [hr]
    clear hsm hF hk hn hr
    cases hd : n.d with
    | true =>
      have e2 : kindN n = 2 := by unfold kindN; rw [hd]; rfl
      rw [e2] at q0
      simp only [if_true]
      clear hd e2
      go_enter Tryz.func82, Tryz.ntmps82
      go_wp2_with fail
      refine his.out.mono ?_
      rintro e w1 ⟨rfl, rfl⟩
      go_wp2_with fail
      go_returns
      exact ⟨rfl, rfl⟩
    | false =>
      have e2 : kindN n = 1 := by unfold kindN; rw [hd]; rfl
      rw [e2] at q0
      simp only [Bool.false_eq_true, if_false]
      clear hd e2
      go_enter Tryz.func82, Tryz.ntmps82
      go_wp2_with fail
      refine his.out.mono ?_
      rintro e w1 ⟨rfl, rfl⟩
      go_wp2_with fail
      go_returns
      exact ⟨rfl, rfl⟩
end Go.Proofs.YthikjdpnlahkfaaGreatDoor

/- shyardref08: FS.Stat, List, Chmod. Conditions: each contract's own premises. -/
namespace Go.Proofs.YthikjdpnlahkfaaGreatDoor
open Go.RowKit

/-- An inode written anew, its entries kept. -/
theorem RfF.redo {w : World} {g : Nat} {σ : FSt} {S : Nat → Prop} {nb cap : Nat} {nv iv : Nat → Value} (h : RfF w g σ S (.slice (some ⟨nb, 0, none⟩) (σ.length + 1) cap) nv iv) {i : Nat} {n : Nd} (hn : σ.nd i = some n) {va vi : Value} (ha : nv i = va) (hi : iv i = vi) (n' : Nd) (he : n'.ents = n.ents) :
    RfAt (w.setCells nb (i * 8) [.int .i64 (kindN n'), .int .i64 n'.mode, .int .i64 n'.links, .int .i64 n'.holds, .int .i64 n'.par, .string (baL n'.data), va, vi]) g (σ.put i (some n')) S ∧ Fr S w (w.setCells nb (i * 8) [.int .i64 (kindN n'), .int .i64 n'.mode, .int .i64 n'.links, .int .i64 n'.holds, .int .i64 n'.par, .string (baL n'.data), va, vi]) := by
  subst ha
  subst hi
  have hi := (h.cells hn).1
  have hS : ∀ q, (S q ∧ q ≠ g ∧ (Value.slice (some ⟨nb, 0, none⟩) (σ.length + 1) cap).ownBlock ≠ some q) → S q ∧ q ≠ g ∧ q ≠ nb := fun q hq => ⟨hq.1, hq.2.1, fun e => hq.2.2 (by rw [e]; rfl)⟩
  rw [set8_eq]
  refine ⟨⟨_, nv, iv, h.write hi (put_len _ _ _) (fun j hj => ⟨by rw [put_nd hn, if_neg hj], rfl, rfl⟩) (fun m hm => ?_) (fun m hm => ?_) ?_⟩, (set8_fr _ _ _ _ _ _ _ _ _ _ _).mono (fun q _ e => e ▸ (h.ownr nb rfl).1)⟩
  · rw [put_nd hn, if_pos rfl] at hm
    cases hm
    rw [he]
    exact (h.nm i n hn).mono fun k _ h2 => hS k h2
  · rw [put_nd hn, if_pos rfl] at hm
    cases hm
    rw [he]
    exact (h.im i n hn).mono fun k _ h2 => hS k h2
  · unfold nodeR
    rw [put_nd hn, if_pos rfl]
/-- An inode, its cells, and what may be written over it. -/
theorem RfAt.open {w : World} {g : Nat} {σ : FSt} {S : Nat → Prop} (h : RfAt w g σ S) {i : Nat} {n : Nd} (hn : σ.nd i = some n) : ∃ nb cap na nc ia ic,
    w.cell? ⟨g, 0, none⟩ = some (.slice (some ⟨nb, 0, none⟩) (σ.length + 1) cap) ∧ nb < w.heap.size ∧ (i : Int) < ((σ.length + 1 : Nat) : Int) ∧ (0 : Int) ≤ (i : Int) ∧
    (w.cell? ⟨nb, i * 8, none⟩ = some (.int .i64 (kindN n)) ∧ w.cell? ⟨nb, i * 8 + 1, none⟩ = some (.int .i64 n.mode) ∧ w.cell? ⟨nb, i * 8 + 2, none⟩ = some (.int .i64 n.links) ∧ w.cell? ⟨nb, i * 8 + 3, none⟩ = some (.int .i64 n.holds) ∧ w.cell? ⟨nb, i * 8 + 4, none⟩ = some (.int .i64 n.par) ∧
      w.cell? ⟨nb, i * 8 + 5, none⟩ = some (.string (baL n.data)) ∧ w.cell? ⟨nb, i * 8 + 6, none⟩ = some (.slice na n.ents.length nc) ∧ w.cell? ⟨nb, i * 8 + 7, none⟩ = some (.slice ia n.ents.length ic)) ∧
    ArgsV w (fun q => S q ∧ q ≠ g ∧ q ≠ nb) (.slice na n.ents.length nc) (namesB n.ents) ∧ IntsV w (fun q => S q ∧ q ≠ g ∧ q ≠ nb) (.slice ia n.ents.length ic) (n.ents.map (·.2)) ∧
    ∀ w', Fr (fun _ => False) w w' → w'.cell? ⟨g, 0, none⟩ = some (.slice (some ⟨nb, 0, none⟩) (σ.length + 1) cap) ∧ w'.there nb (i * 8) 8 ∧ ∀ n' : Nd, n'.ents = n.ents →
      RfAt (w'.setCells nb (i * 8) [.int .i64 (kindN n'), .int .i64 n'.mode, .int .i64 n'.links, .int .i64 n'.holds, .int .i64 n'.par, .string (baL n'.data), .slice na n.ents.length nc, .slice ia n.ents.length ic]) g (σ.put i (some n')) S ∧
      Fr S w' (w'.setCells nb (i * 8) [.int .i64 (kindN n'), .int .i64 n'.mode, .int .i64 n'.links, .int .i64 n'.holds, .int .i64 n'.par, .string (baL n'.data), .slice na n.ents.length nc, .slice ia n.ents.length ic]) := by
  obtain ⟨rv, nv, iv, hF⟩ := h
  have hi := (hF.cells hn).1
  obtain ⟨nb, cap, rfl, hnb, k0, k1, k2, k3, k4, dt, na, nc, ia, ic, hnode, hA, hI, q0, q1, q2, q3, q4, q5, q6, q7, hsm, -⟩ := hF.node hi
  obtain ⟨rfl, rfl, rfl, rfl, rfl, rfl⟩ := hsm n hn
  have hents : entsAt σ i = n.ents := by unfold entsAt; rw [hn]
  rw [hents] at hnode hA hI q6 q7
  unfold nodeR at hnode
  rw [hn] at hnode
  simp only [List.cons.injEq, and_true, true_and] at hnode
  have c0 : ∀ w', RfF w' g σ S (.slice (some ⟨nb, 0, none⟩) (σ.length + 1) cap) nv iv → w'.cell? ⟨g, 0, none⟩ = some (.slice (some ⟨nb, 0, none⟩) (σ.length + 1) cap) := fun w' h => by rw [blk_cell h.hb]; rfl
  refine ⟨nb, cap, na, nc, ia, ic, c0 w hF, hnb, by omega, by omega, ⟨q0, q1, q2, q3, q4, q5, q6, q7⟩, hA, hI, fun w' hf => ?_⟩
  have hF' := hF.frame hf (fun _ _ _ e => e)
  exact ⟨c0 w' hF', hF'.there hi, fun n' he => hF'.redo hn hnode.1 hnode.2 n' he⟩
def RlistPost (σ : FSt) (i : Int) (S : Nat → Prop) (w : World) (e : Ending) (w' : World) : Prop := ∃ v, e = .returned (.tuple #[v, .int .i64 (listE σ i)]) ∧ ArgsV w S v (listL σ i) ∧ w' = w
set_option maxRecDepth 100000 in
theorem rlist_any (w : World) (g : Nat) (σ : FSt) (S : Nat → Prop) (h : RfAt w g σ S) (hL : σ.length ≤ 1000000) (i : Int) (hi : -9223372036854775808 ≤ i ∧ i ≤ 9223372036854775807) :
    Calls Tryz.prog 48 #[.pointer (some ⟨g, 0, none⟩), .int .i64 i] w (RlistPost σ i S w) := by
  have his := hide (ris_any w g σ S h hL i hi)
  cases hn : σ.ndI i with
  | none =>
    have hres := hide (show RlistPost σ i S w (.returned (.tuple #[.slice none 0 0, .int .i64 9])) w from ⟨_, by unfold listE; rw [hn], by unfold listL; rw [hn]; exact args_nil' _ _, rfl⟩)
    rw [show isB σ i = false by unfold isB; rw [hn]; rfl] at his
    clear hn h
    go_enter Tryz.func48, Tryz.ntmps48
    go_wp2_with fail
    refine his.out.mono ?_
    rintro e w1 ⟨rfl, rfl⟩
    go_wp2_with fail
    go_returns
    exact hres.out
  | some n =>
    obtain ⟨k, rfl, hk⟩ := ndI_some hn
    rw [show isB σ k = true by unfold isB; rw [hn]; rfl] at his
    obtain ⟨nb, cap, na, nc, ia, ic, c0, hnb, hk1, hk0, ⟨q0, -, -, -, -, -, q6, -⟩, hA, -, -⟩ := h.open hk
    cases hd : n.d with
    | true =>
      have hres := hide (show RlistPost σ k S w (.returned (.tuple #[.slice na n.ents.length nc, .int .i64 0])) w from ⟨.slice na n.ents.length nc, by unfold listE; rw [hn]; simp [hd], by unfold listL; rw [hn]; simp only [hd, if_true]; exact hA.mono (fun _ _ h2 => h2.1), rfl⟩)
      rw [show kindN n = 2 by unfold kindN; rw [hd]; rfl] at q0
      clear hn h hk hd hA
      go_enter Tryz.func48, Tryz.ntmps48
      go_wp2_with fail
      refine his.out.mono ?_
      rintro e w1 ⟨rfl, rfl⟩
      go_wp2_with fail
      go_returns
      exact hres.out
    | false =>
      have hres := hide (show RlistPost σ k S w (.returned (.tuple #[.slice none 0 0, .int .i64 20])) w from ⟨.slice none 0 0, by unfold listE; rw [hn]; simp [hd], by unfold listL; rw [hn]; simp only [hd, Bool.false_eq_true, if_false]; exact args_nil' _ _, rfl⟩)
      rw [show kindN n = 1 by unfold kindN; rw [hd]; rfl] at q0
      clear hn h hk hd hA
      go_enter Tryz.func48, Tryz.ntmps48
      go_wp2_with fail
      refine his.out.mono ?_
      rintro e w1 ⟨rfl, rfl⟩
      go_wp2_with fail
      go_returns
      exact hres.out
set_option maxRecDepth 100000 in
theorem rchmod_any (w : World) (g : Nat) (σ : FSt) (S : Nat → Prop) (h : RfAt w g σ S) (hL : σ.length ≤ 1000000) (i m : Int) (hi : -9223372036854775808 ≤ i ∧ i ≤ 9223372036854775807) (_hm : -9223372036854775808 ≤ m ∧ m ≤ 9223372036854775807) :
    Calls Tryz.prog 46 #[.pointer (some ⟨g, 0, none⟩), .int .i64 i, .int .i64 m] w (RmutPost g (chmodR σ i m).2 S (.int .i64 (chmodR σ i m).1) w) := by
  have his := hide (ris_any w g σ S h hL i hi)
  cases hn : σ.ndI i with
  | none =>
    rw [show isB σ i = false by unfold isB; rw [hn]; rfl] at his
    have hr : chmodR σ i m = (9, σ) := by unfold chmodR; rw [hn]
    rw [hr]
    have H := hide h
    clear hn hr h
    go_enter Tryz.func46, Tryz.ntmps46
    go_wp2_with fail
    refine his.out.mono ?_
    rintro e w1 ⟨rfl, rfl⟩
    go_wp2_with fail
    go_returns
    exact ⟨rfl, H.out, Fr.refl _ _⟩
  | some n =>
    obtain ⟨k, rfl, hk⟩ := ndI_some hn
    rw [show isB σ k = true by unfold isB; rw [hn]; rfl] at his
    have hr : chmodR σ k m = (0, σ.put k (some { n with mode := modeN m })) := by unfold chmodR; rw [hn]; simp
    rw [hr]
    obtain ⟨nb, cap, na, nc, ia, ic, c0, hnb, hk1, hk0, ⟨q0, q1, q2, q3, q4, q5, q6, q7⟩, -, -, hw⟩ := h.open hk
    obtain ⟨w1, hw1⟩ : ∃ w1, w1 = w.alloc (.cells #[.int .i64 (kindN n), .int .i64 n.mode, .int .i64 n.links, .int .i64 n.holds, .int .i64 n.par, .string (baL n.data), .slice na n.ents.length nc, .slice ia n.ents.length ic] 63 (0, 0)) := ⟨_, rfl⟩
    obtain ⟨bb, hbb⟩ : ∃ bb, bb = w.heap.size := ⟨_, rfl⟩
    have hf1 : Fr (fun _ => False) w w1 := by rw [hw1]; exact (Fr.refl _ _).alloc _
    have hbk1 : w1.heap[bb]? = some (.cells #[.int .i64 (kindN n), .int .i64 n.mode, .int .i64 n.links, .int .i64 n.holds, .int .i64 n.par, .string (baL n.data), .slice na n.ents.length nc, .slice ia n.ents.length ic] 63 (0, 0)) := by rw [hw1, hbb]; exact blk_new _ _
    have r1 : w1.cell? ⟨bb, 1, none⟩ = some (.int .i64 n.mode) := by rw [blk_cell hbk1]; rfl
    have z1 := blk_frozen hbk1 1
    have Hf1 := hide hf1
    have Hbk1 := hide hbk1
    have Hbb := hide hbb
    have Hw := hide hw
    obtain ⟨bm, hbm⟩ : ∃ bm, bm = bits .and .i64 m 511 := ⟨_, rfl⟩
    have hbm2 : bm = (modeN m : Int) := by rw [hbm, modeN_eq]
    have Hbm := hide hbm2
    clear hf1 hbk1 hw hn hr h hk hbm2
    go_enter Tryz.func46, Tryz.ntmps46
    go_wp2_with fail
    refine his.out.mono ?_
    rintro e w9 ⟨rfl, rfl⟩
    go_upto_region 4 with (fail)
    rw [← hw1, ← hbb]
    clear hw1 hbb q0 q1 q2 q3 q4 q5 q6 q7 c0
    go_upto_region 5 with (fail)
    rw [← hbm]
    obtain ⟨w3, hw3⟩ : ∃ w3, w3 = w1.setCell ⟨bb, 1, none⟩ (.int .i64 bm) := ⟨_, rfl⟩
    have hb3 : w3.heap[bb]? = some (.cells #[.int .i64 (kindN n), .int .i64 bm, .int .i64 n.links, .int .i64 n.holds, .int .i64 n.par, .string (baL n.data), .slice na n.ents.length nc, .slice ia n.ents.length ic] 63 (0, 0)) := by
      rw [hw3, blk_set Hbk1.out 1 _]; rfl
    have hf3 : Fr (fun _ => False) w9 w3 := by
      rw [hw3]
      exact Hf1.out.trans' ((Fr.refl (fun q => q = bb) w1).setCell (.inl rfl) _) (fun q hq e => by have := Hbb.out; omega)
    rw [← hw3]
    clear hw3 r1 z1 Hbk1 Hf1 hbm
    obtain ⟨cg, hth, hR⟩ := Hw.out w3.drew hf3.drew
    obtain ⟨hR1, hR2⟩ := hR { n with mode := modeN m } rfl
    simp only at hR1 hR2
    rw [← Hbm.out] at hR1 hR2
    have hfin := hide (show RmutPost g (σ.put k (some { n with mode := modeN m })) S (.int .i64 0) w9 (.returned (.int .i64 0)) _ from ⟨rfl, hR1, hf3.drew.no.trans hR2⟩)
    have hbd := blk_drew hb3
    have d0 : w3.drew.cell? ⟨bb, 0, none⟩ = some (.int .i64 (kindN n)) := by rw [blk_cell hbd]; rfl
    have d1 : w3.drew.cell? ⟨bb, 1, none⟩ = some (.int .i64 bm) := by rw [blk_cell hbd]; rfl
    have d2 : w3.drew.cell? ⟨bb, 2, none⟩ = some (.int .i64 n.links) := by rw [blk_cell hbd]; rfl
    have d3 : w3.drew.cell? ⟨bb, 3, none⟩ = some (.int .i64 n.holds) := by rw [blk_cell hbd]; rfl
    have d4 : w3.drew.cell? ⟨bb, 4, none⟩ = some (.int .i64 n.par) := by rw [blk_cell hbd]; rfl
    have d5 : w3.drew.cell? ⟨bb, 5, none⟩ = some (.string (baL n.data)) := by rw [blk_cell hbd]; rfl
    have d6 : w3.drew.cell? ⟨bb, 6, none⟩ = some (.slice na n.ents.length nc) := by rw [blk_cell hbd]; rfl
    have d7 : w3.drew.cell? ⟨bb, 7, none⟩ = some (.slice ia n.ents.length ic) := by rw [blk_cell hbd]; rfl
    clear hbd hb3 hf3 hR hR1 hR2
    refine region_tail 7 (by kernel_rfl) (by kernel_rfl) ?_
    simp only [List.take_succ_cons, List.take_zero, List.drop_succ_cons, List.drop_zero]
    generalize w3.drew = wd at *
    repeat go_big_quiet_step (fail)
    refine wpQuiet_nil ?_
    refine wpList_store_mid rfl 63 _ _ rfl nb (k * 8) #[.int .i64 (kindN n), .int .i64 bm, .int .i64 n.links, .int .i64 n.holds, .int .i64 n.par, .string (baL n.data), .slice na n.ents.length nc, .slice ia n.ents.length ic] rfl rfl hth (by kernel_rfl) (by simp [Value.oneCell']) ?_
    go_wp2_with fail
    go_returns
    exact hfin.out
set_option maxRecDepth 100000 in
set_option maxHeartbeats 2000000 in
theorem rstat_any (w : World) (g : Nat) (σ : FSt) (S : Nat → Prop) (h : RfAt w g σ S) (hG : RG σ) (i : Int) (hi : -9223372036854775808 ≤ i ∧ i ≤ 9223372036854775807) :
    Calls Tryz.prog 47 #[.pointer (some ⟨g, 0, none⟩), .int .i64 i] w fun e w' => e = .returned (.tuple #[stV (statT σ i), .int .i64 (statE σ i)]) ∧ Fr (fun _ => False) w w' := by
  have hlen := hG.live.len
  obtain ⟨w1, hw1⟩ : ∃ w1, w1 = w.alloc (.cells #[.int .i64 0, .int .i64 0, .int .i64 0, .int .i64 0, .int .i64 0] 31 (0, 0)) := ⟨_, rfl⟩
  have hf1 : Fr (fun _ => False) w w1 := by rw [hw1]; exact (Fr.refl _ _).alloc _
  have h1 := h.frame hf1 (fun _ _ _ e => e)
  have his := hide (ris_any w1 g σ S h1 (by omega) i hi)
  cases hn : σ.ndI i with
  | none =>
    rw [show statT σ i = noSt by unfold statT; rw [hn], show statE σ i = 9 by unfold statE; rw [hn]]
    rw [show isB σ i = false by unfold isB; rw [hn]; rfl] at his
    clear hn h h1 hG hf1
    subst hw1
    go_enter Tryz.func47, Tryz.ntmps47
    go_wp2_with fail
    refine his.out.mono ?_
    rintro e w2 ⟨rfl, rfl⟩
    clear his
    go_wp2_with fail
    go_returns
    exact ⟨rfl, (Fr.refl _ _).alloc _⟩
  | some n =>
    obtain ⟨k, rfl, hk⟩ := ndI_some hn
    rw [show isB σ k = true by unfold isB; rw [hn]; rfl] at his
    rw [show statT σ k = ⟨k, kindN n, n.mode, n.links, (n.data.length : Int) + (n.ents.length : Int)⟩ by unfold statT; rw [hn]; rfl, show statE σ k = 0 by unfold statE; rw [hn]]
    obtain ⟨nb, cap, na, nc, ia, ic, c0, hnb, hk1, hk0, ⟨q0, q1, q2, q3, q4, q5, q6, q7⟩, -, -, -⟩ := h1.open hk
    have hbyts := hG.live.byts
    have hdl := byts_nd hk
    have hel := (hG.cap k n hk).2.2
    have hsz : (baL n.data).size = n.data.length := by unfold baL; rfl
    generalize kindN n = kd at *
    clear hn h h1 hG hf1 hk
    subst hw1
    go_enter Tryz.func47, Tryz.ntmps47
    go_wp2_with fail
    refine his.out.mono ?_
    rintro e w2 ⟨rfl, rfl⟩
    clear his
    go_wp2_with fail
    go_returns
    exact ⟨rfl, ((Fr.refl _ _).alloc _).alloc _⟩
end Go.Proofs.YthikjdpnlahkfaaGreatDoor

/- shyardref08: zeros, FS.set. Conditions: each contract's own premises. -/
namespace Go.Proofs.YthikjdpnlahkfaaGreatDoor
open Go.RowKit

theorem Tryz.infoByte : (Tryz.prog.info? 5).map (fun i => (i.zero, i.size, i.bytes)) = some (some (.int .u8 0), 1, 1) := by kernel_rfl
set_option maxRecDepth 100000 in
theorem rzeros_any (w : World) (n : Nat) (h0 : 1 ≤ n) (h1 : n ≤ 1000000) : Calls Tryz.prog 83 #[.int .i64 n] w fun e w' => e = .returned (.string (baL (List.replicate n 0))) ∧ Fr (fun _ => False) w w' := by
  obtain ⟨i0, hi, hz0, hz1, hz2⟩ := info_parts Tryz.infoByte
  have hmk := run_make (P := Tryz.prog) w 56 5 i0 (.int .u8 0) Tryz.underlying56 hi hz0 .i64 .i64 (n : Int) (n : Int) (by omega) (by omega) (by rw [hz2]; omega) (by omega)
  obtain ⟨w1, hw1⟩ : ∃ w1, w1 = w.alloc (.cells (madeCells (Value.int .u8 0).cells ((n : Int).toNat * i0.size)) 5) := ⟨_, rfl⟩
  have hb1 : w1.heap[w.heap.size]? = some (.cells (madeCells #[.int .u8 0] n) 5 (0, 0)) := by rw [hw1, hz1, Int.toNat_natCast, Nat.mul_one]; exact blk_new _ _
  have hf1 : Fr (fun _ => False) w w1 := by rw [hw1]; exact (Fr.refl _ _).alloc _
  have hcv := conv_bytes (w := w1) (g := w.heap.size) (a := 0) (List.replicate n 0) (fun j hj => by
    rw [blk_cell hb1, Nat.zero_add, ← Array.getElem?_toList, toList_madeCells_one, List.getElem?_replicate, if_pos (by simpa using hj)]
    simp) n
  rw [List.length_replicate] at hcv
  rw [← hw1] at hmk
  clear hw1 hb1 hi hz0 hz1 hz2
  have Hf1 := hide hf1
  clear hf1
  go_enter Tryz.func83, Tryz.ntmps83
  go_wp2_with fail
  go_returns
  exact ⟨rfl, Hf1.out⟩
def setR (σ : FSt) (i : Nat) (n : Nd) (s : List UInt8) : Int × FSt := if fits σ n s.length then (0, σ.put i (some { n with data := s })) else (28, σ)
set_option maxRecDepth 100000 in
set_option maxHeartbeats 2000000 in
theorem rset_any (w : World) (g : Nat) (σ : FSt) (S : Nat → Prop) (h : RfAt w g σ S) (hG : RG σ) (i : Nat) (n : Nd) (hn : σ.nd i = some n) (s : ByteArray) (hs : s.size ≤ 1000000) :
    Calls Tryz.prog 84 #[.pointer (some ⟨g, 0, none⟩), .int .i64 i, .string s] w (RmutPost g (setR σ i n s.data.toList).2 S (.int .i64 (setR σ i n s.data.toList).1) w) := by
  have hlen := hG.live.len
  have hbyts := hG.live.byts
  have hdl := byts_nd hn
  have kB : ∀ q : Nat, Calls Tryz.prog 10 #[.pointer (some ⟨g, 0, none⟩)] (w.drewN q) fun e w' => e = .returned (.int .i64 (σ.byts : Nat)) ∧ ∃ m, w' = w.drewN m := fun q => by
    refine (rbytes_any _ g σ S (h.frame ((Fr.refl (fun _ => False) w).drewN q) (fun _ _ _ e => e)) (by omega) (by omega)).mono ?_
    rintro e w' ⟨h1, h2⟩
    exact ⟨h1, q, h2⟩
  have KB := hide kB
  obtain ⟨nb, cap, na, nc, ia, ic, c0, hnb, hk1, hk0, ⟨q0, q1, q2, q3, q4, q5, q6, q7⟩, -, -, hw⟩ := h.open hn
  have hsz : (baL n.data).size = n.data.length := rfl
  have hsl : s.data.toList.length = s.size := ba_len s
  have H := hide h
  by_cases hfit : fits σ n s.size
  · have hfI : ¬ (65536 : Int) < (σ.byts : Int) - (n.data.length : Int) + (s.size : Int) := by unfold fits at hfit; omega
    have hr : setR σ i n s.data.toList = (0, σ.put i (some { n with data := s.data.toList })) := by unfold setR; rw [hsl, if_pos hfit]
    rw [hr]
    clear hr hfit kB h q0 q1 q2 q3 q4 q6 q7 hw
    go_enter Tryz.func84, Tryz.ntmps84
    go_upto_region 1 with (fail)
    go_quiet (first | (go_at_call 10; exact KB.out _))
    obtain ⟨wq, hwq⟩ : ∃ wq, wq = w.drewN nq := ⟨_, rfl⟩
    rw [← hwq]
    have hfq : Fr (fun _ => False) w wq := by rw [hwq]; exact (Fr.refl _ _).drewN _
    have Hfq := hide hfq
    clear hwq c0 q5 hfq
    obtain ⟨nb, cap, na, nc, ia, ic, c0, hnb, hk1, hk0, ⟨q0, q1, q2, q3, q4, q5, q6, q7⟩, -, -, hw⟩ := (H.out.frame Hfq.out (fun _ _ _ e => e)).open hn
    obtain ⟨w1, hw1⟩ : ∃ w1, w1 = wq.alloc (.cells #[.int .i64 (kindN n), .int .i64 n.mode, .int .i64 n.links, .int .i64 n.holds, .int .i64 n.par, .string (baL n.data), .slice na n.ents.length nc, .slice ia n.ents.length ic] 63 (0, 0)) := ⟨_, rfl⟩
    obtain ⟨bb, hbb⟩ : ∃ bb, bb = wq.heap.size := ⟨_, rfl⟩
    have hf1 : Fr (fun _ => False) wq w1 := by rw [hw1]; exact (Fr.refl _ _).alloc _
    have hbk1 : w1.heap[bb]? = some (.cells #[.int .i64 (kindN n), .int .i64 n.mode, .int .i64 n.links, .int .i64 n.holds, .int .i64 n.par, .string (baL n.data), .slice na n.ents.length nc, .slice ia n.ents.length ic] 63 (0, 0)) := by rw [hw1, hbb]; exact blk_new _ _
    have r5 : w1.cell? ⟨bb, 5, none⟩ = some (.string (baL n.data)) := by rw [blk_cell hbk1]; rfl
    have z5 := blk_frozen hbk1 5
    have Hf1 := hide hf1
    have Hbk1 := hide hbk1
    have Hbb := hide hbb
    have Hw := hide hw
    clear hf1 hbk1 hw hfI hdl hbyts
    go_upto_region 4 with (fail)
    rw [← hw1, ← hbb]
    clear hw1 hbb q0 q1 q2 q3 q4 q5 q6 q7 c0
    go_upto_region 5 with (fail)
    obtain ⟨w3, hw3⟩ : ∃ w3, w3 = w1.setCell ⟨bb, 5, none⟩ (.string s) := ⟨_, rfl⟩
    have hb3 : w3.heap[bb]? = some (.cells #[.int .i64 (kindN n), .int .i64 n.mode, .int .i64 n.links, .int .i64 n.holds, .int .i64 n.par, .string s, .slice na n.ents.length nc, .slice ia n.ents.length ic] 63 (0, 0)) := by
      rw [hw3, blk_set Hbk1.out 5 _]; rfl
    have hf3 : Fr (fun _ => False) wq w3 := by
      rw [hw3]
      exact Hf1.out.trans' ((Fr.refl (fun q => q = bb) w1).setCell (.inl rfl) _) (fun q hq e => by have := Hbb.out; omega)
    rw [← hw3]
    clear hw3 r5 z5 Hbk1 Hf1
    obtain ⟨cg, hth, hR⟩ := Hw.out w3.drew hf3.drew
    obtain ⟨hR1, hR2⟩ := hR { n with data := s.data.toList } rfl
    have hsb : baL s.data.toList = s := ba_back s
    simp only at hR1 hR2
    rw [hsb] at hR1 hR2
    have hfin := hide (show RmutPost g (σ.put i (some { n with data := s.data.toList })) S (.int .i64 0) w (.returned (.int .i64 0)) _ from ⟨rfl, hR1, (Hfq.out.trans hf3.drew).no.trans hR2⟩)
    have hbd := blk_drew hb3
    have d0 : w3.drew.cell? ⟨bb, 0, none⟩ = some (.int .i64 (kindN n)) := by rw [blk_cell hbd]; rfl
    have d1 : w3.drew.cell? ⟨bb, 1, none⟩ = some (.int .i64 n.mode) := by rw [blk_cell hbd]; rfl
    have d2 : w3.drew.cell? ⟨bb, 2, none⟩ = some (.int .i64 n.links) := by rw [blk_cell hbd]; rfl
    have d3 : w3.drew.cell? ⟨bb, 3, none⟩ = some (.int .i64 n.holds) := by rw [blk_cell hbd]; rfl
    have d4 : w3.drew.cell? ⟨bb, 4, none⟩ = some (.int .i64 n.par) := by rw [blk_cell hbd]; rfl
    have d5 : w3.drew.cell? ⟨bb, 5, none⟩ = some (.string s) := by rw [blk_cell hbd]; rfl
    have d6 : w3.drew.cell? ⟨bb, 6, none⟩ = some (.slice na n.ents.length nc) := by rw [blk_cell hbd]; rfl
    have d7 : w3.drew.cell? ⟨bb, 7, none⟩ = some (.slice ia n.ents.length ic) := by rw [blk_cell hbd]; rfl
    clear hbd hb3 hf3 hR hR1 hR2 hsb
    refine region_tail 7 (by kernel_rfl) (by kernel_rfl) ?_
    simp only [List.take_succ_cons, List.take_zero, List.drop_succ_cons, List.drop_zero]
    generalize w3.drew = wd at *
    repeat go_big_quiet_step (fail)
    refine wpQuiet_nil ?_
    refine wpList_store_mid rfl 63 _ _ rfl nb (i * 8) #[.int .i64 (kindN n), .int .i64 n.mode, .int .i64 n.links, .int .i64 n.holds, .int .i64 n.par, .string s, .slice na n.ents.length nc, .slice ia n.ents.length ic] rfl rfl hth (by kernel_rfl) (by simp [Value.oneCell']) ?_
    go_wp2_with fail
    go_returns
    exact hfin.out
  · have hfI : (65536 : Int) < (σ.byts : Int) - (n.data.length : Int) + (s.size : Int) := by unfold fits at hfit; omega
    have hr : setR σ i n s.data.toList = (28, σ) := by unfold setR; rw [hsl, if_neg hfit]
    rw [hr]
    clear hr hfit kB h q0 q1 q2 q3 q4 q6 q7 hw
    go_enter Tryz.func84, Tryz.ntmps84
    go_upto_region 1 with (fail)
    go_quiet (first | (go_at_call 10; exact KB.out _))
    go_wp2_with fail
    go_returns
    exact ⟨rfl, H.out.frame ((Fr.refl (fun _ => False) w).drewN _) (fun _ _ _ e => e), ((Fr.refl (fun _ => False) w).drewN _).no⟩
end Go.Proofs.YthikjdpnlahkfaaGreatDoor

/- shyardref08: FS.Read, Truncate. Conditions: each contract's own premises. -/
namespace Go.Proofs.YthikjdpnlahkfaaGreatDoor
open Go.RowKit

set_option maxRecDepth 100000 in
set_option maxHeartbeats 2000000 in
theorem rread_any (w : World) (g : Nat) (σ : FSt) (S : Nat → Prop) (h : RfAt w g σ S) (hG : RG σ) (i at' n : Int) (hi : -9223372036854775808 ≤ i ∧ i ≤ 9223372036854775807) (ha : -9223372036854775808 ≤ at' ∧ at' ≤ 9223372036854775807) (hn : -9223372036854775808 ≤ n ∧ n ≤ 9223372036854775807) :
    Calls Tryz.prog 43 #[.pointer (some ⟨g, 0, none⟩), .int .i64 i, .int .i64 at', .int .i64 n] w fun e w' => e = .returned (.tuple #[.string ⟨(readB σ i at' n).toArray⟩, .int .i64 (readE σ i at' n)]) ∧ w' = w := by
  have hlen := hG.live.len
  have hbyts := hG.live.byts
  have hfile := hide (rfile_any w g σ S h (by omega) i hi)
  by_cases hE : fileE σ i = 0
  · obtain ⟨k, nd, rfl, hk, hd⟩ := fileE_zero hE
    rw [hE] at hfile
    have hdl := byts_nd hk
    by_cases hneg : at' < 0 ∨ n < 0
    · have e1 : readE σ k at' n = 22 := by unfold readE; rw [if_neg (by simp [hE]), if_pos hneg]
      have e2 : readB σ k at' n = [] := by unfold readB; rw [e1]; rfl
      rw [e1, e2]
      clear e1 e2
      rcases hneg with hneg | hneg
      · go_enter Tryz.func43, Tryz.ntmps43
        go_wp2_with fail
        refine hfile.out.mono ?_
        rintro e w1 ⟨rfl, rfl⟩
        go_wp2_with fail
        go_returns
        exact ⟨rfl, rfl⟩
      · by_cases hat : at' < 0
        · go_enter Tryz.func43, Tryz.ntmps43
          go_wp2_with fail
          refine hfile.out.mono ?_
          rintro e w1 ⟨rfl, rfl⟩
          go_wp2_with fail
          go_returns
          exact ⟨rfl, rfl⟩
        · go_enter Tryz.func43, Tryz.ntmps43
          go_wp2_with fail
          refine hfile.out.mono ?_
          rintro e w1 ⟨rfl, rfl⟩
          go_wp2_with fail
          go_returns
          exact ⟨rfl, rfl⟩
    · have hp1 : ¬ at' < 0 := fun e => hneg (.inl e)
      have hp2 : ¬ n < 0 := fun e => hneg (.inr e)
      obtain ⟨x, rfl⟩ : ∃ x : Nat, at' = x := ⟨at'.toNat, by omega⟩
      obtain ⟨y, rfl⟩ : ∃ y : Nat, n = y := ⟨n.toNat, by omega⟩
      have e1 : readE σ k x y = 0 := by unfold readE; rw [if_neg (by simp [hE]), if_neg hneg]
      have hdI : dataI σ k = nd.data := by unfold dataI; rw [ndI_nat hk]
      have e2 : readB σ k x y = (nd.data.drop x).take y := by unfold readB; rw [e1, if_neg (by decide), hdI]; simp
      rw [e1, e2]
      obtain ⟨nb, cap, na, nc, ia, ic, c0, hnb, hk1, hk0, ⟨-, -, -, -, -, q5, -, -⟩, -, -, -⟩ := h.open hk
      obtain ⟨sd, hsd⟩ : ∃ sd, sd = baL nd.data := ⟨_, rfl⟩
      have hsl : sd.size = nd.data.length := by rw [hsd]; rfl
      have hsl2 : sd.data.toList = nd.data := by rw [hsd]; rfl
      rw [← hsd] at q5
      rw [← hsl2]
      clear e1 e2 hdI hd hk hneg hE h hsd
      by_cases hx : sd.size ≤ x
      · have e3 : (sd.data.toList.drop x).take y = [] := by rw [List.drop_of_length_le (by rw [ba_len]; exact hx), List.take_nil]
        rw [e3]
        have hxI : (sd.size : Int) ≤ (x : Int) := by omega
        clear e3
        go_enter Tryz.func43, Tryz.ntmps43
        go_wp2_with fail
        refine hfile.out.mono ?_
        rintro e w1 ⟨rfl, rfl⟩
        go_wp2_with fail
        go_returns
        exact ⟨rfl, rfl⟩
      · have hxI : ¬ (sd.size : Int) ≤ (x : Int) := by omega
        obtain ⟨q, hq⟩ : ∃ q, q = min y (sd.size - x) := ⟨_, rfl⟩
        have e3 : (⟨((sd.data.toList.drop x).take y).toArray⟩ : ByteArray) = sd.extract x (x + q) := by
          apply ba_of_data
          rw [ba_extract, show x + q - x = q by omega]
          show (sd.data.toList.drop x).take y = _
          have hl := ba_len sd
          rw [hq]
          by_cases hy : y ≤ sd.size - x
          · rw [Nat.min_eq_left hy]
          · rw [Nat.min_eq_right (by omega), List.take_of_length_le (by simp; omega), List.take_of_length_le (by simp)]
        rw [e3]
        have hqI : min (y : Int) ((sd.size : Int) - (x : Int)) = (q : Int) := by omega
        have hq1 : x + q ≤ sd.size := by omega
        have hqI2 : (x : Int) + (q : Int) ≤ (sd.size : Int) := by omega
        have hq0 : (0 : Int) ≤ (q : Int) := by omega
        have e4 : sd.extract x (x + q) = sd.extract x ((x : Int) + min (y : Int) ((sd.size : Int) - (x : Int))).toNat := by rw [hqI]; congr 1
        rw [e4]
        have hsb : sd.size ≤ 65536 := by omega
        clear e3 e4 hqI hq hsl
        go_enter Tryz.func43, Tryz.ntmps43
        go_wp2_with fail
        refine hfile.out.mono ?_
        rintro e w1 ⟨rfl, rfl⟩
        go_wp2_with fail
        go_returns
        exact ⟨rfl, rfl⟩
  · have e1 : readE σ i at' n = fileE σ i := by unfold readE; rw [if_pos hE]
    have e2 : readB σ i at' n = [] := by unfold readB; rw [if_pos (by rw [e1]; exact hE)]
    rw [e1, e2]
    generalize fileE σ i = E at *
    clear e1 e2
    go_enter Tryz.func43, Tryz.ntmps43
    go_wp2_with fail
    refine hfile.out.mono ?_
    rintro e w1 ⟨rfl, rfl⟩
    go_wp2_with fail
    go_returns
    exact ⟨rfl, rfl⟩
theorem setR_err {σ : FSt} {i : Nat} {n : Nd} {s : List UInt8} (h : ¬ fits σ n s.length) : setR σ i n s = (28, σ) := by unfold setR; rw [if_neg h]
theorem setR_ok {σ : FSt} {i : Nat} {n : Nd} {s : List UInt8} (h : fits σ n s.length) : setR σ i n s = (0, σ.put i (some { n with data := s })) := by unfold setR; rw [if_pos h]
set_option maxRecDepth 100000 in
set_option maxHeartbeats 2000000 in
theorem rtrunc_any (w : World) (g : Nat) (σ : FSt) (S : Nat → Prop) (h : RfAt w g σ S) (hG : RG σ) (i n : Int) (hi : -9223372036854775808 ≤ i ∧ i ≤ 9223372036854775807) (hn : -9223372036854775808 ≤ n ∧ n ≤ 9223372036854775807) :
    Calls Tryz.prog 45 #[.pointer (some ⟨g, 0, none⟩), .int .i64 i, .int .i64 n] w (RmutPost g (truncR σ i n).2 S (.int .i64 (truncR σ i n).1) w) := by
  have hlen := hG.live.len
  have hbyts := hG.live.byts
  have hfile := hide (rfile_any w g σ S h (by omega) i hi)
  by_cases hE : fileE σ i = 0
  · obtain ⟨k, nd, rfl, hk, hd⟩ := fileE_zero hE
    rw [hE] at hfile
    have hdl := byts_nd hk
    have hdef : truncR σ k n = if n < 0 then (22, σ) else if 65536 < n then (28, σ) else if fits σ nd n.toNat then (0, sizeS σ k nd n.toNat) else (28, σ) := by
      unfold truncR
      rw [ndI_nat hk]
      simp only [hd, Bool.false_eq_true, if_false, Int.toNat_natCast]
    rw [hdef]
    have H := hide h
    by_cases hneg : n < 0
    · rw [if_pos hneg]
      clear hdef hk hd h
      go_enter Tryz.func45, Tryz.ntmps45
      go_wp2_with fail
      refine hfile.out.mono ?_
      rintro e w1 ⟨rfl, rfl⟩
      go_wp2_with fail
      go_returns
      exact ⟨rfl, H.out, Fr.refl _ _⟩
    · rw [if_neg hneg]
      by_cases hbig : 65536 < n
      · rw [if_pos hbig]
        clear hdef hk hd h
        go_enter Tryz.func45, Tryz.ntmps45
        go_wp2_with fail
        refine hfile.out.mono ?_
        rintro e w1 ⟨rfl, rfl⟩
        go_wp2_with fail
        go_returns
        exact ⟨rfl, H.out, Fr.refl _ _⟩
      · rw [if_neg hbig]
        obtain ⟨x, rfl⟩ : ∃ x : Nat, n = x := ⟨n.toNat, by omega⟩
        rw [Int.toNat_natCast]
        obtain ⟨nb, cap, na, nc, ia, ic, c0, hnb, hk1, hk0, ⟨-, -, -, -, -, q5, -, -⟩, -, -, -⟩ := h.open hk
        obtain ⟨sd, hsd⟩ : ∃ sd, sd = baL nd.data := ⟨_, rfl⟩
        have hsl : sd.size = nd.data.length := by rw [hsd]; rfl
        have hsl2 : sd.data.toList = nd.data := by rw [hsd]; rfl
        rw [← hsd] at q5
        have hfin := hide (show ∀ (u : ByteArray) w1, u.data.toList = resize nd.data x → Fr (fun _ => False) w w1 → Calls Tryz.prog 84 #[.pointer (some ⟨g, 0, none⟩), .int .i64 k, .string u] w1 (fun e w2 => ∃ E : Int, e = .returned (.int .i64 E) ∧ RmutPost g (if fits σ nd x then ((0 : Int), sizeS σ k nd x) else (28, σ)).2 S (.int .i64 ((if fits σ nd x then ((0 : Int), sizeS σ k nd x) else (28, σ)).1)) w (.returned (.int .i64 E)) w2) from fun u w1 hu hf => by
          have hul : u.data.toList.length = x := by rw [hu, resize_length]
          refine (rset_any w1 g σ S (H.out.frame hf (fun _ _ _ e => e)) hG k nd hk u (by rw [← ba_len, hul]; omega)).mono ?_
          rintro e w2 ⟨rfl, h2, h3⟩
          have he : setR σ k nd u.data.toList = if fits σ nd x then (0, sizeS σ k nd x) else (28, σ) := by unfold setR; rw [hul, hu]; rfl
          rw [he] at h2 ⊢
          exact ⟨_, rfl, rfl, h2, hf.no.trans h3⟩)
        generalize (if fits σ nd x then ((0 : Int), sizeS σ k nd x) else (28, σ)) = res at *
        clear hdef hd h hsd
        by_cases hx : sd.size < x
        · obtain ⟨q, hq⟩ : ∃ q, q = x - sd.size := ⟨_, rfl⟩
          have hz := rzeros_any w q (by omega) (by omega)
          rw [show ((q : Nat) : Int) = (x : Int) - (sd.size : Int) by omega] at hz
          have Hz := hide hz
          obtain ⟨z, hzz⟩ : ∃ z, z = baL (List.replicate q 0) := ⟨_, rfl⟩
          have hzl : z.size = q := by rw [hzz]; show (List.replicate q 0).length = q; simp
          have hu : (sd ++ z).data.toList = resize nd.data x := by
            rw [ba_append, hsl2, hzz]
            unfold resize
            rw [if_neg (by omega), ← hsl, ← hq]
            rfl
          have hxI : (sd.size : Int) < (x : Int) := by omega
          have hus : sd.size + z.size ≤ 200000 := by omega
          have Hu := hide hu
          have Hzz := hide hzz
          clear hz hu hzz hk hsl hsl2 hzl hq
          go_enter Tryz.func45, Tryz.ntmps45
          go_wp2_with fail
          refine hfile.out.mono ?_
          rintro e w1 ⟨rfl, hw1⟩
          rw [hw1]
          clear hw1
          go_wp2_with fail
          refine Hz.out.mono ?_
          rintro e w2 ⟨rfl, hf2⟩
          rw [← Hzz.out]
          have hset := hide (hfin.out (sd ++ z) w2 Hu.out hf2)
          clear Hz hf2
          go_wp2_with fail
          refine hset.out.mono ?_
          rintro e w3 ⟨E, rfl, hr⟩
          have Hr := hide hr
          clear hr
          go_wp2_with fail
          go_returns
          exact Hr.out
        · have hxI : ¬ (sd.size : Int) < (x : Int) := by omega
          have hu : (sd.extract 0 x).data.toList = resize nd.data x := by
            rw [ba_extract, hsl2]
            unfold resize
            rw [if_pos (by omega)]
            simp
          have hset := hide (hfin.out (sd.extract 0 x) w hu (Fr.refl _ _))
          clear hu hfin hk hsl hsl2
          go_enter Tryz.func45, Tryz.ntmps45
          go_wp2_with fail
          refine hfile.out.mono ?_
          rintro e w1 ⟨rfl, hw1⟩
          rw [hw1]
          clear hw1
          go_wp2_with fail
          refine hset.out.mono ?_
          rintro e w3 ⟨E, rfl, hr⟩
          have Hr := hide hr
          clear hr
          go_wp2_with fail
          go_returns
          exact Hr.out
  · rw [truncR_err hE]
    generalize fileE σ i = E at *
    have H := hide h
    clear h
    go_enter Tryz.func45, Tryz.ntmps45
    go_wp2_with fail
    refine hfile.out.mono ?_
    rintro e w1 ⟨rfl, rfl⟩
    go_wp2_with fail
    go_returns
    exact ⟨rfl, H.out, Fr.refl _ _⟩
end Go.Proofs.YthikjdpnlahkfaaGreatDoor

/- shyardref08.FS.Write. Conditions: the contract's own premises. -/
namespace Go.Proofs.YthikjdpnlahkfaaGreatDoor
open Go.RowKit

def rwrote (l : List UInt8) (a : Nat) (s : List UInt8) : List UInt8 := overwrite (resize l (max l.length (a + s.length))) a s
theorem rwrote_len {l : List UInt8} {a : Nat} {s : List UInt8} : (rwrote l a s).length = max l.length (a + s.length) := by
  unfold rwrote overwrite
  have h := resize_length l (max l.length (a + s.length))
  have h2 := Nat.le_max_right l.length (a + s.length)
  rw [List.length_append, List.length_append, List.length_take, List.length_drop, h]
  omega
theorem rwrote_far {l : List UInt8} {a : Nat} {s : List UInt8} (h : l.length < a) : rwrote l a s = (l ++ List.replicate (a - l.length) 0) ++ s := by
  have hm : max l.length (a + s.length) = a + s.length := Nat.max_eq_right (by omega)
  unfold rwrote overwrite resize
  rw [hm]
  by_cases h0 : a + s.length ≤ l.length
  · omega
  · rw [if_neg h0, List.take_append, List.take_of_length_le (by omega), List.take_replicate, Nat.min_eq_left (by omega), List.drop_of_length_le (by simp; omega), List.append_nil]
theorem rwrote_in {l : List UInt8} {a : Nat} {s : List UInt8} (h : a + s.length ≤ l.length) : rwrote l a s = (l.take a ++ s) ++ l.drop (a + s.length) := by
  have hm : max l.length (a + s.length) = l.length := Nat.max_eq_left (by omega)
  unfold rwrote overwrite resize
  rw [hm, if_pos (Nat.le_refl _), List.take_length]
theorem rwrote_end {l : List UInt8} {a : Nat} {s : List UInt8} (h0 : a ≤ l.length) (h : l.length ≤ a + s.length) : rwrote l a s = (l.take a ++ s) := by
  have hm : max l.length (a + s.length) = a + s.length := Nat.max_eq_right (by omega)
  unfold rwrote overwrite resize
  rw [hm]
  by_cases h1 : a + s.length ≤ l.length
  · rw [if_pos h1, List.take_of_length_le (l := l) (by omega), List.drop_of_length_le (by omega), List.append_nil]
  · rw [if_neg h1, List.take_append_of_le_length h0, List.drop_of_length_le (by simp; omega), List.append_nil]
theorem writeR_set {σ : FSt} {k : Nat} {nd : Nd} (hk : σ.nd k = some nd) (hd : nd.d = false) {a : Nat} {s : List UInt8} (ha : a ≤ 65536) (hs : s.length ≤ 65536) (hne : s ≠ []) :
    writeR σ k a s = if fits σ nd (rwrote nd.data a s).length then ((s.length : Int), 0, (setR σ k nd (rwrote nd.data a s)).2) else (0, 28, σ) := by
  unfold writeR
  rw [ndI_nat hk, rwrote_len]
  simp only [Int.toNat_natCast]
  rw [if_neg (by rw [hd]; decide), if_neg (by omega), if_neg (by omega), if_neg hne]
  by_cases h : fits σ nd (max nd.data.length (a + s.length))
  · rw [if_pos h, if_pos h, setR_ok (by rw [rwrote_len]; exact h)]
    congr 2
    unfold overS' sizeS FSt.put
    rw [List.set_set]
    rfl
  · rw [if_neg h, if_neg h]
set_option maxRecDepth 100000 in
set_option maxHeartbeats 4000000 in
theorem rwrite_any (w : World) (g : Nat) (σ : FSt) (S : Nat → Prop) (h : RfAt w g σ S) (hG : RG σ) (i x : Int) (s : ByteArray) (hi : -9223372036854775808 ≤ i ∧ i ≤ 9223372036854775807) (hx : -9223372036854775808 ≤ x ∧ x ≤ 9223372036854775807) (hs : s.size ≤ 9223372036854775807) :
    Calls Tryz.prog 44 #[.pointer (some ⟨g, 0, none⟩), .int .i64 i, .int .i64 x, .string s] w (RmutPost g (writeR σ i x s.data.toList).2.2 S (.tuple #[.int .i64 (writeR σ i x s.data.toList).1, .int .i64 (writeR σ i x s.data.toList).2.1]) w) := by
  have hlen := hG.live.len
  have hbyts := hG.live.byts
  have hfile := hide (rfile_any w g σ S h (by omega) i hi)
  have H := hide h
  have hbl := ba_len s
  by_cases hE : fileE σ i = 0
  · obtain ⟨k, nd, rfl, hk, hd⟩ := fileE_zero hE
    rw [hE] at hfile
    have hdl := byts_nd hk
    by_cases hneg : x < 0
    · have hr : writeR σ k x s.data.toList = (0, 22, σ) := by
        unfold writeR
        rw [ndI_nat hk]
        simp only [hd, Bool.false_eq_true, if_false, if_pos hneg]
      rw [hr]
      clear hr hk hd h
      go_enter Tryz.func44, Tryz.ntmps44
      go_wp2_with fail
      refine hfile.out.mono ?_
      rintro e w1 ⟨rfl, rfl⟩
      go_wp2_with fail
      go_returns
      exact ⟨rfl, H.out, Fr.refl _ _⟩
    · by_cases hbig : 65536 < x ∨ 65536 < s.size
      · have hr : writeR σ k x s.data.toList = (0, 28, σ) := by
          unfold writeR
          rw [ndI_nat hk]
          simp only [hd, Bool.false_eq_true, if_false, if_neg hneg]
          rw [if_pos (by rw [hbl]; exact hbig)]
        rw [hr]
        clear hr hk hd h
        rcases hbig with hbig | hbig
        · go_enter Tryz.func44, Tryz.ntmps44
          go_wp2_with fail
          refine hfile.out.mono ?_
          rintro e w1 ⟨rfl, rfl⟩
          go_wp2_with fail
          go_returns
          exact ⟨rfl, H.out, Fr.refl _ _⟩
        · have hsI : (65536 : Int) < (s.size : Int) := by omega
          by_cases hxb : 65536 < x
          · go_enter Tryz.func44, Tryz.ntmps44
            go_wp2_with fail
            refine hfile.out.mono ?_
            rintro e w1 ⟨rfl, rfl⟩
            go_wp2_with fail
            go_returns
            exact ⟨rfl, H.out, Fr.refl _ _⟩
          · go_enter Tryz.func44, Tryz.ntmps44
            go_wp2_with fail
            refine hfile.out.mono ?_
            rintro e w1 ⟨rfl, rfl⟩
            go_wp2_with fail
            go_returns
            exact ⟨rfl, H.out, Fr.refl _ _⟩
      · have hb1 : ¬ 65536 < x := fun e => hbig (.inl e)
        have hb2 : ¬ 65536 < s.size := fun e => hbig (.inr e)
        have hb2I : ¬ (65536 : Int) < (s.size : Int) := by omega
        obtain ⟨a, rfl⟩ : ∃ a : Nat, x = a := ⟨x.toNat, by omega⟩
        by_cases hnil : s.data.toList = []
        · have hr : writeR σ k a s.data.toList = (0, 0, σ) := by
            unfold writeR
            rw [ndI_nat hk]
            simp only [hd, Bool.false_eq_true, if_false]
            rw [if_neg (by omega), if_neg (by omega), if_pos hnil]
          rw [hr]
          have hs0 : s = ⟨#[]⟩ := ba_of_data hnil
          clear hr hk hd h hnil hbl
          subst hs0
          go_enter Tryz.func44, Tryz.ntmps44
          go_wp2_with fail
          refine hfile.out.mono ?_
          rintro e w1 ⟨rfl, rfl⟩
          go_wp2_with fail
          go_returns
          exact ⟨rfl, H.out, Fr.refl _ _⟩
        · have hr := writeR_set hk hd (a := a) (s := s.data.toList) (by omega) (by omega) hnil
          have hemp := ba_nonempty hnil
          have hspos : 0 < s.size := by rw [← hbl]; exact List.length_pos_iff.2 hnil
          obtain ⟨nb, cap, na, nc, ia, ic, c0, hnb, hk1, hk0, ⟨-, -, -, -, -, q5, -, -⟩, -, -, -⟩ := h.open hk
          obtain ⟨sd, hsd⟩ : ∃ sd, sd = baL nd.data := ⟨_, rfl⟩
          have hsl : sd.size = nd.data.length := by rw [hsd]; rfl
          have hsl2 : sd.data.toList = nd.data := by rw [hsd]; rfl
          rw [← hsd] at q5
          have hsb : sd.size ≤ 65536 := by omega
          have hfin := hide (show ∀ (u : ByteArray) w1, u.data.toList = rwrote nd.data a s.data.toList → Fr (fun _ => False) w w1 → Calls Tryz.prog 84 #[.pointer (some ⟨g, 0, none⟩), .int .i64 k, .string u] w1 (fun e w2 =>
              (e = .returned (.int .i64 0) ∧ RmutPost g (writeR σ k a s.data.toList).2.2 S (.tuple #[.int .i64 (writeR σ k a s.data.toList).1, .int .i64 (writeR σ k a s.data.toList).2.1]) w (.returned (.tuple #[.int .i64 s.size, .int .i64 0])) w2) ∨
              (e = .returned (.int .i64 28) ∧ RmutPost g (writeR σ k a s.data.toList).2.2 S (.tuple #[.int .i64 (writeR σ k a s.data.toList).1, .int .i64 (writeR σ k a s.data.toList).2.1]) w (.returned (.tuple #[.int .i64 0, .int .i64 28])) w2)) from fun u w1 hu hf => by
            have hul : u.data.toList.length = max nd.data.length (a + s.data.toList.length) := by rw [hu, rwrote_len]
            refine (rset_any w1 g σ S (H.out.frame hf (fun _ _ _ e => e)) hG k nd hk u (by rw [← ba_len, hul]; omega)).mono ?_
            rintro e w2 ⟨rfl, h2, h3⟩
            rw [hu] at h2 ⊢
            rw [hr]
            by_cases hfit : fits σ nd (rwrote nd.data a s.data.toList).length
            · rw [if_pos hfit, setR_ok hfit]
              rw [setR_ok hfit] at h2
              exact .inl ⟨rfl, by rw [hbl]; exact ⟨rfl, h2, hf.no.trans h3⟩⟩
            · rw [if_neg hfit, setR_err hfit]
              rw [setR_err hfit] at h2
              exact .inr ⟨rfl, rfl, h2, hf.no.trans h3⟩)
          generalize writeR σ k a s.data.toList = res at *
          rw [← hsl2, ] at hfin
          have hnil0 : (s.toList == ([] : List UInt8)) = false := by rw [ByteArray.toList_eq]; simpa using hnil
          have hsdl := ba_len sd
          clear hr hd h hsd hk hsl hsl2 hdl hnil hbig
          by_cases hx : sd.size < a
          · obtain ⟨q, hq⟩ : ∃ q, q = a - sd.size := ⟨_, rfl⟩
            have hz := rzeros_any w q (by omega) (by omega)
            rw [show ((q : Nat) : Int) = (a : Int) - (sd.size : Int) by omega] at hz
            have Hz := hide hz
            obtain ⟨z, hzz⟩ : ∃ z, z = baL (List.replicate q 0) := ⟨_, rfl⟩
            have hzl : z.size = q := by rw [hzz]; show (List.replicate q 0).length = q; simp
            have hxI : (sd.size : Int) < (a : Int) := by omega
            have hne1 : ¬ ((a : Int) + (s.size : Int) < (sd.size : Int) + (z.size : Int)) := by omega
            have hle1 : (a : Int) ≤ (sd.size : Int) + (z.size : Int) := by omega
            have hu : (((sd ++ z).extract 0 a ++ s) ++ (⟨#[]⟩ : ByteArray)).data.toList = rwrote sd.data.toList a s.data.toList := by
              rw [rwrote_far (by omega), ba_append, ba_append, ba_extract, ba_append, hzz]
              have : List.take (a - 0) (List.drop 0 (sd.data.toList ++ (baL (List.replicate q 0)).data.toList)) = sd.data.toList ++ List.replicate q 0 := by
                rw [List.drop_zero, List.take_of_length_le (by rw [List.length_append]; show _ + (List.replicate q 0).length ≤ _; simp; omega)]
                rfl
              rw [this, hsdl, ← hq]
              simp
            have Hu := hide hu
            have Hzz := hide hzz
            have hus : sd.size + z.size ≤ 200000 := by omega
            clear hz hu hzz hq hzl
            go_enter Tryz.func44, Tryz.ntmps44
            go_wp2_with fail
            refine hfile.out.mono ?_
            rintro e w1 ⟨rfl, hw1⟩
            rw [hw1]
            clear hw1
            go_wp2_with fail
            refine Hz.out.mono ?_
            rintro e w2 ⟨rfl, hf2⟩
            rw [← Hzz.out]
            have hset := hide (hfin.out _ w2 Hu.out hf2)
            clear Hz hf2
            go_wp2_with fail
            refine hset.out.mono ?_
            rintro e w3 (⟨rfl, hr⟩ | ⟨rfl, hr⟩)
            · have Hr := hide hr
              clear hr
              go_wp2_with fail
              go_returns
              exact Hr.out
            · have Hr := hide hr
              clear hr
              go_wp2_with fail
              go_returns
              exact Hr.out
          · have hxI : ¬ (sd.size : Int) < (a : Int) := by omega
            by_cases hin : a + s.size < sd.size
            · have hinI : (a : Int) + (s.size : Int) < (sd.size : Int) := by omega
              have hu : ((sd.extract 0 a ++ s) ++ sd.extract (a + s.size) sd.size).data.toList = rwrote sd.data.toList a s.data.toList := by
                rw [rwrote_in (by omega), ba_append, ba_append, ba_extract, ba_extract, hbl, List.take_of_length_le (l := sd.data.toList.drop (a + s.size)) (by simp)]
                simp
              have hset := hide (hfin.out _ w hu (Fr.refl _ _))
              clear hu hfin
              go_enter Tryz.func44, Tryz.ntmps44
              go_wp2_with fail
              refine hfile.out.mono ?_
              rintro e w1 ⟨rfl, hw1⟩
              rw [hw1]
              clear hw1
              go_wp2_with fail
              refine hset.out.mono ?_
              rintro e w3 (⟨rfl, hr⟩ | ⟨rfl, hr⟩)
              · have Hr := hide hr
                clear hr
                go_wp2_with fail
                go_returns
                exact Hr.out
              · have Hr := hide hr
                clear hr
                go_wp2_with fail
                go_returns
                exact Hr.out
            · have hinI : ¬ (a : Int) + (s.size : Int) < (sd.size : Int) := by omega
              have hu : ((sd.extract 0 a ++ s) ++ (⟨#[]⟩ : ByteArray)).data.toList = rwrote sd.data.toList a s.data.toList := by
                rw [rwrote_end (by omega) (by omega), ba_append, ba_append, ba_extract]
                simp
              have hset := hide (hfin.out _ w hu (Fr.refl _ _))
              clear hu hfin
              go_enter Tryz.func44, Tryz.ntmps44
              go_wp2_with fail
              refine hfile.out.mono ?_
              rintro e w1 ⟨rfl, hw1⟩
              rw [hw1]
              clear hw1
              go_wp2_with fail
              refine hset.out.mono ?_
              rintro e w3 (⟨rfl, hr⟩ | ⟨rfl, hr⟩)
              · have Hr := hide hr
                clear hr
                go_wp2_with fail
                go_returns
                exact Hr.out
              · have Hr := hide hr
                clear hr
                go_wp2_with fail
                go_returns
                exact Hr.out
  · rw [writeR_err hE]
    generalize fileE σ i = E at *
    clear h
    go_enter Tryz.func44, Tryz.ntmps44
    go_wp2_with fail
    refine hfile.out.mono ?_
    rintro e w1 ⟨rfl, rfl⟩
    go_wp2_with fail
    go_returns
    exact ⟨rfl, H.out, Fr.refl _ _⟩
end Go.Proofs.YthikjdpnlahkfaaGreatDoor
