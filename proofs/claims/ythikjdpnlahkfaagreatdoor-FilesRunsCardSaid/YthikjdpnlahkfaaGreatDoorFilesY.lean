/- files.FS.Stat, List. Conditions: the contracts' own premises. -/
import Derived.Test.YthikjdpnlahkfaaGreatDoorFilesX
import Derived.Test.YthikjdpnlahkfaaGreatDoorFilesAsk
namespace Go.Proofs.YthikjdpnlahkfaaGreatDoor
open Go.RowKit

def statT (σ : FSt) (i : Int) : StQ := match σ.ndI i with | none => noSt | some n => ⟨i, if n.d then 2 else 1, n.mode, n.links, (n.data.length : Int) + (n.ents.length : Int)⟩
def statE (σ : FSt) (i : Int) : Int := match σ.ndI i with | none => 9 | some _ => 0
set_option maxRecDepth 100000 in
set_option maxHeartbeats 2000000 in
theorem Stat_any (w : World) (f : Nat) (σ : FSt) (S : Nat → Prop) (p : Nat → Nat) (h : FilesAt w f σ S p) (hcap : CapB σ) (i : Int) (hi : -9223372036854775808 ≤ i ∧ i ≤ 9223372036854775807) :
    Calls Tryz.prog 30 #[.pointer (some ⟨f, 0, none⟩), .int .i64 i] w fun e w' => e = .returned (.tuple #[stV (statT σ i), .int .i64 (statE σ i)]) ∧ Fr (fun _ => False) w w' := by
  obtain ⟨w1, hw1⟩ : ∃ w1, w1 = w.alloc (.cells #[.int .i64 0, .int .i64 0, .int .i64 0, .int .i64 0, .int .i64 0] 31 (0, 0)) := ⟨_, rfl⟩
  have hf1 : Fr (fun _ => False) w w1 := by rw [hw1]; exact (Fr.refl _ _).alloc _
  have hb1 : w1.heap[w.heap.size]? = some (.cells #[.int .i64 0, .int .i64 0, .int .i64 0, .int .i64 0, .int .i64 0] 31 (0, 0)) := by rw [hw1]; exact blk_new _ _
  have hA := h.frame hf1 (fun _ _ _ e => e)
  have hget := hide (fget_any w1 f σ S p hA i hi)
  cases hn : σ.ndI i with
  | none =>
    rw [show statT σ i = noSt by unfold statT; rw [hn], show statE σ i = 9 by unfold statE; rw [hn]]
    rw [ptrI_none hn] at hget
    clear hn hA hb1
    subst hw1
    go_enter Tryz.func30, Tryz.ntmps30
    go_wp2_with fail
    refine hget.out.mono ?_
    rintro e w2 ⟨rfl, rfl⟩
    clear hget
    go_wp2_with fail
    go_returns
    exact ⟨rfl, (Fr.refl _ _).alloc _⟩
  | some n =>
    obtain ⟨k, rfl, hk⟩ := ndI_some hn
    rw [show statT σ k = ⟨k, if n.d then 2 else 1, n.mode, n.links, (n.data.length : Int) + (n.ents.length : Int)⟩ by unfold statT; rw [hn], show statE σ k = 0 by unfold statE; rw [hn]]
    rw [ptrI_nat hk] at hget
    obtain ⟨dk, ek, pk, hN⟩ := hA.node hk
    obtain ⟨da, dc, hdv⟩ := hN.data.form
    have hlen : ∃ mo, ek = .map mo ∧ ∀ ty, (Builtin.len_ #[55] ty #[.map mo]).run Tryz.prog w1.drew = .ok (.int .i64 n.ents.length) w1.drew := by
      cases hd : n.d with
      | true =>
        obtain ⟨-, mk, hmk, hsm⟩ := hN.dir hd
        refine ⟨some mk, hmk, fun ty => ?_⟩
        rw [(hsm.frame (Fr.refl (fun _ => False) w1).drew (fun e => e)).len (t := 55) Tryz.underlying55 ty, kmap_length]
      | false =>
        obtain ⟨h1, h2⟩ := hN.file hd
        exact ⟨none, h1, fun ty => by rw [h2]; kernel_rfl⟩
    obtain ⟨mo, rfl, hl6⟩ := hlen
    have hbyts := hA.live.byts
    have hdl := byts_nd hk
    have hel := (hcap k n hk).2.2
    have hbd := blk_drew hN.hb
    have c1 : w1.drew.cell? ⟨p k, 1, none⟩ = some (.int .i64 (if n.d then 2 else 1)) := by rw [blk_cell hbd]; rfl
    have c2 : w1.drew.cell? ⟨p k, 2, none⟩ = some (.int .i64 n.mode) := by rw [blk_cell hbd]; rfl
    have c3 : w1.drew.cell? ⟨p k, 3, none⟩ = some (.int .i64 n.links) := by rw [blk_cell hbd]; rfl
    have c5 : w1.drew.cell? ⟨p k, 5, none⟩ = some (.slice da n.data.length dc) := by rw [blk_cell hbd, hdv]; rfl
    have c6 : w1.drew.cell? ⟨p k, 6, none⟩ = some (.map mo) := by rw [blk_cell hbd]; rfl
    obtain ⟨kd, hkd⟩ : ∃ kd : Int, kd = if n.d then 2 else 1 := ⟨_, rfl⟩
    rw [← hkd] at c1 ⊢
    clear hn hA hb1 hN hbd hk hcap h hkd
    subst hw1
    go_enter Tryz.func30, Tryz.ntmps30
    go_wp2_with fail
    refine hget.out.mono ?_
    rintro e w2 ⟨rfl, rfl⟩
    clear hget
    go_wp2_with fail
    refine region_tail 25 (by kernel_rfl) (by kernel_rfl) ?_
    simp only [List.take_succ_cons, List.take_zero, List.drop_succ_cons, List.drop_zero]
    repeat go_big_quiet_step (fail)
    refine wpQuiet_nil ?_
    go_wp2_with fail
    go_returns
    exact ⟨rfl, ((Fr.refl _ _).alloc _).drew⟩
/-- The names of a directory's entries. -/
def namesB (L : KA Nat) : List ByteArray := L.map fun q => ⟨q.1.toArray⟩
def listL (σ : FSt) (i : Int) : List ByteArray := match σ.ndI i with | none => [] | some n => if n.d then namesB n.ents else []
def listE (σ : FSt) (i : Int) : Int := match σ.ndI i with | none => 9 | some n => if n.d then 0 else 20
def ListPost (σ : FSt) (i : Int) (w : World) (e : Ending) (w' : World) : Prop := ∃ v, e = .returned (.tuple #[v, .int .i64 (listE σ i)]) ∧ ArgsV w' (fun k => w.heap.size ≤ k) v (listL σ i) ∧ Fr (fun _ => False) w w'
theorem args_nil (w : World) (S : Nat → Prop) : ArgsV w S (.slice none 0 0) [] := ⟨none, 0, rfl, Nat.le_refl _, fun _ => rfl, .inl rfl⟩
set_option maxRecDepth 100000 in
set_option maxHeartbeats 2000000 in
theorem List_any (w : World) (f : Nat) (σ : FSt) (S : Nat → Prop) (p : Nat → Nat) (h : FilesAt w f σ S p) (hcap : CapB σ) (i : Int) (hi : -9223372036854775808 ≤ i ∧ i ≤ 9223372036854775807) :
    Calls Tryz.prog 31 #[.pointer (some ⟨f, 0, none⟩), .int .i64 i] w (ListPost σ i w) := by
  have hget := hide (fget_any w f σ S p h i hi)
  cases hn : σ.ndI i with
  | none =>
    have hres := hide (show ListPost σ i w (.returned (.tuple #[.slice none 0 0, .int .i64 9])) w from ⟨_, by unfold listE; rw [hn], by unfold listL; rw [hn]; exact args_nil _ _, Fr.refl _ _⟩)
    rw [ptrI_none hn] at hget
    clear hn
    go_enter Tryz.func31, Tryz.ntmps31
    go_wp2_with fail
    refine hget.out.mono ?_
    rintro e w2 ⟨rfl, rfl⟩
    clear hget
    go_wp2_with fail
    go_returns
    exact hres.out
  | some n =>
    obtain ⟨k, rfl, hk⟩ := ndI_some hn
    rw [ptrI_nat hk] at hget
    obtain ⟨dk, ek, pk, hN⟩ := h.node hk
    have hdir := hide (dir_any w p (p k) k n dk ek pk hN)
    cases hd : n.d with
    | false =>
      have hres := hide (show ListPost σ k w (.returned (.tuple #[.slice none 0 0, .int .i64 20])) w from ⟨.slice none 0 0, by unfold listE; rw [hn]; simp [hd], by unfold listL; rw [hn]; simp only [hd, Bool.false_eq_true, if_false]; exact args_nil _ _, Fr.refl _ _⟩)
      rw [hd] at hdir
      clear hn hd
      go_enter Tryz.func31, Tryz.ntmps31
      go_wp2_with fail
      refine hget.out.mono ?_
      rintro e w2 ⟨rfl, rfl⟩
      clear hget
      go_wp2_with fail
      refine hdir.out.mono ?_
      rintro e w2 ⟨rfl, rfl⟩
      go_wp2_with fail
      go_returns
      exact hres.out
    | true =>
      obtain ⟨-, mk, rfl, hsm⟩ := hN.dir hd
      have hel := (hcap k n hk).2.2
      have c6 : w.cell? ⟨p k, 6, none⟩ = some (.map (some mk)) := by rw [blk_cell hN.hb]; rfl
      have hK := hide (callsIn_wide.1 (Tryz.maps_Keys_69 (some mk) w))
      have hS := hide (callsIn_wide.1 (Tryz.slices_Sorted_keys_68_69 mk (kmap (fun _ k => Value.pointer (some ⟨p k, 0, none⟩)) n.ents).length (dOf (kmap (fun _ k => Value.pointer (some ⟨p k, 0, none⟩)) n.ents)) rV w hsm.own (by rw [dOf_size, kmap_length]; unfold maxLen; omega) (by rw [dOf_size, kmap_length]; omega)))
      have hsrt := hide hsm.sorted
      have hdefE : listE σ k = 0 := by unfold listE; rw [hn]; simp [hd]
      have hdefL : listL σ k = namesB n.ents := by unfold listL; rw [hn]; simp [hd]
      have hfin := hide (show ∀ (v : Value) (ss : List (List UInt8)) (w2 : World), ss.Perm (Go.strKeys (dOf (kmap (fun _ k => Value.pointer (some ⟨p k, 0, none⟩)) n.ents))) → w2.ownsRow (w.heap.size + 1) 9 1 v ss.length ((ss.mergeSort (fun x y => decide (x ≤ y))).map encStr) → Fr (fun _ => False) w w2 → ListPost σ k w (.returned (.tuple #[v, .int .i64 0])) w2 from fun v ss w2 h1 h2 h3 => by
        rw [dOf_keys] at h1
        rw [sorted_keys hsrt.out h1, kmap_keys] at h2
        refine ⟨v, by rw [hdefE], ?_, h3⟩
        rw [hdefL]
        refine own_args (base := w.heap.size + 1) (n := ss.length) ?_ (by rw [h1.length_eq]; simp [namesB, kmap_length]) (fun q hq => by omega)
        have e : strs (namesB n.ents) = (n.ents.map (·.1)).map encStr := by simp [strs, namesB, encStr]
        rw [e]
        exact h2)
      rw [hd] at hdir
      clear hn hd hN hsm hdefE hdefL hel
      go_enter Tryz.func31, Tryz.ntmps31
      go_wp2_with fail
      refine hget.out.mono ?_
      rintro e w2 ⟨rfl, rfl⟩
      clear hget
      go_wp2_with fail
      refine hdir.out.mono ?_
      rintro e w2 ⟨rfl, rfl⟩
      go_wp2_with fail
      refine hK.out.mono ?_
      rintro e w2 ⟨rfl, rfl⟩
      clear hK
      go_wp2_with fail
      refine hS.out.mono ?_
      rintro e w2 ⟨v, ss, rfl, hp, hrow, _, hb2⟩
      have hres := hide (hfin.out v ss w2 hp (by simpa using hrow) (((Fr.refl _ _).alloc _).trans (Fr.of_below hb2 _)))
      obtain ⟨va, vc, rfl⟩ := own_form hrow
      clear hS hfin hp hrow hb2
      go_wp2_with fail
      go_returns
      exact hres.out
end Go.Proofs.YthikjdpnlahkfaaGreatDoor
