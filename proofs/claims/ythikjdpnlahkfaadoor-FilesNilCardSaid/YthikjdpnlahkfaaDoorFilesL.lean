/- files.FS.file, size. Conditions: the contracts' own premises. -/
import Derived.Test.YthikjdpnlahkfaaDoorFilesK
namespace Go.Proofs.YthikjdpnlahkfaaDoor
open Go.RowKit

def fileE (σ : FSt) (i : Int) : Int := match σ.ndI i with | none => 9 | some n => if n.d then 21 else 0
set_option maxRecDepth 100000 in
theorem file_any (w : World) (f : Nat) (σ : FSt) (S : Nat → Prop) (p : Nat → Nat) (h : FilesAt w f σ S p) (i : Int) (hi : -9223372036854775808 ≤ i ∧ i ≤ 9223372036854775807) :
    Calls Tryd.prog 34 #[.pointer (some ⟨f, 0, none⟩), .int .i64 i] w fun e w' => ∃ a, e = .returned (.tuple #[.pointer a, .int .i64 (fileE σ i)]) ∧ w = w' ∧ (fileE σ i = 0 → a = some ⟨p i.toNat, 0, none⟩) := by
  have hget := fget_any w f σ S p h i hi
  cases hn : σ.ndI i with
  | none =>
    rw [show ptrI σ p i = .pointer none by unfold ptrI; rw [hn]] at hget
    rw [show fileE σ i = 9 by unfold fileE; rw [hn]]
    go_enter Tryd.func34, Tryd.ntmps34
    go_wp2_with fail
    refine hget.mono ?_
    rintro e w' ⟨rfl, rfl⟩
    clear hget
    go_wp2_with fail
    go_returns
    exact ⟨_, rfl, rfl, fun e => by cases e⟩
  | some n =>
    obtain ⟨k, rfl, hk⟩ : ∃ k : Nat, i = k ∧ σ.nd k = some n := by
      unfold FSt.ndI at hn
      split at hn
      · exact ⟨i.toNat, by omega, hn⟩
      · cases hn
    rw [show ptrI σ p (k : Int) = .pointer (some ⟨p k, 0, none⟩) by unfold ptrI; rw [hn]; simp] at hget
    obtain ⟨dvn, evn, pvn, hnd⟩ := h.node hk
    have hdir := dir_any w p (p k) k n dvn evn pvn hnd
    cases hd : n.d with
    | true =>
      rw [show fileE σ (k : Int) = 21 by unfold fileE; rw [hn]; simp [hd]]
      rw [hd] at hdir
      go_enter Tryd.func34, Tryd.ntmps34
      go_wp2_with fail
      refine hget.mono ?_
      rintro e w' ⟨rfl, rfl⟩
      clear hget
      go_wp2_with fail
      refine hdir.mono ?_
      rintro e w' ⟨rfl, rfl⟩
      clear hdir
      go_wp2_with fail
      go_returns
      exact ⟨_, rfl, rfl, fun e => by cases e⟩
    | false =>
      rw [show fileE σ (k : Int) = 0 by unfold fileE; rw [hn]; simp [hd]]
      rw [hd] at hdir
      go_enter Tryd.func34, Tryd.ntmps34
      go_wp2_with fail
      refine hget.mono ?_
      rintro e w' ⟨rfl, rfl⟩
      clear hget
      go_wp2_with fail
      refine hdir.mono ?_
      rintro e w' ⟨rfl, rfl⟩
      clear hdir
      go_wp2_with fail
      go_returns
      exact ⟨_, rfl, rfl, fun e => by simp⟩
theorem fileE_zero {σ : FSt} {i : Int} (h : fileE σ i = 0) : ∃ (k : Nat) (n : Nd), i = k ∧ σ.nd k = some n ∧ n.d = false := by
  unfold fileE at h
  cases hn : σ.ndI i with
  | none => rw [hn] at h; simp at h
  | some n =>
    rw [hn] at h
    unfold FSt.ndI at hn
    split at hn
    · refine ⟨i.toNat, n, by omega, hn, ?_⟩
      cases hd : n.d with
      | false => rfl
      | true => simp [hd] at h
    · cases hn
def resize (l : List UInt8) (k : Nat) : List UInt8 := if k ≤ l.length then l.take k else l ++ List.replicate (k - l.length) 0
theorem resize_length (l : List UInt8) (k : Nat) : (resize l k).length = k := by
  unfold resize
  split
  · rw [List.length_take]; omega
  · simp; omega
def sizeS (σ : FSt) (i : Nat) (n : Nd) (k : Nat) : FSt := σ.put i (some { n with data := resize n.data k })
theorem sizeS_byts {σ : FSt} {i : Nat} {n : Nd} (hn : σ.nd i = some n) (k : Nat) : (sizeS σ i n k).byts + n.data.length = σ.byts + k := by
  have := FSt.byts_put hn (some { n with data := resize n.data k })
  rw [show ndLen (some { n with data := resize n.data k }) = k from resize_length _ _] at this
  exact this
theorem sizeS_live {σ : FSt} {i : Nat} {n : Nd} (h : Live σ) (hn : σ.nd i = some n) (hd : n.d = false) (k : Nat) (hb : σ.byts + k ≤ 65536 + n.data.length) : Live (sizeS σ i n k) := by
  refine h.put hn rfl ?_ (h.ents i n hn) (fun e => by rw [hd] at e; cases e) ?_ (h.names i n hn)
  · intro e
    obtain ⟨r, h1, h2, _⟩ := h.root
    subst e
    rw [hn] at h1
    cases h1
    rw [hd] at h2
    cases h2
  · have := sizeS_byts hn k
    unfold sizeS at this
    omega
theorem cut_hm {a : Option Addr} {n cap k : Nat} (hk : k ≤ n) (hn : n ≤ cap) : ∀ w', (Instr.sliceAt 71 (.slice a n cap) none (some (.int .i64 k)) (some (.int .i64 k))).run Tryd.prog w' = .ok (.slice a k k) w' := by
  intro w'
  have hsz : ∀ w', (sizeOf 5).run Tryd.prog w' = .ok 1 w' := fun w' => by kernel_rfl
  have he : Tryd.prog.elem 71 = 5 := by kernel_rfl
  have ht : Tryd.prog.underlying 71 = some (.slice (Tryd.prog.elem 71)) := by kernel_rfl
  rw [run_sliceAt_slice (h := ht), run_slice_hm (ht := ht) (h0 := by omega) (h2 := by omega) (h3 := by omega), he, hsz]
  cases a <;> simp [sliced, Addr.add]
def SizePost (f : Nat) (σ : FSt) (S : Nat → Prop) (p : Nat → Nat) (i : Nat) (n : Nd) (k : Nat) (w : World) (e : Ending) (w' : World) : Prop :=
  (σ.byts + k ≤ 65536 + n.data.length → e = .returned (.int .i64 0) ∧ FilesAt w' f (sizeS σ i n k) S p ∧ Fr S w w') ∧ (¬ σ.byts + k ≤ 65536 + n.data.length → e = .returned (.int .i64 28) ∧ FilesAt w' f σ S p ∧ Fr S w w')
set_option maxRecDepth 100000 in
set_option maxHeartbeats 4000000 in
theorem size_any (w : World) (f : Nat) (σ : FSt) (S : Nat → Prop) (p : Nat → Nat) (h : FilesAt w f σ S p) (i : Nat) (n : Nd) (hn : σ.nd i = some n) (hnf : n.d = false) (k : Nat) (hk : k ≤ 200000) :
    Calls Tryd.prog 35 #[.pointer (some ⟨f, 0, none⟩), .pointer (some ⟨p i, 0, none⟩), .int .i64 k] w (SizePost f σ S p i n k w) := by
  have hh := h
  obtain ⟨dv, ev, pv, lv, hF⟩ := h
  have hN := hF.nd i n hn
  obtain ⟨da, dc, hdv⟩ := hN.data.form
  have hlive := hF.live
  have hbyts := hlive.byts
  have hdl := byts_nd hn
  have c3 : w.cell? ⟨f, 3, none⟩ = some (.int .i64 σ.byts) := by rw [blk_cell hF.hb]; rfl
  have c5 : w.cell? ⟨p i, 5, none⟩ = some (.slice da n.data.length dc) := by rw [blk_cell hN.hb, hdv]; rfl
  have c3d : w.drew.cell? ⟨f, 3, none⟩ = some (.int .i64 σ.byts) := c3
  have c5d : w.drew.cell? ⟨p i, 5, none⟩ = some (.slice da n.data.length dc) := c5
  by_cases hfit : σ.byts + k ≤ 65536 + n.data.length
  · have hB : ((sizeS σ i n k).byts : Int) = (σ.byts : Int) + ((k : Int) - (n.data.length : Int)) := by have := sizeS_byts hn k; omega
    have hfI : ¬ ((65536 : Int) < (σ.byts : Int) - (n.data.length : Int) + (k : Int)) := by omega
    have hfin := hide (show ∀ (W : World) (dv' : Value), Fr (fun b => b = f ∨ b = p i ∨ (dv i).ownBlock = some b) w W → W.heap[f]? = some (.cells #[lv, .int .i64 σ.cnt, .pointer (some ⟨p 1, 0, none⟩), .int .i64 ((σ.byts : Int) + ((k : Int) - (n.data.length : Int)))] 69 (0, 0)) →
        W.heap[p i]? = some (.cells #[.int .i64 i, .int .i64 (if n.d then 2 else 1), .int .i64 n.mode, .int .i64 n.links, .int .i64 n.holds, dv', ev i, pv i] 73 (0, 0)) → DataV W dv' (resize n.data k) → (∀ g, dv'.ownBlock = some g → (dv i).ownBlock = some g ∨ w.heap.size ≤ g) →
        SizePost f σ S p i n k w (.returned (.int .i64 0)) W from fun W dv' h1 h2 h3 h4 h5 => by
      refine ⟨fun _ => ⟨rfl, ⟨_, _, _, _, hF.changed h1 hn (n' := { n with data := resize n.data k }) (fun b hb => hb.imp id (fun h => h.imp id .inl)) (by show W.heap[f]? = some (Obj.cells #[lv, .int .i64 σ.cnt, .pointer (some ⟨p 1, 0, none⟩), .int .i64 ((sizeS σ i n k).byts : Int)] 69 (0, 0)); rw [hB]; exact h2)
        ⟨h3, h4, fun hd => (by have hd' : n.d = true := hd; rw [hnf] at hd'; cases hd'), hN.file, hN.par, hN.ptr, hN.md⟩ h5 (fun m e => e) (sizeS_live hlive hn hnf k hfit)⟩, h1.mono (fun b _ hb => ?_)⟩, fun e => absurd hfit e⟩
      rcases hb with rfl | rfl | hb
      · exact hF.own
      · exact hF.ownn i (by rw [hn]; rfl)
      · exact hF.ownd i b (by rw [hn]; rfl) hb)
    have hfp : p i ≠ f := cells_ne hN.hb hF.hb (by decide)
    obtain ⟨W0, hW0⟩ : ∃ W0, W0 = w.drew.drew.setCell ⟨f, 3, none⟩ (.int .i64 ((σ.byts : Int) + ((k : Int) - (n.data.length : Int)))) := ⟨_, rfl⟩
    have hfr0 : Fr (fun b => b = f ∨ b = p i ∨ (dv i).ownBlock = some b) w W0 := by rw [hW0]; exact (Fr.refl _ _).drew.drew.setCell (.inl (.inl rfl)) _
    have hbf0 : W0.heap[f]? = some (.cells #[lv, .int .i64 σ.cnt, .pointer (some ⟨p 1, 0, none⟩), .int .i64 ((σ.byts : Int) + ((k : Int) - (n.data.length : Int)))] 69 (0, 0)) := by
      rw [hW0, blk_set (w := w.drew.drew) hF.hb]; rfl
    have hbp0 : W0.heap[p i]? = some (.cells #[.int .i64 i, .int .i64 (if n.d then 2 else 1), .int .i64 n.mode, .int .i64 n.links, .int .i64 n.holds, dv i, ev i, pv i] 73 (0, 0)) := by
      rw [hW0]; exact blk_set_other (w := w.drew.drew) hN.hb _ _ hfp
    have hD0 : DataV W0 (dv i) n.data := by
      refine hN.data.frame (T := fun b => b = f) (by rw [hW0]; exact (Fr.refl (fun b => b = f) w).drew.drew.setCell (.inl rfl) _) (fun g e e2 => ?_)
      obtain ⟨c, hc⟩ := hN.data.blk e
      exact cells_ne hc (e2 ▸ hF.hb) (by decide) rfl
    have c50 : W0.cell? ⟨p i, 5, none⟩ = some (.slice da n.data.length dc) := by rw [blk_cell hbp0, hdv]; rfl
    have z30 : w.drew.drew.frozen? ⟨f, 3, none⟩ = false := blk_frozen (w := w.drew.drew) hF.hb 3
    have c3dd : w.drew.drew.cell? ⟨f, 3, none⟩ = some (.int .i64 σ.byts) := c3
    have c5dd : w.drew.drew.cell? ⟨p i, 5, none⟩ = some (.slice da n.data.length dc) := c5
    have z50 := blk_frozen hbp0 5
    have z5w := blk_frozen hN.hb 5
    have z3w := blk_frozen hF.hb 3
    have hfp2 : ¬ f = p i := fun e => hfp e.symm
    have hcap : n.data.length ≤ dc := by
      have := hD0
      rw [hdv] at this
      rcases this with ⟨e, e2⟩ | ⟨g, cap, cur, e, _, e3, _⟩
      · rw [e2]; exact Nat.zero_le _
      · cases e; exact e3
    have HW0 := hide hW0
    by_cases hle : k ≤ n.data.length
    · have hcut := cut_hm (a := da) hle hcap
      have hleI : (k : Int) ≤ (n.data.length : Int) := by omega
      have hres := hide (hfin.out (W0.setCell ⟨p i, 5, none⟩ (.slice da k k)) (.slice da k k) (hfr0.setCell (.inl (.inr (.inl rfl))) _) (blk_set_other hbf0 _ _ (Ne.symm hfp)) (by rw [blk_set hbp0]; rfl) (by
          have hD1 : DataV (W0.setCell ⟨p i, 5, none⟩ (.slice da k k)) (dv i) n.data := hD0.frame (frSet W0 (p i) 5 (.slice da k k)) (fun g e e2 => by
            obtain ⟨c, hc⟩ := hD0.blk e
            exact cells_ne hc (e2 ▸ hbp0) (by decide) rfl)
          unfold resize
          rw [if_pos hle]
          rw [hdv] at hD1
          rcases hD1 with ⟨e, e2⟩ | ⟨g, cap, cur, e, e1, e3, e4, e5⟩
          · simp only [Value.slice.injEq] at e
            obtain ⟨rfl, _, _⟩ := e
            rw [e2] at hle ⊢
            have hk0 : k = 0 := by simpa using hle
            subst hk0
            exact .inl ⟨rfl, rfl⟩
          · cases e
            refine .inr ⟨g, k, cur, by rw [List.length_take, Nat.min_eq_left hle], e1, by rw [List.length_take]; omega, by omega, ?_⟩
            rw [List.length_take, Nat.min_eq_left hle, List.map_take, ← e5, List.take_take, Nat.min_eq_left hle]) (fun g e => .inl (by rw [hdv]; cases da <;> exact e)))
      clear hfin hfr0 hD0 hfit
      go_enter Tryd.func35, Tryd.ntmps35
      go_wp2_with fail
      refine region_still (by kernel_rfl) (by kernel_rfl) ?_
      repeat go_big_quiet_step (fail)
      refine wpQuiet_nil ?_
      go_wp2_with fail
      refine region_tail 14 (by kernel_rfl) (by kernel_rfl) ?_
      simp only [List.take_succ_cons, List.take_zero, List.drop_succ_cons, List.drop_zero]
      repeat go_big_quiet_step (fail)
      refine wpQuiet_nil ?_
      go_wp2_with fail
      go_ret
      have h9 := hres.out
      rw [HW0.out] at h9
      exact h9
    · have hleI : ¬ (k : Int) ≤ (n.data.length : Int) := by omega
      have e0 : (w.setCell ⟨f, 3, none⟩ (.int .i64 ((σ.byts : Int) + ((k : Int) - (n.data.length : Int))))).drew.drew = W0 := by rw [hW0]; rfl
      have Key := hide (show ∀ w', Fr (fun b => (dv i).ownBlock = some b) W0 w' → w'.cell? ⟨p i, 5, none⟩ = some (.slice da n.data.length dc) from fun w' hw => by
        rw [blk_cell (hw.get hbp0 (fun e => by
          obtain ⟨c, hc⟩ := hN.data.blk e
          exact cells_ne hc hN.hb (by decide) rfl)), hdv]
        rfl)
      have hgrow := hide (fun W (hW : DataV W (dv i) n.data) ty => data_grow W (dv i) n.data hW (k - n.data.length) (by omega) (by omega) ty)
      clear hfit hW0
      go_enter Tryd.func35, Tryd.ntmps35
      go_wp2_with fail
      refine region_still (by kernel_rfl) (by kernel_rfl) ?_
      repeat go_big_quiet_step (fail)
      refine wpQuiet_nil ?_
      go_wp2_with fail
      refine region_tail 14 (by kernel_rfl) (by kernel_rfl) ?_
      simp only [List.take_succ_cons, List.take_zero, List.drop_succ_cons, List.drop_zero]
      repeat go_big_quiet_step (fail)
      refine wpQuiet_nil ?_
      go_wp2_with fail
      refine region_tree (fun w' => Fr (fun b => (dv i).ownBlock = some b) W0 w') [0, 1, 2, 3, 4, 5, 6, 7, 8, 9] 3 13 (by kernel_rfl) (by kernel_rfl) (fun _ _ d _ _ h => by cases d <;> exact h) (Fr.refl _ _).drew ?_
      simp only [List.map_cons, List.map_nil, List.getD_cons_zero, List.getD_cons_succ, List.drop_succ_cons, List.drop_zero]
      go_big_quiet_step (fail)
      go_big_quiet_step (fail)
      refine wpQuiet_val (.pointer (some ⟨p i, 0, none⟩)) rfl (fun w' hS => by (go_simp)) ?_
      simp only [Act.put, List.setIfInBounds_toArray, List.set_cons_succ, List.set_cons_zero]
      refine wpQuiet_val (.pointer (some ⟨p i, 5, none⟩)) rfl (fun w' hS => by (go_simp)) ?_
      simp only [Act.put, List.setIfInBounds_toArray, List.set_cons_succ, List.set_cons_zero]
      refine wpQuiet_val (.slice da n.data.length dc) rfl (fun w' hS => by (have e2 := Key.out w' hS; go_simp)) ?_
      simp only [Act.put, List.setIfInBounds_toArray, List.set_cons_succ, List.set_cons_zero]
      go_big_quiet_step (fail)
      go_big_quiet_step (fail)
      refine wpQuiet_val (.pointer (some ⟨p i, 0, none⟩)) rfl (fun w' hS => by (go_simp)) ?_
      simp only [Act.put, List.setIfInBounds_toArray, List.set_cons_succ, List.set_cons_zero]
      refine wpQuiet_val (.pointer (some ⟨p i, 5, none⟩)) rfl (fun w' hS => by (go_simp)) ?_
      simp only [Act.put, List.setIfInBounds_toArray, List.set_cons_succ, List.set_cons_zero]
      refine wpQuiet_val (.slice da n.data.length dc) rfl (fun w' hS => by (have e2 := Key.out w' hS; go_simp)) ?_
      simp only [Act.put, List.setIfInBounds_toArray, List.set_cons_succ, List.set_cons_zero]
      refine wpQuiet_nil ?_
      generalize hX0e : W0.drew = X0
      have hX0 : Fr (fun b => (dv i).ownBlock = some b) W0 X0 := by rw [← hX0e]; exact (Fr.refl _ _).drew
      have hD1 : DataV X0 (dv i) n.data := by rw [← hX0e]; exact hD0.frame (Fr.refl (fun _ => False) _).drew (fun _ _ e => e)
      have hsX0 : X0.heap.size = W0.heap.size := by rw [← hX0e]; rfl
      clear hX0e
      refine tree_one' 10 (by kernel_rfl) (by decide) (by simp) rfl (fun K hK => ?_)
      simp only [List.getD_cons_zero, List.getD_cons_succ]
      go_wp2_with fail
      refine hK _ _ hX0 ?_
      clear hK K
      refine tree_one' 11 (by kernel_rfl) (by decide) (by simp) rfl (fun K hK => ?_)
      simp only [List.getD_cons_zero, List.getD_cons_succ]
      have eK : (k : Int) - (n.data.length : Int) = ((k - n.data.length : Nat) : Int) := by omega
      go_wp2_with fail
      refine hK _ _ hX0 ?_
      clear hK K
      refine tree_one' 12 (by kernel_rfl) (by decide) (by simp) rfl (fun K hK => ?_)
      simp only [List.getD_cons_zero, List.getD_cons_succ]
      obtain ⟨v2, X2, hrun, hD2, hf2, hv2⟩ := hgrow.out X0 hD1 71
      refine Lib.wp_append_run X0 _ _ 71 3 rfl (dv i) (.int .i64 ((k - n.data.length : Nat) : Int)) ?ca ?cb v2 X2 hrun ?_
      case ca => rw [hdv]; rfl
      case cb => rfl
      have hX2 : Fr (fun b => (dv i).ownBlock = some b) W0 X2 := hX0.trans hf2
      refine hK _ _ hX2 ?_
      clear hK K
      refine tree_end (by kernel_rfl) ?_
      have hdvn : ∀ g, (dv i).ownBlock = some g → g ≠ p i ∧ g ≠ f := fun g e => by
        obtain ⟨c, hc⟩ := hN.data.blk e
        exact ⟨cells_ne hc hN.hb (by decide), cells_ne hc hF.hb (by decide)⟩
      have hbp2 := hX2.get hbp0 (fun e => (hdvn _ e).1 rfl)
      have hbf2 := hX2.get hbf0 (fun e => (hdvn _ e).2 rfl)
      have hv2n : ∀ g, v2.ownBlock = some g → g ≠ p i := fun g e => by
        obtain ⟨c, hc⟩ := hD2.blk e
        exact cells_ne hc hbp2 (by decide)
      have hres := hide (hfin.out (X2.setCell ⟨p i, 5, none⟩ v2) v2 ((hfr0.trans' hX2 (fun b _ e => .inr (.inr e))).setCell (.inl (.inr (.inl rfl))) _) (blk_set_other hbf2 _ _ (Ne.symm hfp)) (by rw [blk_set hbp2]; rfl) (by
        unfold resize
        rw [if_neg hle]
        exact hD2.frame (frSet X2 (p i) 5 v2) (fun g e e2 => hv2n g e e2)) (fun g e => by
          rcases hv2 with h9 | h9
          · exact .inl (h9 ▸ e)
          · rw [h9] at e
            cases e
            exact .inr (by rw [hsX0]; exact hfr0.size)))
      have c52 : X2.cell? ⟨p i, 5, none⟩ = some (.slice da n.data.length dc) := by rw [blk_cell hbp2, hdv]; rfl
      have z52 := blk_frozen hbp2 5
      obtain ⟨a2, c2, rfl⟩ := hD2.form
      generalize (n.data ++ List.replicate (k - n.data.length) 0).length = L2 at *
      clear hfin hfr0 hX2 hf2 hrun hgrow Key hD1
      simp only [Act.put, List.setIfInBounds_toArray, List.set_cons_succ, List.set_cons_zero, List.drop_succ_cons, List.drop_zero]
      go_wp2
      go_ret
      exact hres.out
  · have hfI : ((65536 : Int) < (σ.byts : Int) - (n.data.length : Int) + (k : Int)) := by omega
    have hres := hide (show SizePost f σ S p i n k w (.returned (.int .i64 28)) w.drew from ⟨fun e => absurd e hfit, fun _ => ⟨rfl, hh.frame (Fr.refl (fun _ => False) _).drew (fun _ _ _ e => e), (Fr.refl _ _).drew⟩⟩)
    clear hfit
    go_enter Tryd.func35, Tryd.ntmps35
    go_wp2_with fail
    refine region_still (by kernel_rfl) (by kernel_rfl) ?_
    repeat go_big_quiet_step (fail)
    refine wpQuiet_nil ?_
    go_wp2_with fail
    go_ret
    exact hres.out
end Go.Proofs.YthikjdpnlahkfaaDoor
