/- files.FS.file, size. Conditions: the contracts' own premises. -/
import Derived.Test.YtffekmjoenppaaaGreatDoorFilesK
import Derived.Laws.IdiomStrings
import Derived.Lib.BufferWrite
namespace Go.Proofs.YtffekmjoenppaaaGreatDoor
open Go.RowKit

def fileE (σ : FSt) (i : Int) : Int := match σ.ndI i with | none => 9 | some n => if n.d then 21 else 0
set_option maxRecDepth 100000 in
theorem file_any (w : World) (f : Nat) (σ : FSt) (S : Nat → Prop) (p : Nat → Nat) (h : FilesAt w f σ S p) (i : Int) (hi : -9223372036854775808 ≤ i ∧ i ≤ 9223372036854775807) :
    Calls Tryz.prog 85 #[.pointer (some ⟨f, 0, none⟩), .int .i64 i] w fun e w' => ∃ a, e = .returned (.tuple #[.pointer a, .int .i64 (fileE σ i)]) ∧ w = w' ∧ (fileE σ i = 0 → a = some ⟨p i.toNat, 0, none⟩) := by
  have hget := fget_any w f σ S p h i hi
  cases hn : σ.ndI i with
  | none =>
    rw [show ptrI σ p i = .pointer none by unfold ptrI; rw [hn]] at hget
    rw [show fileE σ i = 9 by unfold fileE; rw [hn]]
    go_enter Tryz.func85, Tryz.ntmps85
    go_wp2_with fail
    refine hget.mono ?_
    rintro e w' ⟨rfl, rfl⟩
    clear hget
    go_wp2_with fail
    go_returns
    exact ⟨_, rfl, rfl, fun e => by cases e⟩
  | some n =>
    obtain ⟨k, rfl, hk⟩ : ∃ k : Nat, i = k ∧ σ.nd k = some n := by
      unfold FSt.ndI at hn
      split at hn
      · exact ⟨i.toNat, by omega, hn⟩
      · cases hn
    rw [show ptrI σ p (k : Int) = .pointer (some ⟨p k, 0, none⟩) by unfold ptrI; rw [hn]; simp] at hget
    obtain ⟨dvn, evn, pvn, hnd⟩ := h.node hk
    have hdir := dir_any w p (p k) k n dvn evn pvn hnd
    cases hd : n.d with
    | true =>
      rw [show fileE σ (k : Int) = 21 by unfold fileE; rw [hn]; simp [hd]]
      rw [hd] at hdir
      go_enter Tryz.func85, Tryz.ntmps85
      go_wp2_with fail
      refine hget.mono ?_
      rintro e w' ⟨rfl, rfl⟩
      clear hget
      go_wp2_with fail
      refine hdir.mono ?_
      rintro e w' ⟨rfl, rfl⟩
      clear hdir
      go_wp2_with fail
      go_returns
      exact ⟨_, rfl, rfl, fun e => by cases e⟩
    | false =>
      rw [show fileE σ (k : Int) = 0 by unfold fileE; rw [hn]; simp [hd]]
      rw [hd] at hdir
      go_enter Tryz.func85, Tryz.ntmps85
      go_wp2_with fail
      refine hget.mono ?_
      rintro e w' ⟨rfl, rfl⟩
      clear hget
      go_wp2_with fail
      refine hdir.mono ?_
      rintro e w' ⟨rfl, rfl⟩
      clear hdir
      go_wp2_with fail
      go_returns
      exact ⟨_, rfl, rfl, fun e => by simp⟩
theorem fileE_zero {σ : FSt} {i : Int} (h : fileE σ i = 0) : ∃ (k : Nat) (n : Nd), i = k ∧ σ.nd k = some n ∧ n.d = false := by
  unfold fileE at h
  cases hn : σ.ndI i with
  | none => rw [hn] at h; simp at h
  | some n =>
    rw [hn] at h
    unfold FSt.ndI at hn
    split at hn
    · refine ⟨i.toNat, n, by omega, hn, ?_⟩
      cases hd : n.d with
      | false => rfl
      | true => simp [hd] at h
    · cases hn
def resize (l : List UInt8) (k : Nat) : List UInt8 := if k ≤ l.length then l.take k else l ++ List.replicate (k - l.length) 0
theorem resize_length (l : List UInt8) (k : Nat) : (resize l k).length = k := by
  unfold resize
  split
  · rw [List.length_take]; omega
  · simp; omega
def sizeS (σ : FSt) (i : Nat) (n : Nd) (k : Nat) : FSt := σ.put i (some { n with data := resize n.data k })
theorem sizeS_byts {σ : FSt} {i : Nat} {n : Nd} (hn : σ.nd i = some n) (k : Nat) : (sizeS σ i n k).byts + n.data.length = σ.byts + k := by
  have := FSt.byts_put hn (some { n with data := resize n.data k })
  rw [show ndLen (some { n with data := resize n.data k }) = k from resize_length _ _] at this
  exact this
theorem sizeS_live {σ : FSt} {i : Nat} {n : Nd} (h : Live σ) (hn : σ.nd i = some n) (hd : n.d = false) (k : Nat) (hb : σ.byts + k ≤ 65536 + n.data.length) : Live (sizeS σ i n k) := by
  refine h.put hn rfl ?_ (h.ents i n hn) (fun e => by rw [hd] at e; cases e) ?_ (h.names i n hn)
  · intro e
    obtain ⟨r, h1, h2, _⟩ := h.root
    subst e
    rw [hn] at h1
    cases h1
    rw [hd] at h2
    cases h2
  · have := sizeS_byts hn k
    unfold sizeS at this
    omega
theorem cut_hm {a : Option Addr} {n cap k : Nat} (hk : k ≤ n) (hn : n ≤ cap) : ∀ w', (Instr.sliceAt 88 (.slice a n cap) none (some (.int .i64 k)) (some (.int .i64 k))).run Tryz.prog w' = .ok (.slice a k k) w' := by
  intro w'
  have hsz : ∀ w', (sizeOf 5).run Tryz.prog w' = .ok 1 w' := fun w' => by kernel_rfl
  have he : Tryz.prog.elem 88 = 5 := by kernel_rfl
  have ht : Tryz.prog.underlying 88 = some (.slice (Tryz.prog.elem 88)) := by kernel_rfl
  rw [run_sliceAt_slice (h := ht), run_slice_hm (ht := ht) (h0 := by omega) (h2 := by omega) (h3 := by omega), he, hsz]
  cases a <;> simp [sliced, Addr.add]
def SizePost (f : Nat) (σ : FSt) (S : Nat → Prop) (p : Nat → Nat) (i : Nat) (n : Nd) (k : Nat) (w : World) (e : Ending) (w' : World) : Prop :=
  (σ.byts + k ≤ 65536 + n.data.length → e = .returned (.int .i64 0) ∧ FilesAt w' f (sizeS σ i n k) S p ∧ Fr S w w') ∧ (¬ σ.byts + k ≤ 65536 + n.data.length → e = .returned (.int .i64 28) ∧ FilesAt w' f σ S p ∧ Fr S w w')
set_option maxRecDepth 100000 in
set_option maxHeartbeats 4000000 in
theorem size_any (w : World) (f : Nat) (σ : FSt) (S : Nat → Prop) (p : Nat → Nat) (h : FilesAt w f σ S p) (i : Nat) (n : Nd) (hn : σ.nd i = some n) (hnf : n.d = false) (k : Nat) (hk : k ≤ 200000) :
    Calls Tryz.prog 87 #[.pointer (some ⟨f, 0, none⟩), .pointer (some ⟨p i, 0, none⟩), .int .i64 k] w (SizePost f σ S p i n k w) := by
  have hh := h
  obtain ⟨dv, ev, pv, lv, hF⟩ := h
  have hN := hF.nd i n hn
  obtain ⟨da, dc, hdv⟩ := hN.data.form
  have hlive := hF.live
  have hbyts := hlive.byts
  have hdl := byts_nd hn
  have c3 : w.cell? ⟨f, 3, none⟩ = some (.int .i64 σ.byts) := by rw [blk_cell hF.hb]; rfl
  have c5 : w.cell? ⟨p i, 5, none⟩ = some (.slice da n.data.length dc) := by rw [blk_cell hN.hb, hdv]; rfl
  have c3d : w.drew.cell? ⟨f, 3, none⟩ = some (.int .i64 σ.byts) := c3
  have c5d : w.drew.cell? ⟨p i, 5, none⟩ = some (.slice da n.data.length dc) := c5
  by_cases hfit : σ.byts + k ≤ 65536 + n.data.length
  · have hB : ((sizeS σ i n k).byts : Int) = (σ.byts : Int) + ((k : Int) - (n.data.length : Int)) := by have := sizeS_byts hn k; omega
    have hfI : ¬ ((65536 : Int) < (σ.byts : Int) - (n.data.length : Int) + (k : Int)) := by omega
    have hfin := hide (show ∀ (W : World) (dv' : Value), Fr (fun b => b = f ∨ b = p i ∨ (dv i).ownBlock = some b) w W → W.heap[f]? = some (.cells #[lv, .int .i64 σ.cnt, .pointer (some ⟨p 1, 0, none⟩), .int .i64 ((σ.byts : Int) + ((k : Int) - (n.data.length : Int)))] 86 (0, 0)) →
        W.heap[p i]? = some (.cells #[.int .i64 i, .int .i64 (if n.d then 2 else 1), .int .i64 n.mode, .int .i64 n.links, .int .i64 n.holds, dv', ev i, pv i] 90 (0, 0)) → DataV W dv' (resize n.data k) → (∀ g, dv'.ownBlock = some g → (dv i).ownBlock = some g ∨ w.heap.size ≤ g) →
        SizePost f σ S p i n k w (.returned (.int .i64 0)) W from fun W dv' h1 h2 h3 h4 h5 => by
      refine ⟨fun _ => ⟨rfl, ⟨_, _, _, _, hF.changed h1 hn (n' := { n with data := resize n.data k }) (fun b hb => hb.imp id (fun h => h.imp id .inl)) (by show W.heap[f]? = some (Obj.cells #[lv, .int .i64 σ.cnt, .pointer (some ⟨p 1, 0, none⟩), .int .i64 ((sizeS σ i n k).byts : Int)] 86 (0, 0)); rw [hB]; exact h2)
        ⟨h3, h4, fun hd => (by have hd' : n.d = true := hd; rw [hnf] at hd'; cases hd'), hN.file, hN.par, hN.ptr, hN.md⟩ h5 (fun m e => e) (sizeS_live hlive hn hnf k hfit)⟩, h1.mono (fun b _ hb => ?_)⟩, fun e => absurd hfit e⟩
      rcases hb with rfl | rfl | hb
      · exact hF.own
      · exact hF.ownn i (by rw [hn]; rfl)
      · exact hF.ownd i b (by rw [hn]; rfl) hb)
    have hfp : p i ≠ f := cells_ne hN.hb hF.hb (by decide)
    obtain ⟨W0, hW0⟩ : ∃ W0, W0 = w.drew.drew.setCell ⟨f, 3, none⟩ (.int .i64 ((σ.byts : Int) + ((k : Int) - (n.data.length : Int)))) := ⟨_, rfl⟩
    have hfr0 : Fr (fun b => b = f ∨ b = p i ∨ (dv i).ownBlock = some b) w W0 := by rw [hW0]; exact (Fr.refl _ _).drew.drew.setCell (.inl (.inl rfl)) _
    have hbf0 : W0.heap[f]? = some (.cells #[lv, .int .i64 σ.cnt, .pointer (some ⟨p 1, 0, none⟩), .int .i64 ((σ.byts : Int) + ((k : Int) - (n.data.length : Int)))] 86 (0, 0)) := by
      rw [hW0, blk_set (w := w.drew.drew) hF.hb]; rfl
    have hbp0 : W0.heap[p i]? = some (.cells #[.int .i64 i, .int .i64 (if n.d then 2 else 1), .int .i64 n.mode, .int .i64 n.links, .int .i64 n.holds, dv i, ev i, pv i] 90 (0, 0)) := by
      rw [hW0]; exact blk_set_other (w := w.drew.drew) hN.hb _ _ hfp
    have hD0 : DataV W0 (dv i) n.data := by
      refine hN.data.frame (T := fun b => b = f) (by rw [hW0]; exact (Fr.refl (fun b => b = f) w).drew.drew.setCell (.inl rfl) _) (fun g e e2 => ?_)
      obtain ⟨c, hc⟩ := hN.data.blk e
      exact cells_ne hc (e2 ▸ hF.hb) (by decide) rfl
    have c50 : W0.cell? ⟨p i, 5, none⟩ = some (.slice da n.data.length dc) := by rw [blk_cell hbp0, hdv]; rfl
    have z30 : w.drew.drew.frozen? ⟨f, 3, none⟩ = false := blk_frozen (w := w.drew.drew) hF.hb 3
    have c3dd : w.drew.drew.cell? ⟨f, 3, none⟩ = some (.int .i64 σ.byts) := c3
    have c5dd : w.drew.drew.cell? ⟨p i, 5, none⟩ = some (.slice da n.data.length dc) := c5
    have z50 := blk_frozen hbp0 5
    have z5w := blk_frozen hN.hb 5
    have z3w := blk_frozen hF.hb 3
    have hfp2 : ¬ f = p i := fun e => hfp e.symm
    have hcap : n.data.length ≤ dc := by
      have := hD0
      rw [hdv] at this
      rcases this with ⟨e, e2⟩ | ⟨g, cap, cur, e, _, e3, _⟩
      · rw [e2]; exact Nat.zero_le _
      · cases e; exact e3
    have HW0 := hide hW0
    by_cases hle : k ≤ n.data.length
    · have hcut := cut_hm (a := da) hle hcap
      have hleI : (k : Int) ≤ (n.data.length : Int) := by omega
      have hres := hide (hfin.out (W0.setCell ⟨p i, 5, none⟩ (.slice da k k)) (.slice da k k) (hfr0.setCell (.inl (.inr (.inl rfl))) _) (blk_set_other hbf0 _ _ (Ne.symm hfp)) (by rw [blk_set hbp0]; rfl) (by
          have hD1 : DataV (W0.setCell ⟨p i, 5, none⟩ (.slice da k k)) (dv i) n.data := hD0.frame (frSet W0 (p i) 5 (.slice da k k)) (fun g e e2 => by
            obtain ⟨c, hc⟩ := hD0.blk e
            exact cells_ne hc (e2 ▸ hbp0) (by decide) rfl)
          unfold resize
          rw [if_pos hle]
          rw [hdv] at hD1
          rcases hD1 with ⟨e, e2⟩ | ⟨g, cap, cur, e, e1, e3, e4, e5⟩
          · simp only [Value.slice.injEq] at e
            obtain ⟨rfl, _, _⟩ := e
            rw [e2] at hle ⊢
            have hk0 : k = 0 := by simpa using hle
            subst hk0
            exact .inl ⟨rfl, rfl⟩
          · cases e
            refine .inr ⟨g, k, cur, by rw [List.length_take, Nat.min_eq_left hle], e1, by rw [List.length_take]; omega, by omega, ?_⟩
            rw [List.length_take, Nat.min_eq_left hle, List.map_take, ← e5, List.take_take, Nat.min_eq_left hle]) (fun g e => .inl (by rw [hdv]; cases da <;> exact e)))
      clear hfin hfr0 hD0 hfit
      go_enter Tryz.func87, Tryz.ntmps87
      go_wp2_with fail
      refine region_still (by kernel_rfl) (by kernel_rfl) ?_
      repeat go_big_quiet_step (fail)
      refine wpQuiet_nil ?_
      go_wp2_with fail
      refine region_tail 14 (by kernel_rfl) (by kernel_rfl) ?_
      simp only [List.take_succ_cons, List.take_zero, List.drop_succ_cons, List.drop_zero]
      repeat go_big_quiet_step (fail)
      refine wpQuiet_nil ?_
      go_wp2_with fail
      go_ret
      have h9 := hres.out
      rw [HW0.out] at h9
      exact h9
    · have hleI : ¬ (k : Int) ≤ (n.data.length : Int) := by omega
      have e0 : (w.setCell ⟨f, 3, none⟩ (.int .i64 ((σ.byts : Int) + ((k : Int) - (n.data.length : Int))))).drew.drew = W0 := by rw [hW0]; rfl
      have Key := hide (show ∀ w', Fr (fun b => (dv i).ownBlock = some b) W0 w' → w'.cell? ⟨p i, 5, none⟩ = some (.slice da n.data.length dc) from fun w' hw => by
        rw [blk_cell (hw.get hbp0 (fun e => by
          obtain ⟨c, hc⟩ := hN.data.blk e
          exact cells_ne hc hN.hb (by decide) rfl)), hdv]
        rfl)
      have hgrow := hide (fun W (hW : DataV W (dv i) n.data) ty => data_grow W (dv i) n.data hW (k - n.data.length) (by omega) (by omega) ty)
      clear hfit hW0
      go_enter Tryz.func87, Tryz.ntmps87
      go_wp2_with fail
      refine region_still (by kernel_rfl) (by kernel_rfl) ?_
      repeat go_big_quiet_step (fail)
      refine wpQuiet_nil ?_
      go_wp2_with fail
      refine region_tail 14 (by kernel_rfl) (by kernel_rfl) ?_
      simp only [List.take_succ_cons, List.take_zero, List.drop_succ_cons, List.drop_zero]
      repeat go_big_quiet_step (fail)
      refine wpQuiet_nil ?_
      go_wp2_with fail
      refine region_tree (fun w' => Fr (fun b => (dv i).ownBlock = some b) W0 w') [0, 1, 2, 3, 4, 5, 6, 7, 8, 9] 3 13 (by kernel_rfl) (by kernel_rfl) (fun _ _ d _ _ h => by cases d <;> exact h) (Fr.refl _ _).drew ?_
      simp only [List.map_cons, List.map_nil, List.getD_cons_zero, List.getD_cons_succ, List.drop_succ_cons, List.drop_zero]
      go_big_quiet_step (fail)
      go_big_quiet_step (fail)
      refine wpQuiet_val (.pointer (some ⟨p i, 0, none⟩)) rfl (fun w' hS => by (go_simp)) ?_
      simp only [Act.put, List.setIfInBounds_toArray, List.set_cons_succ, List.set_cons_zero]
      refine wpQuiet_val (.pointer (some ⟨p i, 5, none⟩)) rfl (fun w' hS => by (go_simp)) ?_
      simp only [Act.put, List.setIfInBounds_toArray, List.set_cons_succ, List.set_cons_zero]
      refine wpQuiet_val (.slice da n.data.length dc) rfl (fun w' hS => by (have e2 := Key.out w' hS; go_simp)) ?_
      simp only [Act.put, List.setIfInBounds_toArray, List.set_cons_succ, List.set_cons_zero]
      go_big_quiet_step (fail)
      go_big_quiet_step (fail)
      refine wpQuiet_val (.pointer (some ⟨p i, 0, none⟩)) rfl (fun w' hS => by (go_simp)) ?_
      simp only [Act.put, List.setIfInBounds_toArray, List.set_cons_succ, List.set_cons_zero]
      refine wpQuiet_val (.pointer (some ⟨p i, 5, none⟩)) rfl (fun w' hS => by (go_simp)) ?_
      simp only [Act.put, List.setIfInBounds_toArray, List.set_cons_succ, List.set_cons_zero]
      refine wpQuiet_val (.slice da n.data.length dc) rfl (fun w' hS => by (have e2 := Key.out w' hS; go_simp)) ?_
      simp only [Act.put, List.setIfInBounds_toArray, List.set_cons_succ, List.set_cons_zero]
      refine wpQuiet_nil ?_
      generalize hX0e : W0.drew = X0
      have hX0 : Fr (fun b => (dv i).ownBlock = some b) W0 X0 := by rw [← hX0e]; exact (Fr.refl _ _).drew
      have hD1 : DataV X0 (dv i) n.data := by rw [← hX0e]; exact hD0.frame (Fr.refl (fun _ => False) _).drew (fun _ _ e => e)
      have hsX0 : X0.heap.size = W0.heap.size := by rw [← hX0e]; rfl
      clear hX0e
      refine tree_one' 10 (by kernel_rfl) (by decide) (by simp) rfl (fun K hK => ?_)
      simp only [List.getD_cons_zero, List.getD_cons_succ]
      go_wp2_with fail
      refine hK _ _ hX0 ?_
      clear hK K
      refine tree_one' 11 (by kernel_rfl) (by decide) (by simp) rfl (fun K hK => ?_)
      simp only [List.getD_cons_zero, List.getD_cons_succ]
      have eK : (k : Int) - (n.data.length : Int) = ((k - n.data.length : Nat) : Int) := by omega
      go_wp2_with fail
      refine hK _ _ hX0 ?_
      clear hK K
      refine tree_one' 12 (by kernel_rfl) (by decide) (by simp) rfl (fun K hK => ?_)
      simp only [List.getD_cons_zero, List.getD_cons_succ]
      obtain ⟨v2, X2, hrun, hD2, hf2, hv2⟩ := hgrow.out X0 hD1 88
      refine Lib.wp_append_run X0 _ _ 88 3 rfl (dv i) (.int .i64 ((k - n.data.length : Nat) : Int)) ?ca ?cb v2 X2 hrun ?_
      case ca => rw [hdv]; rfl
      case cb => rfl
      have hX2 : Fr (fun b => (dv i).ownBlock = some b) W0 X2 := hX0.trans hf2
      refine hK _ _ hX2 ?_
      clear hK K
      refine tree_end (by kernel_rfl) ?_
      have hdvn : ∀ g, (dv i).ownBlock = some g → g ≠ p i ∧ g ≠ f := fun g e => by
        obtain ⟨c, hc⟩ := hN.data.blk e
        exact ⟨cells_ne hc hN.hb (by decide), cells_ne hc hF.hb (by decide)⟩
      have hbp2 := hX2.get hbp0 (fun e => (hdvn _ e).1 rfl)
      have hbf2 := hX2.get hbf0 (fun e => (hdvn _ e).2 rfl)
      have hv2n : ∀ g, v2.ownBlock = some g → g ≠ p i := fun g e => by
        obtain ⟨c, hc⟩ := hD2.blk e
        exact cells_ne hc hbp2 (by decide)
      have hres := hide (hfin.out (X2.setCell ⟨p i, 5, none⟩ v2) v2 ((hfr0.trans' hX2 (fun b _ e => .inr (.inr e))).setCell (.inl (.inr (.inl rfl))) _) (blk_set_other hbf2 _ _ (Ne.symm hfp)) (by rw [blk_set hbp2]; rfl) (by
        unfold resize
        rw [if_neg hle]
        exact hD2.frame (frSet X2 (p i) 5 v2) (fun g e e2 => hv2n g e e2)) (fun g e => by
          rcases hv2 with h9 | h9
          · exact .inl (h9 ▸ e)
          · rw [h9] at e
            cases e
            exact .inr (by rw [hsX0]; exact hfr0.size)))
      have c52 : X2.cell? ⟨p i, 5, none⟩ = some (.slice da n.data.length dc) := by rw [blk_cell hbp2, hdv]; rfl
      have z52 := blk_frozen hbp2 5
      obtain ⟨a2, c2, rfl⟩ := hD2.form
      generalize (n.data ++ List.replicate (k - n.data.length) 0).length = L2 at *
      clear hfin hfr0 hX2 hf2 hrun hgrow Key hD1
      simp only [Act.put, List.setIfInBounds_toArray, List.set_cons_succ, List.set_cons_zero, List.drop_succ_cons, List.drop_zero]
      go_wp2
      go_ret
      exact hres.out
  · have hfI : ((65536 : Int) < (σ.byts : Int) - (n.data.length : Int) + (k : Int)) := by omega
    have hres := hide (show SizePost f σ S p i n k w (.returned (.int .i64 28)) w.drew from ⟨fun e => absurd e hfit, fun _ => ⟨rfl, hh.frame (Fr.refl (fun _ => False) _).drew (fun _ _ _ e => e), (Fr.refl _ _).drew⟩⟩)
    clear hfit
    go_enter Tryz.func87, Tryz.ntmps87
    go_wp2_with fail
    refine region_still (by kernel_rfl) (by kernel_rfl) ?_
    repeat go_big_quiet_step (fail)
    refine wpQuiet_nil ?_
    go_wp2_with fail
    go_ret
    exact hres.out
end Go.Proofs.YtffekmjoenppaaaGreatDoor

/- files.FS.Read, Bytes. Conditions: the contracts' own premises. -/
namespace Go.Proofs.YtffekmjoenppaaaGreatDoor
open Go.RowKit

def readE (σ : FSt) (i at' n : Int) : Int := if fileE σ i ≠ 0 then fileE σ i else if at' < 0 ∨ n < 0 then 22 else 0
def dataI (σ : FSt) (i : Int) : List UInt8 := match σ.ndI i with | none => [] | some n => n.data
def readB (σ : FSt) (i at' n : Int) : List UInt8 := if readE σ i at' n ≠ 0 then [] else ((dataI σ i).drop at'.toNat).take n.toNat
theorem data_some {w : World} {v : Value} {l : List UInt8} (h : DataV w v l) (h0 : 0 < l.length) : ∃ g cap, v = .slice (some ⟨g, 0, none⟩) l.length cap ∧ l.length ≤ cap ∧ ∀ j (hj : j < l.length), w.cell? ⟨g, j, none⟩ = some (.int .u8 (l[j].toNat : Int)) := by
  rcases h with ⟨_, rfl⟩ | ⟨g, cap, cur, rfl, hg, hc1, hc2, hcur⟩
  · simp at h0
  · refine ⟨g, cap, rfl, hc1, fun j hj => ?_⟩
    rw [blk_cell hg]
    have h1 : (cur.toList.take l.length)[j]? = (l.map fun c => Value.int .u8 c.toNat)[j]? := by rw [hcur]
    rw [List.getElem?_take_of_lt hj, Array.getElem?_toList] at h1
    rw [h1]
    simp [hj]
theorem cut_lh {g n cap a q : Nat} (hq : a + q ≤ n) (ha : a < n) (hn : n ≤ cap) : ∀ w', (Instr.sliceAt 88 (.slice (some ⟨g, 0, none⟩) n cap) (some (.int .i64 a)) (some (.int .i64 ((a : Int) + (q : Int)))) none).run Tryz.prog w' = .ok (.slice (some ⟨g, a, none⟩) q (cap - a)) w' := by
  intro w'
  have hsz : ∀ w', (sizeOf 5).run Tryz.prog w' = .ok 1 w' := fun w' => by kernel_rfl
  have he : Tryz.prog.elem 88 = 5 := by kernel_rfl
  have ht : Tryz.prog.underlying 88 = some (.slice (Tryz.prog.elem 88)) := by kernel_rfl
  rw [run_sliceAt_slice (h := ht), run_slice_lh (ht := ht) (h0 := by omega) (h1 := by omega) (h2 := by omega), he, hsz]
  have e1 : ((a : Int) + (q : Int)).toNat = a + q := by omega
  have e2 : ((a : Int)).toNat = a := by omega
  simp only [Result.andThen_ok, sliced, e1, e2, Nat.mul_one, Option.map_some]
  rw [if_neg (by omega), show a + q - a = q by omega]
  have hadd : (⟨g, 0, none⟩ : Addr).add a = ⟨g, a, none⟩ := by unfold Addr.add; split <;> simp_all
  rw [hadd]
theorem conv_bytes {w : World} {g a : Nat} (l : List UInt8) (hc : ∀ j (hj : j < l.length), w.cell? ⟨g, a + j, none⟩ = some (.int .u8 (l[j].toNat : Int))) (cap : Nat) :
    (convert 88 9 (.slice (some ⟨g, a, none⟩) l.length cap)).run Tryz.prog w = .ok (.string ⟨l.toArray⟩) w :=
  run_convert_bytes_back w 88 9 5 ⟨g, a, none⟩ cap l (by kernel_rfl) (by kernel_rfl) (by kernel_rfl) (fun j hj => by
    have hadd : (⟨g, a, none⟩ : Addr).add j = ⟨g, a + j, none⟩ := by unfold Addr.add; split <;> simp_all
    rw [hadd]
    exact hc j hj)
set_option maxRecDepth 100000 in
set_option maxHeartbeats 2000000 in
theorem Read_any (w : World) (f : Nat) (σ : FSt) (S : Nat → Prop) (p : Nat → Nat) (h : FilesAt w f σ S p) (i at' n : Int) (hi : -9223372036854775808 ≤ i ∧ i ≤ 9223372036854775807) (ha : -9223372036854775808 ≤ at' ∧ at' ≤ 9223372036854775807) (hn : -9223372036854775808 ≤ n ∧ n ≤ 9223372036854775807) :
    Calls Tryz.prog 45 #[.pointer (some ⟨f, 0, none⟩), .int .i64 i, .int .i64 at', .int .i64 n] w fun e w' => e = .returned (.tuple #[.string ⟨(readB σ i at' n).toArray⟩, .int .i64 (readE σ i at' n)]) ∧ Fr (fun _ => False) w w' := by
  have hfile := file_any w f σ S p h i hi
  by_cases hE : fileE σ i = 0
  · obtain ⟨k, nd, rfl, hk, hd⟩ := fileE_zero hE
    by_cases hneg : at' < 0 ∨ n < 0
    · have e1 : readE σ k at' n = 22 := by unfold readE; rw [if_neg (by simp [hE]), if_pos hneg]
      have e2 : readB σ k at' n = [] := by unfold readB; rw [e1]; rfl
      rw [e1, e2]
      have hfile := hide hfile
      rcases hneg with hneg | hneg
      · go_enter Tryz.func45, Tryz.ntmps45
        go_wp2_with fail
        refine hfile.out.mono ?_
        rintro e w1 ⟨a, rfl, rfl, ha⟩
        rw [hE] at ha ⊢
        clear hfile
        go_wp2_with fail
        go_returns
        exact ⟨rfl, Fr.refl _ _⟩
      · by_cases hat : at' < 0
        · go_enter Tryz.func45, Tryz.ntmps45
          go_wp2_with fail
          refine hfile.out.mono ?_
          rintro e w1 ⟨a, rfl, rfl, ha⟩
          rw [hE] at ha ⊢
          clear hfile
          go_wp2_with fail
          go_returns
          exact ⟨rfl, Fr.refl _ _⟩
        · go_enter Tryz.func45, Tryz.ntmps45
          go_wp2_with fail
          refine hfile.out.mono ?_
          rintro e w1 ⟨a, rfl, rfl, ha⟩
          rw [hE] at ha ⊢
          clear hfile
          go_wp2_with fail
          go_returns
          exact ⟨rfl, Fr.refl _ _⟩
    · have hp1 : ¬ at' < 0 := fun e => hneg (.inl e)
      have hp2 : ¬ n < 0 := fun e => hneg (.inr e)
      obtain ⟨x, rfl⟩ : ∃ x : Nat, at' = x := ⟨at'.toNat, by omega⟩
      obtain ⟨y, rfl⟩ : ∃ y : Nat, n = y := ⟨n.toNat, by omega⟩
      have e1 : readE σ k x y = 0 := by unfold readE; rw [if_neg (by simp [hE]), if_neg hneg]
      have ed : dataI σ k = nd.data := by
        have : σ.ndI (k : Int) = some nd := by
          unfold FSt.ndI
          obtain ⟨h0, _⟩ := FSt.nd_lt (show (σ.nd k).isSome = true by rw [hk]; rfl)
          rw [if_pos (by omega)]
          simpa using hk
        unfold dataI; rw [this]
      have e2 : readB σ k x y = (nd.data.drop x).take y := by unfold readB; rw [e1, ed]; simp
      rw [e1, e2]
      obtain ⟨dvn, evn, pvn, hnd⟩ := h.node hk
      have hlive := h.live
      have hbyts := hlive.byts
      have hdl := byts_nd hk
      have hfile := hide hfile
      obtain ⟨da, dc, hdv⟩ := hnd.data.form
      have c5 : w.cell? ⟨p k, 5, none⟩ = some (.slice da nd.data.length dc) := by rw [blk_cell hnd.hb, hdv]; rfl
      by_cases hx : nd.data.length ≤ x
      · have e3 : (nd.data.drop x).take y = [] := by rw [List.drop_of_length_le hx, List.take_nil]
        rw [e3]
        have hxI : (nd.data.length : Int) ≤ (x : Int) := by omega
        clear hneg e2 e3 ed
        go_enter Tryz.func45, Tryz.ntmps45
        go_wp2_with fail
        refine hfile.out.mono ?_
        rintro e w1 ⟨a, rfl, rfl, ha⟩
        rw [hE] at ha ⊢
        obtain rfl := ha rfl
        clear hfile
        simp only [Int.toNat_natCast]
        go_wp2_with fail
        go_returns
        exact ⟨rfl, Fr.refl _ _⟩
      · obtain ⟨g, cap, hv2, hcap, hcells⟩ := data_some hnd.data (by omega)
        rw [hdv] at hv2
        cases hv2
        have hxI : ¬ (nd.data.length : Int) ≤ (x : Int) := by omega
        obtain ⟨q, hq⟩ : ∃ q, q = min y (nd.data.length - x) := ⟨_, rfl⟩
        have e3 : (nd.data.drop x).take y = (nd.data.drop x).take q := by
          rw [hq]
          by_cases hy : y ≤ nd.data.length - x
          · rw [Nat.min_eq_left hy]
          · rw [Nat.min_eq_right (by omega), List.take_of_length_le (by simp; omega), List.take_of_length_le (by simp)]
        rw [e3]
        have hqI : min (y : Int) ((nd.data.length : Int) - (x : Int)) = (q : Int) := by omega
        have hql : ((nd.data.drop x).take q).length = q := by simp; omega
        have hcut := cut_lh (g := g) (n := nd.data.length) (cap := dc) (a := x) (q := q) (by omega) (by omega) hcap
        have hconv := conv_bytes (w := w.drew) (g := g) (a := x) ((nd.data.drop x).take q) (fun j hj => by
          rw [List.getElem_take, List.getElem_drop]
          exact hcells (x + j) (by omega)) (dc - x)
        rw [hql] at hconv
        have c5d : w.drew.cell? ⟨p k, 5, none⟩ = some (.slice (some ⟨g, 0, none⟩) nd.data.length dc) := c5
        have hconv' : (convert 88 9 (.slice (some ⟨g, x, none⟩) q (dc - x))).run Tryz.prog w.drew = .ok (.string ⟨((nd.data.drop x).take q).toArray⟩) w.drew := hconv
        generalize (⟨((nd.data.drop x).take q).toArray⟩ : ByteArray) = res at *
        clear hneg e2 e3 ed hcells hql hconv hx
        have hq64 : (q : Int) ≤ 65536 := by omega
        clear hq
        go_enter Tryz.func45, Tryz.ntmps45
        go_wp2_with fail
        refine hfile.out.mono ?_
        rintro e w1 ⟨a, rfl, rfl, ha⟩
        rw [hE] at ha ⊢
        obtain rfl := ha rfl
        clear hfile
        simp only [Int.toNat_natCast]
        go_wp2_with fail
        refine region_still (by kernel_rfl) (by kernel_rfl) ?_
        repeat go_big_quiet_step (fail)
        refine wpQuiet_nil ?_
        go_wp2_with fail
        go_returns
        exact ⟨rfl, (Fr.refl _ _).drew⟩
  · have e1 : readE σ i at' n = fileE σ i := by unfold readE; rw [if_pos hE]
    have e2 : readB σ i at' n = [] := by unfold readB; rw [e1, if_pos hE]
    rw [e1, e2]
    have hfile := hide hfile
    go_enter Tryz.func45, Tryz.ntmps45
    go_wp2_with fail
    refine hfile.out.mono ?_
    rintro e w1 ⟨a, rfl, rfl, _⟩
    clear hfile
    go_wp2_with fail
    go_returns
    exact ⟨rfl, Fr.refl _ _⟩
end Go.Proofs.YtffekmjoenppaaaGreatDoor

/- files.FS.Truncate, Write, Bytes. Conditions: the contracts' own premises. -/
namespace Go.Proofs.YtffekmjoenppaaaGreatDoor
open Go.RowKit

/-- So it answers, and so it leaves. -/
def MutPost (f : Nat) (σ' : FSt) (S : Nat → Prop) (p : Nat → Nat) (v : Value) (w : World) (e : Ending) (w' : World) : Prop := e = .returned v ∧ FilesAt w' f σ' S p ∧ Fr S w w'
theorem MutPost.still {f : Nat} {σ : FSt} {S : Nat → Prop} {p : Nat → Nat} {v : Value} {w w' : World} (h : FilesAt w f σ S p) (hf : Fr (fun _ => False) w w') : MutPost f σ S p v w (.returned v) w' := ⟨rfl, h.frame hf (fun _ _ _ e => e), hf.mono (fun _ _ e => e.elim)⟩
theorem ndI_nat {σ : FSt} {k : Nat} {n : Nd} (h : σ.nd k = some n) : σ.ndI (k : Int) = some n := by
  unfold FSt.ndI
  obtain ⟨h0, _⟩ := FSt.nd_lt (show (σ.nd k).isSome = true by rw [h]; rfl)
  rw [if_pos (by omega)]
  simpa using h
def fits (σ : FSt) (n : Nd) (m : Nat) : Prop := σ.byts + m ≤ 65536 + n.data.length
instance (σ : FSt) (n : Nd) (m : Nat) : Decidable (fits σ n m) := by unfold fits; infer_instance
def truncR (σ : FSt) (i n : Int) : Int × FSt :=
  match σ.ndI i with
  | none => (9, σ)
  | some nd => if nd.d then (21, σ) else if n < 0 then (22, σ) else if 65536 < n then (28, σ) else if fits σ nd n.toNat then (0, sizeS σ i.toNat nd n.toNat) else (28, σ)
theorem fileE_cases {σ : FSt} {i : Int} (h : fileE σ i ≠ 0) : (σ.ndI i = none ∧ fileE σ i = 9) ∨ ∃ n, σ.ndI i = some n ∧ n.d = true ∧ fileE σ i = 21 := by
  cases hn : σ.ndI i with
  | none => exact .inl ⟨rfl, by unfold fileE; rw [hn]⟩
  | some n =>
    cases hd : n.d with
    | true => exact .inr ⟨n, rfl, hd, by unfold fileE; rw [hn]; simp [hd]⟩
    | false => exact absurd (by unfold fileE; rw [hn]; simp [hd]) h
theorem truncR_err {σ : FSt} {i n : Int} (h : fileE σ i ≠ 0) : truncR σ i n = (fileE σ i, σ) := by
  rcases fileE_cases h with ⟨h1, h2⟩ | ⟨m, h1, h2, h3⟩
  · unfold truncR; rw [h1, h2]
  · unfold truncR; rw [h1, h3]; simp [h2]
set_option maxRecDepth 100000 in
set_option maxHeartbeats 2000000 in
theorem Truncate_any (w : World) (f : Nat) (σ : FSt) (S : Nat → Prop) (p : Nat → Nat) (h : FilesAt w f σ S p) (i n : Int) (hi : -9223372036854775808 ≤ i ∧ i ≤ 9223372036854775807) (hn : -9223372036854775808 ≤ n ∧ n ≤ 9223372036854775807) :
    Calls Tryz.prog 57 #[.pointer (some ⟨f, 0, none⟩), .int .i64 i, .int .i64 n] w (MutPost f (truncR σ i n).2 S p (.int .i64 (truncR σ i n).1) w) := by
  have hfile := hide (file_any w f σ S p h i hi)
  by_cases hE : fileE σ i = 0
  · obtain ⟨k, nd, rfl, hk, hd⟩ := fileE_zero hE
    have hdef : truncR σ k n = if n < 0 then (22, σ) else if 65536 < n then (28, σ) else if fits σ nd n.toNat then (0, sizeS σ k nd n.toNat) else (28, σ) := by
      unfold truncR
      rw [ndI_nat hk]
      simp only [hd, Bool.false_eq_true, if_false, Int.toNat_natCast]
    rw [hdef]
    clear hdef
    by_cases h1 : n < 0
    · rw [if_pos h1]
      have hres := hide (MutPost.still (v := .int .i64 22) h (Fr.refl _ w))
      go_enter Tryz.func57, Tryz.ntmps57
      go_wp2_with fail
      refine hfile.out.mono ?_
      rintro e w1 ⟨a, rfl, rfl, ha⟩
      rw [hE] at ha ⊢
      clear hfile
      go_wp2_with fail
      go_ret
      exact hres.out
    rw [if_neg h1]
    by_cases h2 : 65536 < n
    · rw [if_pos h2]
      have hres := hide (MutPost.still (v := .int .i64 28) h (Fr.refl _ w))
      go_enter Tryz.func57, Tryz.ntmps57
      go_wp2_with fail
      refine hfile.out.mono ?_
      rintro e w1 ⟨a, rfl, rfl, ha⟩
      rw [hE] at ha ⊢
      clear hfile
      go_wp2_with fail
      go_ret
      exact hres.out
    rw [if_neg h2]
    obtain ⟨m, rfl⟩ : ∃ m : Nat, n = m := ⟨n.toNat, by omega⟩
    have hsize := hide (size_any w f σ S p h k nd hk hd m (by omega))
    simp only [Int.toNat_natCast]
    by_cases hfit : fits σ nd m
    · rw [if_pos hfit]
      go_enter Tryz.func57, Tryz.ntmps57
      go_wp2_with fail
      refine hfile.out.mono ?_
      rintro e w1 ⟨a, rfl, rfl, ha⟩
      rw [hE] at ha ⊢
      obtain rfl := ha rfl
      clear hfile
      simp only [Int.toNat_natCast]
      go_wp2_with fail
      refine hsize.out.mono ?_
      rintro e w2 ⟨hA, -⟩
      obtain ⟨rfl, hA2, hA3⟩ := hA hfit
      clear hsize
      go_wp2_with fail
      go_ret
      exact ⟨rfl, hA2, hA3⟩
    · rw [if_neg hfit]
      go_enter Tryz.func57, Tryz.ntmps57
      go_wp2_with fail
      refine hfile.out.mono ?_
      rintro e w1 ⟨a, rfl, rfl, ha⟩
      rw [hE] at ha ⊢
      obtain rfl := ha rfl
      clear hfile
      simp only [Int.toNat_natCast]
      go_wp2_with fail
      refine hsize.out.mono ?_
      rintro e w2 ⟨-, hA⟩
      obtain ⟨rfl, hA2, hA3⟩ := hA hfit
      clear hsize
      go_wp2_with fail
      go_ret
      exact ⟨rfl, hA2, hA3⟩
  · have hdef := truncR_err (n := n) hE
    rw [hdef]
    have hres := hide (MutPost.still (v := .int .i64 (fileE σ i)) h (Fr.refl _ w))
    clear hdef
    go_enter Tryz.func57, Tryz.ntmps57
    go_wp2_with fail
    refine hfile.out.mono ?_
    rintro e w1 ⟨a, rfl, rfl, ha⟩
    clear hfile
    go_wp2_with fail
    go_ret
    exact hres.out
def overwrite (l : List UInt8) (a : Nat) (s : List UInt8) : List UInt8 := l.take a ++ s ++ l.drop (a + s.length)
theorem overwrite_length {l : List UInt8} {a : Nat} {s : List UInt8} (h : a + s.length ≤ l.length) : (overwrite l a s).length = l.length := by
  unfold overwrite
  simp
  omega
/-- Written over. -/
def overS' (σ : FSt) (i : Nat) (n : Nd) (a : Nat) (s : List UInt8) : FSt := σ.put i (some { n with data := overwrite n.data a s })
theorem overS_live {σ : FSt} {i : Nat} {n : Nd} (h : Live σ) (hn : σ.nd i = some n) (hd : n.d = false) {a : Nat} {s : List UInt8} (hl : a + s.length ≤ n.data.length) : Live (overS' σ i n a s) := by
  have hb : (overS' σ i n a s).byts = σ.byts := by
    have := FSt.byts_put hn (some { n with data := overwrite n.data a s })
    rw [show ndLen (some { n with data := overwrite n.data a s }) = n.data.length from overwrite_length hl] at this
    unfold overS'
    omega
  refine h.put hn rfl ?_ (h.ents i n hn) (fun e => by rw [hd] at e; cases e) ?_ (h.names i n hn)
  · intro e
    obtain ⟨r, h1, h2, _⟩ := h.root
    subst e
    rw [hn] at h1
    cases h1
    rw [hd] at h2
    cases h2
  · show (overS' σ i n a s).byts ≤ 65536
    rw [hb]; exact h.byts
theorem DataV.over {w : World} {g cap : Nat} {l s : List UInt8} {a : Nat} (h : DataV w (.slice (some ⟨g, 0, none⟩) l.length cap) l) (hl : a + s.length ≤ l.length) :
    ∃ cur, w.heap[g]? = some (.cells cur 5 (0, 0)) ∧ l.length ≤ cap ∧ cap ≤ cur.size ∧ DataV (w.setRow g (cur.toList.take a ++ byteV s ++ cur.toList.drop (a + s.length)).toArray) (.slice (some ⟨g, 0, none⟩) l.length cap) (overwrite l a s) := by
  rcases h with ⟨e, _⟩ | ⟨g', cap', cur, e, hg, hc1, hc2, hcur⟩
  · cases e
  · cases e
    refine ⟨cur, hg, hc1, hc2, .inr ⟨g, cap, _, by rw [overwrite_length hl], setRow_heap w g cur _ _ _ hg, by rw [overwrite_length hl]; exact hc1, ?_, ?_⟩⟩
    · simp [byteV]; omega
    · rw [overwrite_length hl]
      have e0 : cur.toList = cur.toList.take l.length ++ cur.toList.drop l.length := (List.take_append_drop _ _).symm
      have e1 : cur.toList.take a = (l.take a).map fun c => Value.int .u8 c.toNat := by
        rw [List.map_take, ← hcur, List.take_take, Nat.min_eq_left (by omega)]
      have e2 : (cur.toList.drop (a + s.length)).take (l.length - (a + s.length)) = (l.drop (a + s.length)).map fun c => Value.int .u8 c.toNat := by
        rw [List.map_drop, ← hcur, List.drop_take]
      unfold overwrite
      rw [List.map_append, List.map_append, ← e1, ← e2]
      have h3 : (cur.toList.take a).length = a := by simp; omega
      rw [List.take_append, List.take_of_length_le (by simp [byteV, h3]; omega)]
      congr 1
      simp [byteV, h3]
def writeR (σ : FSt) (i a : Int) (s : List UInt8) : Int × Int × FSt :=
  match σ.ndI i with
  | none => (0, 9, σ)
  | some nd =>
    if nd.d then (0, 21, σ) else if a < 0 then (0, 22, σ) else if 65536 < a ∨ 65536 < s.length then (0, 28, σ) else if s = [] then (0, 0, σ)
    else if fits σ nd (max nd.data.length (a.toNat + s.length)) then (((s.length : Nat) : Int), 0, overS' (sizeS σ i.toNat nd (max nd.data.length (a.toNat + s.length))) i.toNat { nd with data := resize nd.data (max nd.data.length (a.toNat + s.length)) } a.toNat s)
    else (0, 28, σ)
theorem writeR_err {σ : FSt} {i a : Int} {s : List UInt8} (h : fileE σ i ≠ 0) : writeR σ i a s = (0, fileE σ i, σ) := by
  rcases fileE_cases h with ⟨h1, h2⟩ | ⟨m, h1, h2, h3⟩
  · unfold writeR; rw [h1, h2]
  · unfold writeR; rw [h1, h3]; simp [h2]
theorem cut_l {g n cap a : Nat} (ha : a < n) (hn : n ≤ cap) : ∀ w', (Instr.sliceAt 88 (.slice (some ⟨g, 0, none⟩) n cap) (some (.int .i64 a)) none none).run Tryz.prog w' = .ok (.slice (some ⟨g, a, none⟩) (n - a) (cap - a)) w' := by
  intro w'
  have hsz : ∀ w', (sizeOf 5).run Tryz.prog w' = .ok 1 w' := fun w' => by kernel_rfl
  have he : Tryz.prog.elem 88 = 5 := by kernel_rfl
  have ht : Tryz.prog.underlying 88 = some (.slice (Tryz.prog.elem 88)) := by kernel_rfl
  rw [run_sliceAt_slice (h := ht), run_slice_l (ht := ht) (h0 := by omega) (h1 := by omega), he, hsz]
  have e2 : ((a : Int)).toNat = a := by omega
  simp only [Result.andThen_ok, sliced, e2, Nat.mul_one, Option.map_some]
  rw [if_neg (by omega)]
  have hadd : (⟨g, 0, none⟩ : Addr).add a = ⟨g, a, none⟩ := by unfold Addr.add; split <;> simp_all
  rw [hadd]
theorem wpList_copy_run {P : Program} (w : World) {ops : Array Oper} {rest : List Oper} {o : Oper} {a : Act} {Q : Exit → Act → World → Prop} (hgd : o.guard = none) (d s : Operand) (t t' : TypeId)
    (ho : o.op = .call { callee := .builtin .copy, args := #[d, s], argTypes := #[t, t'] }) (v u : Value) (hd : a.eval d = v) (hs : a.eval s = u) {v' : Value} {w' : World}
    (hr : (Builtin.copy_ #[t, t'] o.type #[v, u]).run P w = .ok v' w') (h : wpList P ops Q rest (a.put o.dst v') w') : wpList P ops Q (o :: rest) a w := by
  refine wpList_plain hgd fun _ hK => ?_
  unfold Oper.wp execOp
  simp only [ho, resolve, invoke, builtin, Sem.run_bind, Sem.run_pure, Result.andThen_ok, List.map_toArray, List.map_cons, List.map_nil, hd, hs, hr]
  exact hK _ _ h
set_option maxRecDepth 100000 in
set_option maxHeartbeats 4000000 in
theorem Write_any (w : World) (f : Nat) (σ : FSt) (S : Nat → Prop) (p : Nat → Nat) (h : FilesAt w f σ S p) (i x : Int) (s : ByteArray) (hi : -9223372036854775808 ≤ i ∧ i ≤ 9223372036854775807) (hx : -9223372036854775808 ≤ x ∧ x ≤ 9223372036854775807) (hs : s.size ≤ 9223372036854775807) :
    Calls Tryz.prog 49 #[.pointer (some ⟨f, 0, none⟩), .int .i64 i, .int .i64 x, .string s] w (MutPost f (writeR σ i x s.data.toList).2.2 S p (.tuple #[.int .i64 (writeR σ i x s.data.toList).1, .int .i64 (writeR σ i x s.data.toList).2.1]) w) := by
  have hfile := hide (file_any w f σ S p h i hi)
  by_cases hE : fileE σ i = 0
  · obtain ⟨k, nd, rfl, hk, hd⟩ := fileE_zero hE
    have hdef : writeR σ k x s.data.toList = if x < 0 then (0, 22, σ) else if 65536 < x ∨ 65536 < s.size then (0, 28, σ) else if s.data.toList = [] then (0, 0, σ)
        else if fits σ nd (max nd.data.length (x.toNat + s.size)) then (((s.size : Nat) : Int), 0, overS' (sizeS σ k nd (max nd.data.length (x.toNat + s.size))) k { nd with data := resize nd.data (max nd.data.length (x.toNat + s.size)) } x.toNat s.data.toList)
        else (0, 28, σ) := by
      unfold writeR
      rw [ndI_nat hk, ba_len]
      simp only [hd, Bool.false_eq_true, if_false, Int.toNat_natCast]
    rw [hdef]
    clear hdef
    have still : ∀ E : Int, Hid (MutPost f σ S p (.tuple #[.int .i64 0, .int .i64 E]) w (.returned (.tuple #[.int .i64 0, .int .i64 E])) w) := fun E => hide (MutPost.still h (Fr.refl _ w))
    by_cases h1 : x < 0
    · rw [if_pos h1]
      have hres := still 22
      clear still
      go_enter Tryz.func49, Tryz.ntmps49
      go_wp2_with fail
      refine hfile.out.mono ?_
      rintro e w1 ⟨a, rfl, rfl, ha⟩
      rw [hE] at ha ⊢
      clear hfile
      go_wp2_with fail
      go_returns
      exact hres.out
    rw [if_neg h1]
    by_cases h2 : 65536 < x ∨ 65536 < s.size
    · rw [if_pos h2]
      have hres := still 28
      clear still
      by_cases h3 : 65536 < x
      · go_enter Tryz.func49, Tryz.ntmps49
        go_wp2_with fail
        refine hfile.out.mono ?_
        rintro e w1 ⟨a, rfl, rfl, ha⟩
        rw [hE] at ha ⊢
        clear hfile h2
        go_wp2_with fail
        go_returns
        exact hres.out
      · have h4 : (65536 : Int) < (s.size : Int) := by have := h2.resolve_left h3; omega
        go_enter Tryz.func49, Tryz.ntmps49
        go_wp2_with fail
        refine hfile.out.mono ?_
        rintro e w1 ⟨a, rfl, rfl, ha⟩
        rw [hE] at ha ⊢
        clear hfile h2
        go_wp2_with fail
        go_returns
        exact hres.out
    rw [if_neg h2]
    have h3 : ¬ 65536 < x := fun e => h2 (.inl e)
    have h4 : ¬ (65536 : Int) < (s.size : Int) := fun e => h2 (.inr (by omega))
    clear h2
    by_cases h5 : s.data.toList = []
    · rw [if_pos h5]
      have h6 := ba_empty h5
      have hres := still 0
      clear still
      clear h5
      go_enter Tryz.func49, Tryz.ntmps49
      go_wp2_with fail
      refine hfile.out.mono ?_
      rintro e w1 ⟨a, rfl, rfl, ha⟩
      rw [hE] at ha ⊢
      clear hfile
      go_wp2_with fail
      go_returns
      exact hres.out
    rw [if_neg h5]
    have h6 := ba_nonempty h5
    have hpos : 0 < s.size := by rw [← ba_len]; exact List.length_pos_iff.2 h5
    clear h5 still
    obtain ⟨y, rfl⟩ : ∃ y : Nat, x = y := ⟨x.toNat, by omega⟩
    have hlive := h.live
    have hbyts := hlive.byts
    have hdl := byts_nd hk
    obtain ⟨m, hm⟩ : ∃ m, m = max nd.data.length (y + s.size) := ⟨_, rfl⟩
    have hmI : max (nd.data.length : Int) ((y : Int) + (s.size : Int)) = (m : Int) := by omega
    have hsize := hide (size_any w f σ S p h k nd hk hd m (by omega))
    obtain ⟨dvn, evn, pvn, hnd⟩ := h.node hk
    obtain ⟨da, dc, hdv⟩ := hnd.data.form
    have c5 : w.cell? ⟨p k, 5, none⟩ = some (.slice da nd.data.length dc) := by rw [blk_cell hnd.hb, hdv]; rfl
    simp only [Int.toNat_natCast]
    rw [← hm]
    by_cases hfit : fits σ nd m
    · rw [if_pos hfit]
      have hk2 : (sizeS σ k nd m).nd k = some { nd with data := resize nd.data m } := by
        unfold sizeS
        rw [FSt.nd_put (by rw [hk]; rfl), if_pos rfl]
      have hys : y + s.data.toList.length ≤ m := by rw [ba_len, hm]; exact Nat.le_max_right _ _
      have hmlen : (resize nd.data m).length = m := resize_length _ _
      have hm9 : m ≤ 65536 + nd.data.length := by unfold fits at hfit; omega
      clear hm
      generalize resize nd.data m = D2 at *
      go_enter Tryz.func49, Tryz.ntmps49
      go_wp2_with fail
      refine hfile.out.mono ?_
      rintro e w1 ⟨a, rfl, rfl, ha⟩
      rw [hE] at ha ⊢
      obtain rfl := ha rfl
      clear hfile
      simp only [Int.toNat_natCast]
      go_wp2_with fail
      refine hsize.out.mono ?_
      rintro e w2 ⟨hA, -⟩
      obtain ⟨rfl, hA2, hA3⟩ := hA hfit
      clear hsize
      obtain ⟨dv2, ev2, pv2, lv2, hF2⟩ := hA2
      have hN2 := hF2.nd k _ hk2
      have hD2 : DataV w2 (dv2 k) D2 := hN2.data
      rw [ba_len] at hys
      obtain ⟨g, cap, hdv2, hcap, _⟩ := data_some hD2 (by omega)
      have c52 : w2.cell? ⟨p k, 5, none⟩ = some (.slice (some ⟨g, 0, none⟩) D2.length cap) := by rw [blk_cell hN2.hb, hdv2]; rfl
      have hcut := cut_l (g := g) (n := D2.length) (cap := cap) (a := y) (by omega) hcap
      rw [hdv2] at hD2
      obtain ⟨cur, hg, hc1, hc2, hD3⟩ := hD2.over (a := y) (s := s.data.toList) (by rw [ba_len]; omega)
      have hcopy := Lib.run_copy_row_string (P := Tryz.prog) w2 88 9 3 5 g y (D2.length - y) (cap - y) s cur 5 (by kernel_rfl) (by kernel_rfl) hg (by omega) (by omega)
      have hrow : (cur.toList.take y ++ Lib.byteCells s.data.toList ++ cur.toList.drop (y + s.size)).toArray = (cur.toList.take y ++ byteV s.data.toList ++ cur.toList.drop (y + s.data.toList.length)).toArray := by rw [ba_len]; rfl
      rw [hrow] at hcopy
      generalize (cur.toList.take y ++ byteV s.data.toList ++ cur.toList.drop (y + s.data.toList.length)).toArray = row at *
      have hfr := Fr.setRow w2 g row
      have hgf : g ≠ f := cells_ne hg hF2.hb (by decide)
      have hgp : g ≠ p k := cells_ne hg hN2.hb (by decide)
      have hlive3 := overS_live (a := y) (s := s.data.toList) hF2.live hk2 hd (by show y + s.data.toList.length ≤ D2.length; rw [ba_len]; omega)
      have hby : (overS' (sizeS σ k nd m) k { nd with data := D2 } y s.data.toList).byts = (sizeS σ k nd m).byts := by
        have h9 : ((sizeS σ k nd m).put k (some { ({ nd with data := D2 } : Nd) with data := overwrite D2 y s.data.toList })).byts + D2.length = (sizeS σ k nd m).byts + (overwrite D2 y s.data.toList).length := FSt.byts_put hk2 (some { ({ nd with data := D2 } : Nd) with data := overwrite D2 y s.data.toList })
        rw [overwrite_length (by rw [ba_len]; omega)] at h9
        exact Nat.add_right_cancel h9
      have hF3 := hF2.changed hfr hk2 (n' := { ({ nd with data := D2 } : Nd) with data := overwrite D2 y s.data.toList }) (fun b e => .inr (.inr (.inl (by rw [hdv2]; exact e)))) (by
          show (w2.setRow g row).heap[f]? = some (Obj.cells #[lv2, .int .i64 (sizeS σ k nd m).cnt, .pointer (some ⟨p 1, 0, none⟩), .int .i64 ((overS' (sizeS σ k nd m) k { nd with data := D2 } y s.data.toList).byts : Int)] 86 (0, 0))
          rw [hby, setRow_other w2 g f row (Ne.symm hgf)]
          exact hF2.hb)
        ⟨by rw [setRow_other w2 g (p k) row (Ne.symm hgp), hN2.hb, hdv2], hD3, fun hd2 => (by have hd3 : nd.d = true := hd2; rw [hd] at hd3; cases hd3), hN2.file, hN2.par, hN2.ptr, hN2.md⟩ (fun g' e => .inl (by rw [hdv2]; exact e)) (fun m' e => e) hlive3
      have hres := hide (show MutPost f (overS' (sizeS σ k nd m) k { nd with data := D2 } y s.data.toList) S p (.tuple #[.int .i64 (s.size : Int), .int .i64 0]) w (.returned (.tuple #[.int .i64 (s.size : Int), .int .i64 0])) (w2.setRow g row) from
        ⟨rfl, ⟨_, _, _, _, hF3⟩, hA3.trans' hfr (fun b _ e => hF2.ownd k b (by rw [hk2]; rfl) (by rw [hdv2]; exact e))⟩)
      clear hF3 hlive3 hby hfr hD3 hrow
      generalize w2.setRow g row = w3 at *
      rw [hmlen] at hcopy
      go_wp2_with fail
      go_returns
      exact hres.out
    · rw [if_neg hfit]
      clear hm
      go_enter Tryz.func49, Tryz.ntmps49
      go_wp2_with fail
      refine hfile.out.mono ?_
      rintro e w1 ⟨a, rfl, rfl, ha⟩
      rw [hE] at ha ⊢
      obtain rfl := ha rfl
      clear hfile
      simp only [Int.toNat_natCast]
      go_wp2_with fail
      refine hsize.out.mono ?_
      rintro e w2 ⟨-, hA⟩
      obtain ⟨rfl, hA2, hA3⟩ := hA hfit
      clear hsize
      go_wp2_with fail
      go_returns
      exact ⟨rfl, hA2, hA3⟩
  · rw [writeR_err hE]
    have hres := hide (MutPost.still (v := .tuple #[.int .i64 0, .int .i64 (fileE σ i)]) h (Fr.refl _ w))
    go_enter Tryz.func49, Tryz.ntmps49
    go_wp2_with fail
    refine hfile.out.mono ?_
    rintro e w1 ⟨a, rfl, rfl, ha⟩
    clear hfile
    go_wp2_with fail
    go_returns
    exact hres.out
end Go.Proofs.YtffekmjoenppaaaGreatDoor

/- The tree of files as plain data: an entry more, an inode more. No program in sight; no condition. -/
namespace Go.Proofs.YtffekmjoenppaaaGreatDoor
open Go.RowKit

def openS (σ : FSt) (a : Nat) (nm : List UInt8) : Int := match σ.nd a with | none => 2 | some n => openE n nm
/-- The entry of that name in an inode. -/
def lookS (σ : FSt) (a : Nat) (nm : List UInt8) : Option Nat := match σ.nd a with | none => none | some n => kget nm n.ents
def entS (σ : FSt) (a : Nat) (f : KA Nat → KA Nat) : FSt := match σ.nd a with | none => σ | some n => σ.put a (some { n with ents := f n.ents })
def linkS (σ : FSt) (a : Nat) (nm : List UInt8) (k : Nat) : FSt := entS σ a (kput nm k)
def cutS (σ : FSt) (a : Nat) (nm : List UInt8) : FSt := entS σ a (kdel nm)
def newNd (d : Bool) (m : Int) (a : Nat) : Nd := ⟨d, modeN m, 1, 0, [], [], a⟩
def addE (σ : FSt) (dir : Int) (s : List UInt8) (d : Bool) : Int :=
  if (aheadE σ dir s).1 ≠ 0 then (aheadE σ dir s).1
  else if slashS s = true ∧ d = false then 21
  else if openS σ (aheadE σ dir s).2.1 (aheadE σ dir s).2.2 ≠ 0 then openS σ (aheadE σ dir s).2.1 (aheadE σ dir s).2.2
  else if 100 ≤ σ.cnt then 23 else 0
def addS (σ : FSt) (dir : Int) (s : List UInt8) (d : Bool) (m : Int) : FSt := linkS (σ.add (newNd d m (aheadE σ dir s).2.1)) (aheadE σ dir s).2.1 (aheadE σ dir s).2.2 σ.free
def makeR (σ : FSt) (dir : Int) (s : List UInt8) (d : Bool) (m : Int) : Int × FSt := if addE σ dir s d ≠ 0 then (addE σ dir s d, σ) else (0, addS σ dir s d m)
def createR (σ : FSt) (dir : Int) (s : List UInt8) (m : Int) : Int × Int × FSt := (if addE σ dir s false ≠ 0 then 0 else (σ.free : Int), makeR σ dir s false m)
/-- No count is great. -/
def Caps (σ : FSt) (k : Nat) : Prop := ∀ i n, σ.nd i = some n → n.links ≤ k ∧ n.holds ≤ k ∧ n.ents.length ≤ k
def CapB (σ : FSt) : Prop := Caps σ 1000000000000
theorem FSt.add_same (σ : FSt) (n : Nd) : (σ.add n).nd σ.free = some n := by rw [FSt.nd_add, if_pos rfl]
theorem FSt.add_other {σ : FSt} {i : Nat} (h : (σ.nd i).isSome = true) (n : Nd) : (σ.add n).nd i = σ.nd i := by
  rw [FSt.nd_add, if_neg]
  rintro rfl
  rw [FSt.nd_free] at h
  cases h
theorem entS_some {σ : FSt} {a : Nat} {n : Nd} (h : σ.nd a = some n) (f : KA Nat → KA Nat) : entS σ a f = σ.put a (some { n with ents := f n.ents }) := by unfold entS; rw [h]
theorem Live.ent {σ : FSt} (h : Live σ) {a : Nat} {n : Nd} (hn : σ.nd a = some n) (f : KA Nat → KA Nat) (he : ∀ q ∈ f n.ents, (σ.nd q.2).isSome = true ∧ q.1.length ≤ 32) : Live (entS σ a f) := by
  rw [entS_some hn]
  refine h.put hn rfl (fun e => ?_) (fun q hq => (he q hq).1) (h.par a n hn) ?_ (fun q hq => (he q hq).2)
  · obtain ⟨r, h1, _, h2⟩ := h.root
    subst e
    rw [hn] at h1
    cases h1
    exact h2
  · have h1 := FSt.byts_put hn (some { n with ents := f n.ents })
    have h2 := h.byts
    simp only [ndLen] at h1
    omega
theorem Live.link {σ : FSt} (h : Live σ) {a k : Nat} {n : Nd} (hn : σ.nd a = some n) {nm : List UInt8} (hnm : nm.length ≤ 32) (hk : (σ.nd k).isSome = true) : Live (linkS σ a nm k) :=
  h.ent hn _ fun q hq => by
    rcases kput_mem hq with rfl | hq
    · exact ⟨hk, hnm⟩
    · exact ⟨h.ents a n hn q hq, h.names a n hn q hq⟩
theorem Live.cut {σ : FSt} (h : Live σ) {a : Nat} {n : Nd} (hn : σ.nd a = some n) (nm : List UInt8) : Live (cutS σ a nm) :=
  h.ent hn _ fun q hq => ⟨h.ents a n hn q (List.mem_filter.1 hq).1, h.names a n hn q (List.mem_filter.1 hq).1⟩
end Go.Proofs.YtffekmjoenppaaaGreatDoor
