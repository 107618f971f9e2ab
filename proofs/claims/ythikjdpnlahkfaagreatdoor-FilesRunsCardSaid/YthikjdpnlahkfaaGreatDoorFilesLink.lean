/- files.FS.Link. Conditions: the contract's own premises. -/
import Derived.Test.YthikjdpnlahkfaaGreatDoorFilesX
namespace Go.Proofs.YthikjdpnlahkfaaGreatDoor
open Go.RowKit

def linkE (σ : FSt) (dir : Int) (s t : List UInt8) : Int :=
  if (walkE σ dir s).1 ≠ 0 then (walkE σ dir s).1
  else if dirS σ (walkE σ dir s).2 = true then 21
  else if (aheadE σ dir t).1 ≠ 0 then (aheadE σ dir t).1
  else if slashS t = true then 21
  else openS σ (aheadE σ dir t).2.1 (aheadE σ dir t).2.2
def linkT (σ : FSt) (dir : Int) (s t : List UInt8) : FSt := linkS (relS σ (walkE σ dir s).2 more) (aheadE σ dir t).2.1 (aheadE σ dir t).2.2 (walkE σ dir s).2
def linkR (σ : FSt) (dir : Int) (s t : List UInt8) : Int × FSt := if linkE σ dir s t ≠ 0 then (linkE σ dir s t, σ) else (0, linkT σ dir s t)
theorem Live.moreL {σ : FSt} (h : Live σ) {k : Nat} {nk : Nd} (hk : σ.nd k = some nk) (hd : nk.d = false) : Live (σ.put k (some (more nk))) := by
  refine h.put hk rfl (fun e => ?_) (h.ents k nk hk) (fun e => ?_) ?_ (h.names k nk hk)
  · obtain ⟨r, h1, h2, _⟩ := h.root
    rw [e, h1] at hk
    cases hk
    rw [hd] at h2
    cases h2
  · have : nk.d = true := e
    rw [hd] at this
    cases this
  · rw [same_byts hk (n' := more nk) rfl]; exact h.byts
set_option maxRecDepth 100000 in
set_option maxHeartbeats 4000000 in
theorem Link_any (w : World) (f : Nat) (σ : FSt) (S : Nat → Prop) (p : Nat → Nat) (h : FilesAt w f σ S p) (hml : Ml w) (hcap : CapB σ) (dir : Int) (hdr : -9223372036854775808 ≤ dir ∧ dir ≤ 9223372036854775807) (s t : ByteArray) (hs : s.size ≤ 9223372036854775807) (ht : t.size ≤ 9223372036854775807) :
    Calls Tryz.prog 25 #[.pointer (some ⟨f, 0, none⟩), .int .i64 dir, .string s, .string t] w (MutPost f (linkR σ dir s.data.toList t.data.toList).2 S p (.int .i64 (linkR σ dir s.data.toList t.data.toList).1) w) := by
  have hwk := fwalk_any w f σ S p h hml dir hdr s hs
  have hah := hide (show ∀ w1, Fr (fun _ => False) w w1 → Calls Tryz.prog 62 #[.pointer (some ⟨f, 0, none⟩), .int .i64 dir, .string t] w1 (AheadPost σ p dir t.data.toList w1) from fun w1 hf1 => ahead_any w1 f σ S p (h.frame hf1 (fun _ _ _ e => e)) (hml.frame hf1 (fun e => e)) dir hdr t ht)
  have hdef : linkE σ dir s.data.toList t.data.toList = if (walkE σ dir s.data.toList).1 ≠ 0 then (walkE σ dir s.data.toList).1
    else if dirS σ (walkE σ dir s.data.toList).2 = true then 21
    else if (aheadE σ dir t.data.toList).1 ≠ 0 then (aheadE σ dir t.data.toList).1
    else if slashS t.data.toList = true then 21
    else openS σ (aheadE σ dir t.data.toList).2.1 (aheadE σ dir t.data.toList).2.2 := rfl
  have hT : linkT σ dir s.data.toList t.data.toList = linkS (relS σ (walkE σ dir s.data.toList).2 more) (aheadE σ dir t.data.toList).2.1 (aheadE σ dir t.data.toList).2.2 (walkE σ dir s.data.toList).2 := rfl
  have herr := hide (show ∀ (E : Int) w', linkE σ dir s.data.toList t.data.toList = E → E ≠ 0 → Fr (fun _ => False) w w' → MutPost f (linkR σ dir s.data.toList t.data.toList).2 S p (.int .i64 (linkR σ dir s.data.toList t.data.toList).1) w (.returned (.int .i64 E)) w' from fun E w' h1 h2 h3 => by
    have e : linkR σ dir s.data.toList t.data.toList = (E, σ) := by unfold linkR; rw [h1, if_pos h2]
    rw [e]
    exact MutPost.still h h3)
  have hok9 := hide (show ∀ w', linkE σ dir s.data.toList t.data.toList = 0 → FilesAt w' f (linkT σ dir s.data.toList t.data.toList) S p → Fr S w w' → MutPost f (linkR σ dir s.data.toList t.data.toList).2 S p (.int .i64 (linkR σ dir s.data.toList t.data.toList).1) w (.returned (.int .i64 0)) w' from fun w' h1 h2 h3 => by
    have e : linkR σ dir s.data.toList t.data.toList = (0, linkT σ dir s.data.toList t.data.toList) := by unfold linkR; rw [if_neg (by simp [h1])]
    rw [e]
    exact ⟨rfl, h2, h3⟩)
  unfold WalkPost at hwk
  unfold AheadPost at hah
  obtain ⟨E1, k, hq1⟩ : ∃ E k, walkE σ dir s.data.toList = (E, k) := ⟨_, _, rfl⟩
  obtain ⟨E2, a, nl, hq2⟩ : ∃ E a nl, aheadE σ dir t.data.toList = (E, a, nl) := ⟨_, _, _, rfl⟩
  rw [hq1] at hwk hdef hT
  rw [hq2] at hah hdef hT
  simp only at hah hdef hwk hT
  have Hdef := hide hdef
  have Hwk := hide hwk
  have HT := hide hT
  clear hdef hwk hT hq1 hq2
  go_enter Tryz.func25, Tryz.ntmps25
  go_wp2_with fail
  refine Hwk.out.mono ?_
  rintro e w1 ⟨ap, rfl, hf1, hok1⟩
  clear Hwk
  by_cases hE1 : E1 = 0
  · subst hE1
    obtain ⟨rfl, hks⟩ := hok1 rfl
    obtain ⟨nk, hk⟩ := Option.isSome_iff_exists.1 hks
    clear hok1 hks
    have hdk : dirS σ k = nk.d := by unfold dirS; rw [hk]
    have hdef2 := Hdef.out
    rw [if_neg (by simp), hdk] at hdef2
    have hA1 := h.frame hf1 (fun _ _ _ e => e)
    obtain ⟨dk, ek, pk, hNk⟩ := hA1.node hk
    have hdir := hide (dir_any w1 p (p k) k nk dk ek pk hNk)
    have hah1 := hide (hah.out w1 hf1)
    have Hdef2 := hide hdef2
    clear hdef2 Hdef hdk hNk hah
    cases hdd : nk.d with
    | true =>
      rw [hdd] at hdir Hdef2
      have hres := hide (herr.out 21 w1 (by rw [Hdef2.out]; simp) (by decide) hf1)
      clear Hdef2 herr hok9 hah1 hdd hA1 HT
      go_wp2_with fail
      refine hdir.out.mono ?_
      rintro e w4 ⟨rfl, rfl⟩
      go_wp2_with fail
      go_ret
      exact hres.out
    | false =>
      rw [hdd] at hdir Hdef2
      have hdef3 := Hdef2.out
      simp only [Bool.false_eq_true, if_false] at hdef3
      have Hdef3 := hide hdef3
      have Hdd := hide hdd
      have HA1 := hide hA1
      clear hdef3 Hdef2 hdd hA1
      go_wp2_with fail
      refine hdir.out.mono ?_
      rintro e w4 ⟨rfl, rfl⟩
      clear hdir
      go_wp2_with fail
      refine hah1.out.mono ?_
      rintro e w2 ⟨dv, nm, sl, rfl, hf12, hok, hno⟩
      clear hah1
      have hf2 : Fr (fun _ => False) w w2 := hf1.trans hf12
      by_cases hE : E2 = 0
      · subst hE
        obtain ⟨rfl, hnm, hnm2, hsl, n, hna, hnd⟩ := hok rfl
        clear hok hno
        have hdef4 := Hdef3.out
        rw [if_neg (by simp), ← hsl] at hdef4
        have hopS : openS σ a nl = openE n nm.data.toList := by unfold openS; rw [hna, hnm]
        rw [hopS] at hdef4
        subst hnm
        have Hdef4 := hide hdef4
        clear hdef4 Hdef3 hsl hopS
        obtain ⟨w3, hw3⟩ : ∃ w3, w3 = w2.alloc (.cells #[.pointer (some ⟨p a, 0, none⟩), .string nm, .bool sl] 111 (0, 0)) := ⟨_, rfl⟩
        have hf3 : Fr (fun _ => False) w w3 := by rw [hw3]; exact hf2.alloc _
        have hbp : w3.heap[w2.heap.size]? = some (.cells #[.pointer (some ⟨p a, 0, none⟩), .string nm, .bool sl] 111 (0, 0)) := by rw [hw3]; exact blk_new _ _
        have hA3 := h.frame hf3 (fun _ _ _ e => e)
        obtain ⟨dva, eva, pva, hNa⟩ := hA3.node hna
        have hopen := hide (placeOpen_any w3 p a n dva eva pva hNa hnd nm hnm2 sl)
        have c0p : w3.cell? ⟨w2.heap.size, 0, none⟩ = some (.pointer (some ⟨p a, 0, none⟩)) := by rw [blk_cell hbp]; rfl
        have c1p : w3.cell? ⟨w2.heap.size, 1, none⟩ = some (.string nm) := by rw [blk_cell hbp]; rfl
        have c2p : w3.cell? ⟨w2.heap.size, 2, none⟩ = some (.bool sl) := by rw [blk_cell hbp]; rfl
        have Hf3 := hide hf3
        clear hNa hA3
        cases sl with
        | true =>
          have hres := hide (herr.out 21 w3 (by rw [Hdef4.out, if_pos rfl]) (by decide) hf3)
          clear Hdef4 herr hok9 hopen HT hf3
          subst hw3
          go_wp2_with fail
          go_ret
          exact hres.out
        | false =>
          have hdef5 := Hdef4.out
          simp only [Bool.false_eq_true, if_false] at hdef5
          have Hdef5 := hide hdef5
          obtain ⟨E3, hE3⟩ : ∃ E3, E3 = openE n nm.data.toList := ⟨_, rfl⟩
          rw [← hE3] at hopen Hdef5
          have HE3 := hide hE3
          clear hdef5 Hdef4 hE3 hf3
          subst hw3
          go_wp2_with fail
          refine hopen.out.mono ?_
          rintro e w4 ⟨rfl, hf4⟩
          clear hopen c0p c1p c2p
          have hf04 := Hf3.out.trans hf4
          by_cases h3 : E3 = 0
          · subst h3
            have hA4 := h.frame hf04 (fun _ _ _ e => e)
            obtain ⟨dvi, evi, pvi, hbk, hnew⟩ := hA4.statD hk
            obtain ⟨_, _, _, hNk4⟩ := hA4.node hk
            have hL4 := hA4.live.moreL hk Hdd.out
            obtain ⟨W5, hW5⟩ : ∃ W5, W5 = w4.setCell ⟨p k, 3, none⟩ (.int .i64 ((nk.links : Int) + 1)) := ⟨_, rfl⟩
            have hf5 : Fr (fun b => b = p k) w4 W5 := by rw [hW5]; exact frSet _ _ _ _
            have hst := hnew W5 (more nk) rfl rfl rfl rfl hNk4.md (fun e => by rw [Hdd.out] at e; cases e) hL4 hf5 (by
              rw [hW5, blk_set hbk]; rfl)
            have hka : k ≠ a := fun e => by
              rw [e, hna] at hk
              cases hk
              rw [Hdd.out] at hnd
              cases hnd
            have hna5 : (σ.put k (some (more nk))).nd a = some n := by rw [put_nd hk, if_neg (fun e => hka e.symm)]; exact hna
            have hk5 : (σ.put k (some (more nk))).nd k = some (more nk) := by rw [put_nd hk, if_pos rfl]
            have hlive := hst.1.live
            obtain ⟨⟨dv, evs, pv, lv, hF5⟩, hfS5⟩ := hst
            have hN5 := hF5.nd a n hna5
            obtain ⟨-, ma, hma, hsm5⟩ := hN5.dir hnd
            have hents := (hcap a n hna).2.2
            obtain ⟨W6, hup, hsm6, hf6⟩ := (hsm5.frame ((Fr.refl (fun _ => False) W5).drew) (fun e => e)).update (t := 55) Tryz.underlying9 Tryz.underlying55 (by rw [kmap_length]; unfold maxLen; omega) nm (by unfold maxLen; omega) (.pointer (some ⟨p k, 0, none⟩))
            have hkm := kput_kmap (fun (_ : List UInt8) k => Value.pointer (some ⟨p k, 0, none⟩)) nm.data.toList k n.ents
            rw [hkm] at hsm6
            have hlive6 := hlive.link hna5 (nm := nm.data.toList) (k := k) (by rw [ba_len]; exact hnm2) (by rw [hk5]; rfl)
            have hF5d := hF5.frame ((Fr.refl (fun _ => False) W5).drew) (fun _ _ _ e => e)
            have hA6 := hF5d.ented hna5 hnd hma (kput nm.data.toList k) hf6 hsm6 hlive6
            have hres := hide (hok9.out W6 Hdef5.out (by rw [HT.out, relS_some hk]; exact hA6) (((hf04.mono (fun _ _ e => e.elim)).trans hfS5).trans ((Fr.refl S W5).drew.trans (hf6.mono (fun b _ e => by rw [e]; exact hF5.owne a ma (by rw [hna5]; rfl) hma)))))
            have hcp := (hcap k nk hk).1
            have c3k : w4.cell? ⟨p k, 3, none⟩ = some (.int .i64 nk.links) := by rw [blk_cell hbk]; rfl
            have z3k := blk_frozen hbk 3
            have hbp4 := hf4.get hbp (fun e => e)
            have hpne : w2.heap.size ≠ p k := fun e => cells_ne hbp4 hbk (by decide) e
            have hbp5 := hf5.get hbp4 hpne
            have c0 : W5.drew.cell? ⟨w2.heap.size, 0, none⟩ = some (.pointer (some ⟨p a, 0, none⟩)) := by rw [blk_cell (blk_drew hbp5)]; rfl
            have c1 : W5.drew.cell? ⟨w2.heap.size, 1, none⟩ = some (.string nm) := by rw [blk_cell (blk_drew hbp5)]; rfl
            have c6 : W5.drew.cell? ⟨p a, 6, none⟩ = some (.map (some ma)) := by rw [blk_cell (blk_drew hN5.hb), hma]; rfl
            clear hA6 hF5d hlive6 hkm hsm6 hsm5 hN5 hF5 hlive hL4 hNk4 hnew hA4 hfS5 hbp4 hbp5 hbk hf5 HA1 hok9 herr Hdef5 HT hbp hf4 hf6
            go_wp2_with fail
            refine region_tail 8 (by kernel_rfl) (by kernel_rfl) ?_
            rw [← hW5]
            clear hW5
            simp only [List.take_succ_cons, List.take_zero, List.drop_succ_cons, List.drop_zero]
            repeat go_big_quiet_step (fail)
            refine wpQuiet_nil ?_
            go_wp2_with fail
            go_ret
            exact hres.out
          · have hres := hide (herr.out E3 w4 (by rw [Hdef5.out]) h3 hf04)
            clear Hdef5 HE3 hok9 HT HA1
            go_wp2_with fail
            go_ret
            exact hres.out
      · obtain ⟨rfl, rfl, rfl⟩ := hno hE
        have hres := hide (herr.out E2 (w2.alloc (.cells #[.pointer none, .string ⟨#[]⟩, .bool false] 111 (0, 0))) (by rw [Hdef3.out, if_pos hE]) hE (hf2.alloc _))
        clear hok hno Hdef3 HA1 HT hok9
        go_wp2_with fail
        go_ret
        exact hres.out
  · have hres := hide (herr.out E1 w1 (by rw [Hdef.out, if_pos hE1]) hE1 hf1)
    clear hok1 Hdef HT hok9 hah
    go_wp2_with fail
    go_ret
    exact hres.out
end Go.Proofs.YthikjdpnlahkfaaGreatDoor
