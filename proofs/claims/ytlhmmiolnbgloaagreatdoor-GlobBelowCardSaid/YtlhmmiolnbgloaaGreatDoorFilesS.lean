/- files.FS.add: a new inode at a place. Conditions: the contract's own premises. -/
import Derived.Test.YtlhmmiolnbgloaaGreatDoorFilesQ
namespace Go.Proofs.YtlhmmiolnbgloaaGreatDoor
open Go.RowKit

theorem dirB_any (w : World) (b : Nat) (d : Bool) (h : w.cell? ⟨b, 1, none⟩ = some (.int .i64 (if d then 2 else 1))) : Calls Tryz.prog 22 #[.pointer (some ⟨b, 0, none⟩)] w fun e w' => e = .returned (.bool d) ∧ w = w' := by
  cases d <;> simp only [if_true, if_false, Bool.false_eq_true] at h
  all_goals
    go_enter Tryz.func22, Tryz.ntmps22
    go_wp2
    go_ret
    exact ⟨rfl, rfl⟩
/-- A new inode's block: nothing in it but its kind and its mode. -/
structure NewB (w : World) (nb : Nat) (d : Bool) (m : Int) (ev : Value) : Prop where
  hb : w.heap[nb]? = some (.cells #[.int .i64 0, .int .i64 (if d then 2 else 1), .int .i64 m, .int .i64 0, .int .i64 0, .slice none 0 0, ev, .pointer none] 65 (0, 0))
  dir : d = true → ∃ mb, ev = .map (some mb) ∧ SMapAt Tryz.prog 9 w mb []
  file : d = false → ev = .map none
theorem NewB.frame {w w' : World} {T : Nat → Prop} {nb : Nat} {d : Bool} {m : Int} {ev : Value} (h : NewB w nb d m ev) (hf : Fr T w w') (h1 : ¬ T nb) (h2 : ∀ mb, ev = .map (some mb) → ¬ T mb) : NewB w' nb d m ev :=
  ⟨hf.get h.hb h1, fun hd => by obtain ⟨mb, h3, h4⟩ := h.dir hd; exact ⟨mb, h3, h4.frame hf (h2 mb h3)⟩, h.file⟩
theorem NewB.map_lt {w : World} {nb : Nat} {d : Bool} {m : Int} {ev : Value} (h : NewB w nb d m ev) {mb : Nat} (he : ev = .map (some mb)) : mb < w.heap.size := by
  cases hd : d with
  | true => obtain ⟨mb', h3, h4⟩ := h.dir hd; rw [he] at h3; cases h3; exact h4.lt
  | false => rw [h.file hd] at he; cases he
def NewS (S : Nat → Prop) (nb : Nat) (ev : Value) (k : Nat) : Prop := S k ∨ k = nb ∨ ev = .map (some k)
def MakePost (f : Nat) (σ : FSt) (S : Nat → Prop) (nb : Nat) (ev : Value) (dir : Int) (s : List UInt8) (d : Bool) (m : Int) (w : World) (e : Ending) (w' : World) : Prop :=
  e = .returned (.int .i64 (makeR σ dir s d m).1) ∧ (∃ p', FilesAt w' f (makeR σ dir s d m).2 (NewS S nb ev) p' ∧ ((makeR σ dir s d m).1 = 0 → p' σ.free = nb)) ∧ Fr (NewS S nb ev) w w'
theorem makePost_err {f : Nat} {σ : FSt} {S : Nat → Prop} {p : Nat → Nat} {nb : Nat} {ev : Value} {dir : Int} {s : List UInt8} {d : Bool} {m : Int} {w w' : World} {E : Int} (h : FilesAt w f σ S p) (h1 : addE σ dir s d = E) (h2 : E ≠ 0) (hf : Fr (fun _ => False) w w') :
    MakePost f σ S nb ev dir s d m w (.returned (.int .i64 E)) w' := by
  have hm : makeR σ dir s d m = (E, σ) := by unfold makeR; rw [h1, if_pos h2]
  unfold MakePost
  rw [hm]
  exact ⟨rfl, ⟨p, (h.frame hf (fun _ _ _ e => e)).mono (fun k hk => .inl hk), fun e => absurd e h2⟩, hf.mono (fun _ _ e => e.elim)⟩
set_option maxRecDepth 100000 in
set_option maxHeartbeats 4000000 in
theorem fadd_any (w : World) (f : Nat) (σ : FSt) (S : Nat → Prop) (p : Nat → Nat) (h : FilesAt w f σ S p) (hml : Ml w) (dir : Int) (hd : -9223372036854775808 ≤ dir ∧ dir ≤ 9223372036854775807) (s : ByteArray) (hs : s.size ≤ 9223372036854775807)
    (nb : Nat) (d : Bool) (m : Int) (ev : Value) (hn : NewB w nb d m ev) (hnb : ¬ S nb) (hev : ∀ mb, ev = .map (some mb) → ¬ S mb) (hcap : CapB σ) (hm : -9223372036854775808 ≤ m ∧ m ≤ 9223372036854775807) :
    Calls Tryz.prog 30 #[.pointer (some ⟨f, 0, none⟩), .int .i64 dir, .string s, .pointer (some ⟨nb, 0, none⟩)] w (MakePost f σ S nb ev dir s.data.toList d m w) := by
  have hah := ahead_any w f σ S p h hml dir hd s hs
  have hdef : addE σ dir s.data.toList d = if (aheadE σ dir s.data.toList).1 ≠ 0 then (aheadE σ dir s.data.toList).1
    else if slashS s.data.toList = true ∧ d = false then 21
    else if openS σ (aheadE σ dir s.data.toList).2.1 (aheadE σ dir s.data.toList).2.2 ≠ 0 then openS σ (aheadE σ dir s.data.toList).2.1 (aheadE σ dir s.data.toList).2.2
    else if 100 ≤ σ.cnt then 23 else 0 := rfl
  have herr := hide (show ∀ (E : Int) w', addE σ dir s.data.toList d = E → E ≠ 0 → Fr (fun _ => False) w w' → MakePost f σ S nb ev dir s.data.toList d m w (.returned (.int .i64 E)) w' from fun E w' h1 h2 h3 => makePost_err h h1 h2 h3)
  have hfull : addE σ dir s.data.toList d = 0 → makeR σ dir s.data.toList d m = (0, addS σ dir s.data.toList d m) := fun e => by unfold makeR; rw [if_neg (by simp [e])]
  have hfull := hide hfull
  have hadds : addS σ dir s.data.toList d m = linkS (σ.add (newNd d m (aheadE σ dir s.data.toList).2.1)) (aheadE σ dir s.data.toList).2.1 (aheadE σ dir s.data.toList).2.2 σ.free := rfl
  unfold AheadPost at hah
  obtain ⟨E, a, nl, hq⟩ : ∃ E a nl, aheadE σ dir s.data.toList = (E, a, nl) := ⟨_, _, _, rfl⟩
  rw [hq] at hah hdef hadds
  simp only at hah hdef hadds
  have Hdef := hide hdef
  have Hah := hide hah
  have Hadds := hide hadds
  clear hdef hah hq hadds
  go_enter Tryz.func30, Tryz.ntmps30
  go_wp2_with fail
  refine Hah.out.mono ?_
  rintro e w1 ⟨dv, nm, sl, rfl, hf1, hok, hno⟩
  clear Hah
  by_cases hE : E = 0
  · subst hE
    obtain ⟨rfl, hnm, hnm2, rfl, n, hna, hnd⟩ := hok rfl
    clear hok hno
    have hdef2 : addE σ dir s.data.toList d = if slashS s.data.toList = true ∧ d = false then 21 else if openE n nm.data.toList ≠ 0 then openE n nm.data.toList else if 100 ≤ σ.cnt then 23 else 0 := by
      have hopS : openS σ a nl = openE n nm.data.toList := by unfold openS; rw [hna, hnm]
      rw [Hdef.out, if_neg (by simp), hopS]
    obtain ⟨sl, hsl⟩ : ∃ sl, sl = slashS s.data.toList := ⟨_, rfl⟩
    rw [← hsl] at hdef2 ⊢
    have Hdef2 := hide hdef2
    clear hdef2 Hdef hsl
    obtain ⟨w2, hw2⟩ : ∃ w2, w2 = w1.alloc (.cells #[.pointer (some ⟨p a, 0, none⟩), .string nm, .bool sl] 103 (0, 0)) := ⟨_, rfl⟩
    have hf2 : Fr (fun _ => False) w w2 := by rw [hw2]; exact hf1.alloc _
    have hbp : w2.heap[w1.heap.size]? = some (.cells #[.pointer (some ⟨p a, 0, none⟩), .string nm, .bool sl] 103 (0, 0)) := by rw [hw2]; exact blk_new _ _
    have hA2 := h.frame hf2 (fun _ _ _ e => e)
    have hn2 := hn.frame hf2 (fun e => e) (fun _ _ e => e)
    have hdirc : w2.cell? ⟨nb, 1, none⟩ = some (.int .i64 (if d then 2 else 1)) := by rw [blk_cell hn2.hb]; rfl
    have hdir := hide (dirB_any w2 nb d hdirc)
    obtain ⟨dva, eva, pva, hNa⟩ := hA2.node hna
    have hopen := hide (placeOpen_any w2 p a n dva eva pva hNa hnd nm hnm2 sl)
    have c0p : w2.cell? ⟨w1.heap.size, 0, none⟩ = some (.pointer (some ⟨p a, 0, none⟩)) := by rw [blk_cell hbp]; rfl
    have c1p : w2.cell? ⟨w1.heap.size, 1, none⟩ = some (.string nm) := by rw [blk_cell hbp]; rfl
    have c2p : w2.cell? ⟨w1.heap.size, 2, none⟩ = some (.bool sl) := by rw [blk_cell hbp]; rfl
    have hsz2 : w1.heap.size < w2.heap.size := blk_lt hbp
    have Hn2 := hide hn2
    have HNa := hide hNa
    have HA2 := hide hA2
    clear hn2 hNa hA2 hdirc
    have hgo : (sl = true ∧ d = false) ∨ (sl = false) ∨ (sl = true ∧ d = true) := by cases sl <;> cases d <;> simp
    rcases hgo with ⟨rfl, hd1⟩ | rfl | ⟨rfl, hd1⟩
    · have hres := hide (herr.out 21 _ (by rw [Hdef2.out, if_pos ⟨rfl, hd1⟩]) (by decide) hf2)
      rw [hd1] at hdir
      clear hd1
      subst hw2
      go_wp2_with fail
      refine hdir.out.mono ?_
      rintro e w4 ⟨rfl, rfl⟩
      go_wp2_with fail
      go_ret
      exact hres.out
    all_goals
      have hdef3 := Hdef2.out
      rw [if_neg (by first | (rw [hd1]; simp; done) | simp)] at hdef3
      try rw [hd1] at hdir
      try clear hd1
      have Hdef3 := hide hdef3
      clear hdef3 Hdef2
      have hA2z := HA2.out.live
      obtain ⟨E2, hE2⟩ : ∃ E2, E2 = openE n nm.data.toList := ⟨_, rfl⟩
      rw [← hE2] at hopen Hdef3
      have HE2 := hide hE2
      clear hE2 hA2z
      first
        | (subst hw2; go_wp2_with fail; refine hopen.out.mono ?_)
        | (subst hw2; go_wp2_with fail; refine hdir.out.mono ?_; rintro e w4 ⟨rfl, rfl⟩; go_wp2_with fail; refine hopen.out.mono ?_)
      rintro e w3 ⟨rfl, hf3⟩
      clear hopen hdir
      have hf23 := hf2.trans hf3
      by_cases h2 : E2 = 0
      · subst h2
        have hdef4 := Hdef3.out
        rw [if_neg (by simp)] at hdef4
        have Hdef4 := hide hdef4
        clear hdef4 Hdef3
        have hA3 := h.frame hf23 (fun _ _ _ e => e)
        obtain ⟨dv, evs, pv, lv, hF⟩ := id hA3
        have hcnt : w3.cell? ⟨f, 1, none⟩ = some (.int .i64 σ.cnt) := by rw [blk_cell hF.hb]; rfl
        by_cases h100 : 100 ≤ σ.cnt
        · have hres := hide (herr.out 23 w3 (by rw [Hdef4.out, if_pos h100]) (by decide) hf23)
          have h100i : (100 : Int) ≤ (σ.cnt : Int) := by omega
          clear Hdef4 hF hA3
          go_wp2_with fail
          go_ret
          exact hres.out
        · have h100i : ¬ (100 : Int) ≤ (σ.cnt : Int) := by omega
          have hN3 := Hn2.out.frame hf3 (fun e => e) (fun _ _ e => e)
          have c2n : w3.cell? ⟨nb, 2, none⟩ = some (.int .i64 m) := by rw [blk_cell hN3.hb]; rfl
          have z2n := blk_frozen hN3.hb
          have hbp3 := hf3.get hbp (fun e => e)
          have hnbl : nb < w.heap.size := blk_lt hn.hb
          have hsz1 := hf1.size
          have hmode := modeN_eq m
          obtain ⟨W4, hW4⟩ : ∃ W4, W4 = w3.setCell ⟨nb, 2, none⟩ (.int .i64 (modeN m)) := ⟨_, rfl⟩
          have hfr4 : Fr (fun k => k = nb) w3 W4 := by rw [hW4]; exact frSet _ _ _ _
          have hb4 : W4.heap[nb]? = some (.cells #[.int .i64 0, .int .i64 (if d then 2 else 1), .int .i64 (modeN m), .int .i64 0, .int .i64 0, .slice none 0 0, ev, .pointer none] 65 (0, 0)) := by rw [hW4, blk_set hN3.hb]; rfl
          have hplace : ∀ W, Fr (fun k => k = nb) W4 W → W.cell? ⟨w1.heap.size, 0, none⟩ = some (.pointer (some ⟨p a, 0, none⟩)) := fun W hW => by
            rw [blk_cell (hW.get (hfr4.get hbp3 (by omega)) (by omega))]; rfl
          have Hplace := hide hplace
          have HN3 := hide hN3
          have Hb4 := hide hb4
          have HF := hide hF
          have Hdef4' := Hdef4
          clear hplace hb4 hN3 hF hA3 Hdef4 herr c0p c1p c2p
          go_wp2_with fail
          rw [← hW4]
          refine region_tree (fun W => Fr (fun k => k = nb) W4 W) [0, 1, 2, 3, 4, 5] 1 7 (by kernel_rfl) (by kernel_rfl) (fun _ _ d _ _ h => by cases d <;> exact h) (Fr.refl _ _).drew ?_
          simp only [List.map_cons, List.map_nil, List.getD_cons_zero, List.getD_cons_succ, List.drop_succ_cons, List.drop_zero]
          go_big_quiet_step (fail)
          go_big_quiet_step (fail)
          refine wpQuiet_val (.pointer (some ⟨w1.heap.size, 0, none⟩)) rfl (fun w' hS => by (go_simp)) ?_
          simp only [Act.put, List.setIfInBounds_toArray, List.set_cons_succ, List.set_cons_zero]
          refine wpQuiet_val (.pointer (some ⟨p a, 0, none⟩)) rfl (fun w' hS => by (have e2 := Hplace.out w' hS; go_simp)) ?_
          simp only [Act.put, List.setIfInBounds_toArray, List.set_cons_succ, List.set_cons_zero]
          refine wpQuiet_val (.pointer (some ⟨nb, 0, none⟩)) rfl (fun w' hS => by (go_simp)) ?_
          simp only [Act.put, List.setIfInBounds_toArray, List.set_cons_succ, List.set_cons_zero]
          refine wpQuiet_val (.pointer (some ⟨nb, 3, none⟩)) rfl (fun w' hS => by (go_simp)) ?_
          simp only [Act.put, List.setIfInBounds_toArray, List.set_cons_succ, List.set_cons_zero]
          refine wpQuiet_nil ?_
          generalize hX0e : W4.drew = X0
          have hX0 : Fr (fun k => k = nb) W4 X0 := by rw [← hX0e]; exact (Fr.refl _ _).drew
          have hb0 := hX0e ▸ blk_drew Hb4.out
          have z0 := blk_frozen hb0
          clear hX0e
          refine tree_one' 6 (by kernel_rfl) (by decide) (by simp) rfl (fun K hK => ?_)
          simp only [List.getD_cons_zero, List.getD_cons_succ]
          have c03 : X0.cell? ⟨nb, 3, none⟩ = some (.int .i64 0) := by rw [blk_cell hb0]; rfl
          go_wp2_with fail
          have hX1 : Fr (fun k => k = nb) W4 (X0.setCell ⟨nb, 3, none⟩ (.int .i64 1)) := hX0.trans (frSet _ _ _ _)
          have hb1 := blk_set hb0 3 (.int .i64 1)
          refine hK _ _ hX1 ?_
          clear hK K
          generalize X0.setCell ⟨nb, 3, none⟩ (.int .i64 1) = X1 at *
          have z1 := blk_frozen hb1
          have c17 : X1.cell? ⟨nb, 7, none⟩ = some (.pointer none) := by rw [blk_cell hb1]; rfl
          refine tree_end (by kernel_rfl) ?_
          have hX2 : Fr (fun k => k = nb) W4 (X1.setCell ⟨nb, 7, none⟩ (.pointer (some ⟨p a, 0, none⟩))) := hX1.trans (frSet _ _ _ _)
          have hb2 := blk_set hb1 7 (.pointer (some ⟨p a, 0, none⟩))
          generalize hX2e : X1.setCell ⟨nb, 7, none⟩ (.pointer (some ⟨p a, 0, none⟩)) = X2 at hX2 hb2
          simp only [List.setIfInBounds_toArray, List.set_cons_zero, List.set_cons_succ] at hb2
          have hF2 := HF.out.frame (hfr4.trans hX2) (fun k _ hk e => hnb (e ▸ hk))
          have hsadd := sadd_any X2 f nb lv σ.cnt (.pointer (some ⟨p 1, 0, none⟩)) (.int .i64 σ.byts) (slotL p σ) hF2.hb (by rw [slotL_length, slotL_enc]; exact hF2.hl) (by omega) (by rw [slotL_length]; have := hF2.live.len; omega)
          have Hsadd := hide hsadd
          have HF2 := hide hF2
          have Hb2 := hide hb2
          clear hsadd hF2 hb2 hb1 hb0
          go_wp2_with fail
          refine Hsadd.out.mono ?_
          clear hX2e Hsadd
          rintro e w7 ⟨rfl, lv', hb7, hl7, hfr7, hlv7⟩
          have hfree : ((freeI (slotL p σ) : Int) + 1) = (σ.free : Int) := by rw [slotL_free]; unfold FSt.free; omega
          rw [hfree]
          clear hfree
          have hlive := HF2.out.live
          have hnf : nb ≠ f := fun e => hnb (e ▸ HF2.out.own)
          have hnl : ∀ g, lv.ownBlock = some g → nb ≠ g := fun g e e2 => hnb (e2 ▸ HF2.out.ownl g e)
          have hbn7 := hfr7.get Hb2.out (fun e => e.elim hnf (fun e => hnl _ e rfl))
          have zn7 := blk_frozen hbn7
          have cn7 : w7.cell? ⟨nb, 0, none⟩ = some (.int .i64 0) := by rw [blk_cell hbn7]; rfl
          obtain ⟨W8, hW8⟩ : ∃ W8, W8 = (w7.setCell ⟨nb, 0, none⟩ (.int .i64 σ.free)).drew := ⟨_, rfl⟩
          have hbn8 : W8.heap[nb]? = some (.cells #[.int .i64 σ.free, .int .i64 (if d then 2 else 1), .int .i64 (modeN m), .int .i64 1, .int .i64 0, .slice none 0 0, ev, .pointer (some ⟨p a, 0, none⟩)] 65 (0, 0)) := by
            rw [hW8, blk_drew (blk_set hbn7 0 (.int .i64 σ.free))]; rfl
          have hfr8 : Fr (fun k => k = f ∨ lv.ownBlock = some k ∨ k = nb) X2 W8 := by
            rw [hW8]
            exact (((hfr7.mono (S' := fun k => k = f ∨ lv.ownBlock = some k ∨ k = nb) (fun k _ e => e.imp id .inl)).trans' (frSet _ nb 0 _) (fun k _ e => .inr (.inr e)))).drew
          have hf7to8 : Fr (fun k => k = nb) w7 W8 := by rw [hW8]; exact (frSet w7 nb 0 (.int .i64 σ.free)).drew
          have hapos : (σ.nd a).isSome = true := by rw [hna]; rfl
          have hane := Live.ne_free hapos
          have hf38 : Fr (fun k => k = nb ∨ k = f ∨ lv.ownBlock = some k) w3 W8 := ((hfr4.trans hX2).mono (fun k _ e => .inl e)).trans' hfr8 (fun k _ e => by
            rcases e with e | e | e
            · exact .inr (.inl e)
            · exact .inr (.inr e)
            · exact .inl e)
          have hfw8 : Fr (NewS S nb ev) w W8 := (hf23.mono (fun k _ e => e.elim)).trans' hf38 (fun k _ e => by
            rcases e with e | e | e
            · exact .inr (.inl e)
            · exact .inl (e ▸ HF2.out.own)
            · exact .inl (HF2.out.ownl k e))
          have hlv9 : ∀ g, lv'.ownBlock = some g → S g ∧ g ≠ nb := fun g e => by
            rcases hlv7 with h9 | h9
            · rw [h9] at e; exact ⟨HF2.out.ownl g e, (hnl g e).symm⟩
            · rw [h9] at e
              have e9 : X2.heap.size + 1 = g := by simpa using e
              have hs9 := hf23.size
              have hs8 := (hfr4.trans hX2).size
              exact ⟨HF2.out.up g (by omega), by omega⟩
          obtain ⟨hsl1, hsl2⟩ := slotL_add p σ nb (newNd d m a)
          rw [hsl1, hsl2] at hl7
          obtain ⟨-, ma, hma, -⟩ := (HF.out.nd a n hna).dir hnd
          have hF8 := HF2.out.added (n := newNd d m a) (nb := nb) (ev' := ev) (pv' := .pointer (some ⟨p a, 0, none⟩)) hfr8 (fun k hk => by
              rcases hk with e | e | e
              · exact .inl e
              · exact .inr (.inl e)
              · exact .inr (.inr (.inl (e ▸ hnb)))) (by
              have h9 := hf7to8.get hb7 (Ne.symm hnf)
              rw [FSt.cnt_add, FSt.byts_add]
              simpa [newNd] using h9) (own_frame hl7 hf7to8 (fun g e => (hlv9 g e).2)) (fun g e => (hlv9 g e).1) hnb
            ⟨hbn8, .inl ⟨rfl, rfl⟩, fun hd => (by
              obtain ⟨mb, h3, h4⟩ := HN3.out.dir hd
              refine ⟨rfl, mb, h3, h4.frame hf38 (fun e => ?_)⟩
              rcases e with e | e | e
              · obtain ⟨es, clock, hmb, _⟩ := h4.own
                rw [e, HN3.out.hb] at hmb; cases hmb
              · exact hev mb h3 (e ▸ HF2.out.own)
              · exact hev mb h3 (HF2.out.ownl mb e)), fun hd => ⟨hn.file hd, rfl⟩, fun _ _ => by show _ = Value.pointer (some ⟨upd p σ.free nb a, 0, none⟩); rw [upd_other hane], ⟨_, rfl⟩, modeN_lt m⟩ hev (hlive.add rfl rfl hapos (by omega))
          have hna8 : (σ.add (newNd d m a)).nd a = some n := (FSt.add_other hapos _).trans hna
          have hN8 := hF8.nd a n hna8
          rw [upd_other hane] at hN8
          have hev8 : upd evs σ.free ev a = .map (some ma) := (upd_other hane).trans hma
          obtain ⟨-, ma', hma', hsm8⟩ := hN8.dir hnd
          rw [hev8] at hma'
          cases hma'
          have hents := (hcap a n hna).2.2
          obtain ⟨W9, hup, hsm9, hf9⟩ := hsm8.update (t := 62) Tryz.underlying9 Tryz.underlying62 (by rw [kmap_length]; unfold maxLen; omega) nm (by unfold maxLen; omega) (.pointer (some ⟨nb, 0, none⟩))
          have hkm := kput_kmap (fun (_ : List UInt8) k => Value.pointer (some ⟨upd p σ.free nb k, 0, none⟩)) nm.data.toList σ.free n.ents
          simp only [upd_same] at hkm
          rw [hkm] at hsm9
          clear hkm
          have hlive9 := hF8.live.link hna8 (nm := nm.data.toList) (k := σ.free) (by rw [ba_len]; exact hnm2) (by rw [FSt.add_same]; rfl)
          have hA9 := hF8.ented hna8 hnd hev8 (kput nm.data.toList σ.free) hf9 hsm9 hlive9
          have hres := hide (show MakePost f σ S nb ev dir s.data.toList d m w (.returned (.int .i64 0)) W9 from by
            have e9 : makeR σ dir s.data.toList d m = (0, linkS (σ.add (newNd d m a)) a nm.data.toList σ.free) := by
              rw [hfull.out (by rw [Hdef4'.out, if_neg h100]), Hadds.out, hnm]
            unfold MakePost
            rw [e9]
            exact ⟨rfl, ⟨_, hA9, fun _ => upd_same _ _ _⟩, hfw8.trans' hf9 (fun k _ e => .inl (by rw [e]; exact HF.out.owne a ma hapos hma))⟩)
          have c6 : W8.cell? ⟨p a, 6, none⟩ = some (.map (some ma)) := by rw [blk_cell hN8.hb, hev8]; rfl
          have hb8 := hf38.get hbp3 (fun e => by
            rcases e with e | e | e
            · omega
            · have := blk_lt HF.out.hb; have := HF.out.own
              exact cells_ne hbp3 (e ▸ HF.out.hb) (by decide) rfl
            · obtain ⟨c, hc⟩ := HF.out.lv_blk e
              exact cells_ne hbp3 hc (by decide) rfl)
          have c08 : W8.cell? ⟨w1.heap.size, 0, none⟩ = some (.pointer (some ⟨p a, 0, none⟩)) := by rw [blk_cell hb8]; rfl
          have c18 : W8.cell? ⟨w1.heap.size, 1, none⟩ = some (.string nm) := by rw [blk_cell hb8]; rfl
          clear hfr8 hf7to8 hbn7 hF8 hN8 hsm8 hsm9 hA9 hlive9 hf9 hb8 hlv9 hl7 hb7 hlv7 hfr7 hfw8 hf38 hsl1 hsl2 hents HF HF2 Hb2 HN3 Hn2 hnl hlive Hplace hna8 hev8 hX0 hX1 hX2 hfr4
          go_wp2_with fail
          refine region_tail 8 (by kernel_rfl) (by kernel_rfl) ?_
          rw [← hW8]
          clear hW8
          simp only [List.take_succ_cons, List.take_zero, List.drop_succ_cons, List.drop_zero]
          repeat go_big_quiet_step (fail)
          refine wpQuiet_nil ?_
          go_wp2_with fail
          go_ret
          exact hres.out
      · have hres := hide (herr.out E2 w3 (by rw [Hdef3.out, if_pos h2]) h2 hf23)
        clear Hdef3 HE2
        go_wp2_with fail
        go_ret
        exact hres.out
  · obtain ⟨rfl, rfl, rfl⟩ := hno hE
    have hres := hide (herr.out E (w1.alloc (.cells #[.pointer none, .string ⟨#[]⟩, .bool false] 103 (0, 0))) (by rw [Hdef.out, if_pos hE]) hE (hf1.alloc _))
    clear hok hno Hdef
    go_wp2_with fail
    go_ret
    exact hres.out
end Go.Proofs.YtlhmmiolnbgloaaGreatDoor

/- files.FS.Create, Mkdir, New. Conditions: the contracts' own premises. -/
namespace Go.Proofs.YtlhmmiolnbgloaaGreatDoor
open Go.RowKit

/-- So it answers, and so it leaves the tree. -/
def MutX (f : Nat) (σ' : FSt) (S : Nat → Prop) (v : Value) (w : World) (e : Ending) (w' : World) : Prop := e = .returned v ∧ (∃ p', FilesAt w' f σ' S p') ∧ Fr S w w'
theorem MutPost.x {f : Nat} {σ' : FSt} {S : Nat → Prop} {p : Nat → Nat} {v : Value} {w : World} {e : Ending} {w' : World} (h : MutPost f σ' S p v w e w') : MutX f σ' S v w e w' := ⟨h.1, ⟨p, h.2.1⟩, h.2.2⟩
theorem link_free_some (σ : FSt) (n : Nd) (a : Nat) (nm : List UInt8) (k : Nat) : ((linkS (σ.add n) a nm k).nd σ.free).isSome = true := by
  unfold linkS entS
  cases h : (σ.add n).nd a with
  | none => simp only; rw [FSt.add_same]; rfl
  | some x =>
    simp only
    rw [FSt.nd_put (by rw [h]; rfl)]
    split
    · rfl
    · rw [FSt.add_same]; rfl
theorem makeR_zero {σ : FSt} {dir : Int} {s : List UInt8} {d : Bool} {m : Int} (h : (makeR σ dir s d m).1 = 0) : addE σ dir s d = 0 ∧ makeR σ dir s d m = (0, addS σ dir s d m) := by
  unfold makeR at h ⊢
  by_cases e : addE σ dir s d ≠ 0
  · rw [if_pos e] at h; exact absurd h e
  · rw [if_neg e]; exact ⟨by simpa using e, rfl⟩
theorem makeR_err {σ : FSt} {dir : Int} {s : List UInt8} {d : Bool} {m : Int} (h : (makeR σ dir s d m).1 ≠ 0) : addE σ dir s d ≠ 0 := by
  unfold makeR at h
  by_cases e : addE σ dir s d ≠ 0
  · exact e
  · rw [if_neg e] at h; exact absurd rfl h
set_option maxRecDepth 100000 in
set_option maxHeartbeats 1000000 in
theorem Create_any (w : World) (f : Nat) (σ : FSt) (S : Nat → Prop) (p : Nat → Nat) (h : FilesAt w f σ S p) (hml : Ml w) (hcap : CapB σ) (dir : Int) (hd : -9223372036854775808 ≤ dir ∧ dir ≤ 9223372036854775807) (s : ByteArray) (hs : s.size ≤ 9223372036854775807) (m : Int) (hm : -9223372036854775808 ≤ m ∧ m ≤ 9223372036854775807) :
    Calls Tryz.prog 16 #[.pointer (some ⟨f, 0, none⟩), .int .i64 dir, .string s, .int .i64 m] w (MutX f (createR σ dir s.data.toList m).2.2 S (.tuple #[.int .i64 (createR σ dir s.data.toList m).1, .int .i64 (createR σ dir s.data.toList m).2.1]) w) := by
  obtain ⟨w1, hw1⟩ : ∃ w1, w1 = w.alloc (.cells #[.int .i64 0, .int .i64 1, .int .i64 m, .int .i64 0, .int .i64 0, .slice none 0 0, .map none, .pointer none] 65 (0, 0)) := ⟨_, rfl⟩
  have hf1 : Fr (fun _ => False) w w1 := by rw [hw1]; exact (Fr.refl _ _).alloc _
  have hb1 : w1.heap[w.heap.size]? = some (.cells #[.int .i64 0, .int .i64 1, .int .i64 m, .int .i64 0, .int .i64 0, .slice none 0 0, .map none, .pointer none] 65 (0, 0)) := by rw [hw1]; exact blk_new _ _
  have hup : S w.heap.size := by obtain ⟨_, _, _, _, hF⟩ := h; exact hF.up _ (Nat.le_refl _)
  have hadd := fadd_any w1 f σ (fun k => S k ∧ k ≠ w.heap.size) p (by rw [hw1]; exact h.aside _) (hml.frame hf1 (fun e => e)) dir hd s hs w.heap.size false m (.map none) ⟨hb1, (fun e => by cases e), fun _ => rfl⟩ (fun e => e.2 rfl) (fun mb e => by cases e) hcap hm
  have hmono : ∀ k, NewS (fun k => S k ∧ k ≠ w.heap.size) w.heap.size (.map none) k → S k := fun k hk => by
    rcases hk with hk | rfl | hk
    · exact hk.1
    · exact hup
    · cases hk
  have Hadd := hide hadd
  have Hmono := hide hmono
  clear hadd hmono
  have hnm : (createR σ dir s.data.toList m).2 = makeR σ dir s.data.toList false m := rfl
  by_cases hE : (makeR σ dir s.data.toList false m).1 = 0
  · obtain ⟨h0, h9⟩ := makeR_zero hE
    have e1 : createR σ dir s.data.toList m = ((σ.free : Int), 0, addS σ dir s.data.toList false m) := by unfold createR; rw [if_neg (by simp [h0]), h9]
    rw [e1]
    unfold MakePost at Hadd
    rw [h9] at Hadd
    clear h0 h9 e1 hE hnm
    subst hw1
    go_enter Tryz.func16, Tryz.ntmps16
    go_wp2_with fail
    refine Hadd.out.mono ?_
    rintro e w2 ⟨rfl, ⟨p', hA, hp⟩, hfr⟩
    have hp := hp trivial
    obtain ⟨n2, hn2⟩ := Option.isSome_iff_exists.1 (link_free_some σ (newNd false m (aheadE σ dir s.data.toList).2.1) (aheadE σ dir s.data.toList).2.1 (aheadE σ dir s.data.toList).2.2 σ.free)
    obtain ⟨dvn, evn, pvn, hN⟩ := hA.node hn2
    rw [hp] at hN
    have c0 : w2.cell? ⟨w.heap.size, 0, none⟩ = some (.int .i64 σ.free) := by rw [blk_cell hN.hb]; rfl
    have hres := hide (show MutX f (addS σ dir s.data.toList false m) S (.tuple #[.int .i64 (σ.free : Int), .int .i64 0]) w (.returned (.tuple #[.int .i64 (σ.free : Int), .int .i64 0])) w2 from ⟨rfl, ⟨p', hA.mono Hmono.out⟩, (hf1.mono (fun _ _ e => e.elim)).trans (hfr.mono (fun k _ hk => Hmono.out k hk))⟩)
    clear hA hp hN hfr Hadd Hmono hn2
    go_wp2_with fail
    go_returns
    exact hres.out
  · have h0 := makeR_err hE
    have e1 : createR σ dir s.data.toList m = (0, makeR σ dir s.data.toList false m) := by unfold createR; rw [if_pos h0]
    rw [e1]
    have Hadd2 := Hadd
    unfold MakePost at Hadd2
    obtain ⟨E, σ', hq⟩ : ∃ E σ', makeR σ dir s.data.toList false m = (E, σ') := ⟨_, _, rfl⟩
    rw [hq] at Hadd2 hE ⊢
    clear h0 e1 hnm Hadd hq
    subst hw1
    go_enter Tryz.func16, Tryz.ntmps16
    go_wp2_with fail
    refine Hadd2.out.mono ?_
    rintro e w2 ⟨rfl, ⟨p', hA, hp⟩, hfr⟩
    have hres := hide (show MutX f σ' S (.tuple #[.int .i64 0, .int .i64 E]) w (.returned (.tuple #[.int .i64 0, .int .i64 E])) w2 from ⟨rfl, ⟨p', hA.mono Hmono.out⟩, (hf1.mono (fun _ _ e => e.elim)).trans (hfr.mono (fun k _ hk => Hmono.out k hk))⟩)
    clear hA hp hfr Hadd2 Hmono
    go_wp2_with fail
    go_returns
    exact hres.out
set_option maxRecDepth 100000 in
set_option maxHeartbeats 1000000 in
theorem Mkdir_any (w : World) (f : Nat) (σ : FSt) (S : Nat → Prop) (p : Nat → Nat) (h : FilesAt w f σ S p) (hml : Ml w) (hcap : CapB σ) (dir : Int) (hd : -9223372036854775808 ≤ dir ∧ dir ≤ 9223372036854775807) (s : ByteArray) (hs : s.size ≤ 9223372036854775807) (m : Int) (hm : -9223372036854775808 ≤ m ∧ m ≤ 9223372036854775807) :
    Calls Tryz.prog 15 #[.pointer (some ⟨f, 0, none⟩), .int .i64 dir, .string s, .int .i64 m] w (MutX f (makeR σ dir s.data.toList true m).2 S (.int .i64 (makeR σ dir s.data.toList true m).1) w) := by
  have hmm := @run_makeMap Tryz.prog
  obtain ⟨w0, hw0⟩ : ∃ w0, w0 = w.alloc (.map #[] 0) := ⟨_, rfl⟩
  have hz0 : w0.heap.size = w.heap.size + 1 := by rw [hw0]; simp
  obtain ⟨w1, hw1⟩ : ∃ w1, w1 = w0.alloc (.cells #[.int .i64 0, .int .i64 2, .int .i64 m, .int .i64 0, .int .i64 0, .slice none 0 0, .map (some w.heap.size), .pointer none] 65 (0, 0)) := ⟨_, rfl⟩
  have hf0 : Fr (fun _ => False) w w0 := by rw [hw0]; exact (Fr.refl _ _).alloc _
  have hf01 : Fr (fun _ => False) w0 w1 := by rw [hw1]; exact (Fr.refl _ _).alloc _
  have hf1 := hf0.trans hf01
  have hb1 : w1.heap[w.heap.size + 1]? = some (.cells #[.int .i64 0, .int .i64 2, .int .i64 m, .int .i64 0, .int .i64 0, .slice none 0 0, .map (some w.heap.size), .pointer none] 65 (0, 0)) := by rw [hw1, ← hz0]; exact blk_new _ _
  have hm1 : SMapAt Tryz.prog 9 w1 w.heap.size [] := by
    have : SMapAt Tryz.prog 9 w0 w.heap.size [] := by rw [hw0]; exact SMapAt.made w
    exact this.frame hf01 (fun e => e)
  have hup : S w.heap.size ∧ S (w.heap.size + 1) := by obtain ⟨_, _, _, _, hF⟩ := h; exact ⟨hF.up _ (Nat.le_refl _), hF.up _ (Nat.le_succ _)⟩
  have hA0 : FilesAt w0 f σ (fun k => S k ∧ k ≠ w.heap.size) p := by rw [hw0]; exact h.aside _
  have hA1 : FilesAt w1 f σ (fun k => (S k ∧ k ≠ w.heap.size) ∧ k ≠ w.heap.size + 1) p := by rw [hw1, ← hz0]; exact hA0.aside _
  have hadd := fadd_any w1 f σ _ p hA1 (hml.frame hf1 (fun e => e)) dir hd s hs (w.heap.size + 1) true m (.map (some w.heap.size)) ⟨hb1, fun _ => ⟨_, rfl, hm1⟩, fun e => by cases e⟩ (fun e => e.2 rfl) (fun mb e => by cases e; exact fun e => e.1.2 rfl) hcap hm
  have hmono : ∀ k, NewS (fun k => (S k ∧ k ≠ w.heap.size) ∧ k ≠ w.heap.size + 1) (w.heap.size + 1) (.map (some w.heap.size)) k → S k := fun k hk => by
    rcases hk with hk | rfl | hk
    · exact hk.1.1
    · exact hup.2
    · cases hk; exact hup.1
  have hres := hide (show ∀ (e : Ending) w2, MakePost f σ (fun k => (S k ∧ k ≠ w.heap.size) ∧ k ≠ w.heap.size + 1) (w.heap.size + 1) (.map (some w.heap.size)) dir s.data.toList true m w1 e w2 → MutX f (makeR σ dir s.data.toList true m).2 S (.int .i64 (makeR σ dir s.data.toList true m).1) w e w2 from fun e w2 ⟨h1, ⟨p', hA, _⟩, hfr⟩ =>
    ⟨h1, ⟨p', hA.mono hmono⟩, (hf1.mono (fun _ _ e => e.elim)).trans (hfr.mono (fun k _ hk => hmono k hk))⟩)
  have Hadd := hide hadd
  clear hadd hmono hA0 hA1 hm1 hb1
  subst hw1
  subst hw0
  rw [hz0] at *
  clear hz0
  go_enter Tryz.func15, Tryz.ntmps15
  go_wp2_with fail
  refine Hadd.out.mono ?_
  rintro e w2 hq
  have h9 := hres.out _ _ hq
  obtain ⟨rfl, _⟩ := hq
  have H9 := hide h9
  clear h9 hres Hadd
  go_wp2_with fail
  go_ret
  exact H9.out
end Go.Proofs.YtlhmmiolnbgloaaGreatDoor
