/- shyardref08: FS.Unlink, Rmdir. Printed by wip/gen/frefR.py. Conditions: each contract's own premises. -/
import Derived.Test.YthikjdpnlahkfaaGreatDoorFrefW
import Derived.Test.YthikjdpnlahkfaaGreatDoorFilesLink
import Derived.Test.YthikjdpnlahkfaaGreatDoorFilesWin
import Derived.Test.YthikjdpnlahkfaaGreatDoorFilesRenS
import Derived.Deep.CutBlock
import Derived.Deep.DeepCutAuto
import Derived.Test.YthikjdpnlahkfaaGreatDoorFilesPath
import Derived.Test.YthikjdpnlahkfaaGreatDoorFilesTreeS
namespace Go.Proofs.YthikjdpnlahkfaaGreatDoor
open Go.RowKit

/-- An entry away, and a count less. -/
theorem rgone_steps {w : World} {g : Nat} {σ : FSt} {S : Nat → Prop} (h : RfAt w g σ S) (hI : Inv σ 0) (hG : RG σ) {a k : Nat} {n nk : Nd} (ha : σ.nd a = some n) (hd : n.d = true) (nm : ByteArray) (hk : kget nm.data.toList n.ents = some k) (hnk : σ.nd k = some nk) (he : nk.d = true → nk.ents = []) :
    Calls Tryz.prog 78 #[.pointer (some ⟨g, 0, none⟩), .int .i64 a, .string nm] w fun e w1 => e = .returned (.tuple #[]) ∧
      Calls Tryz.prog 79 #[.pointer (some ⟨g, 0, none⟩), .int .i64 k, .int .i64 (-1), .int .i64 0] w1 fun e w2 => e = .returned (.tuple #[]) ∧ RfAt w2 g (goneS σ a nm.data.toList) S ∧ Fr S w w2 := by
  have hlen := hG.live.len
  have hka : k ≠ a := fun e => by
    rw [e, ha] at hnk
    cases hnk
    exact kget_nil_none hk (he hd)
  have h1 := refs_pos ha hk
  have hk1 : k ≠ 1 := fun e => by have := hI.root; rw [e] at h1; omega
  have h2 := hI.cnt k nk hnk hk1
  rw [if_neg (nd_pos hnk)] at h2
  have hcap := hG.cap k nk hnk
  have hkn : (cutS σ a nm.data.toList).nd k = some nk := (cutS_nd ha hka).trans hnk
  have hl : (cutS σ a nm.data.toList).length = σ.length := by unfold cutS; rw [entS_some ha, put_len]
  refine (rcut_any w g σ S h (by omega) a n ha (hG.cap a n ha).2.2 nm).mono ?_
  rintro e w1 ⟨rfl, h3, hf3⟩
  refine ⟨rfl, ?_⟩
  refine (rchange_any w1 g _ S h3 (by omega) k nk hkn (-1) 0 (nk.links - 1) nk.holds (by omega) (by omega) ⟨by omega, by omega⟩ ⟨by omega, by omega⟩).mono ?_
  rintro e w2 ⟨rfl, h4, hf4⟩
  refine ⟨rfl, ?_, hf3.trans hf4⟩
  rw [goneS_some ha hk, relS_some hkn]
  exact h4
set_option maxRecDepth 100000 in
set_option maxHeartbeats 4000000 in
theorem runlink_any (w : World) (g : Nat) (σ : FSt) (S : Nat → Prop) (h : RfAt w g σ S) (hG : RG σ) (hI : Inv σ 0) (dir : Int) (hi : -9223372036854775808 ≤ dir ∧ dir ≤ 9223372036854775807) (s : ByteArray) (hs : s.size ≤ 9223372036854775807) :
    Calls Tryz.prog 39 #[.pointer (some ⟨g, 0, none⟩), .int .i64 dir, .string s] w (RmutPost g (unlinkR σ dir s.data.toList).2 S (.int .i64 (unlinkR σ dir s.data.toList).1) w) := by
  have hlen := hG.live.len
  have ha := hide (rahead_any w g σ S h hG dir hi s hs)
  unfold RaPost at ha
  have hok := hide (fun h0 => ahead_ok (σ := σ) (dir := dir) (s := s.data.toList) h0)
  have herr := hide (show ∀ (E : Int) w', unlinkE σ dir s.data.toList = E → E ≠ 0 → Fr (fun _ => False) w w' → RmutPost g (unlinkR σ dir s.data.toList).2 S (.int .i64 (unlinkR σ dir s.data.toList).1) w (.returned (.int .i64 E)) w' from fun E w' h1 h2 h3 => by
    have e : unlinkR σ dir s.data.toList = (E, σ) := by unfold unlinkR; rw [h1, if_pos h2]
    rw [e]
    exact ⟨rfl, h.frame h3 (fun _ _ _ e => e), h3.no⟩)
  have hok9 := hide (show ∀ w', unlinkE σ dir s.data.toList = 0 → RfAt w' g (goneS σ (aheadE σ dir s.data.toList).2.1 (aheadE σ dir s.data.toList).2.2) S → Fr S w w' → RmutPost g (unlinkR σ dir s.data.toList).2 S (.int .i64 (unlinkR σ dir s.data.toList).1) w (.returned (.int .i64 0)) w' from fun w' h1 h2 h3 => by
    have e : unlinkR σ dir s.data.toList = (0, goneS σ (aheadE σ dir s.data.toList).2.1 (aheadE σ dir s.data.toList).2.2) := by unfold unlinkR; rw [if_neg (by simp [h1])]
    rw [e]
    exact ⟨rfl, h2, h3⟩)
  have hdef : unlinkE σ dir s.data.toList = if (aheadE σ dir s.data.toList).1 ≠ 0 then (aheadE σ dir s.data.toList).1
    else match lookS σ (aheadE σ dir s.data.toList).2.1 (aheadE σ dir s.data.toList).2.2 with
      | none => 2
      | some k => if slashS s.data.toList = true ∧ dirS σ k = false then 20 else if dirS σ k = true then 21 else if mayS σ (aheadE σ dir s.data.toList).2.1 2 = false then 13 else 0 := rfl
  rw [hdef] at herr hok9
  clear hdef
  generalize aheadE σ dir s.data.toList = q at *
  obtain ⟨E, a, nm⟩ := q
  simp only at ha herr hok9 hok
  have HA := hide h
  have HG := hide hG
  have HI := hide hI
  clear h hG hI
  go_enter Tryz.func39, Tryz.ntmps39
  go_wp2_with fail
  refine ha.out.mono ?_
  rintro e w1 ⟨rfl, hf1⟩
  have Hf1 := hide hf1
  clear ha hf1
  by_cases hE : E = 0
  · subst hE
    obtain ⟨n, hn, hd, hnl⟩ := hok.out rfl
    rw [if_neg (fun e => e rfl), lookS_some hn] at herr hok9
    have hla := HG.out.cap a n hn
    have halen : a ≤ σ.length := by have := (FSt.nd_lt (show (σ.nd a).isSome = true by rw [hn]; rfl)); omega
    have HRA := hide (HA.out.frame Hf1.out (fun _ _ _ e => e))
    have hents : entsAt σ a = n.ents := by unfold entsAt; rw [hn]
    have hfind := rfind_any w1 g σ S HRA.out (by omega) a halen (by rw [hents]; exact hla.2.2) (baL nm)
    have hfe : findN σ a (baL nm).data.toList = (kget nm n.ents).getD 0 := by rw [findN_ents, hents]; rfl
    rw [hfe] at hfind
    have hfind := hide hfind
    clear hfe hents hok
    cases hkg : kget nm n.ents with
    | none =>
      rw [hkg] at hfind herr
      have hfin := hide (fun w' (hf : Fr (fun _ => False) w1 w') => herr.out 2 w' rfl (by decide) (Hf1.out.trans hf))
      clear herr hok9 hkg hla hn halen
      go_wp2_with fail
      refine hfind.out.mono ?_
      rintro e w2 ⟨rfl, hf2⟩
      have Hf2 := hide hf2
      clear hf2 hfind
      go_wp2_with fail
      go_returns
      exact hfin.out w2 Hf2.out
    | some k =>
      rw [hkg] at hfind herr hok9
      obtain ⟨nk, hnk⟩ := Option.isSome_iff_exists.1 (HG.out.live.ents a n hn _ (kget_mem hkg))
      have hdk : dirS σ k = nk.d := by unfold dirS; rw [hnk]
      have hma : mayS σ a 2 = mayN n.mode 2 := by unfold mayS; rw [hn]
      have hkz : ¬ (k : Int) = 0 := by have := nd_pos hnk; omega
      simp only [hdk, hma] at herr hok9
      simp only [Option.getD_some] at hfind
      clear hdk hma
      go_wp2_with fail
      refine hfind.out.mono ?_
      rintro e w2 ⟨rfl, hf2⟩
      have HR2 := hide (HRA.out.frame hf2 (fun _ _ _ e => e))
      have Hf2 := hide (Hf1.out.trans hf2)
      clear hf2 hfind HRA Hf1
      obtain ⟨nb, cap, na, nc, ia, ic, c0, hnb, hk1, hk0, ⟨q0, -, -, -, -, -, q6, -⟩, -, -, -⟩ := HR2.out.open hnk
      have hmay := rmay_any w2 g σ S HR2.out (by omega) HG.out.md a 2 (by omega) (by omega)
      have hmr : mayR σ a 2 = mayN n.mode 2 := by unfold mayR; rw [ndI_cast, hn]; rfl
      rw [hmr] at hmay
      have hmay := hide hmay
      have hgone := hide (fun he => rgone_steps HR2.out HI.out HG.out hn hd (baL nm) hkg hnk he)
      have herr2 := hide (fun E h1 h2 => herr.out E w2 h1 h2 Hf2.out)
      have hok2 := hide (fun w' h1 (h2 : RfAt w' g (goneS σ a nm) S) (h3 : Fr S w2 w') => hok9.out w' h1 h2 (Hf2.out.no.trans h3))
      clear herr hok9 hmr hla hn halen hkg hnk
      have hsl' := hide (rslash_any w2 s hs)
      cases hdd : nk.d with
      | false =>
        rw [show kindN nk = 1 by unfold kindN; rw [hdd]; rfl] at q0
        rw [hdd] at herr2 hok2
        cases hss : slashS s.data.toList with
        | true =>
          rw [hss] at herr2 hsl'
          have hres := hide (herr2.out 20 (by simp) (by decide))
          clear herr2 hok2 hgone hmay hdd hss
          go_wp2_with fail
          refine hsl'.out.mono ?_
          rintro e w3 ⟨rfl, rfl⟩
          go_wp2_with fail
          go_returns
          exact hres.out
        | false =>
          rw [hss] at herr2 hsl' hok2
          cases hmm : mayN n.mode 2 with
          | false =>
            rw [hmm] at hmay herr2
            have hres := hide (herr2.out 13 (by simp) (by decide))
            clear herr2 hok2 hgone hmm
            go_wp2_with fail
            refine hsl'.out.mono ?_
            rintro e w3 ⟨rfl, rfl⟩
            go_wp2_with fail
            refine hmay.out.mono ?_
            rintro e w4 ⟨rfl, rfl⟩
            go_wp2_with fail
            go_returns
            exact hres.out
          | true =>
            rw [hmm] at hmay hok2
            have hres := hide (fun w' => hok2.out w' (by simp))
            have hgo := hide (hgone.out (fun e => by rw [hdd] at e; cases e))
            clear herr2 hok2 hgone hmm
            go_wp2_with fail
            refine hsl'.out.mono ?_
            rintro e w3 ⟨rfl, rfl⟩
            go_wp2_with fail
            refine hmay.out.mono ?_
            rintro e w4 ⟨rfl, rfl⟩
            go_wp2_with fail
            refine hgo.out.mono ?_
            rintro e w5 ⟨rfl, hch⟩
            have Hch := hide hch
            clear hch
            go_wp2_with fail
            refine Hch.out.mono ?_
            rintro e w6 ⟨rfl, hR6, hf6⟩
            have hr := hide (hres.out w6 hR6 hf6)
            clear hres hR6 hgo Hch
            go_wp2_with fail
            go_returns
            exact hr.out
      | true =>
        rw [show kindN nk = 2 by unfold kindN; rw [hdd]; rfl] at q0
        rw [hdd] at herr2
        have hres := hide (herr2.out 21 (by simp) (by decide))
        clear herr2 hok2 hgone hmay hdd
        cases hss : slashS s.data.toList with
        | true =>
          rw [hss] at hsl'
          clear hss
          go_wp2_with fail
          refine hsl'.out.mono ?_
          rintro e w3 ⟨rfl, rfl⟩
          go_wp2_with fail
          go_returns
          exact hres.out
        | false =>
          rw [hss] at hsl'
          clear hss
          go_wp2_with fail
          refine hsl'.out.mono ?_
          rintro e w3 ⟨rfl, rfl⟩
          go_wp2_with fail
          go_returns
          exact hres.out
  · have hfin := hide (herr.out E w1 (if_pos hE) hE Hf1.out)
    clear herr hok9 hok
    go_wp2_with fail
    go_returns
    exact hfin.out
set_option maxRecDepth 100000 in
set_option maxHeartbeats 4000000 in
theorem rrmdir_any (w : World) (g : Nat) (σ : FSt) (S : Nat → Prop) (h : RfAt w g σ S) (hG : RG σ) (hI : Inv σ 0) (dir : Int) (hi : -9223372036854775808 ≤ dir ∧ dir ≤ 9223372036854775807) (s : ByteArray) (hs : s.size ≤ 9223372036854775807) :
    Calls Tryz.prog 40 #[.pointer (some ⟨g, 0, none⟩), .int .i64 dir, .string s] w (RmutPost g (rmdirR σ dir s.data.toList).2 S (.int .i64 (rmdirR σ dir s.data.toList).1) w) := by
  have hlen := hG.live.len
  have ha := hide (rahead_any w g σ S h hG dir hi s hs)
  unfold RaPost at ha
  have hok := hide (fun h0 => ahead_ok (σ := σ) (dir := dir) (s := s.data.toList) h0)
  have herr := hide (show ∀ (E : Int) w', rmdirE σ dir s.data.toList = E → E ≠ 0 → Fr (fun _ => False) w w' → RmutPost g (rmdirR σ dir s.data.toList).2 S (.int .i64 (rmdirR σ dir s.data.toList).1) w (.returned (.int .i64 E)) w' from fun E w' h1 h2 h3 => by
    have e : rmdirR σ dir s.data.toList = (E, σ) := by unfold rmdirR; rw [h1, if_pos h2]
    rw [e]
    exact ⟨rfl, h.frame h3 (fun _ _ _ e => e), h3.no⟩)
  have hok9 := hide (show ∀ w', rmdirE σ dir s.data.toList = 0 → RfAt w' g (goneS σ (aheadE σ dir s.data.toList).2.1 (aheadE σ dir s.data.toList).2.2) S → Fr S w w' → RmutPost g (rmdirR σ dir s.data.toList).2 S (.int .i64 (rmdirR σ dir s.data.toList).1) w (.returned (.int .i64 0)) w' from fun w' h1 h2 h3 => by
    have e : rmdirR σ dir s.data.toList = (0, goneS σ (aheadE σ dir s.data.toList).2.1 (aheadE σ dir s.data.toList).2.2) := by unfold rmdirR; rw [if_neg (by simp [h1])]
    rw [e]
    exact ⟨rfl, h2, h3⟩)
  have hdef : rmdirE σ dir s.data.toList = if (aheadE σ dir s.data.toList).1 ≠ 0 then (aheadE σ dir s.data.toList).1
    else match lookS σ (aheadE σ dir s.data.toList).2.1 (aheadE σ dir s.data.toList).2.2 with
      | none => 2
      | some k => if dirS σ k = false then 20 else if sizeD σ k ≠ 0 then 39 else if mayS σ (aheadE σ dir s.data.toList).2.1 2 = false then 13 else 0 := rfl
  rw [hdef] at herr hok9
  clear hdef
  generalize aheadE σ dir s.data.toList = q at *
  obtain ⟨E, a, nm⟩ := q
  simp only at ha herr hok9 hok
  have HA := hide h
  have HG := hide hG
  have HI := hide hI
  clear h hG hI
  go_enter Tryz.func40, Tryz.ntmps40
  go_wp2_with fail
  refine ha.out.mono ?_
  rintro e w1 ⟨rfl, hf1⟩
  have Hf1 := hide hf1
  clear ha hf1
  by_cases hE : E = 0
  · subst hE
    obtain ⟨n, hn, hd, hnl⟩ := hok.out rfl
    rw [if_neg (fun e => e rfl), lookS_some hn] at herr hok9
    have hla := HG.out.cap a n hn
    have halen : a ≤ σ.length := by have := (FSt.nd_lt (show (σ.nd a).isSome = true by rw [hn]; rfl)); omega
    have HRA := hide (HA.out.frame Hf1.out (fun _ _ _ e => e))
    have hents : entsAt σ a = n.ents := by unfold entsAt; rw [hn]
    have hfind := rfind_any w1 g σ S HRA.out (by omega) a halen (by rw [hents]; exact hla.2.2) (baL nm)
    have hfe : findN σ a (baL nm).data.toList = (kget nm n.ents).getD 0 := by rw [findN_ents, hents]; rfl
    rw [hfe] at hfind
    have hfind := hide hfind
    clear hfe hents hok
    cases hkg : kget nm n.ents with
    | none =>
      rw [hkg] at hfind herr
      have hfin := hide (fun w' (hf : Fr (fun _ => False) w1 w') => herr.out 2 w' rfl (by decide) (Hf1.out.trans hf))
      clear herr hok9 hkg hla hn halen
      go_wp2_with fail
      refine hfind.out.mono ?_
      rintro e w2 ⟨rfl, hf2⟩
      have Hf2 := hide hf2
      clear hf2 hfind
      go_wp2_with fail
      go_returns
      exact hfin.out w2 Hf2.out
    | some k =>
      rw [hkg] at hfind herr hok9
      obtain ⟨nk, hnk⟩ := Option.isSome_iff_exists.1 (HG.out.live.ents a n hn _ (kget_mem hkg))
      have hdk : dirS σ k = nk.d := by unfold dirS; rw [hnk]
      have hma : mayS σ a 2 = mayN n.mode 2 := by unfold mayS; rw [hn]
      have hkz : ¬ (k : Int) = 0 := by have := nd_pos hnk; omega
      simp only [hdk, hma] at herr hok9
      simp only [Option.getD_some] at hfind
      clear hdk hma
      go_wp2_with fail
      refine hfind.out.mono ?_
      rintro e w2 ⟨rfl, hf2⟩
      have HR2 := hide (HRA.out.frame hf2 (fun _ _ _ e => e))
      have Hf2 := hide (Hf1.out.trans hf2)
      clear hf2 hfind HRA Hf1
      obtain ⟨nb, cap, na, nc, ia, ic, c0, hnb, hk1, hk0, ⟨q0, -, -, -, -, -, q6, -⟩, -, -, -⟩ := HR2.out.open hnk
      have hmay := rmay_any w2 g σ S HR2.out (by omega) HG.out.md a 2 (by omega) (by omega)
      have hmr : mayR σ a 2 = mayN n.mode 2 := by unfold mayR; rw [ndI_cast, hn]; rfl
      rw [hmr] at hmay
      have hmay := hide hmay
      have hgone := hide (fun he => rgone_steps HR2.out HI.out HG.out hn hd (baL nm) hkg hnk he)
      have herr2 := hide (fun E h1 h2 => herr.out E w2 h1 h2 Hf2.out)
      have hok2 := hide (fun w' h1 (h2 : RfAt w' g (goneS σ a nm) S) (h3 : Fr S w2 w') => hok9.out w' h1 h2 (Hf2.out.no.trans h3))
      have hsiz : sizeD σ k = nk.ents.length := by unfold sizeD; rw [hnk]
      simp only [hsiz] at herr2 hok2
      clear herr hok9 hmr hla hn halen hkg hnk
      cases hdd : nk.d with
      | false =>
        rw [show kindN nk = 1 by unfold kindN; rw [hdd]; rfl] at q0
        rw [hdd] at herr2
        have hres := hide (herr2.out 20 (by simp) (by decide))
        clear herr2 hok2 hgone hmay hdd hsiz
        go_wp2_with fail
        go_returns
        exact hres.out
      | true =>
        rw [show kindN nk = 2 by unfold kindN; rw [hdd]; rfl] at q0
        rw [hdd] at herr2 hok2
        by_cases hz : nk.ents.length = 0
        · have hzI : ¬ (0 : Int) < (nk.ents.length : Int) := by omega
          have hznil : nk.ents = [] := List.eq_nil_of_length_eq_zero hz
          rw [hz] at herr2 hok2
          cases hmm : mayN n.mode 2 with
          | false =>
            rw [hmm] at hmay herr2
            have hres := hide (herr2.out 13 (by simp) (by decide))
            clear hznil herr2 hok2 hgone hmm
            go_wp2_with fail
            refine hmay.out.mono ?_
            rintro e w4 ⟨rfl, rfl⟩
            go_wp2_with fail
            go_returns
            exact hres.out
          | true =>
            rw [hmm] at hmay hok2
            have hres := hide (fun w' => hok2.out w' (by simp))
            have hgo := hide (hgone.out (fun _ => hznil))
            clear hznil herr2 hok2 hgone hmm
            go_wp2_with fail
            refine hmay.out.mono ?_
            rintro e w4 ⟨rfl, rfl⟩
            go_wp2_with fail
            refine hgo.out.mono ?_
            rintro e w5 ⟨rfl, hch⟩
            have Hch := hide hch
            clear hch
            go_wp2_with fail
            refine Hch.out.mono ?_
            rintro e w6 ⟨rfl, hR6, hf6⟩
            have hr := hide (hres.out w6 hR6 hf6)
            clear hres hR6 hgo Hch
            go_wp2_with fail
            go_returns
            exact hr.out
        · have hzI : (0 : Int) < (nk.ents.length : Int) := by omega
          have hres := hide (herr2.out 39 (by simp [hz]) (by decide))
          clear herr2 hok2 hgone hmay hdd hz hsiz
          go_wp2_with fail
          go_returns
          exact hres.out
  · have hfin := hide (herr.out E w1 (if_pos hE) hE Hf1.out)
    clear herr hok9 hok
    go_wp2_with fail
    go_returns
    exact hfin.out
end Go.Proofs.YthikjdpnlahkfaaGreatDoor

/- shyardref08.FS.Link. Conditions: the contract's own premises. -/
namespace Go.Proofs.YthikjdpnlahkfaaGreatDoor
open Go.RowKit

/-- An entry there, and a count more. -/
theorem rlink_steps {w : World} {g : Nat} {σ : FSt} {S : Nat → Prop} (h : RfAt w g σ S) (hG : RG σ) {a k : Nat} {n nk : Nd} (ha : σ.nd a = some n) (hnk : σ.nd k = some nk) (hka : k ≠ a) (nm : ByteArray) (hnew : kget nm.data.toList n.ents = none) :
    Calls Tryz.prog 80 #[.pointer (some ⟨g, 0, none⟩), .int .i64 a, .string nm, .int .i64 k] w fun e w1 => e = .returned (.tuple #[]) ∧
      Calls Tryz.prog 79 #[.pointer (some ⟨g, 0, none⟩), .int .i64 k, .int .i64 1, .int .i64 0] w1 fun e w2 => e = .returned (.tuple #[]) ∧ RfAt w2 g (linkS (relS σ k more) a nm.data.toList k) S ∧ Fr S w w2 := by
  have hlen := hG.live.len
  have hcap := hG.cap k nk hnk
  have hkn : (linkS σ a nm.data.toList k).nd k = some nk := by unfold linkS; rw [entS_some ha, put_nd ha, if_neg hka]; exact hnk
  have hl : (linkS σ a nm.data.toList k).length = σ.length := by unfold linkS; rw [entS_some ha, put_len]
  refine (rput_any w g σ S h (by omega) a n ha (hG.cap a n ha).2.2 nm k hnew).mono ?_
  rintro e w1 ⟨rfl, h3, hf3⟩
  refine ⟨rfl, ?_⟩
  refine (rchange_any w1 g _ S h3 (by omega) k nk hkn 1 0 (nk.links + 1) nk.holds (by omega) (by omega) ⟨by omega, by omega⟩ ⟨by omega, by omega⟩).mono ?_
  rintro e w2 ⟨rfl, h4, hf4⟩
  refine ⟨rfl, ?_, hf3.trans hf4⟩
  have e1 : letS ((linkS σ a nm.data.toList k).put k (some { nk with links := nk.links + 1, holds := nk.holds })) k = (linkS σ a nm.data.toList k).put k (some (more nk)) := by
    unfold letS
    rw [put_nd hkn, if_pos rfl]
    simp only
    rw [if_neg (by omega)]
    rfl
  rw [e1] at h4
  have e2 : linkS (relS σ k more) a nm.data.toList k = (linkS σ a nm.data.toList k).put k (some (more nk)) := by
    rw [relS_some hnk]
    unfold linkS
    rw [entS_some ha, entS_some (show (σ.put k (some (more nk))).nd a = some n by rw [put_nd hnk, if_neg (fun e => hka e.symm)]; exact ha)]
    unfold FSt.put
    have p1 := nd_pos ha
    have p2 := nd_pos hnk
    exact List.set_comm _ _ (by omega)
  rw [e2]
  exact h4
set_option maxRecDepth 100000 in
set_option maxHeartbeats 4000000 in
theorem rlink_any (w : World) (g : Nat) (σ : FSt) (S : Nat → Prop) (h : RfAt w g σ S) (hG : RG σ) (dir : Int) (hi : -9223372036854775808 ≤ dir ∧ dir ≤ 9223372036854775807) (s t : ByteArray) (hs : s.size ≤ 9223372036854775807) (ht : t.size ≤ 9223372036854775807) :
    Calls Tryz.prog 41 #[.pointer (some ⟨g, 0, none⟩), .int .i64 dir, .string s, .string t] w (RmutPost g (linkR σ dir s.data.toList t.data.toList).2 S (.int .i64 (linkR σ dir s.data.toList t.data.toList).1) w) := by
  have hlen := hG.live.len
  have hwk := rwalk_any w g σ S h hG dir hi s hs
  unfold RwPost at hwk
  have hwok := hide (fun h0 => walk_ok hG.live (dir := dir) (s := s.data.toList) h0)
  have hah := hide (fun (w1 : World) (hf1 : Fr (fun _ => False) w w1) => rahead_any w1 g σ S (h.frame hf1 (fun _ _ _ e => e)) hG dir hi t ht)
  unfold RaPost at hah
  have hok := hide (fun h0 => ahead_ok (σ := σ) (dir := dir) (s := t.data.toList) h0)
  have herr := hide (show ∀ (E : Int) w', linkE σ dir s.data.toList t.data.toList = E → E ≠ 0 → Fr (fun _ => False) w w' → RmutPost g (linkR σ dir s.data.toList t.data.toList).2 S (.int .i64 (linkR σ dir s.data.toList t.data.toList).1) w (.returned (.int .i64 E)) w' from fun E w' h1 h2 h3 => by
    have e : linkR σ dir s.data.toList t.data.toList = (E, σ) := by unfold linkR; rw [h1, if_pos h2]
    rw [e]
    exact ⟨rfl, h.frame h3 (fun _ _ _ e => e), h3.no⟩)
  have hok9 := hide (show ∀ w', linkE σ dir s.data.toList t.data.toList = 0 → RfAt w' g (linkS (relS σ (walkE σ dir s.data.toList).2 more) (aheadE σ dir t.data.toList).2.1 (aheadE σ dir t.data.toList).2.2 (walkE σ dir s.data.toList).2) S → Fr S w w' → RmutPost g (linkR σ dir s.data.toList t.data.toList).2 S (.int .i64 (linkR σ dir s.data.toList t.data.toList).1) w (.returned (.int .i64 0)) w' from fun w' h1 h2 h3 => by
    have e : linkR σ dir s.data.toList t.data.toList = (0, linkT σ dir s.data.toList t.data.toList) := by unfold linkR; rw [if_neg (by simp [h1])]
    rw [e]
    exact ⟨rfl, h2, h3⟩)
  have hdef : linkE σ dir s.data.toList t.data.toList = if (walkE σ dir s.data.toList).1 ≠ 0 then (walkE σ dir s.data.toList).1
    else if dirS σ (walkE σ dir s.data.toList).2 = true then 21
    else if (aheadE σ dir t.data.toList).1 ≠ 0 then (aheadE σ dir t.data.toList).1
    else if slashS t.data.toList = true then 21
    else openS σ (aheadE σ dir t.data.toList).2.1 (aheadE σ dir t.data.toList).2.2 := rfl
  rw [hdef] at herr hok9
  clear hdef
  generalize walkE σ dir s.data.toList = q1 at *
  generalize aheadE σ dir t.data.toList = q2 at *
  obtain ⟨E1, k⟩ := q1
  obtain ⟨E, a, nm⟩ := q2
  simp only at hwk hwok hah hok herr hok9
  have HA := hide h
  have HG := hide hG
  clear h hG
  by_cases hE1 : E1 = 0
  · subst hE1
    rw [if_pos rfl] at hwk
    obtain ⟨nk, hnk⟩ := Option.isSome_iff_exists.1 (hwok.out rfl)
    have hdk : dirS σ k = nk.d := by unfold dirS; rw [hnk]
    rw [if_neg (fun e => e rfl), hdk] at herr hok9
    have Hwk := hide hwk
    clear hwk hdk hwok
    go_enter Tryz.func41, Tryz.ntmps41
    go_wp2_with fail
    refine Hwk.out.mono ?_
    rintro e w1 ⟨rfl, hf1⟩
    have Hf1 := hide hf1
    clear Hwk
    have HR1 := hide (HA.out.frame hf1 (fun _ _ _ e => e))
    obtain ⟨nb, cap, na, nc, ia, ic, c0, hnb, hk1, hk0, ⟨q0, -, -, -, -, -, -, -⟩, -, -, -⟩ := HR1.out.open hnk
    have hah1 := hide (hah.out w1 hf1)
    clear hah hf1
    cases hdd : nk.d with
    | true =>
      rw [show kindN nk = 2 by unfold kindN; rw [hdd]; rfl] at q0
      rw [hdd] at herr
      have hres := hide (herr.out 21 w1 rfl (by decide) Hf1.out)
      clear herr hok9 hah1 hdd hok hnk
      go_wp2_with fail
      go_returns
      exact hres.out
    | false =>
      rw [show kindN nk = 1 by unfold kindN; rw [hdd]; rfl] at q0
      rw [hdd] at herr hok9
      simp only [Bool.false_eq_true, if_false] at herr hok9
      have Hdd := hide hdd
      have Hnk := hide hnk
      clear hdd hnk
      go_wp2_with fail
      refine hah1.out.mono ?_
      rintro e w2 ⟨rfl, hf12⟩
      have Hf2 := hide (Hf1.out.trans hf12)
      have HR2 := hide (HR1.out.frame hf12 (fun _ _ _ e => e))
      clear hah1 hf12 c0 q0 HR1 hnb hk1
      by_cases hE : E = 0
      · subst hE
        obtain ⟨n, hn, hd, hnl⟩ := hok.out rfl
        rw [if_neg (fun e => e rfl)] at herr hok9
        have hop : openS σ a nm = openE n nm := by unfold openS; rw [hn]
        rw [hop] at herr hok9
        have hsl' := hide (rslash_any w2 t ht)
        have herr2 := hide (fun E h1 h2 => herr.out E w2 h1 h2 Hf2.out)
        have hok2 := hide (fun w' h1 (h2 : RfAt w' g (linkS (relS σ k more) a nm k) S) (h3 : Fr S w2 w') => hok9.out w' h1 h2 (Hf2.out.no.trans h3))
        clear hop hok hok9
        cases hss : slashS t.data.toList with
        | true =>
          rw [hss] at herr2 hsl'
          have hres := hide (herr2.out 21 rfl (by decide))
          clear herr2 hok2 hss hn herr
          go_wp2_with fail
          refine hsl'.out.mono ?_
          rintro e w3 ⟨rfl, rfl⟩
          go_wp2_with fail
          go_returns
          exact hres.out
        | false =>
          rw [hss] at herr2 hsl' hok2 herr
          simp only [Bool.false_eq_true, if_false] at herr2 hok2 herr
          unfold openE at herr2 hok2 herr
          have hla := HG.out.cap a n hn
          have halen : a ≤ σ.length := by have := (FSt.nd_lt (show (σ.nd a).isSome = true by rw [hn]; rfl)); omega
          have hents : entsAt σ a = n.ents := by unfold entsAt; rw [hn]
          have hfind := rfind_any w2 g σ S HR2.out (by omega) a halen (by rw [hents]; exact hla.2.2) (baL nm)
          have hfe : findN σ a (baL nm).data.toList = (kget nm n.ents).getD 0 := by rw [findN_ents, hents]; rfl
          rw [hfe] at hfind
          have hfind := hide hfind
          clear hfe hents hss
          cases hkg : kget nm n.ents with
          | some j =>
            rw [hkg] at hfind herr
            have hjp : 0 < j := (FSt.nd_lt (HG.out.live.ents a n hn _ (kget_mem hkg))).1
            have hfin := hide (fun w' (hf : Fr (fun _ => False) w2 w') => herr.out 17 w' rfl (by decide) (Hf2.out.trans hf))
            have hjI : (0 : Int) < (j : Int) := by omega
            simp only [Option.getD_some] at hfind
            clear herr herr2 hok2 hkg hjp hla hn halen
            go_wp2_with fail
            refine hsl'.out.mono ?_
            rintro e w3 ⟨rfl, hw3⟩
            rw [hw3]
            clear hw3
            go_wp2_with fail
            refine hfind.out.mono ?_
            rintro e w3 ⟨rfl, hf3⟩
            have Hf3 := hide hf3
            clear hf3
            go_wp2_with fail
            go_returns
            exact hfin.out w3 Hf3.out
          | none =>
            rw [hkg] at hfind herr hok2
            simp only [Option.isSome_none, Bool.false_eq_true, if_false] at herr hok2
            go_wp2_with fail
            refine hsl'.out.mono ?_
            rintro e w3 ⟨rfl, hw3⟩
            rw [hw3]
            clear hw3 herr2
            go_wp2_with fail
            refine hfind.out.mono ?_
            rintro e w3 ⟨rfl, hf3⟩
            have HR3 := hide (HR2.out.frame hf3 (fun _ _ _ e => e))
            have herr3 := hide (fun E h1 h2 => herr.out E w3 h1 h2 (Hf2.out.trans hf3))
            have hok3 := hide (fun w' h1 (h2 : RfAt w' g (linkS (relS σ k more) a nm k) S) (h3 : Fr S w3 w') => hok2.out w' h1 h2 (hf3.no.trans h3))
            clear hf3 hfind herr hok2 HR2 hsl'
            obtain ⟨nb2, cap2, na2, nc2, ia2, ic2, c0, hnb2, ha1, ha0, ⟨-, -, q2, -, -, -, -, -⟩, -, -, -⟩ := HR3.out.open hn
            by_cases hl0 : n.links = 0
            · have hres := hide (herr3.out 2 (by rw [if_pos hl0]) (by decide))
              have hl1 : (n.links : Int) = 0 := by omega
              clear herr3 hok3 hl0 hla hn hkg halen
              go_wp2_with fail
              go_returns
              exact hres.out
            · have hl1 : ¬ (n.links : Int) = 0 := by omega
              rw [if_neg hl0] at herr3 hok3
              have hmay := rmay_any w3 g σ S HR3.out (by omega) HG.out.md a 2 (by omega) (by omega)
              have hmr : mayR σ a 2 = mayN n.mode 2 := by unfold mayR; rw [ndI_cast, hn]; rfl
              rw [hmr] at hmay
              have hmay := hide hmay
              have hka : k ≠ a := fun e => by
                have h1 := Hnk.out
                rw [e, hn] at h1
                have h2 := Option.some.inj h1
                have h3 := Hdd.out
                rw [← h2, hd] at h3
                cases h3
              have hst := hide (rlink_steps HR3.out HG.out hn Hnk.out hka (baL nm) hkg)
              clear hl0 hmr hla hn hkg halen
              cases hmm : mayN n.mode 2 with
              | false =>
                rw [hmm] at hmay herr3
                have hres := hide (herr3.out 13 rfl (by decide))
                clear herr3 hok3 hst hmm
                go_wp2_with fail
                refine hmay.out.mono ?_
                rintro e w4 ⟨rfl, rfl⟩
                go_wp2_with fail
                go_returns
                exact hres.out
              | true =>
                rw [hmm] at hmay hok3
                have hres := hide (fun w' => hok3.out w' rfl)
                clear herr3 hok3 hmm
                go_wp2_with fail
                refine hmay.out.mono ?_
                rintro e w4 ⟨rfl, rfl⟩
                go_wp2_with fail
                refine hst.out.mono ?_
                rintro e w5 ⟨rfl, hch⟩
                have Hch := hide hch
                clear hch
                go_wp2_with fail
                refine Hch.out.mono ?_
                rintro e w6 ⟨rfl, hR6, hf6⟩
                have hr := hide (hres.out w6 hR6 hf6)
                clear hres hR6 hst Hch
                go_wp2_with fail
                go_returns
                exact hr.out
      · have hres := hide (herr.out E w2 (if_pos hE) hE Hf2.out)
        clear herr hok9 hok
        go_wp2_with fail
        go_returns
        exact hres.out
  · have hres := hide (fun w' hf => herr.out E1 w' (if_pos hE1) hE1 hf)
    rw [if_neg hE1] at hwk
    have Hwk := hide hwk
    clear herr hok9 hok hwok hah hwk
    go_enter Tryz.func41, Tryz.ntmps41
    go_wp2_with fail
    refine Hwk.out.mono ?_
    rintro e w1 ⟨rfl, hf1⟩
    have Hf1 := hide hf1
    clear hf1 Hwk
    go_wp2_with fail
    go_returns
    exact hres.out w1 Hf1.out
end Go.Proofs.YthikjdpnlahkfaaGreatDoor

/- shyardref08: FS.holds, Rename. Printed by wip/gen/frefX.py. Conditions: each contract's own premises. -/
namespace Go.Proofs.YthikjdpnlahkfaaGreatDoor
open Go.RowKit

def HoRel (σ : FSt) (k b : Nat) (w : World) (gk : Nat) (i : Value) (wr : World) : Prop :=
  ∃ j n, i = .int .i64 (j : Nat) ∧ Dep σ 0 1 j gk ∧ σ.nd j = some n ∧ n.d = true ∧ n.links ≠ 0 ∧ (Under σ k b ↔ Under σ k j) ∧ w = wr
set_option maxRecDepth 100000 in
set_option maxHeartbeats 2000000 in
theorem rholds_any (w : World) (g : Nat) (σ : FSt) (S : Nat → Prop) (h : RfAt w g σ S) (_hL : σ.length ≤ 1000000) (hI : Inv σ 0) (b k : Nat) (n nk : Nd) (hb : σ.nd b = some n) (hd : n.d = true) (hl : n.links ≠ 0) (hk : σ.nd k = some nk) :
    Calls Tryz.prog 81 #[.pointer (some ⟨g, 0, none⟩), .int .i64 k, .int .i64 b] w (WinPost σ k b w) := by
  obtain ⟨m, hm⟩ := hI.to_root hb hd hl
  have H0 := hide (show HoRel σ k b w m (.int .i64 b) w from ⟨b, n, rfl, hm, hb, hd, hl, Iff.rfl, rfl⟩)
  have HA := hide h
  have HI := hide hI
  have hkl : k ≤ σ.length := by have := (FSt.nd_lt (show (σ.nd k).isSome = true by rw [hk]; rfl)); omega
  clear hm h hI hb hd hl hk
  go_enter Tryz.func81, Tryz.ntmps81
  go_wp2_with fail
  go_loopg [2] m (fun gk i wr => HoRel σ k b w gk i wr)
  case atStart => exact H0.out
  case round =>
    clear H0
    obtain ⟨j, nj, rfl, hdep, hj, hjd, hjl, hu, rfl⟩ := hrel
    obtain ⟨nb, cap, na, nc, ia, ic, c0, hnb, hj1I, hj0, ⟨-, -, q2, -, q4, -, -, -⟩, -, -, -⟩ := HA.out.open hj
    by_cases hjk : j = k
    · subst hjk
      have hres := hide (show WinPost σ j b w (.returned (.bool true)) w from ⟨by rw [underB_true (hu.2 (Under.self σ j))], rfl⟩)
      clear hdep hj hjd hjl hu
      go_wp2_with fail
      go_ret
      exact hres.out
    · have hjkI : ¬ (j : Int) = (k : Int) := by omega
      by_cases hj1 : j = 1
      · subst hj1
        have hres := hide (show WinPost σ k b w (.returned (.bool false)) w from ⟨by rw [underB_false (fun e => Under.root (fun e2 => hjk e2.symm) (hu.1 e))], rfl⟩)
        have hjkI2 : ¬ (1 : Int) = (k : Int) := by omega
        clear hdep hj hjd hjl hu hjk
        go_wp2_with fail
        go_ret
        exact hres.out
      · have hj1I2 : ¬ (j : Int) = 1 := by omega
        have hl1 : ¬ (nj.links : Int) = 0 := by omega
        have hb1 : ((j : Int) == 1) = false := by simpa using hj1I2
        have hb2 : ((nj.links : Int) == 0) = false := by simpa using hl1
        have hb3 : ((j : Int) == 1 || (nj.links : Int) == 0) = false := by rw [hb1, hb2]; rfl
        obtain ⟨q, nm, hq, hqd, hql, _⟩ := HI.out.above hj hjd hjl hj1 (nd_pos hj)
        obtain ⟨gg, hg, hdep2⟩ := hdep.go_up hj hj1
        have hnx := hide (show HoRel σ k b w (gk - 1) (.int .i64 nj.par) w from ⟨nj.par, q, rfl, by rw [hg]; exact hdep2, hq, hqd, hql, hu.trans (Under.step hj hjd hjl hj1 hjk), rfl⟩)
        have Hg := hide hg
        clear hdep hj hjd hjl hu hdep2 hq hqd hql hg hjk hj1
        go_wp2_with fail
        go_roundg (gk - 1)
        case measure => have := Hg.out; omega
        case rel => exact hnx.out
theorem carryS_file {τ : FSt} {a b k : Nat} {x y : List UInt8} {nk : Nd} (hk : (linkS (cutS τ a x) b y k).nd k = some nk) (hd : nk.d = false) : carryS τ a x b y k = linkS (cutS τ a x) b y k := by
  unfold carryS parS
  rw [if_neg (by unfold dirS; rw [hk]; simp [hd])]
theorem carryS_dir {τ : FSt} {a b k : Nat} {x y : List UInt8} {nk : Nd} (hk : (linkS (cutS τ a x) b y k).nd k = some nk) (hd : nk.d = true) : carryS τ a x b y k = (linkS (cutS τ a x) b y k).put k (some { nk with par := b }) := by
  unfold carryS parS
  rw [if_pos (by unfold dirS; rw [hk]; exact hd), relS_some hk]
/-- An entry away, and there. -/
theorem rcarry_steps {w : World} {g : Nat} {τ : FSt} {S : Nat → Prop} (h : RfAt w g τ S) (hL : τ.length ≤ 1000000) (hcap : CapB τ) {a b k : Nat} {n m nk : Nd} (ha : τ.nd a = some n) (hb : τ.nd b = some m) (hk : τ.nd k = some nk) (x y : ByteArray) (hy : kget y.data.toList m.ents = none) :
    Calls Tryz.prog 78 #[.pointer (some ⟨g, 0, none⟩), .int .i64 a, .string x] w fun e w1 => e = .returned (.tuple #[]) ∧
      Calls Tryz.prog 80 #[.pointer (some ⟨g, 0, none⟩), .int .i64 b, .string y, .int .i64 k] w1 fun e w2 => e = .returned (.tuple #[]) ∧ Fr S w w2 ∧ RfAt w2 g (linkS (cutS τ a x.data.toList) b y.data.toList k) S ∧ ∃ nk2, (linkS (cutS τ a x.data.toList) b y.data.toList k).nd k = some nk2 ∧ nk2.d = nk.d := by
  have hcnd : ∀ j, (cutS τ a x.data.toList).nd j = if j = a then some { n with ents := kdel x.data.toList n.ents } else τ.nd j := fun j => by
    unfold cutS
    rw [entS_some ha, put_nd ha]
  have hl : (cutS τ a x.data.toList).length = τ.length := by unfold cutS; rw [entS_some ha, put_len]
  obtain ⟨m1, hb1, hm1⟩ : ∃ m1, (cutS τ a x.data.toList).nd b = some m1 ∧ kget y.data.toList m1.ents = none := by
    rw [hcnd]
    by_cases e : b = a
    · rw [if_pos e]
      refine ⟨_, rfl, ?_⟩
      rw [e, ha] at hb
      cases hb
      show kget _ (kdel _ _) = none
      by_cases e2 : y.data.toList = x.data.toList
      · rw [e2]; exact kget_kdel_same _ _
      · rw [kget_kdel_other e2]; exact hy
    · rw [if_neg e]
      exact ⟨m, hb, hy⟩
  have hcap1 := hcap.cut ha x.data.toList
  refine (rcut_any w g τ S h hL a n ha (hcap a n ha).2.2 x).mono ?_
  rintro e w1 ⟨rfl, h3, hf3⟩
  refine ⟨rfl, ?_⟩
  refine (rput_any w1 g _ S h3 (by omega) b m1 hb1 (hcap1 b m1 hb1).2.2 y k hm1).mono ?_
  rintro e w2 ⟨rfl, h4, hf4⟩
  refine ⟨rfl, hf3.trans hf4, h4, ?_⟩
  unfold linkS
  rw [entS_some hb1]
  by_cases e : k = b
  · subst e
    refine ⟨_, by rw [put_nd hb1, if_pos rfl], ?_⟩
    show m1.d = nk.d
    rw [hcnd] at hb1
    split at hb1
    · rename_i e2
      cases hb1
      rw [e2, ha] at hk
      cases hk
      rfl
    · rw [hk] at hb1
      cases hb1
      rfl
  · rw [put_nd hb1, if_neg e, hcnd]
    by_cases e2 : k = a
    · rw [if_pos e2]
      rw [e2, ha] at hk
      cases hk
      exact ⟨_, rfl, rfl⟩
    · rw [if_neg e2]
      exact ⟨nk, hk, rfl⟩
theorem gone_len (σ : FSt) (b : Nat) (y : List UInt8) : (goneS σ b y).length = σ.length := by
  unfold goneS
  split
  · rfl
  · unfold letS relS cutS entS
    repeat' (first | rfl | split | rw [put_len])
set_option maxRecDepth 100000 in
set_option maxHeartbeats 16000000 in
theorem rrename_any (w : World) (g : Nat) (σ : FSt) (S : Nat → Prop) (h : RfAt w g σ S) (hG : RG σ) {kk : Nat} (hgd : Good σ kk) (dir : Int) (hi : -9223372036854775808 ≤ dir ∧ dir ≤ 9223372036854775807) (s t : ByteArray) (hs : s.size ≤ 9223372036854775807) (ht : t.size ≤ 9223372036854775807) :
    Calls Tryz.prog 42 #[.pointer (some ⟨g, 0, none⟩), .int .i64 dir, .string s, .string t] w (RmutPost g (renR σ dir s.data.toList t.data.toList).2 S (.int .i64 (renR σ dir s.data.toList t.data.toList).1) w) := by
  have hlen := hG.live.len
  have hah1 := rahead_any w g σ S h hG dir hi s hs
  have hah2 := hide (fun (w1 : World) (hf1 : Fr (fun _ => False) w w1) => rahead_any w1 g σ S (h.frame hf1 (fun _ _ _ e => e)) hG dir hi t ht)
  unfold RaPost at hah1 hah2
  have hok1 := hide (fun h0 => ahead_ok (σ := σ) (dir := dir) (s := s.data.toList) h0)
  have hok2 := hide (fun h0 => ahead_ok (σ := σ) (dir := dir) (s := t.data.toList) h0)
  have herr := hide (show ∀ (E : Int) w', renE σ dir s.data.toList t.data.toList = E → E ≠ 0 → Fr (fun _ => False) w w' → RmutPost g (renR σ dir s.data.toList t.data.toList).2 S (.int .i64 (renR σ dir s.data.toList t.data.toList).1) w (.returned (.int .i64 E)) w' from fun E w' h1 h2 h3 => by
    have e : renR σ dir s.data.toList t.data.toList = (E, σ) := by unfold renR; rw [h1, if_pos h2]
    rw [e]
    exact ⟨rfl, h.frame h3 (fun _ _ _ e => e), h3.no⟩)
  have hok0 := hide (show ∀ w', renE σ dir s.data.toList t.data.toList = 0 → RfAt w' g (moveS σ (aheadE σ dir s.data.toList).2.1 (aheadE σ dir s.data.toList).2.2 (aheadE σ dir t.data.toList).2.1 (aheadE σ dir t.data.toList).2.2) S → Fr S w w' →
      RmutPost g (renR σ dir s.data.toList t.data.toList).2 S (.int .i64 (renR σ dir s.data.toList t.data.toList).1) w (.returned (.int .i64 0)) w' from fun w' h1 h2 h3 => by
    have e : renR σ dir s.data.toList t.data.toList = (0, moveS σ (aheadE σ dir s.data.toList).2.1 (aheadE σ dir s.data.toList).2.2 (aheadE σ dir t.data.toList).2.1 (aheadE σ dir t.data.toList).2.2) := by unfold renR; rw [if_neg (by simp [h1])]
    rw [e]
    exact ⟨rfl, h2, h3⟩)
  have hdef : renE σ dir s.data.toList t.data.toList = if (aheadE σ dir s.data.toList).1 ≠ 0 then (aheadE σ dir s.data.toList).1
    else match lookS σ (aheadE σ dir s.data.toList).2.1 (aheadE σ dir s.data.toList).2.2 with
      | none => 2
      | some k => if slashS s.data.toList = true ∧ dirS σ k = false then 20 else toE σ dir t.data.toList (aheadE σ dir s.data.toList).2.1 k := rfl
  have hto : ∀ a k, toE σ dir t.data.toList a k = if (aheadE σ dir t.data.toList).1 ≠ 0 then (aheadE σ dir t.data.toList).1
      else if slashS t.data.toList = true ∧ dirS σ k = false then 20
      else if linkN σ (aheadE σ dir t.data.toList).2.1 = 0 then 2
      else if mayS σ a 2 = false ∨ mayS σ (aheadE σ dir t.data.toList).2.1 2 = false then 13
      else overE σ (aheadE σ dir t.data.toList).2.1 (aheadE σ dir t.data.toList).2.2 k := fun a k => rfl
  obtain ⟨E1, a, x, hq1⟩ : ∃ E a nl, aheadE σ dir s.data.toList = (E, a, nl) := ⟨_, _, _, rfl⟩
  obtain ⟨E2, b, y, hq2⟩ : ∃ E a nl, aheadE σ dir t.data.toList = (E, a, nl) := ⟨_, _, _, rfl⟩
  rw [hq1] at hah1 hdef hok0 hok1
  rw [hq2] at hah2 hok0 hok2
  simp only [hq2] at hto
  simp only at hah1 hah2 hdef hok0 hok1 hok2
  have Hdef := hide hdef
  have Hto := hide hto
  have Hah := hide hah1
  have HA := hide h
  have HG := hide hG
  have Hgd := hide hgd
  clear hdef hto hah1 hq1 hq2 h hG hgd
  go_enter Tryz.func42, Tryz.ntmps42
  go_wp2_with fail
  refine Hah.out.mono ?_
  rintro e w1 ⟨rfl, hf1⟩
  have Hf1 := hide hf1
  clear Hah hf1
  by_cases hE : E1 = 0
  case neg =>
    have hres := hide (herr.out E1 w1 (by rw [Hdef.out, if_pos hE]) hE Hf1.out)
    clear hok1 hok2 Hdef Hto hah2 hok0 herr
    go_wp2_with fail
    go_returns
    exact hres.out
  subst hE
  obtain ⟨n, hna, hnad, hnl⟩ := hok1.out rfl
  have hdef2 := Hdef.out
  rw [if_neg (by simp), lookS_some hna] at hdef2
  clear Hdef hok1
  have hla := HG.out.cap a n hna
  have halen : a ≤ σ.length := by have := (FSt.nd_lt (show (σ.nd a).isSome = true by rw [hna]; rfl)); omega
  have HRA := hide (HA.out.frame Hf1.out (fun _ _ _ e => e))
  have hents : entsAt σ a = n.ents := by unfold entsAt; rw [hna]
  have hfind := rfind_any w1 g σ S HRA.out (by omega) a halen (by rw [hents]; exact hla.2.2) (baL x)
  have hfe : findN σ a (baL x).data.toList = (kget x n.ents).getD 0 := by rw [findN_ents, hents]; rfl
  rw [hfe] at hfind
  have hfind := hide hfind
  clear hfe hents hla halen
  cases hkx : kget x n.ents with
  | none =>
    rw [hkx] at hfind hdef2
    have hfin := hide (fun w' (hf : Fr (fun _ => False) w1 w') => herr.out 2 w' hdef2 (by decide) (Hf1.out.trans hf))
    clear herr hok0 hkx hdef2 Hto hah2 hok2
    go_wp2_with fail
    refine hfind.out.mono ?_
    rintro e w2 ⟨rfl, hf2⟩
    have Hf2 := hide hf2
    clear hf2 hfind
    go_wp2_with fail
    go_returns
    exact hfin.out w2 Hf2.out
  | some k =>
  rw [hkx] at hfind hdef2
  simp only [Option.getD_some] at hfind
  obtain ⟨nk, hnk⟩ := Option.isSome_iff_exists.1 (HG.out.live.ents a n hna _ (kget_mem hkx))
  have hdk : dirS σ k = nk.d := by unfold dirS; rw [hnk]
  have hma : mayS σ a 2 = mayN n.mode 2 := by unfold mayS; rw [hna]
  simp only [hdk] at hdef2
  have hto2 := Hto.out a k
  rw [hdk, hma] at hto2
  have Hkx := hide hkx
  have hkz : ¬ (k : Int) = 0 := by have := nd_pos hnk; omega
  have Hdef2 := hide hdef2
  have Hto2 := hide hto2
  clear hdef2 hto2 Hto hdk hma hkx
  go_wp2_with fail
  refine hfind.out.mono ?_
  rintro e w2 ⟨rfl, hf2⟩
  have HR2 := hide (HRA.out.frame hf2 (fun _ _ _ e => e))
  have Hf2 := hide (Hf1.out.trans hf2)
  clear hf2 hfind HRA Hf1
  obtain ⟨nb, cap, na, nc, ia, ic, c0, hnb, hk1, hk0, ⟨q0, -, -, -, -, -, -, -⟩, -, -, -⟩ := HR2.out.open hnk
  have hsl1 := hide (rslash_any w2 s hs)
  obtain ⟨sl1, hsl1e⟩ : ∃ sl1, sl1 = slashS s.data.toList := ⟨_, rfl⟩
  obtain ⟨D, hD⟩ : ∃ D, D = nk.d := ⟨_, rfl⟩
  have hkd : (kindN nk == 2) = D := by rw [hD]; unfold kindN; cases nk.d <;> rfl
  rw [← hD] at Hdef2 Hto2
  rw [← hsl1e] at hsl1 Hdef2
  have HD := hide hD
  clear hD hsl1e
  obtain ⟨kd, hkde⟩ : ∃ kd, kd = kindN nk := ⟨_, rfl⟩
  rw [← hkde] at q0 hkd
  clear hkde
  go_upto_region 8 with (fail)
  clear q0 c0 hkd
  go_cut [49] (fun z wx => w2 = wx ∧ z = .bool (sl1 && !D))
  case first =>
    cases sl1
    · go_wp2_with fail
      refine hsl1.out.mono ?_
      rintro e w4 ⟨rfl, rfl⟩
      go_wp2_with fail
      go_meet
      exact ⟨rfl, rfl⟩
    · go_wp2_with fail
      refine hsl1.out.mono ?_
      rintro e w4 ⟨rfl, rfl⟩
      go_wp2_with fail
      go_meet
      exact ⟨rfl, rfl⟩
  case rest =>
  obtain ⟨rfl, rfl⟩ := hcut
  obtain ⟨B1, hB1⟩ : ∃ B1, B1 = (sl1 && !D) := ⟨_, rfl⟩
  rw [← hB1]
  have hdef3 := Hdef2.out
  simp only [show (sl1 = true ∧ D = false) = (B1 = true) from by rw [hB1]; cases sl1 <;> cases D <;> simp] at hdef3
  have Hdef3 := hide hdef3
  clear hdef3 Hdef2 hB1 hsl1
  cases B1 with
  | true =>
    have hres := hide (herr.out 20 w2 (by rw [Hdef3.out, if_pos rfl]) (by decide) Hf2.out)
    clear Hdef3 Hto2 hah2 herr hok0
    go_wp2_with fail
    go_returns
    exact hres.out
  | false =>
  have hdef4 := Hdef3.out
  rw [if_neg (by decide), Hto2.out] at hdef4
  have Hdef4 := hide hdef4
  clear hdef4 Hdef3 Hto2
  go_wp2_with fail
  refine (hah2.out w2 Hf2.out).mono ?_
  rintro e w3 ⟨rfl, hf3⟩
  clear hah2
  have Hf3 := hide (Hf2.out.trans hf3)
  have HR3 := hide (HR2.out.frame hf3 (fun _ _ _ e => e))
  clear hf3 HR2
  by_cases hE : E2 = 0
  case neg =>
    have hres := hide (herr.out E2 w3 (by rw [Hdef4.out, if_pos hE]) hE Hf3.out)
    clear hok2 Hdef4 hok0 herr
    go_wp2_with fail
    go_returns
    exact hres.out
  subst hE
  obtain ⟨m, hmb, hmbd, hml⟩ := hok2.out rfl
  have hlb : linkN σ b = m.links := by unfold linkN; rw [hmb]
  have hmyb : mayS σ b 2 = mayN m.mode 2 := by unfold mayS; rw [hmb]
  have hdef5 := Hdef4.out
  rw [if_neg (by simp), hlb, hmyb] at hdef5
  clear Hdef4 hok2 hlb hmyb
  have hsl2 := hide (rslash_any w3 t ht)
  obtain ⟨sl2, hsl2e⟩ : ∃ sl2, sl2 = slashS t.data.toList := ⟨_, rfl⟩
  rw [← hsl2e] at hsl2 hdef5
  clear hsl2e
  have hmaya := rmay_any w3 g σ S HR3.out (by omega) HG.out.md a 2 (by have := (FSt.nd_lt (show (σ.nd a).isSome = true by rw [hna]; rfl)); omega) (by omega)
  have hmayb := rmay_any w3 g σ S HR3.out (by omega) HG.out.md b 2 (by have := (FSt.nd_lt (show (σ.nd b).isSome = true by rw [hmb]; rfl)); omega) (by omega)
  rw [show mayR σ a 2 = mayN n.mode 2 by unfold mayR; rw [ndI_cast, hna]; rfl] at hmaya
  rw [show mayR σ b 2 = mayN m.mode 2 by unfold mayR; rw [ndI_cast, hmb]; rfl] at hmayb
  have hmaya := hide hmaya
  have hmayb := hide hmayb
  have Hdef5 := hide hdef5
  clear hdef5
  obtain ⟨nb, cap, na, nc, ia, ic, c0, hnb, hb1, hb0, ⟨-, -, q2, -, -, -, -, -⟩, -, -, -⟩ := HR3.out.open hmb
  go_upto_region 13 with (fail)
  go_cut [62] (fun z wx => w3 = wx ∧ z = .bool (sl2 && !D))
  case first =>
    cases sl2
    · go_wp2_with fail
      refine hsl2.out.mono ?_
      rintro e w4 ⟨rfl, rfl⟩
      go_wp2_with fail
      go_meet
      exact ⟨rfl, rfl⟩
    · go_wp2_with fail
      refine hsl2.out.mono ?_
      rintro e w4 ⟨rfl, rfl⟩
      go_wp2_with fail
      go_meet
      exact ⟨rfl, rfl⟩
  case rest =>
  obtain ⟨rfl, rfl⟩ := hcut
  obtain ⟨B2, hB2⟩ : ∃ B2, B2 = (sl2 && !D) := ⟨_, rfl⟩
  rw [← hB2]
  have hdef6 := Hdef5.out
  simp only [show (sl2 = true ∧ D = false) = (B2 = true) from by rw [hB2]; cases sl2 <;> cases D <;> simp] at hdef6
  have Hdef6 := hide hdef6
  clear hdef6 Hdef5 hB2 hsl2
  have herr5 := hide (fun E h1 h2 => herr.out E w3 h1 h2 Hf3.out)
  cases B2 with
  | true =>
    have hres := hide (herr5.out 20 (by rw [Hdef6.out, if_pos rfl]) (by decide))
    clear Hdef6 herr hok0 herr5
    go_wp2_with fail
    go_returns
    exact hres.out
  | false =>
  have hdef7 := Hdef6.out
  rw [if_neg (by decide)] at hdef7
  by_cases hl0 : m.links = 0
  · have hres := hide (herr5.out 2 (by rw [hdef7, if_pos hl0]) (by decide))
    rw [hl0] at q2
    clear hdef7 Hdef6 herr hok0 herr5 hl0
    go_wp2_with fail
    go_returns
    exact hres.out
  rw [if_neg hl0] at hdef7
  have Hl0 := hide hl0
  have hl1 : ((m.links : Int) == 0) = false := by simpa using hl0
  obtain ⟨Ma, hMa⟩ : ∃ Ma, Ma = mayN n.mode 2 := ⟨_, rfl⟩
  obtain ⟨Mb, hMb⟩ : ∃ Mb, Mb = mayN m.mode 2 := ⟨_, rfl⟩
  rw [← hMa] at hmaya hdef7
  rw [← hMb] at hmayb hdef7
  have Hdef7 := hide hdef7
  clear hdef7 Hdef6 hMa hMb hl0
  go_upto_region 17 with (fail)
  go_cut [79] (fun z wx => w3 = wx ∧ z = .bool (!Ma || !Mb))
  case first =>
    cases Ma
    · go_wp2_with fail
      refine hmaya.out.mono ?_
      rintro e w6 ⟨rfl, rfl⟩
      go_wp2_with fail
      go_meet
      exact ⟨rfl, rfl⟩
    · go_wp2_with fail
      refine hmaya.out.mono ?_
      rintro e w6 ⟨rfl, rfl⟩
      go_wp2_with fail
      refine hmayb.out.mono ?_
      rintro e w6 ⟨rfl, rfl⟩
      go_wp2_with fail
      go_meet
      exact ⟨rfl, rfl⟩
  case rest =>
  obtain ⟨rfl, rfl⟩ := hcut
  obtain ⟨B3, hB3⟩ : ∃ B3, B3 = (!Ma || !Mb) := ⟨_, rfl⟩
  rw [← hB3]
  have hdef8 := Hdef7.out
  simp only [show (Ma = false ∨ Mb = false) = (B3 = true) from by rw [hB3]; cases Ma <;> cases Mb <;> simp] at hdef8
  have Hdef8 := hide hdef8
  clear hdef8 Hdef7 hB3 q2 hmaya hmayb hl1 c0
  cases B3 with
  | true =>
    have hres := hide (herr5.out 13 (by rw [Hdef8.out, if_pos rfl]) (by decide))
    clear Hdef8 herr hok0 herr5
    go_wp2_with fail
    go_returns
    exact hres.out
  | false =>
  have hdef9 := Hdef8.out
  rw [if_neg (by decide)] at hdef9
  clear Hdef8 herr5
  have hlb := HG.out.cap b m hmb
  have hblen : b ≤ σ.length := by have := (FSt.nd_lt (show (σ.nd b).isSome = true by rw [hmb]; rfl)); omega
  have hents : entsAt σ b = m.ents := by unfold entsAt; rw [hmb]
  have hfind := rfind_any w3 g σ S HR3.out (by omega) b hblen (by rw [hents]; exact hlb.2.2) (baL y)
  have hfe : findN σ b (baL y).data.toList = (kget y m.ents).getD 0 := by rw [findN_ents, hents]; rfl
  rw [hfe] at hfind
  have hfind := hide hfind
  clear hfe hents hlb hblen
  have hdk : dirS σ k = D := by unfold dirS; rw [hnk]; exact HD.out.symm
  unfold overE at hdef9
  rw [lookS_some hmb, hdk] at hdef9
  have hmv : moveS σ a x b y = match kget y m.ents with | none => carryS σ a x b y k | some o => if o = k then σ else carryS (goneS σ b y) a x b y k := by
    unfold moveS
    rw [lookS_some hna, Hkx.out]
    simp only
    rw [lookS_some hmb]
    cases kget y m.ents <;> rfl
  rw [hmv] at hok0
  clear hdk hmv
  go_wp2_with fail
  refine hfind.out.mono ?_
  rintro e w4 ⟨rfl, hf4⟩
  have HR4 := hide (HR3.out.frame hf4 (fun _ _ _ e => e))
  have Hf4 := hide (Hf3.out.trans hf4)
  have herr4 := hide (fun E h1 h2 => herr.out E w4 h1 h2 Hf4.out)
  have hok4 := hide (fun w' h1 h2 (h3 : Fr S w4 w') => hok0.out w' h1 h2 (Hf4.out.no.trans h3))
  clear hf4 hfind HR3 Hf3 Hf2 herr hok0
  have Hdef9 := hide hdef9
  clear hdef9
  have hhol := hide (rholds_any w4 g σ S HR4.out (by omega) Hgd.out.inv b k m nk hmb hmbd Hl0.out hnk)
  unfold WinPost at hhol
  cases hky : kget y m.ents with
  | none =>
    rw [hky] at Hdef9 hok4
    simp only [Option.getD_none]
    cases D with
    | false =>
      have hfin := hide (fun w' h2 h3 => hok4.out w' (by rw [Hdef9.out]; simp) h2 h3)
      have hy0 : kget (baL y).data.toList m.ents = none := hky
      have hcr := hide (rcarry_steps HR4.out (by omega) HG.out.cap hna hmb hnk (baL x) (baL y) hy0)
      have hτl := hide (show List.length σ ≤ 1000000 by omega)
      clear Hdef9 herr4 hok4 hky hhol hy0
      go_wp2_with fail
      refine hcr.out.mono ?_
      rintro e w7 ⟨rfl, hput⟩
      have Hput := hide hput
      clear hput hcr
      go_wp2_with fail
      refine Hput.out.mono ?_
      rintro e w8 ⟨rfl, hf8, hR8, nk2, hk2, hd2⟩
      have Hf8 := hide hf8
      clear Hput hf8
      have hr := hide (hfin.out w8 (by have e9 := carryS_file hk2 (hd2.trans HD.out.symm); rw [← e9] at hR8; exact hR8) Hf8.out)
      clear hR8 hk2 hd2 hfin
      go_wp2_with fail
      go_returns
      exact hr.out
    | true =>
      by_cases hu : underB σ k b = true
      · have hres := hide (herr4.out 22 (by rw [Hdef9.out]; simp [hu]) (by decide))
        rw [hu] at hhol
        clear Hdef9 herr4 hok4 hky
        go_wp2_with fail
        refine hhol.out.mono ?_
        rintro e w5 ⟨rfl, rfl⟩
        go_wp2_with fail
        go_returns
        exact hres.out
      · have hu2 : underB σ k b = false := by simpa using hu
        have hfin := hide (fun w' h2 h3 => hok4.out w' (by rw [Hdef9.out]; simp [hu2]) h2 h3)
        have hy0 : kget (baL y).data.toList m.ents = none := hky
        have hcr := hide (rcarry_steps HR4.out (by omega) HG.out.cap hna hmb hnk (baL x) (baL y) hy0)
        have hτl := hide (show List.length σ ≤ 1000000 by omega)
        rw [hu2] at hhol
        clear Hdef9 herr4 hok4 hky hu hy0
        go_wp2_with fail
        refine hhol.out.mono ?_
        rintro e w5 ⟨rfl, hw5⟩
        rw [← hw5]
        clear hw5
        go_wp2_with fail
        refine hcr.out.mono ?_
        rintro e w7 ⟨rfl, hput⟩
        have Hput := hide hput
        clear hput hcr
        go_wp2_with fail
        refine Hput.out.mono ?_
        rintro e w8 ⟨rfl, hf8, hR8, nk2, hk2, hd2⟩
        have Hf8 := hide hf8
        clear Hput hf8
        have hcd := carryS_dir hk2 (hd2.trans HD.out.symm)
        have HR8 := hide hR8
        clear hR8
        obtain ⟨nb, cap, na, nc, ia, ic, c0, hnb, hk1, hk0, ⟨q0, q1, q2, q3, q4, q5, q6, q7⟩, -, -, hw⟩ := HR8.out.open hk2
        have hlen8 : (List.length (linkS (cutS σ a (baL x).data.toList) b (baL y).data.toList k)) ≤ 1000000 := by
          obtain ⟨rv, nv, iv, hF⟩ := HR8.out
          have e1 : (cutS σ a (baL x).data.toList).length = (σ).length := by unfold cutS entS; split <;> simp [put_len]
          have e2 : (linkS (cutS σ a (baL x).data.toList) b (baL y).data.toList k).length = (cutS σ a (baL x).data.toList).length := by unfold linkS entS; split <;> simp [put_len]
          have := hτl.out
          omega
        obtain ⟨LL, hLL⟩ : ∃ LL, LL = List.length (linkS (cutS σ a (baL x).data.toList) b (baL y).data.toList k) := ⟨_, rfl⟩
        rw [← hLL] at c0 hk1 hlen8
        simp only [← hLL] at hw
        clear hLL
        obtain ⟨w9, hw9⟩ : ∃ w9, w9 = w8.alloc (.cells #[.int .i64 (kindN nk2), .int .i64 nk2.mode, .int .i64 nk2.links, .int .i64 nk2.holds, .int .i64 nk2.par, .string (baL nk2.data), .slice na nk2.ents.length nc, .slice ia nk2.ents.length ic] 63 (0, 0)) := ⟨_, rfl⟩
        obtain ⟨bb, hbb⟩ : ∃ bb, bb = w8.heap.size := ⟨_, rfl⟩
        have hf9 : Fr (fun _ => False) w8 w9 := by rw [hw9]; exact (Fr.refl _ _).alloc _
        have hbk9 : w9.heap[bb]? = some (.cells #[.int .i64 (kindN nk2), .int .i64 nk2.mode, .int .i64 nk2.links, .int .i64 nk2.holds, .int .i64 nk2.par, .string (baL nk2.data), .slice na nk2.ents.length nc, .slice ia nk2.ents.length ic] 63 (0, 0)) := by rw [hw9, hbb]; exact blk_new _ _
        have r4 : w9.cell? ⟨bb, 4, none⟩ = some (.int .i64 nk2.par) := by rw [blk_cell hbk9]; rfl
        have z4 := blk_frozen hbk9 4
        have Hf9 := hide hf9
        have Hbk9 := hide hbk9
        have Hbb := hide hbb
        have Hw := hide hw
        have Hcd := hide hcd
        clear hf9 hbk9 hw hcd hk2 hd2 HR8
        go_upto_region 37 with (fail)
        rw [← hw9, ← hbb]
        clear hw9 hbb q0 q1 q2 q3 q4 q5 q6 q7 c0
        go_upto_region 38 with (fail)
        obtain ⟨w3', hw3⟩ : ∃ w3', w3' = w9.setCell ⟨bb, 4, none⟩ (.int .i64 (b : Nat)) := ⟨_, rfl⟩
        have hb3 : w3'.heap[bb]? = some (.cells #[.int .i64 (kindN nk2), .int .i64 nk2.mode, .int .i64 nk2.links, .int .i64 nk2.holds, .int .i64 (b : Nat), .string (baL nk2.data), .slice na nk2.ents.length nc, .slice ia nk2.ents.length ic] 63 (0, 0)) := by
          rw [hw3, blk_set Hbk9.out 4 _]; rfl
        have hf3 : Fr (fun _ => False) w8 w3' := by
          rw [hw3]
          exact Hf9.out.trans' ((Fr.refl (fun q => q = bb) w9).setCell (.inl rfl) _) (fun q hq e => by have := Hbb.out; omega)
        rw [← hw3]
        clear hw3 r4 z4 Hbk9 Hf9
        obtain ⟨cg, hth, hR⟩ := Hw.out w3'.drew hf3.drew
        obtain ⟨hR1, hR2⟩ := hR { nk2 with par := b } rfl
        simp only at hR1 hR2
        have hres := hide (hfin.out _ (by have e9 := Hcd.out; rw [← e9] at hR1; exact hR1) (Hf8.out.trans (hf3.drew.no.trans hR2)))
        have hbd := blk_drew hb3
        have d0 : w3'.drew.cell? ⟨bb, 0, none⟩ = some (.int .i64 (kindN nk2)) := by rw [blk_cell hbd]; rfl
        have d1 : w3'.drew.cell? ⟨bb, 1, none⟩ = some (.int .i64 nk2.mode) := by rw [blk_cell hbd]; rfl
        have d2 : w3'.drew.cell? ⟨bb, 2, none⟩ = some (.int .i64 nk2.links) := by rw [blk_cell hbd]; rfl
        have d3 : w3'.drew.cell? ⟨bb, 3, none⟩ = some (.int .i64 nk2.holds) := by rw [blk_cell hbd]; rfl
        have d4 : w3'.drew.cell? ⟨bb, 4, none⟩ = some (.int .i64 (b : Nat)) := by rw [blk_cell hbd]; rfl
        have d5 : w3'.drew.cell? ⟨bb, 5, none⟩ = some (.string (baL nk2.data)) := by rw [blk_cell hbd]; rfl
        have d6 : w3'.drew.cell? ⟨bb, 6, none⟩ = some (.slice na nk2.ents.length nc) := by rw [blk_cell hbd]; rfl
        have d7 : w3'.drew.cell? ⟨bb, 7, none⟩ = some (.slice ia nk2.ents.length ic) := by rw [blk_cell hbd]; rfl
        clear hbd hb3 hf3 hR hR1 hR2 Hcd hfin Hf8
        refine region_tail 7 (by kernel_rfl) (by kernel_rfl) ?_
        simp only [List.take_succ_cons, List.take_zero, List.drop_succ_cons, List.drop_zero]
        generalize w3'.drew = wd at *
        repeat go_big_quiet_step (fail)
        refine wpQuiet_nil ?_
        refine wpList_store_mid rfl 63 _ _ rfl nb (k * 8) #[.int .i64 (kindN nk2), .int .i64 nk2.mode, .int .i64 nk2.links, .int .i64 nk2.holds, .int .i64 (b : Nat), .string (baL nk2.data), .slice na nk2.ents.length nc, .slice ia nk2.ents.length ic] ?zc2B ?zc3B ?zc4B ?zc5B ?zc6B ?_
        case zc2B => rfl
        case zc3B => rfl
        case zc4B => simpa using hth
        case zc5B => kernel_rfl
        case zc6B => simp [Value.oneCell']
        go_wp2_with fail
        go_returns
        exact hres.out
  | some o =>
    rw [hky] at Hdef9 hok4
    simp only [Option.getD_some]
    obtain ⟨no, hno⟩ := Option.isSome_iff_exists.1 (HG.out.live.ents b m hmb _ (kget_mem hky))
    have hop : (0 : Int) < (o : Int) := by have := nd_pos hno; omega
    by_cases hok : o = k
    · subst hok
      have hres := hide (hok4.out w4 (by rw [Hdef9.out]; simp) (by simp only [if_true]; exact HR4.out) (Fr.refl _ _))
      clear Hdef9 herr4 hok4 hhol hky
      go_wp2_with fail
      go_returns
      exact hres.out
    · have hokI : ¬ (o : Int) = (k : Int) := by omega
      have hdo : dirS σ o = no.d := by unfold dirS; rw [hno]
      have hso : sizeD σ o = no.ents.length := by unfold sizeD; rw [hno]
      have hdef10 := Hdef9.out
      simp only [if_neg hok, hdo, hso] at hdef10
      simp only [if_neg hok] at hok4
      have Hdef10 := hide hdef10
      clear hdef10 Hdef9 hdo hso
      obtain ⟨nb, cap, na, nc, ia, ic, c0, hnb, ho1, ho0, ⟨q0, -, -, -, -, -, q6, -⟩, -, -, -⟩ := HR4.out.open hno
      cases D with
      | false =>
        cases hdd : no.d with
        | true =>
          have hres := hide (herr4.out 21 (by rw [Hdef10.out]; simp [hdd]) (by decide))
          rw [show kindN no = 2 by unfold kindN; rw [hdd]; rfl] at q0
          clear Hdef10 herr4 hok4 hhol hky hdd
          go_wp2_with fail
          go_returns
          exact hres.out
        | false =>
          have hnil : no.ents = [] := Hgd.out.inv.file o no hno hdd
          have hfin0 := hide (fun w' h2 h3 => hok4.out w' (by rw [Hdef10.out]; simp [hdd, hnil]) h2 h3)
          rw [show kindN no = 1 by unfold kindN; rw [hdd]; rfl] at q0
          rw [hnil] at q6
          simp only [List.length_nil] at q6
          have hhe : no.d = true → no.ents = [] := fun _ => hnil
          have hgs := hide (rgone_steps HR4.out Hgd.out.inv HG.out hmb hmbd (baL y) hky hno hhe)
          obtain ⟨-, -, hcapg, n', m', ha', -, -, hk', hb', -, -, hy', -⟩ := gone_then Hgd.out hna hnad Hkx.out hnk hmb hmbd Hl0.out hky hno hok (hnil) (fun e => by rw [← HD.out] at e; cases e)
          have hlg := gone_len σ b y
          have hcapB : CapB (goneS σ b y) := HG.out.cap.gone hmb hky hno (fun e => by rw [e, hmb] at hno; cases hno; rw [hnil] at hky; cases hky)
          have hcrs := hide (fun (w5 : World) (h5 : RfAt w5 g (goneS σ b y) S) => rcarry_steps h5 (by omega) hcapB ha' hb' hk' (baL x) (baL y) hy')
          have hτl := hide (show List.length (goneS σ b y) ≤ 1000000 by omega)
          clear Hdef10 herr4 hok4 hhol hky hdd hnil hhe hcapg ha' hk' hb' hy' hlg hcapB
          go_wp2_with fail
          refine hgs.out.mono ?_
          rintro e w5 ⟨rfl, hch⟩
          have Hch := hide hch
          clear hch hgs
          go_wp2_with fail
          refine Hch.out.mono ?_
          rintro e w6 ⟨rfl, hR6, hf6⟩
          have hcr := hide (hcrs.out w6 hR6)
          have hfin := hide (fun w' h2 h3 => hfin0.out w' h2 (hf6.trans h3))
          clear Hch hcrs hR6 hf6 hfin0
          go_wp2_with fail
          refine hcr.out.mono ?_
          rintro e w7 ⟨rfl, hput⟩
          have Hput := hide hput
          clear hput hcr
          go_wp2_with fail
          refine Hput.out.mono ?_
          rintro e w8 ⟨rfl, hf8, hR8, nk2, hk2, hd2⟩
          have Hf8 := hide hf8
          clear Hput hf8
          have hr := hide (hfin.out w8 (by have e9 := carryS_file hk2 (hd2.trans HD.out.symm); rw [← e9] at hR8; exact hR8) Hf8.out)
          clear hR8 hk2 hd2 hfin
          go_wp2_with fail
          go_returns
          exact hr.out
      | true =>
        cases hdd : no.d with
        | false =>
          have hres := hide (herr4.out 20 (by rw [Hdef10.out]; simp [hdd]) (by decide))
          rw [show kindN no = 1 by unfold kindN; rw [hdd]; rfl] at q0
          clear Hdef10 herr4 hok4 hhol hky hdd
          go_wp2_with fail
          go_returns
          exact hres.out
        | true =>
          rw [show kindN no = 2 by unfold kindN; rw [hdd]; rfl] at q0
          by_cases hu : underB σ k b = true
          · have hres := hide (herr4.out 22 (by rw [Hdef10.out]; simp [hdd, hu]) (by decide))
            rw [hu] at hhol
            clear Hdef10 herr4 hok4 hky hdd
            go_wp2_with fail
            refine hhol.out.mono ?_
            rintro e w5 ⟨rfl, rfl⟩
            go_wp2_with fail
            go_returns
            exact hres.out
          · have hu2 : underB σ k b = false := by simpa using hu
            rw [hu2] at hhol
            by_cases hz : no.ents.length = 0
            · have hnil : no.ents = [] := List.eq_nil_of_length_eq_zero hz
              have hfin0 := hide (fun w' h2 h3 => hok4.out w' (by rw [Hdef10.out]; simp [hdd, hnil, hu2]) h2 h3)
              rw [hnil] at q6
              simp only [List.length_nil] at q6
              have hhe : no.d = true → no.ents = [] := fun _ => hnil
              have hgs := hide (rgone_steps HR4.out Hgd.out.inv HG.out hmb hmbd (baL y) hky hno hhe)
              obtain ⟨-, -, hcapg, n', m', ha', -, -, hk', hb', -, -, hy', -⟩ := gone_then Hgd.out hna hnad Hkx.out hnk hmb hmbd Hl0.out hky hno hok (hnil) (fun _ e => hu (underB_true e))
              have hlg := gone_len σ b y
              have hcapB : CapB (goneS σ b y) := HG.out.cap.gone hmb hky hno (fun e => by rw [e, hmb] at hno; cases hno; rw [hnil] at hky; cases hky)
              have hcrs := hide (fun (w5 : World) (h5 : RfAt w5 g (goneS σ b y) S) => rcarry_steps h5 (by omega) hcapB ha' hb' hk' (baL x) (baL y) hy')
              have hτl := hide (show List.length (goneS σ b y) ≤ 1000000 by omega)
              clear Hdef10 herr4 hok4 hky hdd hnil hhe hcapg ha' hk' hb' hy' hlg hcapB hz hu hu2
              go_wp2_with fail
              refine hhol.out.mono ?_
              rintro e w5 ⟨rfl, hw5⟩
              rw [← hw5]
              clear hw5
              go_wp2_with fail
              refine hgs.out.mono ?_
              rintro e w5 ⟨rfl, hch⟩
              have Hch := hide hch
              clear hch hgs
              go_wp2_with fail
              refine Hch.out.mono ?_
              rintro e w6 ⟨rfl, hR6, hf6⟩
              have hcr := hide (hcrs.out w6 hR6)
              have hfin := hide (fun w' h2 h3 => hfin0.out w' h2 (hf6.trans h3))
              clear Hch hcrs hR6 hf6 hfin0
              go_wp2_with fail
              refine hcr.out.mono ?_
              rintro e w7 ⟨rfl, hput⟩
              have Hput := hide hput
              clear hput hcr
              go_wp2_with fail
              refine Hput.out.mono ?_
              rintro e w8 ⟨rfl, hf8, hR8, nk2, hk2, hd2⟩
              have Hf8 := hide hf8
              clear Hput hf8
              have hcd := carryS_dir hk2 (hd2.trans HD.out.symm)
              have HR8 := hide hR8
              clear hR8
              obtain ⟨nb, cap, na, nc, ia, ic, c0, hnb, hk1, hk0, ⟨q0, q1, q2, q3, q4, q5, q6, q7⟩, -, -, hw⟩ := HR8.out.open hk2
              have hlen8 : (List.length (linkS (cutS (goneS σ b y) a (baL x).data.toList) b (baL y).data.toList k)) ≤ 1000000 := by
                obtain ⟨rv, nv, iv, hF⟩ := HR8.out
                have e1 : (cutS (goneS σ b y) a (baL x).data.toList).length = ((goneS σ b y)).length := by unfold cutS entS; split <;> simp [put_len]
                have e2 : (linkS (cutS (goneS σ b y) a (baL x).data.toList) b (baL y).data.toList k).length = (cutS (goneS σ b y) a (baL x).data.toList).length := by unfold linkS entS; split <;> simp [put_len]
                have := hτl.out
                omega
              obtain ⟨LL, hLL⟩ : ∃ LL, LL = List.length (linkS (cutS (goneS σ b y) a (baL x).data.toList) b (baL y).data.toList k) := ⟨_, rfl⟩
              rw [← hLL] at c0 hk1 hlen8
              simp only [← hLL] at hw
              clear hLL
              obtain ⟨w9, hw9⟩ : ∃ w9, w9 = w8.alloc (.cells #[.int .i64 (kindN nk2), .int .i64 nk2.mode, .int .i64 nk2.links, .int .i64 nk2.holds, .int .i64 nk2.par, .string (baL nk2.data), .slice na nk2.ents.length nc, .slice ia nk2.ents.length ic] 63 (0, 0)) := ⟨_, rfl⟩
              obtain ⟨bb, hbb⟩ : ∃ bb, bb = w8.heap.size := ⟨_, rfl⟩
              have hf9 : Fr (fun _ => False) w8 w9 := by rw [hw9]; exact (Fr.refl _ _).alloc _
              have hbk9 : w9.heap[bb]? = some (.cells #[.int .i64 (kindN nk2), .int .i64 nk2.mode, .int .i64 nk2.links, .int .i64 nk2.holds, .int .i64 nk2.par, .string (baL nk2.data), .slice na nk2.ents.length nc, .slice ia nk2.ents.length ic] 63 (0, 0)) := by rw [hw9, hbb]; exact blk_new _ _
              have r4 : w9.cell? ⟨bb, 4, none⟩ = some (.int .i64 nk2.par) := by rw [blk_cell hbk9]; rfl
              have z4 := blk_frozen hbk9 4
              have Hf9 := hide hf9
              have Hbk9 := hide hbk9
              have Hbb := hide hbb
              have Hw := hide hw
              have Hcd := hide hcd
              clear hf9 hbk9 hw hcd hk2 hd2 HR8
              go_upto_region 37 with (fail)
              rw [← hw9, ← hbb]
              clear hw9 hbb q0 q1 q2 q3 q4 q5 q6 q7 c0
              go_upto_region 38 with (fail)
              obtain ⟨w3', hw3⟩ : ∃ w3', w3' = w9.setCell ⟨bb, 4, none⟩ (.int .i64 (b : Nat)) := ⟨_, rfl⟩
              have hb3 : w3'.heap[bb]? = some (.cells #[.int .i64 (kindN nk2), .int .i64 nk2.mode, .int .i64 nk2.links, .int .i64 nk2.holds, .int .i64 (b : Nat), .string (baL nk2.data), .slice na nk2.ents.length nc, .slice ia nk2.ents.length ic] 63 (0, 0)) := by
                rw [hw3, blk_set Hbk9.out 4 _]; rfl
              have hf3 : Fr (fun _ => False) w8 w3' := by
                rw [hw3]
                exact Hf9.out.trans' ((Fr.refl (fun q => q = bb) w9).setCell (.inl rfl) _) (fun q hq e => by have := Hbb.out; omega)
              rw [← hw3]
              clear hw3 r4 z4 Hbk9 Hf9
              obtain ⟨cg, hth, hR⟩ := Hw.out w3'.drew hf3.drew
              obtain ⟨hR1, hR2⟩ := hR { nk2 with par := b } rfl
              simp only at hR1 hR2
              have hres := hide (hfin.out _ (by have e9 := Hcd.out; rw [← e9] at hR1; exact hR1) (Hf8.out.trans (hf3.drew.no.trans hR2)))
              have hbd := blk_drew hb3
              have d0 : w3'.drew.cell? ⟨bb, 0, none⟩ = some (.int .i64 (kindN nk2)) := by rw [blk_cell hbd]; rfl
              have d1 : w3'.drew.cell? ⟨bb, 1, none⟩ = some (.int .i64 nk2.mode) := by rw [blk_cell hbd]; rfl
              have d2 : w3'.drew.cell? ⟨bb, 2, none⟩ = some (.int .i64 nk2.links) := by rw [blk_cell hbd]; rfl
              have d3 : w3'.drew.cell? ⟨bb, 3, none⟩ = some (.int .i64 nk2.holds) := by rw [blk_cell hbd]; rfl
              have d4 : w3'.drew.cell? ⟨bb, 4, none⟩ = some (.int .i64 (b : Nat)) := by rw [blk_cell hbd]; rfl
              have d5 : w3'.drew.cell? ⟨bb, 5, none⟩ = some (.string (baL nk2.data)) := by rw [blk_cell hbd]; rfl
              have d6 : w3'.drew.cell? ⟨bb, 6, none⟩ = some (.slice na nk2.ents.length nc) := by rw [blk_cell hbd]; rfl
              have d7 : w3'.drew.cell? ⟨bb, 7, none⟩ = some (.slice ia nk2.ents.length ic) := by rw [blk_cell hbd]; rfl
              clear hbd hb3 hf3 hR hR1 hR2 Hcd hfin Hf8
              refine region_tail 7 (by kernel_rfl) (by kernel_rfl) ?_
              simp only [List.take_succ_cons, List.take_zero, List.drop_succ_cons, List.drop_zero]
              generalize w3'.drew = wd at *
              repeat go_big_quiet_step (fail)
              refine wpQuiet_nil ?_
              refine wpList_store_mid rfl 63 _ _ rfl nb (k * 8) #[.int .i64 (kindN nk2), .int .i64 nk2.mode, .int .i64 nk2.links, .int .i64 nk2.holds, .int .i64 (b : Nat), .string (baL nk2.data), .slice na nk2.ents.length nc, .slice ia nk2.ents.length ic] ?zc2D ?zc3D ?zc4D ?zc5D ?zc6D ?_
              case zc2D => rfl
              case zc3D => rfl
              case zc4D => simpa using hth
              case zc5D => kernel_rfl
              case zc6D => simp [Value.oneCell']
              go_wp2_with fail
              go_returns
              exact hres.out
            · have hzI : (0 : Int) < (no.ents.length : Int) := by omega
              have hres := hide (herr4.out 39 (by rw [Hdef10.out]; simp [hdd, hu2]; simpa using hz) (by decide))
              clear Hdef10 herr4 hok4 hky hdd hu hu2 hz
              go_wp2_with fail
              refine hhol.out.mono ?_
              rintro e w5 ⟨rfl, hw5⟩
              rw [← hw5]
              clear hw5
              go_wp2_with fail
              go_returns
              exact hres.out
end Go.Proofs.YthikjdpnlahkfaaGreatDoor

/- shyardref08.FS.Path. Conditions: the contract's own premises. -/
namespace Go.Proofs.YthikjdpnlahkfaaGreatDoor
open Go.RowKit

/-- Where a directory's one name stands. -/
theorem ent_idx {σ : FSt} (hI : Inv σ 0) {j q : Nat} {nj m : Nd} {nm : List UInt8} (hj : σ.nd j = some nj) (hd : nj.d = true) (hj1 : j ≠ 1) (hm : σ.nd q = some m) (hk : kget nm m.ents = some j) : ∃ r0, ∃ h : r0 < m.ents.length, m.ents[r0] = (nm, j) ∧ ∀ r (hr : r < m.ents.length), m.ents[r].2 = j → r = r0 := by
  obtain ⟨r0, h0, h1⟩ := List.mem_iff_getElem.1 (kget_mem hk)
  refine ⟨r0, h0, h1, fun r hr e => ?_⟩
  have hs := hI.srt q m hm
  have h2 := kget_of_mem hs (List.getElem_mem hr)
  rw [e] at h2
  have h3 := hI.name_one hj hd hj1 hm h2 hk
  have h4 : m.ents[r0].1 = nm := by rw [h1]
  rcases Nat.lt_trichotomy r r0 with h | h | h
  · have := List.pairwise_iff_getElem.1 hs r r0 hr h0 h
    rw [h3, h4] at this
    rw [WideAt.bytes_irrefl] at this
    cases this
  · exact h
  · have := List.pairwise_iff_getElem.1 hs r0 r h0 hr h
    rw [h3, h4] at this
    rw [WideAt.bytes_irrefl] at this
    cases this
def RyRel (σ : FSt) (full : List UInt8) (w : World) (gk : Nat) (iv sv : Value) (wr : World) : Prop :=
  ∃ (j : Nat) (n : Nd) (t : List UInt8) (s : ByteArray), iv = .int .i64 (j : Nat) ∧ sv = .string s ∧ Dep σ 0 1 j gk ∧ σ.nd j = some n ∧ n.d = true ∧ n.links ≠ 0 ∧ Up σ j t ∧ t ++ s.data.toList = full ∧ Fr (fun _ => False) w wr
def RyIn (nm : List UInt8) (s0 : ByteArray) (len r0 : Nat) (w1 : World) (gk : Nat) (sv iv : Value) (wx : World) : Prop :=
  ∃ (q : Nat) (s : ByteArray), gk + q = len ∧ iv = .int .i64 (q : Nat) ∧ sv = .string s ∧ s.data.toList = (if r0 < q then slashB :: nm ++ s0.data.toList else s0.data.toList) ∧ w1 = wx
set_option maxRecDepth 100000 in
set_option maxHeartbeats 4000000 in
theorem rpath_any (w : World) (g : Nat) (σ : FSt) (S : Nat → Prop) (h : RfAt w g σ S) (hG : RG σ) (hI : Inv σ 0) (i : Int) (hi : -9223372036854775808 ≤ i ∧ i ≤ 9223372036854775807) :
    Calls Tryz.prog 51 #[.pointer (some ⟨g, 0, none⟩), .int .i64 i] w (PathPost σ i w) := by
  have hlen := hG.live.len
  have his := hide (ris_any w g σ S h (by omega) i hi)
  have hpE : pathE σ i = match σ.ndI i with | none => 9 | some n => if n.d = false then 20 else if i ≠ 1 ∧ n.links = 0 then 2 else 0 := rfl
  have herr := hide (show ∀ E w', pathE σ i = E → E ≠ 0 → Fr (fun _ => False) w w' → PathPost σ i w (.returned (.tuple #[.string ⟨#[]⟩, .int .i64 E])) w' from fun E w' h1 h2 h3 => ⟨by unfold pathR; rw [h1, if_neg h2], h3⟩)
  cases hn : σ.ndI i with
  | none =>
    rw [hn] at hpE
    have hres := hide (herr.out 9 w hpE (by decide) (Fr.refl _ _))
    rw [show isB σ i = false by unfold isB; rw [hn]; rfl] at his
    clear hpE herr hn h
    go_enter Tryz.func51, Tryz.ntmps51
    go_wp2_with fail
    refine his.out.mono ?_
    rintro e w1 ⟨rfl, rfl⟩
    go_wp2_with fail
    go_returns
    exact hres.out
  | some n =>
  rw [hn] at hpE
  obtain ⟨k, rfl, hk⟩ := ndI_some hn
  rw [show isB σ k = true by unfold isB; rw [hn]; rfl] at his
  clear hn
  have H := hide h
  have HG := hide hG
  clear h hG
  obtain ⟨nb, cap, na, nc, ia, ic, c0, hnb, hk1, hk0, ⟨q0, -, q2, -, -, -, -, -⟩, -, -, -⟩ := H.out.open hk
  cases hd : n.d with
  | false =>
    simp only [hd] at hpE
    have hres := hide (herr.out 20 w (by rw [hpE]; rfl) (by decide) (Fr.refl _ _))
    rw [show kindN n = 1 by unfold kindN; rw [hd]; rfl] at q0
    clear hpE herr hd hk
    go_enter Tryz.func51, Tryz.ntmps51
    go_wp2_with fail
    refine his.out.mono ?_
    rintro e w1 ⟨rfl, rfl⟩
    go_wp2_with fail
    go_returns
    exact hres.out
  | true =>
  simp only [hd] at hpE
  rw [show kindN n = 2 by unfold kindN; rw [hd]; rfl] at q0
  obtain ⟨r1, hr1, _, hr1l⟩ := HG.out.live.root
  by_cases hz : k ≠ 1 ∧ n.links = 0
  · have hres := hide (herr.out 2 w (by rw [hpE, if_neg (by decide), if_pos ⟨by have := hz.1; omega, hz.2⟩]) (by decide) (Fr.refl _ _))
    have hkne : ¬ (k : Int) = 1 := by have := hz.1; omega
    rw [hz.2] at q2
    clear hpE herr hd hk hz
    go_enter Tryz.func51, Tryz.ntmps51
    go_wp2_with fail
    refine his.out.mono ?_
    rintro e w1 ⟨rfl, hw1⟩
    rw [hw1]
    clear hw1
    go_wp2_with fail
    go_loopg [1, 6] 1 (fun gk nv sv wr => gk = 1 ∧ nv = .int .i64 (k : Nat) ∧ sv = .string ⟨#[]⟩ ∧ w = wr)
    case atStart => exact ⟨rfl, rfl, rfl, rfl⟩
    case round =>
      obtain ⟨rfl, rfl, rfl, rfl⟩ := hrel
      go_wp2_with fail
      go_returns
      exact hres.out
  have hl : n.links ≠ 0 := fun e => by
    by_cases e1 : k = 1
    · rw [e1, hr1] at hk
      cases hk
      omega
    · exact hz ⟨e1, e⟩
  have hp0 : pathE σ k = 0 := by rw [hpE, if_neg (by decide), if_neg (fun e => hz ⟨by have := e.1; omega, e.2⟩)]
  obtain ⟨m, hm⟩ := hI.to_root hk hd hl
  obtain ⟨full, hfull⟩ := hI.path hk hd hl
  have hshort := hm.short HG.out.live
  have hflen := hfull.len HG.out.live hm
  have hok9 := hide (show ∀ w', Fr (fun _ => False) w w' → PathPost σ k w (.returned (.tuple #[.string ⟨(slashed full).toArray⟩, .int .i64 0])) w' from fun w' h3 => ⟨by unfold pathR; rw [hp0, if_pos rfl, Int.toNat_natCast, hfull.way hI], h3⟩)
  have hflen2 : full.length ≤ 3300 := by omega
  have H0 := hide (show RyRel σ full w m (.int .i64 (k : Nat)) (.string ⟨#[]⟩) w from ⟨k, n, full, ⟨#[]⟩, rfl, rfl, hm, hk, hd, hl, hfull, by simp, Fr.refl _ _⟩)
  have HI := hide hI
  clear hpE herr hz hp0 hm hfull hflen hI hl hk hd hr1 q2
  go_enter Tryz.func51, Tryz.ntmps51
  go_wp2_with fail
  refine his.out.mono ?_
  rintro e w1 ⟨rfl, hw1⟩
  rw [hw1]
  clear hw1
  go_wp2_with fail
  clear q0 c0 hnb hk1 hk0
  go_loopg [1, 6] m (fun gk nv sv wr => RyRel σ full w gk nv sv wr)
  case atStart => exact H0.out
  case round =>
    clear H0 his
    obtain ⟨j, nj, t, s, rfl, rfl, hdep, hj, hjd, hjl, hup, hts, hfr⟩ := hrel
    have hslen : s.size ≤ 3300 := by
      have := congrArg List.length hts
      rw [List.length_append, ba_len] at this
      omega
    by_cases hj1 : j = 1
    · subst hj1
      cases hup with
      | step h1 => exact absurd rfl h1
      | root =>
      rw [List.nil_append] at hts
      have hres := hide (hok9.out wr hfr)
      by_cases hs0 : full = []
      · have es : s.toList.isEmpty = true := ba_empty (by rw [hts, hs0])
        have e0 : s = ⟨#[]⟩ := ba_of_data (by rw [hts, hs0])
        have hfin : (⟨(slashed full).toArray⟩ : ByteArray) = ⟨#[47]⟩ := by rw [hs0]; rfl
        rw [hfin] at hres
        subst e0
        clear hdep hj hjd hjl hts hfr hs0 hok9 hfin es
        go_wp2_with fail
        go_returns
        exact hres.out
      · have hfin : (⟨(slashed full).toArray⟩ : ByteArray) = s := by
          unfold slashed
          rw [if_neg hs0, ← hts]
        rw [hfin] at hres
        have es : s.toList.isEmpty = false := ba_nonempty (by rw [hts]; exact hs0)
        have es2 : (s.toList == []) = false := by
          cases hx : s.toList with
          | nil => rw [hx] at es; cases es
          | cons a b => rfl
        clear hdep hj hjd hjl hts hfr hs0 hok9 hfin
        go_wp2_with fail
        go_returns
        exact hres.out
    · have hjne : ¬ (j : Int) = 1 := by omega
      have HRr := hide (H.out.frame hfr (fun _ _ _ e => e))
      obtain ⟨nb, cap, na, nc, ia, ic, c0, hnb, hj1I, hj0, ⟨-, -, q2, -, q4, -, -, -⟩, -, -, -⟩ := HRr.out.open hj
      have hl2 : ¬ (nj.links : Int) = 0 := by omega
      have hl1 : ((nj.links : Int) == 0) = false := by simpa using hjl
      cases hup with
      | root => exact absurd rfl hj1
      | step g1 g2 g3 g4 g5 g6 g7 g8 =>
      rename_i n' q nm u
      rw [hj] at g2
      cases g2
      obtain ⟨nb', cap', na, nc, ia, ic, c0', -, hp1I, hp0, ⟨p0, p1, p2, p3, p4, p5, p6, p7⟩, hA, hII, -⟩ := HRr.out.open g5
      rw [c0] at c0'
      cases c0'
      obtain ⟨gg, rfl, hdep2⟩ := hdep.go_up hj hj1
      have hql : q.links ≠ 0 := fun e => by
        obtain ⟨q9, _, b1, _, b3, _⟩ := HI.out.above hj hjd hjl hj1 (nd_pos hj)
        rw [g5] at b1
        cases b1
        exact b3 e
      have hnext := hide (show ∀ (s' : ByteArray) wx, s'.data.toList = slashB :: nm ++ s.data.toList → Fr (fun _ => False) w wx → RyRel σ full w gg (.int .i64 (nj.par : Nat)) (.string s') wx from fun s' wx h1 h2 =>
        ⟨nj.par, q, u, s', rfl, rfl, hdep2, g5, g6, hql, g8, by rw [h1, ← hts]; simp, h2⟩)
      obtain ⟨r0, hr0, hr0e, hr0u⟩ := ent_idx HI.out hj hjd hj1 g5 g7
      have hnm32 := hide (HG.out.live.names _ q g5 _ (kget_mem g7))
      have hcapq := (HG.out.cap _ q g5).2.2
      obtain ⟨w1, hw1⟩ : ∃ w1, w1 = (wr.alloc (.cells #[.int .i64 (kindN q), .int .i64 q.mode, .int .i64 q.links, .int .i64 q.holds, .int .i64 q.par, .string (baL q.data), .slice na q.ents.length nc, .slice ia q.ents.length ic] 63 (0, 0))).drew := ⟨_, rfl⟩
      obtain ⟨bb, hbb⟩ : ∃ bb, bb = wr.heap.size := ⟨_, rfl⟩
      have hf1 : Fr (fun _ => False) wr w1 := by rw [hw1]; exact ((Fr.refl _ _).alloc _).drew
      have hbk1 : w1.heap[bb]? = some (.cells #[.int .i64 (kindN q), .int .i64 q.mode, .int .i64 q.links, .int .i64 q.holds, .int .i64 q.par, .string (baL q.data), .slice na q.ents.length nc, .slice ia q.ents.length ic] 63 (0, 0)) := by rw [hw1, hbb]; exact blk_drew (blk_new _ _)
      have r6 : w1.cell? ⟨bb, 6, none⟩ = some (.slice na q.ents.length nc) := by rw [blk_cell hbk1]; rfl
      have r7 : w1.cell? ⟨bb, 7, none⟩ = some (.slice ia q.ents.length ic) := by rw [blk_cell hbk1]; rfl
      have HA := hide (hA.frame hf1 (fun _ _ _ e => e))
      have HII := hide (hII.frame hf1 (fun _ _ _ e => e))
      have hc04 := (HRr.out.frame hf1 (fun _ _ _ e => e)).open hj
      obtain ⟨nb2, cap2, _, _, _, _, d0, -, -, -, ⟨-, -, -, -, d4, -, -, -⟩, -, -, -⟩ := hc04
      have Hf1 := hide (hfr.trans hf1)
      have Hr0e := hide hr0e
      have Hr0u := hide hr0u
      obtain ⟨L, hL⟩ : ∃ L, L = q.ents := ⟨_, rfl⟩
      have K0 := hide (show ∀ w', Fr (fun _ => False) wr w' → w'.cell? ⟨g, 0, none⟩ = some (.slice (some ⟨nb, 0, none⟩) (σ.length + 1) cap) from fun w' hf => (World.cell?_of_block (w := wr) (a := ⟨g, 0, none⟩) (hf.block g (World.block_lt_of_cell? _ _ c0) (fun h => h))).trans c0)
      have Kn := hide (show ∀ w', Fr (fun _ => False) wr w' → ∀ x v, wr.cell? ⟨nb, x, none⟩ = some v → w'.cell? ⟨nb, x, none⟩ = some v from fun w' hf x v hv => (World.cell?_of_block (w := wr) (a := ⟨nb, x, none⟩) (hf.block nb hnb (fun h => h))).trans hv)
      have K4 := hide (fun w' hf => Kn.out w' hf _ _ q4)
      have KP := hide (fun w' hf => (⟨Kn.out w' hf _ _ p0, Kn.out w' hf _ _ p1, Kn.out w' hf _ _ p2, Kn.out w' hf _ _ p3, Kn.out w' hf _ _ p4, Kn.out w' hf _ _ p5, Kn.out w' hf _ _ p6, Kn.out w' hf _ _ p7⟩ : _ ∧ _ ∧ _ ∧ _ ∧ _ ∧ _ ∧ _ ∧ _))
      have hdr : wr.drew.heap.size = wr.heap.size := rfl
      clear hdep hj hjd hjl hts hfr hA hII hf1 hbk1 g5 g6 g7 g8 g1 g3 g4 hql hdep2 hr0e hr0u HRr
      go_upto_region 9 with (fail)
      refine region_calls (fun w' => Fr (fun _ => False) wr w') [0, 1, 2, 3, 4, 5, 6, 7, 8, 9, 10, 11, 12, 13] [14] 15 (by kernel_rfl) (by kernel_rfl) (fun _ _ d _ _ h => by cases d <;> exact h) (Fr.refl _ _).drew ?_
      simp only [List.map_cons, List.map_nil, List.getD_cons_zero, List.getD_cons_succ, List.drop_succ_cons, List.drop_zero]
      go_big_quiet_step (fail)
      refine wpQuiet_val (.pointer (some ⟨g, 0, none⟩)) rfl (fun w' hS => by (go_simp)) ?_
      simp only [Act.put, List.setIfInBounds_toArray, List.set_cons_succ, List.set_cons_zero]
      refine wpQuiet_val (.pointer (some ⟨g, 0, none⟩)) rfl (fun w' hS => by (go_simp)) ?_
      simp only [Act.put, List.setIfInBounds_toArray, List.set_cons_succ, List.set_cons_zero]
      refine wpQuiet_val (.slice (some ⟨nb, 0, none⟩) (σ.length + 1) cap) rfl (fun w' hS => by (have e2 := K0.out w' hS; go_simp)) ?_
      simp only [Act.put, List.setIfInBounds_toArray, List.set_cons_succ, List.set_cons_zero]
      go_big_quiet_step (fail)
      refine wpQuiet_val (.pointer (some ⟨g, 0, none⟩)) rfl (fun w' hS => by (go_simp)) ?_
      simp only [Act.put, List.setIfInBounds_toArray, List.set_cons_succ, List.set_cons_zero]
      refine wpQuiet_val (.pointer (some ⟨g, 0, none⟩)) rfl (fun w' hS => by (go_simp)) ?_
      simp only [Act.put, List.setIfInBounds_toArray, List.set_cons_succ, List.set_cons_zero]
      refine wpQuiet_val (.slice (some ⟨nb, 0, none⟩) (σ.length + 1) cap) rfl (fun w' hS => by (have e2 := K0.out w' hS; go_simp)) ?_
      simp only [Act.put, List.setIfInBounds_toArray, List.set_cons_succ, List.set_cons_zero]
      go_big_quiet_step (fail)
      refine wpQuiet_val (.pointer (some ⟨nb, j * 8, none⟩)) rfl (fun w' hS => by (go_simp; intro hle; exfalso; omega)) ?_
      simp only [Act.put, List.setIfInBounds_toArray, List.set_cons_succ, List.set_cons_zero]
      refine wpQuiet_val (.pointer (some ⟨nb, j * 8 + 4, none⟩)) rfl (fun w' hS => by (go_simp)) ?_
      simp only [Act.put, List.setIfInBounds_toArray, List.set_cons_succ, List.set_cons_zero]
      refine wpQuiet_val (.int .i64 nj.par) rfl (fun w' hS => by (have e2 := K4.out w' hS; go_simp)) ?_
      simp only [Act.put, List.setIfInBounds_toArray, List.set_cons_succ, List.set_cons_zero]
      refine wpQuiet_val (.pointer (some ⟨nb, nj.par * 8, none⟩)) rfl (fun w' hS => by (go_simp; intro hle; exfalso; omega)) ?_
      simp only [Act.put, List.setIfInBounds_toArray, List.set_cons_succ, List.set_cons_zero]
      refine wpQuiet_val (.agg #[.int .i64 (kindN q), .int .i64 q.mode, .int .i64 q.links, .int .i64 q.holds, .int .i64 q.par, .string (baL q.data), .slice na q.ents.length nc, .slice ia q.ents.length ic]) rfl (fun w' hS => by (obtain ⟨e0, e1, e2, e3, e4, e5, e6, e7⟩ := KP.out w' hS; go_simp)) ?_
      simp only [Act.put, List.setIfInBounds_toArray, List.set_cons_succ, List.set_cons_zero]
      refine wpQuiet_nil ?_
      refine chainS_step rfl (fun K hK => ?_)
      go_wp2_with fail
      refine hK _ _ ((Fr.refl _ _).drew.alloc _) ?_
      clear hK K
      refine chainS_nil ?_
      go_upto_block 3 with fail
      rw [← hw1, ← hbb]
      clear hw1 hbb K0 Kn K4 KP c0 q2 q4 p0 p1 p2 p3 p4 p5 p6 p7 hl1 hl2 hdr
      go_loopg [6, 8] q.ents.length (fun gk sv iv wx => RyIn nm s q.ents.length r0 w1 gk sv iv wx)
      case atStart => exact ⟨0, s, by omega, rfl, rfl, by rw [if_neg (by omega)], rfl⟩
      case round =>
        obtain ⟨x, s1, hgk, rfl, rfl, hs1, rfl⟩ := hrel
        have Hgk := hide hgk
        have hx0 : (0 : Int) ≤ (x : Int) := by omega
        by_cases hx : x < q.ents.length
        · obtain ⟨-, -, h2⟩ := HII.out.at
          obtain ⟨g1, o1, rfl, hc⟩ := h2.resolve_left (by omega)
          have y1 := hc x (by rw [List.length_map]; exact hx)
          simp only [List.getElem_map] at y1
          obtain ⟨-, -, h3⟩ := HA.out.at
          obtain ⟨g2, o2, rfl, hc2⟩ := h3.resolve_left (by omega)
          have y2 := hc2 x (by unfold namesB; rw [List.length_map]; exact hx)
          simp only [namesB, List.getElem_map] at y2
          have hxI : (x : Int) < (q.ents.length : Int) := by omega
          clear hc hc2 h2 h3
          by_cases hxj : q.ents[x].2 = j
          · have hxr := Hr0u.out x hx hxj
            subst hxr
            rw [hxj] at y1
            have hnm : q.ents[x].1 = nm := by rw [Hr0e.out]
            rw [hnm] at y2
            rw [if_neg (Nat.lt_irrefl _)] at hs1
            obtain ⟨zb, hzb⟩ : ∃ zb, zb = (⟨nm.toArray⟩ : ByteArray) := ⟨_, rfl⟩
            rw [← hzb] at y2
            have hzl : zb.size ≤ 32 := by rw [hzb]; exact hnm32.out
            have hs1l : s1.size ≤ 3300 := by rw [← ba_len, hs1, ba_len]; exact hslen
            have hnx := hide (show RyIn nm s q.ents.length x w1 (gk - 1) (.string (((⟨#[47]⟩ : ByteArray) ++ zb) ++ s1)) (.int .i64 ((x : Int) + 1)) w1 from ⟨x + 1, _, by omega, by go_num, rfl, by rw [if_pos (by omega), ba_append, ba_append, hs1, hzb]; rfl, rfl⟩)
            clear hgk hx hxj hnm hs1 hzb
            go_wp2_with fail
            go_roundg (gk - 1)
            case measure => have := Hgk.out; omega
            case rel => exact hnx.out
          · have hxr : x ≠ r0 := fun e => by
              subst e
              exact hxj (by rw [Hr0e.out])
            have hxjI : ¬ ((q.ents[x].2 : Nat) : Int) = (j : Int) := by omega
            generalize q.ents[x].2 = zz at y1 hxjI
            have hnx := hide (show RyIn nm s q.ents.length r0 w1 (gk - 1) (.string s1) (.int .i64 ((x : Int) + 1)) w1 from ⟨x + 1, _, by omega, by go_num, rfl, by
              rw [hs1]
              by_cases e : r0 < x
              · rw [if_pos e, if_pos (by omega)]
              · rw [if_neg e, if_neg (by omega)], rfl⟩)
            clear hgk hx hxj hs1 hxr y2
            go_wp2_with fail
            go_roundg (gk - 1)
            case measure => have := Hgk.out; omega
            case rel => exact hnx.out
        · have hxI : ¬ (x : Int) < (q.ents.length : Int) := by omega
          rw [if_pos (by omega)] at hs1
          have hfin := hide (hnext.out s1 w1 hs1 Hf1.out)
          clear hgk hx hs1 hnext
          go_wp2_with fail
          go_roundg gg
          case measure => omega
          case rel => exact hfin.out
end Go.Proofs.YthikjdpnlahkfaaGreatDoor
