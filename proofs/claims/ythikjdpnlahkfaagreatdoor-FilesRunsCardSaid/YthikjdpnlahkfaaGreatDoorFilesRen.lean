/- files.FS.Rename. Conditions: the contract's own premises. -/
import Derived.Test.YthikjdpnlahkfaaGreatDoorFilesRenS
import Derived.Test.YthikjdpnlahkfaaGreatDoorFilesWin
import Derived.Test.YthikjdpnlahkfaaGreatDoorFilesWin
import Derived.Deep.CutBlock
import Derived.Deep.DeepCutAuto
namespace Go.Proofs.YthikjdpnlahkfaaGreatDoor
open Go.RowKit

/-- What the last stage of Rename wants: two stores, a third. -/
structure RenFin (w : World) (bp bq : Nat) (p : Nat → Nat) (a b k : Nat) (D : Bool) (nm1 nm2 : ByteArray) (sl1 sl2 : Bool) (Post : World → Prop) (ma mb : Nat) (wD wU : World) : Prop where
  c6 : w.cell? ⟨p a, 6, none⟩ = some (.map (some ma))
  del : ∀ ty, (Builtin.delete_ #[55, 9] ty #[.map (some ma), .string nm1]).run Tryz.prog w = .ok (.tuple #[]) wD
  d6 : wD.drew.cell? ⟨p b, 6, none⟩ = some (.map (some mb))
  upd : (Instr.mapUpdate 55 (.map (some mb)) (.string nm2) (.pointer (some ⟨p k, 0, none⟩))).run Tryz.prog wD.drew = .ok () wU
  hbp : w.heap[bp]? = some (.cells #[.pointer (some ⟨p a, 0, none⟩), .string nm1, .bool sl1] 111 (0, 0))
  hbq : wD.heap[bq]? = some (.cells #[.pointer (some ⟨p b, 0, none⟩), .string nm2, .bool sl2] 111 (0, 0))
  hbq2 : wU.heap[bq]? = some (.cells #[.pointer (some ⟨p b, 0, none⟩), .string nm2, .bool sl2] 111 (0, 0))
  dir : Calls Tryz.prog 64 #[.pointer (some ⟨p k, 0, none⟩)] wU (fun e w' => e = .returned (.bool D) ∧ wU = w')
  fin : D = false → Post wU
  frz : D = true → wU.frozen? ⟨p k, 7, none⟩ = false ∧ ∃ v, wU.cell? ⟨p k, 7, none⟩ = some v
  fin2 : D = true → Post (wU.setCell ⟨p k, 7, none⟩ (.pointer (some ⟨p b, 0, none⟩)))
theorem ren_fin {w0 w : World} {f : Nat} {τ : FSt} {S S2 : Nat → Prop} {p : Nat → Nat} (h : FilesAt w f τ S2 p) (hS : ∀ k, S2 k → S k) (hf : Fr S w0 w) (hcap : CapB τ) {a b k : Nat} {n m nk : Nd} {nm1 nm2 : ByteArray} {sl1 sl2 : Bool} (h1 : nm1.size ≤ 32) (h2 : nm2.size ≤ 32) {bp bq : Nat}
    (ha : τ.nd a = some n) (had : n.d = true) (hx : kget nm1.data.toList n.ents = some k) (hk : τ.nd k = some nk) (hb : τ.nd b = some m) (hbd : m.d = true) (hbl : m.links ≠ 0) (hy : kget nm2.data.toList m.ents = none) (hI : Inv τ 0) (hu : nk.d = true → ¬ Under τ k b)
    (hbp : w.heap[bp]? = some (.cells #[.pointer (some ⟨p a, 0, none⟩), .string nm1, .bool sl1] 111 (0, 0))) (hbq : w.heap[bq]? = some (.cells #[.pointer (some ⟨p b, 0, none⟩), .string nm2, .bool sl2] 111 (0, 0)))
    {Post : World → Prop} (hP : ∀ w', FilesAt w' f (carryS τ a nm1.data.toList b nm2.data.toList k) S p → Fr S w0 w' → Post w') :
    ∃ ma mb wD wU, RenFin w bp bq p a b k nk.d nm1 nm2 sl1 sl2 Post ma mb wD wU := by
  obtain ⟨-, h3, h4⟩ := hI.carry h.live ha hx hk hb hbd hbl hy (by rw [ba_len]; exact h2) hu
  obtain ⟨ma, wD, mb, wU, g1, g2, g3, g4, g5, g6, g7, g8, g9⟩ := carry_steps h hcap h1 h2 ha had hk hb hbd (h.live.cut ha _) h4 h3
  exact ⟨ma, mb, wD, wU, g1, g2, g3, g4, hbp, (g5 _ _ _ hbq).1, (g5 _ _ _ hbq).2, g7, fun e => hP _ ((g8 e).mono hS) (hf.trans (g6.mono fun _ _ e => hS _ e)), fun e => (g9 e).1, fun e => hP _ ((g9 e).2.1.mono hS) ((hf.trans (g6.mono fun _ _ e => hS _ e)).trans ((g9 e).2.2.mono fun _ _ e => hS _ e))⟩
set_option maxRecDepth 100000 in
set_option maxHeartbeats 8000000 in
theorem Rename_any (w : World) (f : Nat) (σ : FSt) (S : Nat → Prop) (p : Nat → Nat) (h : FilesAt w f σ S p) (hml : Ml w) (hI : Inv σ 0) (hcap : CapB σ) (dir : Int) (hdr : -9223372036854775808 ≤ dir ∧ dir ≤ 9223372036854775807) (s t : ByteArray) (hs : s.size ≤ 9223372036854775807) (ht : t.size ≤ 9223372036854775807) :
    Calls Tryz.prog 26 #[.pointer (some ⟨f, 0, none⟩), .int .i64 dir, .string s, .string t] w (MutPost f (renR σ dir s.data.toList t.data.toList).2 S p (.int .i64 (renR σ dir s.data.toList t.data.toList).1) w) := by
  have hah1 := ahead_any w f σ S p h hml dir hdr s hs
  have hah2 := hide (show ∀ w1, Fr (fun _ => False) w w1 → Calls Tryz.prog 62 #[.pointer (some ⟨f, 0, none⟩), .int .i64 dir, .string t] w1 (AheadPost σ p dir t.data.toList w1) from fun w1 hf1 => ahead_any w1 f σ S p (h.frame hf1 (fun _ _ _ e => e)) (hml.frame hf1 (fun e => e)) dir hdr t ht)
  have herr := hide (show ∀ (E : Int) w', renE σ dir s.data.toList t.data.toList = E → E ≠ 0 → Fr (fun _ => False) w w' → MutPost f (renR σ dir s.data.toList t.data.toList).2 S p (.int .i64 (renR σ dir s.data.toList t.data.toList).1) w (.returned (.int .i64 E)) w' from fun E w' h1 h2 h3 => by
    have e : renR σ dir s.data.toList t.data.toList = (E, σ) := by unfold renR; rw [h1, if_pos h2]
    rw [e]
    exact MutPost.still h h3)
  have hok0 := hide (show ∀ w', renE σ dir s.data.toList t.data.toList = 0 → FilesAt w' f (moveS σ (aheadE σ dir s.data.toList).2.1 (aheadE σ dir s.data.toList).2.2 (aheadE σ dir t.data.toList).2.1 (aheadE σ dir t.data.toList).2.2) S p → Fr S w w' →
      MutPost f (renR σ dir s.data.toList t.data.toList).2 S p (.int .i64 (renR σ dir s.data.toList t.data.toList).1) w (.returned (.int .i64 0)) w' from fun w' h1 h2 h3 => by
    have e : renR σ dir s.data.toList t.data.toList = (0, moveS σ (aheadE σ dir s.data.toList).2.1 (aheadE σ dir s.data.toList).2.2 (aheadE σ dir t.data.toList).2.1 (aheadE σ dir t.data.toList).2.2) := by unfold renR; rw [if_neg (by simp [h1])]
    rw [e]
    exact ⟨rfl, h2, h3⟩)
  have hdef : renE σ dir s.data.toList t.data.toList = if (aheadE σ dir s.data.toList).1 ≠ 0 then (aheadE σ dir s.data.toList).1
    else match lookS σ (aheadE σ dir s.data.toList).2.1 (aheadE σ dir s.data.toList).2.2 with
      | none => 2
      | some k => if slashS s.data.toList = true ∧ dirS σ k = false then 20 else toE σ dir t.data.toList (aheadE σ dir s.data.toList).2.1 k := rfl
  have hto : ∀ a k, toE σ dir t.data.toList a k = if (aheadE σ dir t.data.toList).1 ≠ 0 then (aheadE σ dir t.data.toList).1
      else if slashS t.data.toList = true ∧ dirS σ k = false then 20
      else if linkN σ (aheadE σ dir t.data.toList).2.1 = 0 then 2
      else if mayS σ a 2 = false ∨ mayS σ (aheadE σ dir t.data.toList).2.1 2 = false then 13
      else overE σ (aheadE σ dir t.data.toList).2.1 (aheadE σ dir t.data.toList).2.2 k := fun a k => rfl
  unfold AheadPost at hah1
  unfold AheadPost at hah2
  obtain ⟨E1, a, x, hq1⟩ : ∃ E a nl, aheadE σ dir s.data.toList = (E, a, nl) := ⟨_, _, _, rfl⟩
  obtain ⟨E2, b, y, hq2⟩ : ∃ E a nl, aheadE σ dir t.data.toList = (E, a, nl) := ⟨_, _, _, rfl⟩
  rw [hq1] at hah1 hdef hok0
  rw [hq2] at hah2 hok0
  simp only [hq2] at hto
  simp only at hah1 hah2 hdef hok0
  have Hdef := hide hdef
  have Hto := hide hto
  have Hah := hide hah1
  clear hdef hto hah1 hq1 hq2
  go_enter Tryz.func26, Tryz.ntmps26
  go_wp2_with fail
  refine Hah.out.mono ?_
  rintro e w1 ⟨dv, nm1, sl1, rfl, hf1, hok, hno⟩
  clear Hah
  by_cases hE : E1 = 0
  case neg =>
    obtain ⟨rfl, rfl, rfl⟩ := hno hE
    have hres := hide (herr.out E1 (w1.alloc (.cells #[.pointer none, .string ⟨#[]⟩, .bool false] 111 (0, 0))) (by rw [Hdef.out, if_pos hE]) hE (hf1.alloc _))
    clear hok hno Hdef Hto hah2 hok0 herr
    go_wp2_with fail
    go_ret
    exact hres.out
  subst hE
  obtain ⟨rfl, hnm, hnm1, hsl, n, hna, hnad⟩ := hok rfl
  clear hok hno
  subst hnm
  have hdef2 := Hdef.out
  rw [if_neg (by simp), lookS_some hna, ← hsl] at hdef2
  clear Hdef hsl
  obtain ⟨bp, hbpe⟩ : ∃ bp, bp = w1.heap.size := ⟨_, rfl⟩
  obtain ⟨w2, hw2⟩ : ∃ w2, w2 = w1.alloc (.cells #[.pointer (some ⟨p a, 0, none⟩), .string nm1, .bool sl1] 111 (0, 0)) := ⟨_, rfl⟩
  have hf2 : Fr (fun _ => False) w w2 := by rw [hw2]; exact hf1.alloc _
  have hbp : w2.heap[bp]? = some (.cells #[.pointer (some ⟨p a, 0, none⟩), .string nm1, .bool sl1] 111 (0, 0)) := by rw [hw2, hbpe]; exact blk_new _ _
  have hA2 : FilesAt w2 f σ (fun k => S k ∧ k ≠ bp) p := by rw [hw2, hbpe]; exact (h.frame hf1 (fun _ _ _ e => e)).aside _
  obtain ⟨dva, eva, pva, hNa⟩ := hA2.node hna
  have hnode := hide (placeNode_any w2 p a n dva eva pva hNa hnad nm1 hnm1 sl1)
  have c0p : w2.cell? ⟨bp, 0, none⟩ = some (.pointer (some ⟨p a, 0, none⟩)) := by rw [blk_cell hbp]; rfl
  have c1p : w2.cell? ⟨bp, 1, none⟩ = some (.string nm1) := by rw [blk_cell hbp]; rfl
  have c2p : w2.cell? ⟨bp, 2, none⟩ = some (.bool sl1) := by rw [blk_cell hbp]; rfl
  have hlive := h.live
  have Hlive := hide hlive
  have HI := hide hI
  have Hcap := hide hcap
  clear hlive hNa hI hcap
  cases hkx : kget nm1.data.toList n.ents with
  | none =>
    rw [hkx] at hnode hdef2
    simp only [nodePtr] at hnode hdef2
    have hres := hide (fun w3 (h3 : Fr (fun _ => False) w2 w3) => herr.out 2 w3 hdef2 (by decide) (hf2.trans h3))
    clear hdef2 hok0 hkx hA2 Hto hah2 herr
    unfold placeV at hnode
    subst hw2 hbpe
    go_wp2_with fail
    refine hnode.out.mono ?_
    rintro e w3 ⟨rfl, hf3⟩
    have hr := hide (hres.out w3 hf3)
    clear hnode hres
    go_wp2_with fail
    go_ret
    exact hr.out
  | some k =>
  rw [hkx] at hnode hdef2
  simp only [nodePtr] at hnode hdef2
  obtain ⟨nk, hnk⟩ := Option.isSome_iff_exists.1 (Hlive.out.ents a n hna _ (kget_mem hkx))
  have hdk : dirS σ k = nk.d := by unfold dirS; rw [hnk]
  have hma : mayS σ a 2 = mayN n.mode 2 := by unfold mayS; rw [hna]
  rw [hdk] at hdef2
  have hto2 := Hto.out a k
  rw [hdk, hma] at hto2
  have Hdef2 := hide hdef2
  have Hto2 := hide hto2
  have HA2 := hide hA2
  have Hkx := hide hkx
  have Hf2 := hide hf2
  have Hhbp := hide hbp
  clear hdef2 hto2 Hto hdk hma hA2 hkx hf2 hbp
  unfold placeV at hnode
  subst hw2 hbpe
  go_wp2_with fail
  refine hnode.out.mono ?_
  rintro e w3 ⟨rfl, hf3⟩
  clear hnode c0p c1p c2p
  obtain ⟨bp, hbpe⟩ : ∃ bp, bp = w1.heap.size := ⟨_, rfl⟩
  rw [← hbpe] at Hhbp HA2
  have hbp3 := hf3.get Hhbp.out (fun e => e)
  have hf03 := Hf2.out.trans hf3
  have hA3 := HA2.out.frame hf3 (fun _ _ _ e => e)
  clear Hhbp HA2 Hf2
  rw [← hbpe]
  clear hbpe
  obtain ⟨dk, ek, pk, hNk⟩ := hA3.node hnk
  have hdir := hide (dir_any w3 p (p k) k nk dk ek pk hNk)
  have c2 : w3.cell? ⟨bp, 2, none⟩ = some (.bool sl1) := by rw [blk_cell hbp3]; rfl
  have Hbp3 := hide hbp3
  have Hf03 := hide hf03
  have HA3 := hide hA3
  clear hf3 hNk hbp3 hf03 hA3 hf1
  obtain ⟨D, hD⟩ : ∃ D, D = nk.d := ⟨_, rfl⟩
  rw [← hD] at hdir Hdef2 Hto2
  have HD := hide hD
  clear hD
  go_upto_region 7 with (fail)
  go_cut [29] (fun z wx => w3 = wx ∧ z = .bool (sl1 && !D))
  case first =>
    cases sl1
    · go_wp2_with fail
      go_meet
      exact ⟨rfl, rfl⟩
    · go_wp2_with fail
      refine hdir.out.mono ?_
      rintro e w4 ⟨rfl, rfl⟩
      go_wp2_with fail
      go_meet
      exact ⟨rfl, rfl⟩
  case rest =>
  obtain ⟨rfl, rfl⟩ := hcut
  clear c2
  obtain ⟨B1, hB1⟩ : ∃ B1, B1 = (sl1 && !D) := ⟨_, rfl⟩
  rw [← hB1]
  have hdef3 := Hdef2.out
  simp only [show (sl1 = true ∧ D = false) = (B1 = true) from by rw [hB1]; cases sl1 <;> cases D <;> simp] at hdef3
  have Hdef3 := hide hdef3
  clear hdef3 Hdef2 hB1
  cases B1 with
  | true =>
    have hres := hide (herr.out 20 w3 (by rw [Hdef3.out, if_pos rfl]) (by decide) Hf03.out)
    clear Hdef3 Hto2 hah2 herr hok0
    go_wp2_with fail
    go_ret
    exact hres.out
  | false =>
  have hdef4 := Hdef3.out
  rw [if_neg (by decide), Hto2.out] at hdef4
  have Hdef4 := hide hdef4
  clear hdef4 Hdef3 Hto2
  go_wp2_with fail
  refine (hah2.out w3 Hf03.out).mono ?_
  rintro e w4 ⟨dv2, nm2, sl2, rfl, hf4, hok, hno⟩
  clear hah2
  have hf04 := Hf03.out.trans hf4
  by_cases hE : E2 = 0
  case neg =>
    obtain ⟨rfl, rfl, rfl⟩ := hno hE
    have hres := hide (herr.out E2 (w4.alloc (.cells #[.pointer none, .string ⟨#[]⟩, .bool false] 111 (0, 0))) (by rw [Hdef4.out, if_pos hE]) hE (hf04.alloc _))
    clear hok hno Hdef4 hok0 herr
    go_wp2_with fail
    go_ret
    exact hres.out
  subst hE
  obtain ⟨rfl, hnm, hnm2, hsl, m, hmb, hmbd⟩ := hok rfl
  clear hok hno
  subst hnm
  have hlb : linkN σ b = m.links := by unfold linkN; rw [hmb]
  have hmyb : mayS σ b 2 = mayN m.mode 2 := by unfold mayS; rw [hmb]
  have hdef5 := Hdef4.out
  rw [if_neg (by simp), hlb, hmyb, ← hsl] at hdef5
  obtain ⟨bq, hbqe⟩ : ∃ bq, bq = w4.heap.size := ⟨_, rfl⟩
  obtain ⟨w5, hw5⟩ : ∃ w5, w5 = w4.alloc (.cells #[.pointer (some ⟨p b, 0, none⟩), .string nm2, .bool sl2] 111 (0, 0)) := ⟨_, rfl⟩
  have hf5 : Fr (fun _ => False) w w5 := by rw [hw5]; exact hf04.alloc _
  have hbq5 : w5.heap[bq]? = some (.cells #[.pointer (some ⟨p b, 0, none⟩), .string nm2, .bool sl2] 111 (0, 0)) := by rw [hw5, hbqe]; exact blk_new _ _
  have hbp5 : w5.heap[bp]? = some (.cells #[.pointer (some ⟨p a, 0, none⟩), .string nm1, .bool sl1] 111 (0, 0)) := by rw [hw5]; exact blk_alloc (hf4.get Hbp3.out (fun e => e)) _
  have hA5 : FilesAt w5 f σ (fun q => (S q ∧ q ≠ bp) ∧ q ≠ bq) p := by rw [hw5, hbqe]; exact (HA3.out.frame hf4 (fun _ _ _ e => e)).aside _
  obtain ⟨dk, ek, pk, hNk⟩ := hA5.node hnk
  obtain ⟨da, ea, pa, hNa⟩ := hA5.node hna
  obtain ⟨db, eb, pb, hNb⟩ := hA5.node hmb
  have hdir := hide (dir_any w5 p (p k) k nk dk ek pk hNk)
  rw [← HD.out] at hdir
  have hmaya := hide (may_any w5 p (p a) a n da ea pa hNa 2 (by decide))
  have hmayb := hide (may_any w5 p (p b) b m db eb pb hNb 2 (by decide))
  have hnode := hide (placeNode_any w5 p b m db eb pb hNb hmbd nm2 hnm2 sl2)
  have c0p : w5.cell? ⟨bp, 0, none⟩ = some (.pointer (some ⟨p a, 0, none⟩)) := by rw [blk_cell hbp5]; rfl
  have c0 : w5.cell? ⟨bq, 0, none⟩ = some (.pointer (some ⟨p b, 0, none⟩)) := by rw [blk_cell hbq5]; rfl
  have c1 : w5.cell? ⟨bq, 1, none⟩ = some (.string nm2) := by rw [blk_cell hbq5]; rfl
  have c2 : w5.cell? ⟨bq, 2, none⟩ = some (.bool sl2) := by rw [blk_cell hbq5]; rfl
  have c3 : w5.cell? ⟨p b, 3, none⟩ = some (.int .i64 m.links) := by rw [blk_cell hNb.hb]; rfl
  have Hdef5 := hide hdef5
  have HA5 := hide hA5
  have Hf5 := hide hf5
  have Hbp5 := hide hbp5
  have Hbq5 := hide hbq5
  clear hdef5 hA5 hf5 hbp5 hbq5 hNk hNa hNb HA3 Hbp3 Hf03 hf04 hf4 Hdef4 hlb hmyb hsl
  go_upto_region 12 with (fail)
  rw [← hw5, ← hbqe]
  clear hw5 hbqe
  go_cut [47] (fun z wx => w5 = wx ∧ z = .bool (sl2 && !D))
  case first =>
    cases sl2
    · go_wp2_with fail
      go_meet
      exact ⟨rfl, rfl⟩
    · go_wp2_with fail
      refine hdir.out.mono ?_
      rintro e w6 ⟨rfl, rfl⟩
      go_wp2_with fail
      go_meet
      exact ⟨rfl, rfl⟩
  case rest =>
  obtain ⟨rfl, rfl⟩ := hcut
  obtain ⟨B2, hB2⟩ : ∃ B2, B2 = (sl2 && !D) := ⟨_, rfl⟩
  rw [← hB2]
  have hdef6 := Hdef5.out
  simp only [show (sl2 = true ∧ D = false) = (B2 = true) from by rw [hB2]; cases sl2 <;> cases D <;> simp] at hdef6
  have Hdef6 := hide hdef6
  clear hdef6 Hdef5 hB2 c2
  have herr5 := hide (fun E h1 h2 => herr.out E w5 h1 h2 Hf5.out)
  cases B2 with
  | true =>
    have hres := hide (herr5.out 20 (by rw [Hdef6.out, if_pos rfl]) (by decide))
    clear Hdef6 herr hok0 herr5
    go_wp2_with fail
    go_ret
    exact hres.out
  | false =>
  have hdef7 := Hdef6.out
  rw [if_neg (by decide)] at hdef7
  by_cases hl0 : m.links = 0
  · have hres := hide (herr5.out 2 (by rw [hdef7, if_pos hl0]) (by decide))
    rw [hl0] at c3
    clear hdef7 Hdef6 herr hok0 herr5
    go_wp2_with fail
    go_ret
    exact hres.out
  rw [if_neg hl0] at hdef7
  have Hl0 := hide hl0
  have hl1 : ((m.links : Int) == 0) = false := by simpa using hl0
  obtain ⟨Ma, hMa⟩ : ∃ Ma, Ma = mayN n.mode 2 := ⟨_, rfl⟩
  obtain ⟨Mb, hMb⟩ : ∃ Mb, Mb = mayN m.mode 2 := ⟨_, rfl⟩
  rw [← hMa] at hmaya hdef7
  rw [← hMb] at hmayb hdef7
  have Hdef7 := hide hdef7
  clear hdef7 Hdef6 hMa hMb hl0
  go_upto_region 16 with (fail)
  go_cut [62] (fun z wx => w5 = wx ∧ z = .bool (!Ma || !Mb))
  case first =>
    cases Ma
    · go_wp2_with fail
      refine hmaya.out.mono ?_
      rintro e w6 ⟨rfl, rfl⟩
      go_wp2_with fail
      go_meet
      exact ⟨rfl, rfl⟩
    · go_wp2_with fail
      refine hmaya.out.mono ?_
      rintro e w6 ⟨rfl, rfl⟩
      go_wp2_with fail
      refine hmayb.out.mono ?_
      rintro e w6 ⟨rfl, rfl⟩
      go_wp2_with fail
      go_meet
      exact ⟨rfl, rfl⟩
  case rest =>
  obtain ⟨rfl, rfl⟩ := hcut
  obtain ⟨B3, hB3⟩ : ∃ B3, B3 = (!Ma || !Mb) := ⟨_, rfl⟩
  rw [← hB3]
  have hdef8 := Hdef7.out
  simp only [show (Ma = false ∨ Mb = false) = (B3 = true) from by rw [hB3]; cases Ma <;> cases Mb <;> simp] at hdef8
  have Hdef8 := hide hdef8
  clear hdef8 Hdef7 hB3 c0p c3 hmaya hmayb hl1
  cases B3 with
  | true =>
    have hres := hide (herr5.out 13 (by rw [Hdef8.out, if_pos rfl]) (by decide))
    clear Hdef8 herr hok0 herr5
    go_wp2_with fail
    go_ret
    exact hres.out
  | false =>
  have hdef9 := Hdef8.out
  rw [if_neg (by decide)] at hdef9
  have Hdef9 := hide hdef9
  clear hdef9 Hdef8 herr5
  have c2 : w5.cell? ⟨bq, 2, none⟩ = some (.bool sl2) := by rw [blk_cell Hbq5.out]; rfl
  unfold placeV at hnode
  go_wp2_with fail
  refine hnode.out.mono ?_
  rintro e w6 ⟨rfl, hf6⟩
  clear hnode c0 c1 c2
  have hf06 := Hf5.out.trans hf6
  have hA6 := HA5.out.frame hf6 (fun _ _ _ e => e)
  have hbp6 := hf6.get Hbp5.out (fun e => e)
  have hbq6 := hf6.get Hbq5.out (fun e => e)
  obtain ⟨dk, ek, pk, hNk⟩ := hA6.node hnk
  have hdir := hide (dir_any w6 p (p k) k nk dk ek pk hNk)
  rw [← HD.out] at hdir
  have hwin := hide (within_any w6 f σ _ p hA6 HI.out b k m nk hmb hmbd Hl0.out hnk)
  have c0 : w6.cell? ⟨bq, 0, none⟩ = some (.pointer (some ⟨p b, 0, none⟩)) := by rw [blk_cell hbq6]; rfl
  have c1 : w6.cell? ⟨bq, 1, none⟩ = some (.string nm2) := by rw [blk_cell hbq6]; rfl
  have c2 : w6.cell? ⟨bq, 2, none⟩ = some (.bool sl2) := by rw [blk_cell hbq6]; rfl
  obtain ⟨U, hU⟩ : ∃ U, U = underB σ k b := ⟨_, rfl⟩
  unfold WinPost at hwin
  rw [← hU] at hwin
  have HU := hide hU
  have HA6 := hide hA6
  have Hf06 := hide hf06
  have Hbp6 := hide hbp6
  have Hbq6 := hide hbq6
  have herr6 := hide (fun E h1 h2 => herr.out E w6 h1 h2 Hf06.out)
  have hdS : dirS σ k = D := by unfold dirS; rw [hnk]; exact HD.out.symm
  have hly := lookS_some hmb nm2.data.toList
  have hlx := lookS_some hna nm1.data.toList
  rw [Hkx.out] at hlx
  clear hU hA6 hf06 hbp6 hbq6 HA5 Hf5 Hbp5 Hbq5 hNk hf6 herr
  cases hky : kget nm2.data.toList m.ents with
  | none =>
    rw [hky] at hly
    have hov : overE σ b nm2.data.toList k = if (D && U) = true then 22 else 0 := by
      unfold overE
      rw [hly]
      simp only
      rw [hdS, ← HU.out]
      cases D <;> cases U <;> simp
    have hmv : moveS σ a nm1.data.toList b nm2.data.toList = carryS σ a nm1.data.toList b nm2.data.toList k := by
      unfold moveS
      rw [hlx]
      simp only
      rw [hly]
    have hdef10 := Hdef9.out
    rw [hov] at hdef10
    have Hdef10 := hide hdef10
    have Hmv := hide hmv
    have Hky := hide hky
    clear hdef10 Hdef9 hov hmv hly hlx hdS hky
    simp only [nodePtr]
    have hcmp := ptr_eql_none w6 (p k)
    go_upto_region 25 with (fail)
    go_cut [89] (fun z wx => w6 = wx ∧ z = .bool (D && U))
    case first =>
      cases D
      · go_wp2_with fail
        refine hdir.out.mono ?_
        rintro e w7 ⟨rfl, rfl⟩
        go_wp2_with fail
        go_meet
        exact ⟨rfl, rfl⟩
      · go_wp2_with fail
        refine hdir.out.mono ?_
        rintro e w7 ⟨rfl, rfl⟩
        go_wp2_with fail
        refine hwin.out.mono ?_
        rintro e w7 ⟨rfl, rfl⟩
        go_wp2_with fail
        go_meet
        exact ⟨rfl, rfl⟩
    case rest =>
    obtain ⟨rfl, rfl⟩ := hcut
    obtain ⟨B4, hB4⟩ : ∃ B4, B4 = (D && U) := ⟨_, rfl⟩
    rw [← hB4]
    have hdef11 := Hdef10.out
    rw [← hB4] at hdef11
    have HB4 := hide hB4
    clear hB4 hwin hdir Hdef10 c0 c1 c2
    cases B4 with
    | true =>
      have hres := hide (herr6.out 22 (by rw [hdef11, if_pos rfl]) (by decide))
      clear hdef11 hok0 herr6
      go_wp2_with fail
      go_ret
      exact hres.out
    | false =>
    have hun : nk.d = true → ¬ Under σ k b := fun e e2 => by
      have h1 := HB4.out
      rw [HD.out, HU.out, e, underB_true e2] at h1
      cases h1
    obtain ⟨WF, hWF⟩ : ∃ WF, WF = w6 := ⟨_, rfl⟩
    obtain ⟨ma, mb, wD, wU, HF⟩ := ren_fin (w0 := w) (S := S) (sl1 := sl1) (sl2 := sl2) (bp := bp) (bq := bq) (HA6.out.frame ((Fr.refl (fun _ => False) w6).drew) (fun _ _ _ e => e)) (fun _ e => e.1.1) ((Hf06.out.mono (fun _ _ e => e.elim)).drew) Hcap.out hnm1 hnm2 hna hnad Hkx.out hnk hmb hmbd Hl0.out Hky.out HI.out hun (blk_drew Hbp6.out) (blk_drew Hbq6.out)
      (Post := fun w' => MutPost f (renR σ dir s.data.toList t.data.toList).2 S p (.int .i64 (renR σ dir s.data.toList t.data.toList).1) w (.returned (.int .i64 0)) w') (fun w' h1 h2 => hok0.out w' (by rw [hdef11, if_neg (by decide)]) (by rw [Hmv.out]; exact h1) h2)
    rw [← hWF] at HF
    rw [← HD.out] at HF
    have c0 : WF.drew.cell? ⟨bp, 0, none⟩ = some (.pointer (some ⟨p a, 0, none⟩)) := by rw [blk_cell HF.hbp]; rfl
    have c1 : WF.drew.cell? ⟨bp, 1, none⟩ = some (.string nm1) := by rw [blk_cell HF.hbp]; rfl
    have c6 := HF.c6
    have hdel := HF.del
    have hupd := HF.upd
    have d0 : wD.drew.cell? ⟨bq, 0, none⟩ = some (.pointer (some ⟨p b, 0, none⟩)) := by rw [blk_cell (blk_drew HF.hbq)]; rfl
    have d1 : wD.drew.cell? ⟨bq, 1, none⟩ = some (.string nm2) := by rw [blk_cell (blk_drew HF.hbq)]; rfl
    have d6 := HF.d6
    have u0 : wU.cell? ⟨bq, 0, none⟩ = some (.pointer (some ⟨p b, 0, none⟩)) := by rw [blk_cell HF.hbq2]; rfl
    have Hdir9 := hide HF.dir
    have Hfrz := hide HF.frz
    have Hfin := hide HF.fin
    have Hfin2 := hide HF.fin2
    clear HF
    clear hdef11 hun hok0 herr6
    rw [← hWF]
    clear hWF
    go_wp2_with fail
    refine region_tail 7 (by kernel_rfl) (by kernel_rfl) ?_
    simp only [List.take_succ_cons, List.take_zero, List.drop_succ_cons, List.drop_zero]
    repeat go_big_quiet_step (fail)
    refine wpQuiet_nil ?_
    go_wp2_with fail
    refine region_tail 8 (by kernel_rfl) (by kernel_rfl) ?_
    simp only [List.take_succ_cons, List.take_zero, List.drop_succ_cons, List.drop_zero]
    repeat go_big_quiet_step (fail)
    refine wpQuiet_nil ?_
    go_wp2_with fail
    refine Hdir9.out.mono ?_
    rintro e w9 ⟨rfl, rfl⟩
    clear Hdir9
    cases D
    · have hres := hide (Hfin.out rfl)
      clear Hfin Hfin2
      go_wp2_with fail
      go_ret
      exact hres.out
    · have hres := hide (Hfin2.out rfl)
      obtain ⟨z7, v7, c7⟩ := Hfrz.out rfl
      clear Hfin Hfin2
      go_wp2_with fail
      go_ret
      exact hres.out
  | some o =>
    rw [hky] at hly
    obtain ⟨no, hno⟩ := Option.isSome_iff_exists.1 (Hlive.out.ents b m hmb _ (kget_mem hky))
    have hov : overE σ b nm2.data.toList k = if o = k then 0 else if D ≠ no.d then (if D = true then 20 else 21) else if (D && U) = true then 22 else if no.ents.length ≠ 0 then 39 else 0 := by
      unfold overE
      rw [hly]
      simp only
      rw [hdS, show dirS σ o = no.d from by unfold dirS; rw [hno], ← HU.out, show sizeD σ o = no.ents.length from by unfold sizeD; rw [hno]]
      cases D <;> cases U <;> simp
    simp only [nodePtr]
    by_cases hok9 : o = k
    · subst hok9
      have hmv : moveS σ a nm1.data.toList b nm2.data.toList = σ := by
        unfold moveS
        rw [hlx]
        simp only
        rw [hly]
        simp
      have hres := hide (hok0.out w6 (by rw [Hdef9.out, hov, if_pos rfl]) (by rw [hmv]; exact HA6.out.mono (fun _ e => e.1.1)) (Hf06.out.mono (fun _ _ e => e.elim)))
      have hcmp := ptr_eql w6 (p o)
      clear hmv hov hly hlx hdS hky Hdef9 herr6 hok0 hwin hdir
      go_wp2_with fail
      go_ret
      exact hres.out
    rw [if_neg hok9] at hov
    have hmv : moveS σ a nm1.data.toList b nm2.data.toList = carryS (goneS σ b nm2.data.toList) a nm1.data.toList b nm2.data.toList k := by
      unfold moveS
      rw [hlx]
      simp only
      rw [hly]
      simp only
      rw [if_neg hok9]
    have hpo : ¬ p o = p k := fun e => hok9 (by
      obtain ⟨_, _, _, _, h9⟩ := HA6.out
      exact h9.inj o k (by rw [hno]; rfl) (by rw [hnk]; rfl) e)
    obtain ⟨d9, e9, p9, hNo⟩ := HA6.out.node hno
    obtain ⟨_, _, _, hNk6⟩ := HA6.out.node hnk
    have hcmp := ptr_eql_other hpo hNo.hb hNk6.hb
    clear hNk6
    have hdiro := hide (dir_any w6 p (p o) o no d9 e9 p9 hNo)
    have c6o : w6.cell? ⟨p o, 6, none⟩ = some e9 := by rw [blk_cell hNo.hb]; rfl
    have hlen : ∀ ty, (Builtin.len_ #[55] ty #[e9]).run Tryz.prog w6 = .ok (.int .i64 no.ents.length) w6 := fun ty => by
      cases hd9 : no.d with
      | true =>
        obtain ⟨-, q, rfl, hq⟩ := hNo.dir hd9
        have := hq.len Tryz.underlying55 ty
        rw [kmap_length] at this
        exact this
      | false =>
        obtain ⟨rfl, h9⟩ := hNo.file hd9
        rw [h9]
        kernel_rfl
    obtain ⟨Do, hDo⟩ : ∃ Do, Do = no.d := ⟨_, rfl⟩
    rw [← hDo] at hdiro hov
    have hdef10 := Hdef9.out
    rw [hov] at hdef10
    have HDo := hide hDo
    have Hdef10 := hide hdef10
    have Hmv := hide hmv
    have Hky := hide hky
    have Hok9 := hide hok9
    clear hdef10 Hdef9 hov hmv hly hlx hdS hky hDo hNo hok9
    go_upto_region 21 with (fail)
    go_cut [86] (fun z wx => w6 = wx ∧ z = .bool (D != Do))
    case first =>
      cases D <;> cases Do
      all_goals
        go_wp2_with fail
        refine hdir.out.mono ?_
        rintro e w7 ⟨rfl, rfl⟩
        go_wp2_with fail
        refine hdiro.out.mono ?_
        rintro e w7 ⟨rfl, rfl⟩
        go_wp2_with fail
        go_meet
        exact ⟨rfl, rfl⟩
    case rest =>
    obtain ⟨rfl, rfl⟩ := hcut
    obtain ⟨B5, hB5⟩ : ∃ B5, B5 = (D != Do) := ⟨_, rfl⟩
    rw [← hB5]
    have hdef11 := Hdef10.out
    simp only [show (D ≠ Do) = (B5 = true) from by rw [hB5]; cases D <;> cases Do <;> simp] at hdef11
    have HB5 := hide hB5
    clear hB5 Hdef10 hdiro hpo hcmp
    cases B5 with
    | true =>
      rw [if_pos rfl] at hdef11
      have Hdef11 := hide hdef11
      clear hdef11 HB5 hwin hok0 hlen c6o c0 c1 c2
      cases D
      · have hres := hide (herr6.out 21 (by rw [Hdef11.out]; simp) (by decide))
        clear Hdef11 herr6
        go_wp2_with fail
        refine hdir.out.mono ?_
        rintro e w7 ⟨rfl, rfl⟩
        go_wp2_with fail
        go_ret
        exact hres.out
      · have hres := hide (herr6.out 20 (by rw [Hdef11.out]; simp) (by decide))
        clear Hdef11 herr6
        go_wp2_with fail
        refine hdir.out.mono ?_
        rintro e w7 ⟨rfl, rfl⟩
        go_wp2_with fail
        go_ret
        exact hres.out
    | false =>
    rw [if_neg (by decide)] at hdef11
    have Hdef11 := hide hdef11
    clear hdef11
    go_upto_region 25 with (fail)
    go_cut [89] (fun z wx => w6 = wx ∧ z = .bool (D && U))
    case first =>
      clear hlen c6o
      cases D
      · go_wp2_with fail
        refine hdir.out.mono ?_
        rintro e w7 ⟨rfl, rfl⟩
        go_wp2_with fail
        go_meet
        exact ⟨rfl, rfl⟩
      · go_wp2_with fail
        refine hdir.out.mono ?_
        rintro e w7 ⟨rfl, rfl⟩
        go_wp2_with fail
        refine hwin.out.mono ?_
        rintro e w7 ⟨rfl, rfl⟩
        go_wp2_with fail
        go_meet
        exact ⟨rfl, rfl⟩
    case rest =>
    obtain ⟨rfl, rfl⟩ := hcut
    obtain ⟨B4, hB4⟩ : ∃ B4, B4 = (D && U) := ⟨_, rfl⟩
    rw [← hB4]
    have hdef12 := Hdef11.out
    rw [← hB4] at hdef12
    have HB4 := hide hB4
    clear hB4 hwin hdir Hdef11
    cases B4 with
    | true =>
      have hres := hide (herr6.out 22 (by rw [hdef12, if_pos rfl]) (by decide))
      clear hdef12 hok0 herr6 hlen c6o
      go_wp2_with fail
      go_ret
      exact hres.out
    | false =>
    rw [if_neg (by decide)] at hdef12
    by_cases hz : no.ents.length = 0
    case neg =>
      have hres := hide (herr6.out 39 (by rw [hdef12, if_pos hz]) (by decide))
      have hz1 : (0 : Int) < (no.ents.length : Int) := by omega
      clear hdef12 hok0 herr6 hz
      go_wp2_with fail
      go_ret
      exact hres.out
    have hno0 : no.ents = [] := List.eq_nil_of_length_eq_zero hz
    rw [hz] at hlen
    rw [if_neg (by omega)] at hdef12
    have hgone := hide (gone_any w6 f σ _ p HA6.out HI.out Hcap.out b o m no nm2 sl2 hmb hmbd Hky.out hno (fun _ => hno0) hnm2)
    have Hdef12 := hide hdef12
    have Hno0 := hide hno0
    clear hdef12 hno0 hz
    unfold placeV at hgone
    go_wp2_with fail
    refine hgone.out.mono ?_
    rintro e w7 ⟨rfl, hA7, hf7⟩
    clear hgone c0 c1 c2 c6o hlen
    have hun : nk.d = true → ¬ Under σ k b := fun e e2 => by
      have h1 := HB4.out
      rw [HD.out, HU.out, e, underB_true e2] at h1
      cases h1
    have hob : o ≠ k := fun e => Hok9.out e
    have hbp7 := hf7.get Hbp6.out (fun e => e.1.2 rfl)
    have hbq7 := hf7.get Hbq6.out (fun e => e.2 rfl)
    obtain ⟨g1, g2, g3, n', m', g4, g5, g6, g7, g8, g9, g10, g11, g12⟩ := gone_then (k := 1000000000000) ⟨Hlive.out, HI.out, Hcap.out⟩ hna hnad Hkx.out hnk hmb hmbd Hl0.out Hky.out hno hob Hno0.out hun
    have hf07 : Fr S w w7 := (Hf06.out.mono (fun _ _ e => e.elim)).trans (hf7.mono (fun _ _ e => e.1.1))
    obtain ⟨WF, hWF⟩ : ∃ WF, WF = w7 := ⟨_, rfl⟩
    obtain ⟨ma, mb, wD, wU, HF⟩ := ren_fin (w0 := w) (S := S) (sl1 := sl1) (sl2 := sl2) (bp := bp) (bq := bq) (hA7.frame ((Fr.refl (fun _ => False) w7).drew) (fun _ _ _ e => e)) (fun _ e => e.1.1) hf07.drew g3 hnm1 hnm2 g4 g5 g6 g7 g8 g9 g10 g11 g1 g12 (blk_drew hbp7) (blk_drew hbq7)
      (Post := fun w' => MutPost f (renR σ dir s.data.toList t.data.toList).2 S p (.int .i64 (renR σ dir s.data.toList t.data.toList).1) w (.returned (.int .i64 0)) w') (fun w' h1 h2 => hok0.out w' Hdef12.out (by rw [Hmv.out]; exact h1) h2)
    rw [← hWF] at HF
    rw [← HD.out] at HF
    have c0 : WF.drew.cell? ⟨bp, 0, none⟩ = some (.pointer (some ⟨p a, 0, none⟩)) := by rw [blk_cell HF.hbp]; rfl
    have c1 : WF.drew.cell? ⟨bp, 1, none⟩ = some (.string nm1) := by rw [blk_cell HF.hbp]; rfl
    have c6 := HF.c6
    have hdel := HF.del
    have hupd := HF.upd
    have d0 : wD.drew.cell? ⟨bq, 0, none⟩ = some (.pointer (some ⟨p b, 0, none⟩)) := by rw [blk_cell (blk_drew HF.hbq)]; rfl
    have d1 : wD.drew.cell? ⟨bq, 1, none⟩ = some (.string nm2) := by rw [blk_cell (blk_drew HF.hbq)]; rfl
    have d6 := HF.d6
    have u0 : wU.cell? ⟨bq, 0, none⟩ = some (.pointer (some ⟨p b, 0, none⟩)) := by rw [blk_cell HF.hbq2]; rfl
    have Hdir9 := hide HF.dir
    have Hfrz := hide HF.frz
    have Hfin := hide HF.fin
    have Hfin2 := hide HF.fin2
    clear HF
    clear Hdef12 hun hok0 herr6 g1 g2 g3 g4 g5 g6 g7 g8 g9 g10 g11 g12 hf07 hbp7 hbq7 hA7 hf7
    rw [← hWF]
    clear hWF
    go_wp2_with fail
    refine region_tail 7 (by kernel_rfl) (by kernel_rfl) ?_
    simp only [List.take_succ_cons, List.take_zero, List.drop_succ_cons, List.drop_zero]
    repeat go_big_quiet_step (fail)
    refine wpQuiet_nil ?_
    go_wp2_with fail
    refine region_tail 8 (by kernel_rfl) (by kernel_rfl) ?_
    simp only [List.take_succ_cons, List.take_zero, List.drop_succ_cons, List.drop_zero]
    repeat go_big_quiet_step (fail)
    refine wpQuiet_nil ?_
    go_wp2_with fail
    refine Hdir9.out.mono ?_
    rintro e w9 ⟨rfl, rfl⟩
    clear Hdir9
    cases D
    · have hres := hide (Hfin.out rfl)
      clear Hfin Hfin2
      go_wp2_with fail
      go_ret
      exact hres.out
    · have hres := hide (Hfin2.out rfl)
      obtain ⟨z7, v7, c7⟩ := Hfrz.out rfl
      clear Hfin Hfin2
      go_wp2_with fail
      go_ret
      exact hres.out
end Go.Proofs.YthikjdpnlahkfaaGreatDoor
