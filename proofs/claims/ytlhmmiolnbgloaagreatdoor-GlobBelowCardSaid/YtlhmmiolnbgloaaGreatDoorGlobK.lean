/- glob.seeker.names: what a piece may be behind a path, told to whoever asks. Conditions: the contract's own premises. -/
import Derived.Test.YtlhmmiolnbgloaaGreatDoorGlobI
import Derived.Test.YtlhmmiolnbgloaaGreatDoorRangeFuncE
namespace Go.Proofs.YtlhmmiolnbgloaaGreatDoor
open Go.RowKit Go.Shelf

attribute [local go_sem] Oper.semAt_some

/-- What the iterator looks at. -/
structure NmI (σ : FSt) (f : Nat) (S : Nat → Prop) (pp : Nat → Nat) (T : Nat → Prop) (q d bp bs bf : Nat) (pv : Value) (piece : List Ch) (far : ByteArray) (W : World) : Prop where
  fa : FilesAt W f σ S pp
  ml : Ml W
  ch : ChV W T pv piece
  sk : ∃ t, Seek W q f d t
  cp : W.cell? ⟨bp, 0, none⟩ = some pv
  cs : W.cell? ⟨bs, 0, none⟩ = some (.pointer (some ⟨q, 0, none⟩))
  cf : W.cell? ⟨bf, 0, none⟩ = some (.string far)
def nenc (x : List UInt8) : Value := .string ⟨x.toArray⟩
def NStep (L : List (List UInt8)) (s : Nat) (x : List UInt8) (s' : Nat) : Prop := ∃ h : s < L.length, x = L[s] ∧ s' = s + 1
theorem names_plain {σ : FSt} {d : Nat} {far : List UInt8} {piece : List Ch} (h : wildL piece = false) : namesP σ d far piece = [textL piece] := by unfold namesP; rw [if_pos h]
theorem names_shut {σ : FSt} {d : Nat} {far : List UInt8} {piece : List Ch} (h : wildL piece = true) (h2 : mayR σ (thereL σ d far) 5 = false) : namesP σ d far piece = [] := by unfold namesP; rw [if_neg (by simp [h]), if_pos h2]
noncomputable def keepN (piece : List Ch) (n : List UInt8) : Bool := !hiddenL piece n && matchL piece n
theorem names_open {σ : FSt} {d : Nat} {far : List UInt8} {piece : List Ch} (h : wildL piece = true) (h2 : mayR σ (thereL σ d far) 5 = true) : namesP σ d far piece = ((listL σ (thereL σ d far)).map fun x => x.data.toList).filter (keepN piece) := by unfold namesP; rw [if_neg (by simp [h]), if_neg (by simp [h2])]; rfl
theorem there_le {σ : FSt} (h : Live σ) {d : Nat} (hd : d ≤ 9223372036854775807) (s : List UInt8) : thereL σ d s ≤ 9223372036854775807 := by
  unfold thereL
  split
  · exact hd
  · split
    · rename_i h2
      have h3 := FSt.nd_lt (walk_ok h h2)
      have := h.len
      omega
    · omega
theorem hasDot (nm : List UInt8) : Lib.hasPrefix nm [46] = (nm.head? == some 46) := by
  unfold Lib.hasPrefix
  cases nm with
  | nil => rfl
  | cons c r =>
    simp only [List.isPrefixOf, Bool.and_true, List.head?_cons]
    show ((46 : UInt8) == c) = (c == 46)
    exact BEq.comm
theorem filt_step {α : Type} {P : α → Bool} {l : List α} {j : Nat} (h : j < l.length) : (l.drop j).filter P = if P l[j] = true then l[j] :: (l.drop (j + 1)).filter P else (l.drop (j + 1)).filter P := by
  rw [List.drop_eq_getElem_cons h, List.filter_cons]
/-- Between two entries. -/
def NmRel (L : List (List UInt8)) (l : List ByteArray) (piece : List Ch) (R : Nat → Prop) (J : Nat → (Nat → Prop) → World → Prop) (lv : Value) (z : Nat) (gk : Nat) (i : Value) (wr : World) : Prop :=
  ∃ (j s : Nat) (A : Nat → Prop), gk + j = l.length ∧ i = .int .i64 j ∧ s ≤ L.length ∧ L.drop s = ((l.map fun x => x.data.toList).drop j).filter (keepN piece) ∧ J s A wr ∧ ArgsV wr R lv l ∧ (∀ k, R k → ¬ A k) ∧ z ≤ wr.heap.size
set_option maxRecDepth 100000 in
set_option maxHeartbeats 2000000 in
theorem names1_iter (n : Nat) (σ : FSt) (f : Nat) (S : Nat → Prop) (pp : Nat → Nat) (T : Nat → Prop) (q d bp bs bf : Nat) (pv : Value) (piece : List Ch) (far : ByteArray) (hcap : CapB σ) (hd : d ≤ 9223372036854775807) (hfar : far.size ≤ 1000000) (hpl : piece.length ≤ 1000000)
    (l : Nat) (J : Nat → (Nat → Prop) → World → Prop) (W : World)
    (hJI : ∀ s A W, J s A W → NmI σ f S pp T q d bp bs bf pv piece far W) (hJf : ∀ s (A : Nat → Prop) W W', J s A W → Fr (fun k => ¬ A k) W W' → J s A W') (hJA : ∀ s A W, J s A W → ∀ k, A k → k < W.heap.size)
    (hY : ∀ s A x s' W, NStep (namesP σ d far.data.toList piece) s x s' → J s A W → YieldAt FW (n - 1) Tryz.prog l #[nenc x] W fun e W' => Fr A W W' ∧ e = .returned (.bool true) ∧ J s' (fun k => A k ∨ (W.heap.size ≤ k ∧ k < W'.heap.size)) W')
    (A0 : Nat → Prop) (h0 : J 0 A0 W) :
    Calls Tryz.prog 60 #[.func (.yield l) #[] #[], .pointer (some ⟨bp, 0, none⟩), .pointer (some ⟨bs, 0, none⟩), .pointer (some ⟨bf, 0, none⟩)] W fun e W' => (∃ v, e = .returned v) ∧ ∃ A, J (namesP σ d far.data.toList piece).length A W' := by
  obtain ⟨L, hL⟩ : ∃ L, L = namesP σ d far.data.toList piece := ⟨_, rfl⟩
  rw [← hL] at hY ⊢
  have HL := hide hL
  clear hL
  have hN := hJI _ _ _ h0
  have hat : ∀ W2, Fr (fun _ => False) W W2 → J 0 A0 W2 := fun W2 hf => hJf _ _ _ _ h0 (hf.mono fun _ _ e => e.elim)
  have hat := hide hat
  have c1 := hN.cp
  have hwild := hide (wild_any W T pv piece hN.ch)
  obtain ⟨pa, pc, rfl⟩ := hN.ch.form
  clear h0 hN
  go_enter Tryz.func60, Tryz.ntmps60
  go_wp2_with fail
  refine hwild.out.mono ?_
  rintro e w1 ⟨rfl, hf1⟩
  have Hf1 := hide hf1
  have N1 := hJI _ _ _ (hat.out w1 hf1)
  have c1 := N1.cp
  have c2 := N1.cs
  have c3 := N1.cf
  have HN1 := hide N1
  clear hwild hf1 N1
  cases hw : wildL piece with
  | false =>
    have hnm := names_plain (σ := σ) (d := d) (far := far.data.toList) hw
    have hL := HL.out.trans hnm
    have hl1 : L.length = 1 := by rw [hL]; rfl
    have hl0 : L[0] = textL piece := by simp [hL]
    have htx := hide (text_any w1 T _ piece HN1.out.ch hpl)
    clear hnm hL
    go_upto_region 1 with (fail)
    refine (wpIn_wide (n := n)).1 ?_
    gi_wp2
    refine ⟨trivial, fun h9 => (by cases h9), callsIn_wide.2 (htx.out.mono ?_)⟩
    rintro e w2 ⟨rfl, hf2⟩
    obtain ⟨fn, tmps, assign, body, hy, hR⟩ := hY 0 A0 (textL piece) 1 w2 ⟨by omega, hl0.symm, rfl⟩ (hat.out w2 (Hf1.out.trans hf2))
    have hy : (Instr.yield l #[.string ⟨(txL piece).toArray⟩]).run Tryz.prog w2 = _ := hy
    have HR := hide hR
    clear hR htx hf2
    gi_wp2
    refine ⟨fun h9 => (by cases h9), ?_⟩
    refine HR.out.mono ?_
    rintro e W3 ⟨_, rfl, hJ3⟩
    have hout := hide (show ∃ A, J L.length A W3 from ⟨_, by rw [hl1]; exact hJ3⟩)
    clear HR hJ3
    gi_wp2
    go_wp2_with fail
    refine bodyPost_ret (results_none rfl _ _ _) rfl ?_
    exact ⟨⟨_, rfl⟩, hout.out⟩
  | true =>
    obtain ⟨t1, hsk⟩ := HN1.out.sk
    have hth := hide (there_any w1 q f d t1 σ S pp hsk HN1.out.fa HN1.out.ml hd far (by omega))
    have hle := there_le HN1.out.fa.live hd far.data.toList
    have HLw : Hid (∀ b : Bool, mayR σ (thereL σ d far.data.toList) 5 = b → L = if b = true then ((listL σ (thereL σ d far.data.toList)).map fun x => x.data.toList).filter (keepN piece) else []) := hide fun b hb => by
      cases b with
      | true => exact HL.out.trans (names_open hw hb)
      | false => exact HL.out.trans (names_shut hw hb)
    clear hsk HL
    go_wp2_with fail
    refine hth.out.mono ?_
    rintro e w2 ⟨rfl, hf2⟩
    have Hf2 := hide (Hf1.out.trans hf2)
    have N2 := hJI _ _ _ (hat.out w2 Hf2.out)
    obtain ⟨t2, hsk2⟩ := N2.sk
    unfold Seek at hsk2
    have c1 := N2.cp
    have c2 := N2.cs
    have c4 : w2.cell? ⟨q, 0, none⟩ = some (.pointer (some ⟨f, 0, none⟩)) := by rw [blk_cell hsk2]; rfl
    generalize hat9 : thereL σ d far.data.toList = at9 at *
    have hmay := hide (May_any w2 f σ S pp N2.fa (at9 : Nat) 5 ⟨by omega, by omega⟩ ⟨by decide, by decide⟩)
    have hlist := hide (List_any w2 f σ S pp N2.fa hcap (at9 : Nat) ⟨by omega, by omega⟩)
    have HN2 := hide N2
    clear N2 hth hf2 HN1 hsk2 Hf1
    go_wp2_with fail
    refine hmay.out.mono ?_
    rintro e w' ⟨rfl, rfl⟩
    clear hmay
    cases hb : mayR σ (at9 : Nat) 5 with
    | false =>
      have hL := HLw.out _ hb
      have hout := hide (show ∃ A, J L.length A w' from ⟨A0, by rw [hL]; exact hat.out w' Hf2.out⟩)
      clear HLw hb hlist hL HN2
      go_wp2_with fail
      refine bodyPost_ret (results_none rfl _ _ _) rfl ?_
      exact ⟨⟨_, rfl⟩, hout.out⟩
    | true =>
      have hL := HLw.out _ hb
      rw [if_pos rfl] at hL
      have HL := hide hL
      clear HLw hL hb
      go_wp2_with fail
      refine hlist.out.mono ?_
      rintro e w3 ⟨lv, rfl, hlv, hf3⟩
      have hszl := (list_sizes HN2.out.fa.live (k := 1000000000000) hcap (at9 : Nat))
      obtain ⟨lo1, lo2⟩ := hszl
      generalize listL σ (at9 : Nat) = ll at *
      obtain ⟨la, lc, rfl⟩ := hlv.form
      have hJ3 := hat.out w3 (Hf2.out.trans hf3)
      have hrow := hlv.mono (S' := fun k => w'.heap.size ≤ k ∧ k < w3.heap.size) (fun k hk h => ⟨h, hk⟩)
      have hA0 := hJA _ _ _ (hat.out w' Hf2.out)
      have H0 := hide (show NmRel L ll piece (fun k => w'.heap.size ≤ k ∧ k < w3.heap.size) J (.slice la ll.length lc) w3.heap.size ll.length (.int .i64 (0 : Nat)) w3 from ⟨0, 0, A0, rfl, rfl, Nat.zero_le _, by rw [List.drop_zero, List.drop_zero]; exact HL.out, hJ3, hrow, fun k hk h => by have := hA0 k h; omega, Nat.le_refl _⟩)
      have Hlo := hide lo2
      clear hlist hlv hf3 hJ3 hrow hA0 HL HN2 Hf2 c1 c2 c4 lo2
      go_wp2_with fail
      go_loopg [39] ll.length (fun gk i wr => NmRel L ll piece (fun k => w'.heap.size ≤ k ∧ k < w3.heap.size) J (.slice la ll.length lc) w3.heap.size gk i wr)
      case atStart => exact H0.out
      case round =>
        clear H0
        obtain ⟨j, s, A, hgk, rfl, hsl, hLs, hJ, hrow, hRA, hz⟩ := hrel
        by_cases hlt : j < ll.length
        · obtain ⟨hsn, hcn, hrr⟩ := hrow.at
          obtain ⟨g, o, rfl, hcell⟩ := hrr.resolve_left (by omega)
          have hcj := hcell j hlt
          have hn32 := Hlo.out ll[j] (List.getElem_mem hlt)
          have NJ := hJI _ _ _ hJ
          have hkn := filt_step (P := keepN piece) (l := ll.map fun x => x.data.toList) (j := j) (by rw [List.length_map]; exact hlt)
          rw [List.getElem_map] at hkn
          have hpne : piece ≠ [] := fun e => by rw [e] at hw; cases hw
          obtain ⟨pc0, pr, hpe⟩ : ∃ x r, piece = x :: r := by
            cases piece with
            | nil => exact absurd rfl hpne
            | cons x r => exact ⟨x, r, rfl⟩
          have hch := NJ.ch
          rw [hpe] at hch
          obtain ⟨pg, po, e9, hpg, hc0, hc1⟩ := hch.head
          subst e9
          have cp := NJ.cp
          obtain ⟨-, hpc1, hpc2, -⟩ := hch.at
          rw [List.length_cons] at hpc1
          have hp0 : 0 < piece.length := by rw [hpe]; simp
          have hp1 : (0 : Int) < (piece.length : Int) := by omega
          have hmt := hide (match_any wr T _ piece NJ.ch hpl ll[j])
          have hpre := hide (Any.strings_HasPrefix Tryz.laysHasPre ll[j] ⟨#[46]⟩ wr)
          have hdot := hasDot ll[j].data.toList
          have hnx0 : ∀ W2, Fr (fun _ => False) wr W2 → keepN piece ll[j].data.toList = false → NmRel L ll piece (fun k => w'.heap.size ≤ k ∧ k < w3.heap.size) J (.slice (some ⟨g, o, none⟩) ll.length lc) w3.heap.size (gk - 1) (.int .i64 ((j : Int) + 1)) W2 := fun W2 hf hk =>
            ⟨j + 1, s, A, by omega, by go_num, hsl, by rw [hLs, hkn, if_neg (by simp [hk])], hJf _ _ _ _ hJ (hf.mono fun _ _ e => e.elim), hrow.frame hf (fun _ _ _ e => e), hRA, Nat.le_trans hz hf.size⟩
          have Hnx0 := hide hnx0
          have hyl : keepN piece ll[j].data.toList = true → ∃ h : s < L.length, L[s] = ll[j].data.toList ∧ L.drop (s + 1) = ((ll.map fun x => x.data.toList).drop (j + 1)).filter (keepN piece) := fun hk => by
            rw [hkn, if_pos hk] at hLs
            have hsl2 : s < L.length := by
              apply Decidable.byContradiction
              intro hge
              rw [List.drop_eq_nil_of_le (by omega)] at hLs
              cases hLs
            rw [List.drop_eq_getElem_cons hsl2] at hLs
            exact ⟨hsl2, (List.cons.inj hLs).1, (List.cons.inj hLs).2⟩
          have Hyl := hide hyl
          have hJf2 := hide (fun W2 (hf : Fr (fun _ => False) wr W2) => hJf _ _ _ _ hJ (hf.mono fun _ _ e => e.elim))
          have Hrow := hide hrow
          have HJ := hide hJ
          have HRA := hide hRA
          have Hz := hide hz
          have hkd : keepN piece ll[j].data.toList = (!(Lib.hasPrefix ll[j].data.toList [46] && !(pc0.b == 46)) && matchL piece ll[j].data.toList) := by
            unfold keepN hiddenL
            rw [hdot, hpe]
            simp
          have Hkd := hide hkd
          have hba : (⟨ll[j].data.toList.toArray⟩ : ByteArray) = ll[j] := rfl
          have hje : (⟨ll[j].data.toList.toArray⟩ : ByteArray) = ll[j] := hba
          have hj1 : (0 : Int) ≤ (j : Int) := by omega
          have hj2 : (j : Int) < (ll.length : Int) := by omega
          clear hcell hkn hnx0 hyl hLs hJ hrow hRA hz NJ hkd hdot hba hch hcn hsn hpne hrr hc1 hpe
          generalize hnm : ll[j] = nm at *
          have Hnm := hide hnm
          clear hnm
          cases hp : Lib.hasPrefix nm.data.toList [46] with
          | true =>
            by_cases hb46 : pc0.b = 46
            · have hb47 : (pc0.b.toNat : Int) = 46 := by rw [hb46]; rfl
              have hkm : keepN piece nm.data.toList = matchL piece nm.data.toList := by rw [Hkd.out, hp, hb46]; simp
              have Hkm := hide hkm
              clear hkm Hkd
              go_wp2_with fail
              refine hpre.out.mono ?_
              rintro e w4 ⟨rfl, rfl⟩
              rw [show Lib.hasPrefix nm.data.toList (ByteArray.mk #[46]).data.toList = true from hp]
              clear hpre
              go_upto_region 9 with (fail)
              refine (wpIn_wide (n := n)).1 ?_
              gi_wp2
              refine ⟨trivial, fun h9 => (by cases h9), callsIn_wide.2 (hmt.out.mono ?_)⟩
              rintro e w5 ⟨rfl, hf5⟩
              cases hm : matchL piece nm.data.toList with
              | false =>
                have hn := hide (Hnx0.out w5 hf5 (by rw [Hkm.out, hm]))
                clear Hnx0 Hyl hJf2 Hrow HJ HRA hmt hf5 hm Hkm
                gi_wp2
                refine ⟨fun _ h9 => (by cases h9), ?_⟩
                gi_wp2
                go_wp2_with fail
                go_roundg (gk - 1)
                case measure => omega
                case rel => exact hn.out
              | true =>
                obtain ⟨hs9, hLs9, hdr9⟩ := Hyl.out (by rw [Hkm.out, hm])
                obtain ⟨fn, tmps, assign, body, hy, hR⟩ := hY s A nm.data.toList (s + 1) w5 ⟨hs9, hLs9.symm, rfl⟩ (hJf2.out w5 hf5)
                have hy : (Instr.yield l #[.string nm]).run Tryz.prog w5 = _ := hy
                have HR := hide hR
                have hs5 := hf5.size
                have hz5 := Hz.out
                have hrow5 := hide (Hrow.out.frame hf5 (fun _ _ _ e => e))
                clear hR hmt hf5 Hnx0 Hyl hJf2 HJ hm Hkm
                gi_wp2
                refine ⟨fun h9 => (by cases h9), ?_⟩
                refine HR.out.mono ?_
                rintro e W3 ⟨hf9, rfl, hJ3⟩
                have hn := hide (show NmRel L ll piece (fun k => w'.heap.size ≤ k ∧ k < w3.heap.size) J (.slice (some ⟨g, o, none⟩) ll.length lc) w3.heap.size (gk - 1) (.int .i64 ((j : Int) + 1)) W3 from
                  ⟨j + 1, s + 1, _, by omega, by go_num, hs9, hdr9, hJ3, hrow5.out.frame hf9 (fun k _ hk e => HRA.out k hk e), fun k hk e => e.elim (HRA.out k hk) (fun e => by omega), by have := hf9.size; omega⟩)
                clear HR hJ3 hf9 hrow5 Hrow HRA hs9 hLs9 hdr9
                gi_wp2
                go_wp2_with fail
                go_roundg (gk - 1)
                case measure => omega
                case rel => exact hn.out
            · have hkf : keepN piece nm.data.toList = false := by
                rw [Hkd.out, hp, show (pc0.b == 46) = false from by simpa using hb46]
                rfl
              have hn := hide (Hnx0.out wr (Fr.refl _ _) hkf)
              have hb47 : ¬ (pc0.b.toNat : Int) = 46 := fun e => hb46 (UInt8.toNat_inj.1 (by rw [show (46 : UInt8).toNat = 46 from rfl]; omega))
              clear Hkd Hnx0 Hyl hJf2 Hrow HJ HRA hmt hkf
              go_wp2_with fail
              refine hpre.out.mono ?_
              rintro e w4 ⟨rfl, rfl⟩
              rw [show Lib.hasPrefix nm.data.toList (ByteArray.mk #[46]).data.toList = true from hp]
              clear hpre
              go_upto_region 9 with (fail)
              refine (wpIn_wide (n := n)).1 ?_
              gi_wp2
              refine ⟨trivial, ?_⟩
              gi_wp2
              refine ⟨fun _ h9 => (by cases h9), ?_⟩
              gi_wp2
              go_wp2_with fail
              go_roundg (gk - 1)
              case measure => omega
              case rel => exact hn.out
          | false =>
            have hkm : keepN piece nm.data.toList = matchL piece nm.data.toList := by rw [Hkd.out, hp]; simp
            have Hkm := hide hkm
            clear hkm Hkd
            go_wp2_with fail
            refine hpre.out.mono ?_
            rintro e w4 ⟨rfl, rfl⟩
            rw [show Lib.hasPrefix nm.data.toList (ByteArray.mk #[46]).data.toList = false from hp]
            clear hpre
            go_upto_region 9 with (fail)
            refine (wpIn_wide (n := n)).1 ?_
            gi_wp2
            refine ⟨trivial, fun h9 => (by cases h9), callsIn_wide.2 (hmt.out.mono ?_)⟩
            rintro e w5 ⟨rfl, hf5⟩
            cases hm : matchL piece nm.data.toList with
            | false =>
              have hn := hide (Hnx0.out w5 hf5 (by rw [Hkm.out, hm]))
              clear Hnx0 Hyl hJf2 Hrow HJ HRA hmt hf5 hm Hkm
              gi_wp2
              refine ⟨fun _ h9 => (by cases h9), ?_⟩
              gi_wp2
              go_wp2_with fail
              go_roundg (gk - 1)
              case measure => omega
              case rel => exact hn.out
            | true =>
              obtain ⟨hs9, hLs9, hdr9⟩ := Hyl.out (by rw [Hkm.out, hm])
              obtain ⟨fn, tmps, assign, body, hy, hR⟩ := hY s A nm.data.toList (s + 1) w5 ⟨hs9, hLs9.symm, rfl⟩ (hJf2.out w5 hf5)
              have hy : (Instr.yield l #[.string nm]).run Tryz.prog w5 = _ := hy
              have HR := hide hR
              have hs5 := hf5.size
              have hz5 := Hz.out
              have hrow5 := hide (Hrow.out.frame hf5 (fun _ _ _ e => e))
              clear hR hmt hf5 Hnx0 Hyl hJf2 HJ hm Hkm
              gi_wp2
              refine ⟨fun h9 => (by cases h9), ?_⟩
              refine HR.out.mono ?_
              rintro e W3 ⟨hf9, rfl, hJ3⟩
              have hn := hide (show NmRel L ll piece (fun k => w'.heap.size ≤ k ∧ k < w3.heap.size) J (.slice (some ⟨g, o, none⟩) ll.length lc) w3.heap.size (gk - 1) (.int .i64 ((j : Int) + 1)) W3 from
                ⟨j + 1, s + 1, _, by omega, by go_num, hs9, hdr9, hJ3, hrow5.out.frame hf9 (fun k _ hk e => HRA.out k hk e), fun k hk e => e.elim (HRA.out k hk) (fun e => by omega), by have := hf9.size; omega⟩)
              clear HR hJ3 hf9 hrow5 Hrow HRA hs9 hLs9 hdr9
              gi_wp2
              go_wp2_with fail
              go_roundg (gk - 1)
              case measure => omega
              case rel => exact hn.out
        · have hj' : j = ll.length := by omega
          subst hj'
          have hout := hide (show ∃ A, J L.length A wr from ⟨A, by
            rw [show ((ll.map fun x => x.data.toList).drop ll.length) = [] from List.drop_eq_nil_of_le (by rw [List.length_map]; exact Nat.le_refl _)] at hLs
            have hLs : L.drop s = [] := hLs
            have : s = L.length := by have := List.drop_eq_nil_iff.1 hLs; omega
            rw [← this]; exact hJ⟩)
          clear hLs hJ hrow hRA
          go_wp2_with fail
          go_end0
          exact ⟨⟨_, rfl⟩, hout.out⟩
end Go.Proofs.YtlhmmiolnbgloaaGreatDoor

/- glob.seeker.paths: the paths of a pattern behind a path, told to whoever asks. Conditions: the contract's own premises. -/
namespace Go.Proofs.YtlhmmiolnbgloaaGreatDoor
open Go.RowKit Go.Shelf

attribute [local go_sem] Oper.semAt_some

theorem snames_any (w : World) (q : Option Addr) (far : ByteArray) (a : Option Addr) (n c : Nat) : Calls Tryz.prog 42 #[.pointer q, .string far, .slice a n c] w fun e w' =>
    e = .returned (.func (.func 60) #[] #[.pointer (some ⟨w.heap.size + 2, 0, none⟩), .pointer (some ⟨w.heap.size, 0, none⟩), .pointer (some ⟨w.heap.size + 1, 0, none⟩)]) ∧ w' = ((w.alloc (.cells #[.pointer q] 66 (0, 0))).alloc (.cells #[.string far] 9 (0, 0))).alloc (.cells #[.slice a n c] 32 (0, 0)) := by
  go_enter Tryz.func42, Tryz.ntmps42
  go_wp2
  go_ret
  exact ⟨rfl, rfl⟩
theorem spaths_any (w : World) (q : Option Addr) (far : ByteArray) (a : Option Addr) (n c : Nat) : Calls Tryz.prog 27 #[.pointer q, .string far, .slice a n c] w fun e w' =>
    e = .returned (.func (.func 39) #[] #[.pointer (some ⟨w.heap.size + 2, 0, none⟩), .pointer (some ⟨w.heap.size + 1, 0, none⟩), .pointer (some ⟨w.heap.size, 0, none⟩)]) ∧ w' = ((w.alloc (.cells #[.pointer q] 66 (0, 0))).alloc (.cells #[.string far] 9 (0, 0))).alloc (.cells #[.slice a n c] 32 (0, 0)) := by
  go_enter Tryz.func27, Tryz.ntmps27
  go_wp2
  go_ret
  exact ⟨rfl, rfl⟩
def nextP (far : List UInt8) (p : List Ch) (n : List UInt8) : List UInt8 := far ++ n ++ textL ((p.take (skipP p)).drop (cutP p))
noncomputable def subP (σ : FSt) (d fuel : Nat) (far : List UInt8) (p : List Ch) (n : List UInt8) : List (List UInt8) := if thereL σ d (nextP far p n) = 0 then [] else pathsP σ d fuel (nextP far p n) (p.drop (skipP p))
noncomputable def subT (σ : FSt) (d fuel : Nat) (far : List UInt8) (p : List Ch) (n : List UInt8) : Nat := 1 + if thereL σ d (nextP far p n) = 0 then 0 else triesP σ d fuel (nextP far p n) (p.drop (skipP p))
theorem paths_step {σ : FSt} {d fuel : Nat} {far : List UInt8} {p : List Ch} (h : p ≠ []) : pathsP σ d (fuel + 1) far p = (namesP σ d far (p.take (cutP p))).flatMap (subP σ d fuel far p) := by rw [pathsP, if_neg h]; rfl
theorem tries_step {σ : FSt} {d fuel : Nat} {far : List UInt8} {p : List Ch} (h : p ≠ []) : triesP σ d (fuel + 1) far p = ((namesP σ d far (p.take (cutP p))).map (subT σ d fuel far p)).sum := by rw [triesP, if_neg h]; rfl
theorem paths_end {σ : FSt} {d fuel : Nat} {far : List UInt8} : pathsP σ d (fuel + 1) far [] = if far.length ≤ 256 then [far] else [] := by rw [pathsP, if_pos rfl]
/-- How many are told ahead of the names from s on; how many are tried. -/
def offF {α β : Type} (L : List α) (g : α → List β) (s : Nat) : Nat := ((L.take s).flatMap g).length
def sumF {α : Type} (L : List α) (g : α → Nat) (s : Nat) : Nat := ((L.take s).map g).sum
theorem offF_succ {α β : Type} {L : List α} {g : α → List β} {s : Nat} (h : s < L.length) : offF L g (s + 1) = offF L g s + (g L[s]).length := by
  unfold offF
  rw [List.take_succ_eq_append_getElem h, List.flatMap_append, List.length_append]
  simp
theorem sumF_succ {α : Type} {L : List α} {g : α → Nat} {s : Nat} (h : s < L.length) : sumF L g (s + 1) = sumF L g s + g L[s] := by
  unfold sumF
  rw [List.take_succ_eq_append_getElem h, List.map_append, List.sum_append]
  simp
theorem offF_end {α β : Type} (L : List α) (g : α → List β) : offF L g L.length = (L.flatMap g).length := by unfold offF; rw [List.take_length]
theorem sumF_end {α : Type} (L : List α) (g : α → Nat) : sumF L g L.length = (L.map g).sum := by unfold sumF; rw [List.take_length]
theorem sumF_le {α : Type} (L : List α) (g : α → Nat) (s : Nat) : sumF L g s ≤ (L.map g).sum := by
  unfold sumF
  have h : (L.map g).sum = ((L.take s).map g).sum + ((L.drop s).map g).sum := by rw [← List.sum_append, ← List.map_append, List.take_append_drop]
  omega
theorem flat_at {α β : Type} {L : List α} {g : α → List β} {s j : Nat} (h : s < L.length) (hj : j < (g L[s]).length) : ∃ h2 : offF L g s + j < (L.flatMap g).length, (L.flatMap g)[offF L g s + j] = (g L[s])[j] := by
  have e : L.flatMap g = (L.take s).flatMap g ++ (g L[s] ++ (L.drop (s + 1)).flatMap g) := by
    rw [← List.flatMap_cons, ← List.flatMap_append, ← List.drop_eq_getElem_cons h, List.take_append_drop]
  have hl : offF L g s + j < (L.flatMap g).length := by rw [e, List.length_append, List.length_append]; unfold offF; omega
  refine ⟨hl, ?_⟩
  have e2 : (L.flatMap g)[offF L g s + j]? = (g L[s])[j]? := by
    rw [e]
    unfold offF
    rw [List.getElem?_append_right (by omega), Nat.add_sub_cancel_left, List.getElem?_append_left hj]
  rw [List.getElem?_eq_getElem hl, List.getElem?_eq_getElem hj] at e2
  exact Option.some.inj e2
theorem tw_in {α : Type} {P : α → Bool} : ∀ {r : List α} {j : Nat}, j < (r.takeWhile P).length → ∃ h : j < r.length, P r[j] = true
  | [], j, h => by simp at h
  | x :: r, j, h => by
    rw [List.takeWhile_cons] at h
    split at h
    · rename_i hx
      cases j with
      | zero => exact ⟨by simp, hx⟩
      | succ j =>
        obtain ⟨h1, h2⟩ := tw_in (P := P) (r := r) (j := j) (by simpa using h)
        exact ⟨by simpa using h1, by simpa using h2⟩
    · simp at h
theorem tw_out {α : Type} {P : α → Bool} : ∀ {r : List α} (h : (r.takeWhile P).length < r.length), P r[(r.takeWhile P).length] = false
  | [], h => by simp at h
  | x :: r, h => by
    cases hx : P x with
    | true =>
      have e : (x :: r).takeWhile P = x :: r.takeWhile P := by rw [List.takeWhile_cons, hx]; rfl
      have ih := tw_out (P := P) (r := r) (by rw [e] at h; simpa using h)
      simp only [e, List.length_cons, List.getElem_cons_succ]
      exact ih
    | false =>
      have e : (x :: r).takeWhile P = [] := by rw [List.takeWhile_cons, hx]; rfl
      simp only [e, List.length_nil, List.getElem_cons_zero]
      exact hx
theorem cut_le (p : List Ch) : cutP p ≤ p.length := List.findIdx_le_length
theorem skip_ge (p : List Ch) : cutP p ≤ skipP p := Nat.le_add_right _ _
theorem skip_le (p : List Ch) : skipP p ≤ p.length := by
  unfold skipP
  have h1 : ((p.drop (cutP p)).takeWhile fun c => c.b == slashB).length ≤ (p.drop (cutP p)).length := (List.takeWhile_sublist _).length_le
  have h2 := cut_le p
  rw [List.length_drop] at h1
  omega
theorem skip_in {p : List Ch} {k : Nat} (h1 : cutP p ≤ k) (h2 : k < skipP p) : ∃ h : k < p.length, p[k].b = slashB := by
  unfold skipP at h2
  obtain ⟨h3, h4⟩ := tw_in (P := fun c : Ch => c.b == slashB) (r := p.drop (cutP p)) (j := k - cutP p) (by omega)
  rw [List.length_drop] at h3
  refine ⟨by omega, ?_⟩
  rw [List.getElem_drop] at h4
  have e : cutP p + (k - cutP p) = k := by omega
  simp only [e] at h4
  simpa using h4
theorem skip_out {p : List Ch} (h : skipP p < p.length) : p[skipP p].b ≠ slashB := by
  have h5 := cut_le p
  have h2 : ((p.drop (cutP p)).takeWhile fun c => c.b == slashB).length < (p.drop (cutP p)).length := by rw [List.length_drop]; unfold skipP at h; omega
  have h3 := tw_out (P := fun c : Ch => c.b == slashB) h2
  rw [List.getElem_drop] at h3
  exact beq_eq_false_iff_ne.mp h3
/-- Where it lies: a slash stops the name ahead, so something is taken. -/
theorem skip_pos {p : List Ch} (h : p ≠ []) : 0 < skipP p := by
  cases p with
  | nil => exact absurd rfl h
  | cons c r =>
    by_cases e : c.b = slashB
    · unfold skipP cutP
      simp [List.findIdx_cons, List.takeWhile_cons, e]
    · have : 0 < cutP (c :: r) := by
        have e2 : (c.b == slashB) = false := beq_eq_false_iff_ne.mpr e
        unfold cutP
        rw [List.findIdx_cons, e2]
        exact Nat.succ_pos _
      have := skip_ge (c :: r)
      omega
theorem names_sizes {σ : FSt} (hL : Live σ) {d : Nat} {far : List UInt8} {piece : List Ch} {x : List UInt8} (h : x ∈ namesP σ d far piece) : x.length ≤ piece.length + 32 := by
  unfold namesP at h
  split at h
  · have : x = textL piece := by simpa using h
    rw [this]
    unfold textL
    rw [List.length_map]
    omega
  · split at h
    · cases h
    · have h1 := (List.mem_filter.1 h).1
      obtain ⟨y, hy, rfl⟩ := List.mem_map.1 h1
      unfold listL at hy
      cases hn : σ.ndI (thereL σ d far : Nat) with
      | none => rw [hn] at hy; cases hy
      | some n =>
        obtain ⟨k, _, hk⟩ := ndI_some hn
        rw [hn] at hy
        simp only at hy
        split at hy
        · unfold namesB at hy
          obtain ⟨z, hz, rfl⟩ := List.mem_map.1 hy
          have := hL.names k n hk z hz
          simp
          omega
        · cases hy
/-- What the iterator looks at. -/
structure PtI (σ : FSt) (f : Nat) (S : Nat → Prop) (pp : Nat → Nat) (T : Nat → Prop) (q bp bf bs : Nat) (pv : Value) (p : List Ch) (far : ByteArray) (W : World) : Prop where
  fa : FilesAt W f σ S pp
  ml : Ml W
  ch : ChV W T pv p
  cp : W.cell? ⟨bp, 0, none⟩ = some pv
  cf : W.cell? ⟨bf, 0, none⟩ = some (.string far)
  cs : W.cell? ⟨bs, 0, none⟩ = some (.pointer (some ⟨q, 0, none⟩))
