/- The walk of FilesPaths: it returns true and leaves old memory as it was. Conditions: what the parameter is; the library's own variable. -/
import Derived.Test.YthikjdpnlahkfaaDoorFilesBefore
import Derived.Test.YthikjdpnlahkfaaDoorRangeFuncD
import Derived.Test.YthikjdpnlahkfaaDoorFilesCall
import Derived.Test.YthikjdpnlahkfaaDoorFilesT
import Derived.Deep.CutBlock
import Derived.Deep.DeepCutAuto
namespace Go.Proofs.YthikjdpnlahkfaaDoor
open Go.RowKit Go.Shelf

attribute [local go_sem] Oper.semAt_some

theorem pathR_len {σ : FSt} (hL : Live σ) (hV : Inv σ 0) (i : Int) : (pathR σ i).length ≤ 3301 := by
  unfold pathR
  split
  · rename_i hp
    unfold pathE at hp
    cases hn : σ.ndI i with
    | none => rw [hn] at hp; cases hp
    | some n =>
      rw [hn] at hp
      obtain ⟨k, rfl, hk⟩ := ndI_some hn
      simp only at hp
      rw [Int.toNat_natCast]
      have hd : n.d = true := by
        cases hd : n.d with
        | true => rfl
        | false => rw [hd, if_pos rfl] at hp; cases hp
      rw [if_neg (by simp [hd])] at hp
      have hl : n.links ≠ 0 := fun e => by
        by_cases e1 : k = 1
        · obtain ⟨r, hr, _, hrl⟩ := hL.root
          rw [e1, hr] at hk
          cases hk
          omega
        · rw [if_pos ⟨by omega, e⟩] at hp; cases hp
      obtain ⟨d, hdep⟩ := hV.to_root hk hd hl
      obtain ⟨s, hs⟩ := hV.path hk hd hl
      rw [hs.way hV]
      have h1 := hs.len hL hdep
      have h2 := hdep.short hL
      unfold slashed
      split
      · simp
      · omega
  · simp
/-- The tree that the calls so far have left; the law's own boxes. -/
def PaS (W : World) (rb fb : Nat) (q : Nat) : Prop := W.heap.size ≤ q ∧ q ≠ rb ∧ q ≠ fb
structure PaI (W : World) (f rb fb : Nat) (k : Nat) (wr : World) (σ : FSt) (p : Nat → Nat) : Prop where
  at_ : FilesAt wr f σ (PaS W rb fb) p
  good : Good σ (1 + 2 * k)
  nm : AllN NamesN σ
  op : AllN OpenN σ
  fr : Fr (fun q => W.heap.size ≤ q) W wr
  br : wr.heap[rb]? = some (.cells #[.bool false] 4 (0, 0))
  bf : wr.heap[fb]? = some (.cells #[.pointer (some ⟨f, 0, none⟩)] 23 (0, 0))
def PaIx (W : World) (f rb fb : Nat) (k : Nat) (wr : World) : Prop := ∃ σ p, PaI W f rb fb k wr σ p
def PaRel (W : World) (f rb fb : Nat) (len gk : Nat) (i : Value) (wr : World) : Prop := ∃ k, gk + k = len ∧ k ≤ 100 ∧ i = .int .i64 k ∧ PaIx W f rb fb k wr
theorem PaI.step {W w w' : World} {f rb fb k : Nat} {σ : FSt} {p : Nat → Nat} (h : PaI W f rb fb k w σ p) (hf : Fr (fun _ => False) w w') : PaI W f rb fb k w' σ p :=
  ⟨h.at_.frame hf (fun _ _ _ e => e), h.good, h.nm, h.op, h.fr.trans (hf.mono (fun _ _ e => e.elim)), hf.get h.br (fun e => e), hf.get h.bf (fun e => e)⟩
theorem PaI.asked {W w w' : World} {f rb fb k : Nat} {σ : FSt} {p p' : Nat → Nat} {c : CallQ} (h : PaI W f rb fb k w σ p) (hA : FilesAt w' f (askS σ c) (PaS W rb fb) p') (hf : Fr (PaS W rb fb) w w') (h10 : c.what ≠ 10) (h2 : c.what = 2 → c.m = 493) : PaI W f rb fb (k + 1) w' (askS σ c) p' :=
  ⟨hA, ((h.good.ask c).good hA.live).mono (by omega), names_ask h.nm c, h.op.ask OpenN.stab (fun _ _ e => by cases e) (fun e _ _ => by rw [h2 e]; show mayN (modeN 493) 1 = true; decide) (fun e => absurd e h10),
    h.fr.trans (hf.mono fun _ _ e => e.1), hf.get h.br (fun e => e.2.1 rfl), hf.get h.bf (fun e => e.2.2 rfl)⟩
def PwRel (w : World) (gk : Nat) (iv : Value) (wr : World) : Prop := ∃ m, gk + m = 220 ∧ iv = .int .i64 ((m : Int) + 1) ∧ Fr (fun _ => False) w wr
/-- Between two entries. -/
structure PtI (w : World) (lb : Nat) (L : List EntQ) (s : Nat) (A : Nat → Prop) (W : World) : Prop where
  lo : ∀ k, k < w.heap.size + 2 → A k
  bl : ∃ t : ByteArray, W.heap[lb]? = some (.cells #[.string t] 9 (0, 0)) ∧ t.size ≤ 256 ∧ (t.data.toList = [] ∨ ∃ (j : Nat) (h : j < L.length), j < s ∧ t.data.toList = L[j].path)
  fr : Fr (fun q => q = lb) w W
theorem PtI.frame {w W W' : World} {lb : Nat} {L : List EntQ} {s : Nat} {A : Nat → Prop} (hlb : lb < w.heap.size) (h : PtI w lb L s A W) (hf : Fr (fun k => k = w.heap.size ∨ k = w.heap.size + 1 ∨ ¬ A k) W W') : PtI w lb L s A W' := by
  obtain ⟨t, h1, h2, h3⟩ := h.bl
  have hno : ∀ k, k < w.heap.size → ¬ (k = w.heap.size ∨ k = w.heap.size + 1 ∨ ¬ A k) := fun k hk e => by
    rcases e with e | e | e
    · omega
    · omega
    · exact e (h.lo k (by omega))
  exact ⟨h.lo, ⟨t, hf.get h1 (hno _ hlb), h2, h3⟩, h.fr.trans' hf (fun i hi e => absurd e (hno i hi))⟩
set_option maxRecDepth 100000 in
set_option maxHeartbeats 8000000 in
theorem fpaths_walk (a : Option Addr) (len cap : Nat) (W : World) (hml : Ml W) (hc : CallRowN W a len) :
    Calls Tryd.prog 6 #[.slice a len cap] W (LawPost W) := by
  obtain ⟨l, rfl, hlen, hcok, hrow⟩ := hc
  have hmlt : ¬ W.heap.size ≤ Tryd.laysSplit_ren.g 1 := by
    obtain ⟨m, hm⟩ := hml
    have := World.block_lt_of_cell? _ _ hm
    exact Nat.not_le.2 this
  have Hml := hide hml
  have Hlt := hide hmlt
  have Hcok := hide hcok
  have Hrow := hide hrow
  clear hml hmlt hcok hrow
  refine (callsIn_wide (n := 8)).1 ?_
  refine callsIn_of_wp_marks Tryd.func6 rfl trivial ?_ rfl
  simp only [Tryd.ntmps6, List.size_toArray, List.length_cons, List.length_nil, Nat.reduceAdd, Nat.reduceSub, Array.replicate_succ, Array.replicate_zero, List.push_toArray, List.append_toArray, List.nil_append, List.cons_append]
  refine wpIn_wide.2 ?_
  go_wp2_with fail
  obtain ⟨wR, hwR⟩ : ∃ wR, wR = W.alloc (.cells #[.bool false] 4 (0, 0)) := ⟨_, rfl⟩
  obtain ⟨rb, hrb⟩ : ∃ rb, rb = W.heap.size := ⟨_, rfl⟩
  have hbR : wR.heap[rb]? = some (.cells #[.bool false] 4 (0, 0)) := by rw [hwR, hrb]; exact blk_new _ _
  have hfR : Fr (fun _ => False) W wR := by rw [hwR]; exact (Fr.refl _ _).alloc _
  rw [← hwR, ← hrb]
  have HrbE := hide hrb
  clear hwR hrb
  refine (awake_any _ (Hml.out.frame hfR (fun e => e))).mono ?_
  rintro e w0 ⟨rfl, hf0⟩
  have hb0 := hf0.get hbR (fun e => e)
  have Hf0 := hide (hfR.trans hf0)
  have Hb0 := hide hb0
  clear hf0 hfR hbR hb0
  go_wp2_with fail
  refine (New_any w0).mono ?_
  rintro e w1 ⟨f, p1, rfl, hA1, hf1⟩
  obtain ⟨w2, hw2⟩ : ∃ w2, w2 = w1.alloc (.cells #[.pointer (some ⟨f, 0, none⟩)] 23 (0, 0)) := ⟨_, rfl⟩
  obtain ⟨fb, hfb⟩ : ∃ fb, fb = w1.heap.size := ⟨_, rfl⟩
  have hb2 : w2.heap[fb]? = some (.cells #[.pointer (some ⟨f, 0, none⟩)] 23 (0, 0)) := by rw [hw2, hfb]; exact blk_new _ _
  have hf2 : Fr (fun _ => False) w1 w2 := by rw [hw2]; exact (Fr.refl _ _).alloc _
  have hb1 := hf1.get Hb0.out (fun e => e)
  have hlt1 := blk_lt Hb0.out
  have hA2 : FilesAt w2 f newT (PaS W rb fb) p1 := by
    rw [hw2, hfb]
    exact (hA1.aside _).mono fun q hq => ⟨by have := hq.1; have := Hf0.out.size; omega, fun e => by have := hq.1; omega, hq.2⟩
  have H0 := hide (show PaIx W f rb fb 0 w2 from ⟨_, _, hA2, Good.new.mono (by decide), names_new, open_new, (((Hf0.out.trans hf1).trans hf2).mono (fun _ _ e => e.elim)), hf2.get hb1 (fun e => e), hb2⟩)
  have Hrb := hide (show W.heap.size ≤ rb ∧ rb < fb by have := hf1.size; have := HrbE.out; omega)
  clear hA1 hf1 hf2 hA2 hb1 hb2 Hf0 Hb0 hlt1
  go_upto_block 0 with fail
  rw [← hw2, ← hfb]
  clear hw2 hfb
  go_cut [] from 22 to 47 (fun wx => PaIx W f rb fb 100 wx)
  case first =>
    go_wp2_with fail
    go_loopg [22] l.length (fun gk i wr => PaRel W f rb fb l.length gk i wr)
    case atStart => exact ⟨0, by omega, by omega, rfl, H0.out⟩
    case round =>
      clear H0
      obtain ⟨k, hgk, hk100, rfl, σ, p, hP⟩ := hrel
      have Hgk := hide hgk
      clear hgk
      by_cases hlt : k < l.length
      · obtain ⟨g, o, rfl, hg, hcells⟩ := Hrow.out.resolve_left (fun e => by rw [e] at hlt; exact absurd hlt (Nat.not_lt_zero _))
        have hck := hcells k hlt
        have hok := Hcok.out l[k] (List.getElem_mem hlt)
        generalize l[k] = c at hck hok
        obtain ⟨what, n, m, kk, path, other⟩ := c
        obtain ⟨c0, c1', c2, c3, c4, c5⟩ := hck
        simp only [Nat.add_zero] at c0
        have tr : ∀ p v, W.cell? p = some v → wr.cell? p = some v := fun p v h => by
          have hb := World.block_lt_of_cell? _ _ h
          rw [World.cell?_of_block (w := W) (hP.fr.block _ hb (by omega))]; exact h
        have d0 := tr _ _ c0
        have d1 := tr _ _ c1'
        have d2 := tr _ _ c2
        have d3 := tr _ _ c3
        have d4 := tr _ _ c4
        have d5 := tr _ _ c5
        simp only [← Nat.add_assoc] at d1 d2 d3 d4 d5
        clear c0 c1' c2 c3 c4 c5 tr hcells
        by_cases h100 : k = 100
        · subst h100
          have hfin := hide (show PaIx W f rb fb 100 (wr.alloc (.cells #[.int .i64 what, .int .i64 n, .int .i64 m, .int .i64 kk, .string path, .string other] 35 (0, 0))) from
            ⟨σ, p, hP.step ((Fr.refl (fun _ => False) wr).alloc _)⟩)
          clear hP hok
          go_wp2_with fail
          go_meet
          exact hfin.out
        · obtain ⟨wa, hwa⟩ : ∃ wa, wa = wr.alloc (.cells #[.int .i64 what, .int .i64 n, .int .i64 m, .int .i64 kk, .string path, .string other] 35 (0, 0)) := ⟨_, rfl⟩
          obtain ⟨ca, hcae⟩ : ∃ ca, ca = wr.heap.size := ⟨_, rfl⟩
          have hca : wa.heap[ca]? = some (.cells #[.int .i64 what, .int .i64 n, .int .i64 m, .int .i64 kk, .string path, .string other] 35 (0, 0)) := by rw [hwa, hcae]; exact blk_new _ _
          have hfa : Fr (fun _ => False) wr wa := by rw [hwa]; exact (Fr.refl _ _).alloc _
          have hPa := hP.step hfa
          have HPa := hide (show FilesAt wa f σ (fun q => PaS W rb fb q ∧ q ≠ ca) p by rw [hwa, hcae]; exact hP.at_.aside _)
          have hcalt : rb < ca ∧ fb < ca := by rw [hcae]; exact ⟨blk_lt hP.br, blk_lt hP.bf⟩
          have Hk100 := hide (show k < 100 by omega)
          have HP := hide hPa
          have Hok := hide hok
          have Hca := hide hca
          have hbf := hPa.bf
          clear hP hok hfa hPa hca
          go_upto_region 8 with (fail)
          rw [← hwa, ← hcae]
          clear hwa hcae d0 d1 d2 d3 d4 d5
          have f0 : wa.cell? ⟨ca, 0, none⟩ = some (.int .i64 what) := by rw [blk_cell Hca.out]; rfl
          have f1 : wa.cell? ⟨ca, 1, none⟩ = some (.int .i64 n) := by rw [blk_cell Hca.out]; rfl
          have f2 : wa.cell? ⟨ca, 2, none⟩ = some (.int .i64 m) := by rw [blk_cell Hca.out]; rfl
          have f3 : wa.cell? ⟨ca, 3, none⟩ = some (.int .i64 kk) := by rw [blk_cell Hca.out]; rfl
          have f4 : wa.cell? ⟨ca, 4, none⟩ = some (.string path) := by rw [blk_cell Hca.out]; rfl
          have f5 : wa.cell? ⟨ca, 5, none⟩ = some (.string other) := by rw [blk_cell Hca.out]; rfl
          have ff : wa.cell? ⟨fb, 0, none⟩ = some (.pointer (some ⟨f, 0, none⟩)) := by rw [blk_cell hbf]; rfl
          clear hbf
          by_cases h10 : what = 10
          · subst h10
            have hnext := hide (show PaIx W f rb fb (k + 1) wa from ⟨σ, p, HP.out.at_, HP.out.good.mono (by omega), HP.out.nm, HP.out.op, HP.out.fr, HP.out.br, HP.out.bf⟩)
            clear HP
            go_wp2_with fail
            go_roundg (gk - 1)
            case measure => have := Hgk.out; omega
            case rel => exact ⟨k + 1, by have := Hgk.out; omega, Hk100.out, by go_num, hnext.out⟩
          by_cases h2 : what = 2
          · subst h2
            have hset : Fr (fun q => q = ca) wa (wa.setCell ⟨ca, 2, none⟩ (.int .i64 493)) := frSet _ _ _ _
            obtain ⟨wb, hwb⟩ : ∃ wb, wb = wa.setCell ⟨ca, 2, none⟩ (.int .i64 493) := ⟨_, rfl⟩
            have hcb : wb.heap[ca]? = some (.cells #[.int .i64 2, .int .i64 n, .int .i64 493, .int .i64 kk, .string path, .string other] 35 (0, 0)) := by rw [hwb]; exact blk_set Hca.out 2 _
            have z2 := blk_frozen Hca.out 2
            rw [← hwb] at hset
            have Hset := hide hset
            clear hset
            go_upto_region 12 with (fail)
            rw [← hwb]
            clear hwb z2 f0 f1 f2 f3 f4 f5
            have hwbA : FilesAt wb f σ (fun q => PaS W rb fb q ∧ q ≠ ca) p := by
              have h1 := HPa.out
              exact h1.frame Hset.out (fun q _ h2 e => h2.2 e)
            have ff2 : wb.cell? ⟨fb, 0, none⟩ = some (.pointer (some ⟨f, 0, none⟩)) := by rw [blk_cell (Hset.out.get HP.out.bf (by omega))]; rfl
            have hfrb : Fr (fun q => W.heap.size ≤ q) W wb := HP.out.fr.trans (Hset.out.mono fun q _ e => by rw [e]; have := Hrb.out; omega)
            have hask := hide (askL_any wb f σ _ p hwbA (Hml.out.frame hfrb Hlt.out) HP.out.good (by have := Hk100.out; omega) ⟨2, n, 493, kk, path, other⟩ ⟨Hok.out.w, Hok.out.n, (show -9223372036854775808 ≤ (493 : Int) ∧ (493 : Int) ≤ 9223372036854775807 by decide), Hok.out.k, Hok.out.path, Hok.out.other⟩)
            unfold callV at hask
            dsimp only at hask
            have f0 : wb.cell? ⟨ca, 0, none⟩ = some (.int .i64 2) := by rw [blk_cell hcb]; rfl
            have f1 : wb.cell? ⟨ca, 1, none⟩ = some (.int .i64 n) := by rw [blk_cell hcb]; rfl
            have f2 : wb.cell? ⟨ca, 2, none⟩ = some (.int .i64 493) := by rw [blk_cell hcb]; rfl
            have f3 : wb.cell? ⟨ca, 3, none⟩ = some (.int .i64 kk) := by rw [blk_cell hcb]; rfl
            have f4 : wb.cell? ⟨ca, 4, none⟩ = some (.string path) := by rw [blk_cell hcb]; rfl
            have f5 : wb.cell? ⟨ca, 5, none⟩ = some (.string other) := by rw [blk_cell hcb]; rfl
            have Hfin := hide (fun (w5 : World) (p5 : Nat → Nat) (h1 : FilesAt w5 f (askS σ ⟨2, n, 493, kk, path, other⟩) (fun q => PaS W rb fb q ∧ q ≠ ca) p5) (h2' : Fr (fun q => PaS W rb fb q ∧ q ≠ ca) wb w5) => (show PaIx W f rb fb (k + 1) w5 from ⟨_, p5, HP.out.asked (c := ⟨2, n, 493, kk, path, other⟩) (FilesAt.mono h1 fun q hq => hq.1) (Fr.trans' ((Hset.out.mono (S' := fun q => q = ca) fun q _ e => e).mono (S' := PaS W rb fb) fun q _ e => by rw [e]; have := Hrb.out; exact ⟨by omega, by omega, by omega⟩) h2' (fun q _ e => e.1)) (show (2 : Int) ≠ 10 by decide) (fun _ => rfl)⟩))
            clear hwbA hfrb hcb Hset ff
            go_wp2_with fail
            refine hask.out.mono ?_
            rintro e w5 ⟨ans, rfl, -, ⟨p5, hA5⟩, hf5⟩
            have hnext := hide (Hfin.out w5 p5 hA5 hf5)
            clear hask Hfin hA5 hf5 f0 f1 f2 f3 f4 f5 ff2 HP HPa
            unfold ansV
            go_wp2_with fail
            go_roundg (gk - 1)
            case measure => have := Hgk.out; omega
            case rel => exact ⟨k + 1, by have := Hgk.out; omega, Hk100.out, by go_num, hnext.out⟩
          · have hask := hide (askL_any wa f σ _ p HP.out.at_ (Hml.out.frame HP.out.fr Hlt.out) HP.out.good (by have := Hk100.out; omega) ⟨what, n, m, kk, path, other⟩ Hok.out)
            unfold callV at hask
            dsimp only at hask
            have Hfin := hide (fun w5 p5 h1 h2' => (show PaIx W f rb fb (k + 1) w5 from ⟨_, p5, HP.out.asked (c := ⟨what, n, m, kk, path, other⟩) h1 h2' h10 (fun e => absurd e h2)⟩))
            have b10 : (what == 10) = false := by simpa using h10
            have b2 : (what == 2) = false := by simpa using h2
            have g10 : (what != 10) = true := by simpa using h10
            have g2 : (what != 2) = true := by simpa using h2
            go_wp2_with fail
            refine hask.out.mono ?_
            rintro e w5 ⟨ans, rfl, -, ⟨p5, hA5⟩, hf5⟩
            have hnext := hide (Hfin.out w5 p5 hA5 hf5)
            clear hask Hfin hA5 hf5 f0 f1 f2 f3 f4 f5 ff HP Hca
            unfold ansV
            go_wp2_with fail
            go_roundg (gk - 1)
            case measure => have := Hgk.out; omega
            case rel => exact ⟨k + 1, by have := Hgk.out; omega, Hk100.out, by go_num, hnext.out⟩
      · have hfin := hide (show PaIx W f rb fb 100 wr from ⟨σ, p, hP.at_, hP.good.mono (by omega), hP.nm, hP.op, hP.fr, hP.br, hP.bf⟩)
        have hkI : ¬ (k : Int) < (l.length : Int) := by omega
        clear hP
        go_wp2_with fail
        go_meet
        exact hfin.out
  case rest =>
    clear H0
    obtain ⟨σ, p, hP⟩ := hcut
    have HP := hide hP
    have hbf := hP.bf
    clear hP
    go_wp2_with fail
    go_loopg [6] 220 (fun gk iv wr => PwRel wc gk iv wr)
    case atStart => exact ⟨0, by omega, by go_num, Fr.refl _ _⟩
    case round =>
      obtain ⟨m, hgm, rfl, hfr⟩ := hrel
      have Hgm := hide hgm
      have HPm := hide (HP.out.step hfr)
      have ff : wr.cell? ⟨fb, 0, none⟩ = some (.pointer (some ⟨f, 0, none⟩)) := by rw [blk_cell HPm.out.bf]; rfl
      have Hfr := hide hfr
      clear hgm hfr hbf
      by_cases hm : m < 220
      · have hmI : (m : Int) + 1 ≤ 220 := by omega
        have hpath := hide (Path_any wr f σ _ p HPm.out.at_ HPm.out.good.inv ((m : Int) + 1) (by omega))
        have hpl := pathR_len HPm.out.good.live HPm.out.good.inv ((m : Int) + 1)
        have Hpl := hide (fun h1 h2 => path_leads HPm.out.nm HPm.out.op HPm.out.good.live HPm.out.good.inv (i := (m : Int) + 1) h1 h2)
        unfold PathPost at hpath
        obtain ⟨pe, hpe⟩ : ∃ pe, pe = pathE σ ((m : Int) + 1) := ⟨_, rfl⟩
        obtain ⟨pr, hpr⟩ : ∃ pr : ByteArray, pr = ⟨(pathR σ ((m : Int) + 1)).toArray⟩ := ⟨_, rfl⟩
        have hps : pr.size ≤ 3301 := by rw [hpr]; simpa [ByteArray.size] using hpl
        have hprl : pr.data.toList = pathR σ ((m : Int) + 1) := by rw [hpr]
        rw [← hpe, ← hpr] at hpath
        rw [← hpe, ← hprl] at Hpl
        clear hpe hpr hprl hpl
        go_wp2_with fail
        refine hpath.out.mono ?_
        rintro e w3 ⟨rfl, hf3⟩
        have Hf3 := hide (Hfr.out.trans hf3)
        have ff3 : w3.cell? ⟨fb, 0, none⟩ = some (.pointer (some ⟨f, 0, none⟩)) := by rw [blk_cell (hf3.get HPm.out.bf (fun e => e))]; rfl
        by_cases hp0 : pe = 0
        · subst hp0
          have hwalk := hide (Walk_any w3 f σ _ p (HPm.out.at_.frame hf3 (fun _ _ _ e => e)) (Hml.out.frame (HPm.out.fr.trans (hf3.mono (fun _ _ e => e.elim))) Hlt.out) 1 (by decide) pr (by omega))
          clear hpath hf3 ff
          by_cases hl : pr.size ≤ 256
          · obtain ⟨h1, h2⟩ := Hpl.out rfl (by rw [ba_len]; exact hl)
            rw [h1, if_pos rfl, show (((m : Int) + 1).toNat : Int) = (m : Int) + 1 by omega] at hwalk
            have hlI : (pr.size : Int) ≤ 256 := by omega
            clear Hpl h1 h2
            go_wp2_with fail
            refine hwalk.out.mono ?_
            rintro e w4 ⟨rfl, hf4⟩
            have Hf4 := hide (Hf3.out.trans hf4)
            clear hwalk hf4
            go_wp2_with fail
            go_roundg (gk - 1)
            case measure => have := Hgm.out; omega
            case rel => exact ⟨m + 1, by have := Hgm.out; omega, by go_num, Hf4.out⟩
          · have hlI : ¬ (pr.size : Int) ≤ 256 := by omega
            obtain ⟨q, hq⟩ : ∃ q, q = walkE σ 1 pr.data.toList := ⟨_, rfl⟩
            rw [← hq] at hwalk
            obtain ⟨q1, q2⟩ := q
            obtain ⟨q3, hq3⟩ : ∃ q3 : Int, q3 = if q1 = 0 then (q2 : Int) else 0 := ⟨_, rfl⟩
            simp only at hwalk
            rw [← hq3] at hwalk
            clear Hpl hq hq3
            go_wp2_with fail
            refine hwalk.out.mono ?_
            rintro e w4 ⟨rfl, hf4⟩
            have Hf4 := hide (Hf3.out.trans hf4)
            clear hwalk hf4
            go_wp2_with fail
            go_roundg (gk - 1)
            case measure => have := Hgm.out; omega
            case rel => exact ⟨m + 1, by have := Hgm.out; omega, by go_num, Hf4.out⟩
        · clear hpath hf3 ff Hpl
          go_wp2_with fail
          go_roundg (gk - 1)
          case measure => have := Hgm.out; omega
          case rel => exact ⟨m + 1, by have := Hgm.out; omega, by go_num, Hf3.out⟩
      · obtain rfl : m = 220 := by have := Hgm.out; omega
        clear hm
        obtain ⟨w4, hw4⟩ : ∃ w4, w4 = wr.alloc (.cells #[.string ⟨#[]⟩] 9 (0, 0)) := ⟨_, rfl⟩
        obtain ⟨lb, hlb⟩ : ∃ lb, lb = wr.heap.size := ⟨_, rfl⟩
        have hf4 : Fr (fun _ => False) wr w4 := by rw [hw4]; exact (Fr.refl _ _).alloc _
        have hb4 : w4.heap[lb]? = some (.cells #[.string ⟨#[]⟩] 9 (0, 0)) := by rw [hw4, hlb]; exact blk_new _ _
        have hz4 : w4.heap.size = lb + 1 := by rw [hw4, hlb]; simp
        have ff4 : w4.cell? ⟨fb, 0, none⟩ = some (.pointer (some ⟨f, 0, none⟩)) := by rw [blk_cell (hf4.get HPm.out.bf (fun e => e))]; rfl
        have Htr := hide (Tree_some f w4)
        have hfl : fb < lb := by rw [hlb]; exact blk_lt HPm.out.bf
        have hrl : rb < lb := by rw [hlb]; exact blk_lt HPm.out.br
        go_upto_region 23 with (fail)
        rw [← hw4, ← hlb]
        have Hwr := hide (show wr.heap.size = lb from hlb.symm)
        clear hw4 hlb ff
        go_wp2_with fail
        refine Htr.out.mono ?_
        rintro e w5' ⟨rfl, rfl⟩
        clear Htr
        obtain ⟨w5, hw5⟩ : ∃ w5, w5 = w4.alloc (.cells #[.pointer (some ⟨f, 0, none⟩)] 23 (0, 0)) := ⟨_, rfl⟩
        have hf5 : Fr (fun _ => False) w4 w5 := by rw [hw5]; exact (Fr.refl _ _).alloc _
        have hb5 : w5.heap[lb + 1]? = some (.cells #[.pointer (some ⟨f, 0, none⟩)] 23 (0, 0)) := by rw [hw5, ← hz4]; exact blk_new _ _
        have hz5 : w5.heap.size = lb + 2 := by rw [hw5]; simp [hz4]
        have hl5 := hf5.get hb4 (fun e => e)
        have HA5 := hide (HPm.out.at_.aparts (hf4.trans hf5))
        have HP5 := hide ((HPm.out.step hf4).step hf5)
        rw [hz4, ← hw5]
        clear hf4 hf5 hb4 ff4 hw5
        go_wp2_with fail
        obtain ⟨L, hLe⟩ : ∃ L, Hid (L = treeL σ) := ⟨_, hide rfl⟩
        have hI0 : PtI w5 lb L 0 (fun k => k < w5.heap.size + 2) w5 := ⟨fun k hk => hk, ⟨_, hl5, by decide, .inl rfl⟩, Fr.refl _ _⟩
        clear hl5
        refine (wpIn_wide (n := 8)).1 ?_
        refine rf_law3b (α := EntQ) (σ := Nat) (q := 80) 45 #[.pointer (some ⟨lb + 1, 0, none⟩)] rfl (enters_of Tryd.func45 (by kernel_rfl) rfl) entV (fun x => #[.string (baL x.path), .int .i64 x.kind, .int .i64 x.mode, .string (baL x.data)]) 56 12
          (FStep L) (FFin L) 0 (PtI w5 lb L) (fun _ _ _ => False)
          (fun s A X Y h1 hf => h1.frame (by omega) hf) ?hImono (fun _ _ _ _ h _ => h) (fun _ _ _ _ h _ => h) hI0 ?hiter ?assign ?body ?done ?stop
        case hImono =>
          rintro s A A' X h1 hA
          exact ⟨fun k hk => hA _ (h1.lo k hk), h1.bl, h1.fr⟩
        case hiter =>
          intro l' J' Jx' W' hJI' hJf' hJxf' hJA' hY' h0'
          obtain rfl := hLe.out
          refine ftree1_iter (f := f) (S := fun k => PaS W rb fb k ∧ ¬ (wr.heap.size ≤ k ∧ k < w5.heap.size)) (p := p) HP5.out.good.inv (HP5.out.good.b (by decide)) (8 - 1) (lb + 1) (PtI w5 lb (treeL σ)) ?_ l' J' Jx' W' hJI' hJf' hJxf' hJA' hY' h0'
          intro s A X h1
          exact ⟨HA5.out.frame h1.fr (fun k hk h2 e => h2.2 ⟨by rw [Hwr.out]; omega, hk⟩), by rw [blk_cell (h1.fr.get hb5 (by omega))]; rfl⟩
        case assign =>
          rintro l' s A x s' X K _ _ hsz hK
          have hK := hide hK
          simp only [entV]
          gi_wp2
          exact hK.out _ _ ((Fr.refl _ _).alloc _) hsz (blk_new _ _)
        case body =>
          rintro l' s A x s' xb X ⟨hlt, hxx, rfl⟩ ⟨lo, ⟨t, k1, k2, k3⟩, fr⟩ hxb g12 hsz hA0 hA1
          have hAX := HA5.out.frame fr (fun k hk h2 e => h2.2 ⟨by rw [Hwr.out]; omega, hk⟩)
          have hPf := HP5.out
          have hxL : x ∈ treeL σ := by rw [← hLe.out, hxx]; exact List.getElem_mem hlt
          have hlead := treeL_leads hPf.nm hPf.op hPf.good.live hPf.good.inv x hxL
          have hfrX : Fr (fun q => W.heap.size ≤ q) W X := hPf.fr.trans (fr.mono fun q _ e => by rw [e]; have := Hrb.out; omega)
          have c0 : X.cell? ⟨xb, 0, none⟩ = some (.string (baL x.path)) := by rw [blk_cell g12]; rfl
          by_cases hlen : (baL x.path).size ≤ 256
          · obtain ⟨k, m, h1, h2, h3, h4, h5⟩ := entry_walk hPf.good.live hlead hlen
            have hpn : x.path ≠ [] := by obtain ⟨_, _, _, _, _, _, _, h6, _⟩ := hlead; exact h6
            have hwalk := Walk_any X f σ _ p hAX (Hml.out.frame hfrX Hlt.out) 1 (by decide) (baL x.path) (by omega)
            rw [show (baL x.path).data.toList = x.path from rfl, h1, if_pos rfl] at hwalk
            have Hwalk := hide hwalk
            have hstat : ∀ w', Fr (fun _ => False) X w' → _ := fun w' hf => Stat_any w' f σ _ p (hAX.frame hf (fun _ _ _ e => e)) (hPf.good.b (by decide)) k (by have := FSt.nd_lt (show (σ.nd k).isSome = true by rw [h2]; rfl); have := hPf.good.live.len; omega)
            have hnI : σ.ndI k = some m := ndI_nat h2
            rw [show statE σ k = 0 by unfold statE; rw [hnI]] at hstat
            have hbef : bef t.data.toList x.path = true := by
              rcases k3 with e | ⟨j, hj, hjs, e⟩
              · rw [e]; exact bef_nil hpn
              · rw [e, hxx]
                have hpw := treeL_order hPf.nm hPf.good.live hPf.good.inv
                rw [← hLe.out] at hpw
                exact List.pairwise_iff_getElem.1 hpw j s hj hlt hjs
            have hbc := fun w' => before_any w' t (baL x.path) (by omega) (by omega)
            rw [show (baL x.path).data.toList = x.path from rfl, hbef] at hbc
            obtain ⟨sk, hsk⟩ : ∃ sk, sk = statT σ k := ⟨_, rfl⟩
            have hsk2 : sk.kind = x.kind ∧ sk.mode = x.mode ∧ (x.kind = 1 → sk.size = (baL x.data).size) := by
              rw [hsk]
              unfold statT
              rw [hnI]
              refine ⟨by rw [h3]; rfl, h4.symm, fun e => ?_⟩
              have hmd : m.d = false := by
                rw [h3] at e
                unfold kindN at e
                cases hd : m.d with
                | false => rfl
                | true => rw [hd] at e; cases e
              show (m.data.length : Int) + (m.ents.length : Int) = _
              rw [hPf.good.inv.file k m h2 hmd, h5]
              simp [baL, ByteArray.size]
            rw [← hsk] at hstat
            obtain ⟨s0, s1, s2, s3, s4⟩ := sk
            simp only at hsk2
            obtain ⟨e1, e2, e3⟩ := hsk2
            subst e1 e2
            simp only [stV] at hstat
            have Hstat := hide hstat
            have Hbc := hide hbc
            have c1 : ∀ w', Fr (fun _ => False) X w' → w'.cell? ⟨xb, 1, none⟩ = some (.int .i64 x.kind) ∧ w'.cell? ⟨xb, 2, none⟩ = some (.int .i64 x.mode) ∧ w'.cell? ⟨xb, 3, none⟩ = some (.string (baL x.data)) ∧ w'.cell? ⟨xb, 0, none⟩ = some (.string (baL x.path)) ∧ w'.cell? ⟨fb, 0, none⟩ = some (.pointer (some ⟨f, 0, none⟩)) ∧ w'.cell? ⟨lb, 0, none⟩ = some (.string t) ∧ w'.frozen? ⟨lb, 0, none⟩ = false := fun w' hf => by
              have hg := hf.get g12 (fun e => e)
              have hl := hf.get k1 (fun e => e)
              have hb := hf.get (fr.get hPf.bf (by omega)) (fun e => e)
              exact ⟨by rw [blk_cell hg]; rfl, by rw [blk_cell hg]; rfl, by rw [blk_cell hg]; rfl, by rw [blk_cell hg]; rfl, by rw [blk_cell hb]; rfl, by rw [blk_cell hl]; rfl, blk_frozen hl 0⟩
            have C1 := hide c1
            obtain ⟨_, _, _, _, ff, _, _⟩ := c1 X (Fr.refl _ _)
            have Hfin := hide (show ∀ w', Fr (fun _ => False) X w' → rfPost3 w5.heap.size A (PtI w5 lb L) (fun _ _ _ => False) (s + 1) X .normal ⟨#[], []⟩ (w'.setCell ⟨lb, 0, none⟩ (.string (baL x.path))) from fun w' hf => by
              have hl := hf.get k1 (fun e => e)
              have hset := frSet w' lb 0 (.string (baL x.path))
              have hno : ∀ k, k ≠ lb → (w'.setCell ⟨lb, 0, none⟩ (.string (baL x.path))).heap[k]? = w'.heap[k]? := fun k hk => Below.heap_setCell _ _ _ _ hk
              refine ⟨⟨?_, ?_⟩, (hf.mono (fun _ _ e => e.elim)).trans (hset.mono fun q _ e => e ▸ lo _ (by omega)), fun k hk => .inl (lo k hk), ⟨baL x.path, ?_, hlen, .inr ⟨s, hlt, by omega, ?_⟩⟩, ?_⟩
              · rw [hno _ (by omega)]; exact hf.block _ (by omega) (fun e => e)
              · rw [hno _ (by omega)]; exact hf.block _ (by omega) (fun e => e)
              · rw [blk_set hl]; rfl
              · rw [← hxx]; rfl
              · exact (fr.trans (hf.mono (fun _ _ e => e.elim))).trans hset)
            have hl256 : ¬ (256 : Int) < ((baL x.path).size : Int) := by omega
            have E3 := hide e3
            have hkd : x.kind = 1 ∨ x.kind = 2 := by rw [h3]; unfold kindN; split <;> simp
            clear k1 k2 k3 fr hxx hAX hPf hxL hlead hfrX g12 hxb hA0 hA1 lo h1 h2 h3 h4 h5 hpn hwalk hstat hnI hbef hbc hsk e3 c1 hlt
            generalize baL x.path = bp at *
            generalize baL x.data = bd at *
            generalize x.kind = xk at *
            generalize x.mode = xm at *
            rcases hkd with rfl | rfl
            · have e4 := E3.out rfl
              subst e4
              gi_wp2_with (refine ⟨trivial, ?_⟩; first
                | (gi_at_call 24; refine (CallsIn.inRound l' (callsIn_wide.2 Hwalk.out)).mono ?_; rintro e w6 ⟨rfl, hf6⟩; obtain ⟨g1, g2, g3, g4, g5, g6, g7⟩ := C1.out w6 hf6)
                | (gi_at_call 21; refine (CallsIn.inRound l' (callsIn_wide.2 (Hstat.out _ (by assumption)))).mono ?_; rintro e w7 ⟨rfl, hf7⟩; have hf7 := Fr.trans hf6 hf7; have hf8 : Fr (fun _ => False) X (w7.alloc (.cells #[.int .i64 s0, .int .i64 1, .int .i64 xm, .int .i64 s3, .int .i64 bd.size] 37 (0, 0))) := hf7.alloc _; obtain ⟨j1, j2, j3, j4, j5, j6, j7⟩ := C1.out _ hf8)
                | (gi_at_call 26; refine (CallsIn.inRound l' (callsIn_wide.2 (Hbc.out _))).mono ?_; rintro e w9 ⟨rfl, hf9⟩; have hf9 := Fr.trans hf8 hf9; obtain ⟨q1, q2, q3, q4, q5, q6, q7⟩ := C1.out _ hf9))
              exact Hfin.out w9 hf9
            · clear E3
              gi_wp2_with (refine ⟨trivial, ?_⟩; first
                | (gi_at_call 24; refine (CallsIn.inRound l' (callsIn_wide.2 Hwalk.out)).mono ?_; rintro e w6 ⟨rfl, hf6⟩; obtain ⟨g1, g2, g3, g4, g5, g6, g7⟩ := C1.out w6 hf6)
                | (gi_at_call 21; refine (CallsIn.inRound l' (callsIn_wide.2 (Hstat.out _ (by assumption)))).mono ?_; rintro e w7 ⟨rfl, hf7⟩; have hf7 := Fr.trans hf6 hf7; have hf8 : Fr (fun _ => False) X (w7.alloc (.cells #[.int .i64 s0, .int .i64 2, .int .i64 xm, .int .i64 s3, .int .i64 s4] 37 (0, 0))) := hf7.alloc _; obtain ⟨j1, j2, j3, j4, j5, j6, j7⟩ := C1.out _ hf8)
                | (gi_at_call 26; refine (CallsIn.inRound l' (callsIn_wide.2 (Hbc.out _))).mono ?_; rintro e w9 ⟨rfl, hf9⟩; have hf9 := Fr.trans hf8 hf9; obtain ⟨q1, q2, q3, q4, q5, q6, q7⟩ := C1.out _ hf9))
              exact Hfin.out w9 hf9
          · have hl256 : (256 : Int) < ((baL x.path).size : Int) := by omega
            have Hfin := hide (show rfPost3 w5.heap.size A (PtI w5 lb L) (fun _ _ _ => False) (s + 1) X .normal ⟨#[], []⟩ X from
              ⟨⟨rfl, rfl⟩, Fr.refl _ _, fun k hk => .inl (lo k hk), ⟨t, k1, k2, k3.imp id fun ⟨j, hj, h1, h2⟩ => ⟨j, hj, by omega, h2⟩⟩, fr⟩)
            clear k1 k2 k3 fr hxx hAX hPf hxL hlead hfrX g12
            gi_wp2
            exact Hfin.out
        case done =>
          rintro s A X hfin ⟨lo, ⟨t, k1, k2, k3⟩, fr⟩ hK
          have hbr := fr.get HP5.out.br (by omega)
          have cb : X.cell? ⟨rb, 0, none⟩ = some (.bool false) := by rw [blk_cell hbr]; rfl
          have zb := blk_frozen hbr 0
          have hfrX : Fr (fun q => W.heap.size ≤ q) W X := HP5.out.fr.trans (fr.mono fun q _ e => by rw [e]; have := Hrb.out; omega)
          have hset : Fr (fun k => W.heap.size ≤ k) W (X.setCell ⟨rb, 0, none⟩ (.bool true)) := hfrX.setCell (p := ⟨rb, 0, none⟩) (.inl Hrb.out.1) _
          have hput := fr_putObj (S := fun k => W.heap.size ≤ k) (W := X.setCell ⟨rb, 0, none⟩ (.bool true)) (r := w5.heap.size) (.deferred none) (by have := Hrb.out; omega)
          have Hall := hide (hset.trans hput)
          have hc4 : ((X.setCell ⟨rb, 0, none⟩ (.bool true)).putObj w5.heap.size (.deferred none)).cell? ⟨rb, 0, none⟩ = some (.bool true) := by
            rw [blk_cell (t := 4) (f := (0, 0)) (c := #[.bool true])]
            · rfl
            · rw [World.putObj_heap_other (by omega), blk_set hbr]
              rfl
          have HK := hide (blk_set_other hK ⟨rb, 0, none⟩ (.bool true) (by simp; omega))
          have Hc4 := hide hc4
          clear hset hput hfrX hbr k1 k3 lo fr hfin hK hc4
          go_wp2
          refine ⟨by simp, .inl ⟨_, _, rfl, run_takeDeferred HK.out, ?_⟩⟩
          refine ⟨.bool true, ?_, rfl, Hall.out.below (fun i hi e => by omega)⟩
          simp [results, Tryd.results6, go_sem, Hc4.out]
        case stop =>
          rintro c A W h9 _
          exact h9.elim
end Go.Proofs.YthikjdpnlahkfaaDoor
