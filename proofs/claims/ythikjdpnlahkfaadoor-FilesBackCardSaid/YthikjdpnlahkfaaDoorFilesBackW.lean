/- The walk of FilesBack: it returns true and leaves old memory as it was. Conditions: what the parameters are; the library's own variable. -/
import Derived.Test.YthikjdpnlahkfaaDoorFilesBackL
import Derived.Test.YthikjdpnlahkfaaDoorFilesKeepsL
import Derived.Test.YthikjdpnlahkfaaDoorFilesCall
import Derived.Test.YthikjdpnlahkfaaDoorFilesT
import Derived.Deep.CutBlock
import Derived.Deep.DeepCutAuto
namespace Go.Proofs.YthikjdpnlahkfaaDoor
open Go.RowKit

theorem EntRow.frame2 {w w' : World} {base lo hi : Nat} {v : Value} {L : List EntQ} {T : Nat → Prop} (h : EntRow w base v L) (hb : ∀ g, v.ownBlock = some g → lo ≤ g ∧ g < hi) (hf : Fr T w w') (hn : ∀ q, lo ≤ q → q < hi → ¬ T q) : EntRow w' base v L :=
  own_frame h hf fun g e => hn g (hb g e).1 (hb g e).2
def szzz : ByteArray := ⟨#[122, 122, 122]⟩
def BkI (W : World) (f : Nat) (k : Nat) (wr : World) : Prop := ∃ σ p, FilesAt wr f σ (fun q => W.heap.size ≤ q) p ∧ Good σ (1 + 2 * k) ∧ Fr (fun q => W.heap.size ≤ q) W wr
def BkRel (W : World) (f : Nat) (len gk : Nat) (i : Value) (wr : World) : Prop := ∃ k, gk + k = len ∧ k ≤ 60 ∧ i = .int .i64 k ∧ BkI W f k wr
def SlRel (s : ByteArray) (w : World) (gk : Nat) (i : Value) (wr : World) : Prop := ∃ k, gk + k = s.size ∧ i = .int .i64 k ∧ (∀ j (h : j < s.data.toList.length), j < k → s.data.toList[j] ≠ slashB) ∧ w = wr
set_option maxRecDepth 100000 in
set_option maxHeartbeats 8000000 in
theorem fback_walk (a : Option Addr) (len cap : Nat) (fs : ByteArray) (W : World) (hml : Ml W) (hc : CallRowN W a len) (hfs : fs.size ≤ 9223372036854775807) :
    Calls Tryd.prog 7 #[.slice a len cap, .string fs] W (LawPost W) := by
  obtain ⟨l, rfl, hlen, hcok, hrow⟩ := hc
  have hmlt : ¬ W.heap.size ≤ Tryd.laysSplit_ren.g 1 := by
    obtain ⟨m, hm⟩ := hml
    have := World.block_lt_of_cell? _ _ hm
    exact Nat.not_le.2 this
  have Hml := hide hml
  have Hlt := hide hmlt
  have Hcok := hide hcok
  have Hrow := hide hrow
  clear hml hmlt hcok hrow
  go_enter Tryd.func7, Tryd.ntmps7
  go_wp2_with fail
  refine (awake_any _ Hml.out).mono ?_
  rintro e w0 ⟨rfl, hf0⟩
  have Hf0 := hide hf0
  clear hf0
  go_wp2_with fail
  refine (New_any w0).mono ?_
  rintro e w1 ⟨f, p1, rfl, hA1, hf1⟩
  have hA1 := hA1.mono (S' := fun q => W.heap.size ≤ q) (fun k hk => Nat.le_trans Hf0.out.size hk)
  have hg1 : Fr (fun k => W.heap.size ≤ k) W w1 := (Hf0.out.mono (fun _ _ e => e.elim)).trans (hf1.mono (fun _ _ e => e.elim))
  have H0 := hide (show BkI W f 0 w1 from ⟨_, _, hA1, Good.new.mono (by decide), hg1⟩)
  clear hA1 hf1 hg1
  go_upto_block 0 with fail
  go_cut [] (fun wx => BkI W f 60 wx)
  case first =>
    go_wp2_with fail
    go_loopg [17] l.length (fun gk i wr => BkRel W f l.length gk i wr)
    case atStart => exact ⟨0, by omega, by omega, rfl, H0.out⟩
    case round =>
      clear H0
      obtain ⟨k, hgk, hk100, rfl, σ, p, hA, hG, hfr⟩ := hrel
      have Hgk := hide hgk
      clear hgk
      by_cases hlt : k < l.length
      · obtain ⟨g, o, rfl, hg, hcells⟩ := Hrow.out.resolve_left (fun e => by rw [e] at hlt; exact absurd hlt (Nat.not_lt_zero _))
        have hck := hcells k hlt
        have hok := Hcok.out l[k] (List.getElem_mem hlt)
        generalize l[k] = c at hck hok
        obtain ⟨what, n, m, kk, path, other⟩ := c
        obtain ⟨c0, c1', c2, c3, c4, c5⟩ := hck
        simp only [Nat.add_zero] at c0
        have tr : ∀ p v, W.cell? p = some v → wr.cell? p = some v := fun p v h => by
          have hb := World.block_lt_of_cell? _ _ h
          rw [World.cell?_of_block (w := W) (hfr.block _ hb (by omega))]; exact h
        have d0 := tr _ _ c0
        have d1 := tr _ _ c1'
        have d2 := tr _ _ c2
        have d3 := tr _ _ c3
        have d4 := tr _ _ c4
        have d5 := tr _ _ c5
        simp only [← Nat.add_assoc] at d1 d2 d3 d4 d5
        clear c0 c1' c2 c3 c4 c5 tr hcells
        by_cases h100 : k = 60
        · subst h100
          have hfin := hide (show BkI W f 60 (wr.alloc (.cells #[.int .i64 what, .int .i64 n, .int .i64 m, .int .i64 kk, .string path, .string other] 35 (0, 0))) from
            ⟨σ, p, hA.frame ((Fr.refl (fun _ => False) wr).alloc _) (fun _ _ _ e => e), hG, hfr.alloc _⟩)
          clear hA hG hfr hok
          go_wp2_with fail
          go_meet
          exact hfin.out
        · obtain ⟨wa, hwa⟩ : ∃ wa, wa = wr.alloc (.cells #[.int .i64 what, .int .i64 n, .int .i64 m, .int .i64 kk, .string path, .string other] 35 (0, 0)) := ⟨_, rfl⟩
          obtain ⟨ca, hcae⟩ : ∃ ca, ca = wr.heap.size := ⟨_, rfl⟩
          have hca : wa.heap[ca]? = some (.cells #[.int .i64 what, .int .i64 n, .int .i64 m, .int .i64 kk, .string path, .string other] 35 (0, 0)) := by rw [hwa, hcae]; exact blk_new _ _
          have hfa : Fr (fun _ => False) wr wa := by rw [hwa]; exact (Fr.refl _ _).alloc _
          have hAa := hA.frame hfa (fun _ _ _ e => e)
          have hfra := hfr.trans (hfa.mono (fun _ _ e => e.elim))
          have Hk100 := hide (show k < 60 by omega)
          have hask := hide (askL_any wa f σ _ p hAa (Hml.out.frame hfra Hlt.out) hG (by omega) ⟨what, n, m, kk, path, other⟩ hok)
          unfold callV at hask
          dsimp only at hask
          have Hfin := hide (show ∀ (wx : World) p', FilesAt wx f (askS σ ⟨what, n, m, kk, path, other⟩) (fun q => W.heap.size ≤ q) p' → Fr (fun q => W.heap.size ≤ q) wa wx → BkI W f (k + 1) wx from fun wx p' h1 h2 =>
            ⟨_, p', h1, ((hG.ask ⟨what, n, m, kk, path, other⟩).good h1.live).mono (by omega), hfra.trans h2⟩)
          have f0 : wa.cell? ⟨ca, 0, none⟩ = some (.int .i64 what) := by rw [blk_cell hca]; rfl
          have f1 : wa.cell? ⟨ca, 1, none⟩ = some (.int .i64 n) := by rw [blk_cell hca]; rfl
          have f2 : wa.cell? ⟨ca, 2, none⟩ = some (.int .i64 m) := by rw [blk_cell hca]; rfl
          have f3 : wa.cell? ⟨ca, 3, none⟩ = some (.int .i64 kk) := by rw [blk_cell hca]; rfl
          have f4 : wa.cell? ⟨ca, 4, none⟩ = some (.string path) := by rw [blk_cell hca]; rfl
          have f5 : wa.cell? ⟨ca, 5, none⟩ = some (.string other) := by rw [blk_cell hca]; rfl
          clear hA hG hfr hok hfa hAa hfra hca
          go_upto_region 8 with (fail)
          rw [← hwa, ← hcae]
          clear hwa hcae d0 d1 d2 d3 d4 d5
          go_wp2_with fail
          refine hask.out.mono ?_
          rintro e w5 ⟨ans, rfl, -, ⟨p5, hA5⟩, hf5⟩
          have hnext := hide (Hfin.out w5 p5 hA5 hf5)
          clear hask Hfin hA5 hf5 f0 f1 f2 f3 f4 f5
          unfold ansV
          go_wp2_with fail
          go_roundg (gk - 1)
          case measure => have := Hgk.out; omega
          case rel => exact ⟨k + 1, by have := Hgk.out; omega, Hk100.out, by go_num, hnext.out⟩
      · have hfin := hide (show BkI W f 60 wr from ⟨σ, p, hA, hG.mono (by omega), hfr⟩)
        have hkI : ¬ (k : Int) < (l.length : Int) := by omega
        clear hA hG hfr
        go_wp2_with fail
        go_meet
        exact hfin.out
  case rest =>
    clear H0
    obtain ⟨σ, p, hA, hG, hfr⟩ := hcut
    have HG := hide hG
    have HA := hide hA
    have Hfr := hide hfr
    have hc1 : Caps σ 1000000 := hG.caps.mono (by omega)
    have hcount := treeL_count hG.inv hG.live hc1
    have Hcount := hide hcount
    have Hc1 := hide hc1
    have htree := hide (tree_any wc f σ _ p hA hG.inv hc1)
    clear hA hG hfr hc1 hcount
    go_wp2_with fail
    refine htree.out.mono ?_
    rintro e w2 ⟨rv, rfl, hrv, hf2⟩
    have HA2 := hide (HA.out.aparts hf2)
    have Hf2 := hide (Hfr.out.trans (hf2.mono (fun _ _ e => e.elim)))
    have Hrv := hide hrv
    have Hrb := hide (show ∀ g, rv.ownBlock = some g → wc.heap.size ≤ g ∧ g < w2.heap.size from fun g e => hrv.lt g e)
    have hsz := Hfr.out.size
    have hml2 := Hml.out.frame Hf2.out Hlt.out
    have hwalk := hide (Walk_any w2 f σ _ p HA2.out hml2 1 (by decide) szzz (by decide))
    rw [show szzz.data.toList = zzz from rfl] at hwalk
    have Hml2 := hide hml2
    clear htree hrv hf2 HA Hfr hml2
    obtain ⟨wE, hwE⟩ : ∃ wE, wE = (walkE σ 1 zzz).1 := ⟨_, rfl⟩
    obtain ⟨wN, hwN⟩ : ∃ wN : Int, wN = (if (walkE σ 1 zzz).1 = 0 then ((walkE σ 1 zzz).2 : Int) else 0) := ⟨_, rfl⟩
    rw [← hwN, ← hwE] at hwalk
    have HwE := hide hwE
    clear hwN hwE
    go_wp2_with fail
    refine hwalk.out.mono ?_
    rintro e w3 ⟨rfl, hf3⟩
    have HA3 := hide (HA2.out.frame hf3 (fun _ _ _ e => e))
    have Hrv3 := hide (Hrv.out.frame hf3 (fun _ _ _ e => e))
    have Hf3 := hide (Hf2.out.trans (hf3.mono (fun _ _ e => e.elim)))
    have hout := hide (show LawPost W (.returned (.bool true)) w3 from ⟨rfl, Hf3.out.below (fun i hi e => by omega)⟩)
    clear hwalk HA2 Hrv Hml2 Hf2 hf3
    by_cases hE2 : wE = 2
    · subst hE2
      go_wp2_with fail
      go_loopg [11] fs.size (fun gk i wr => SlRel fs w3 gk i wr)
      case atStart => exact ⟨0, by omega, rfl, fun j _ h => absurd h (Nat.not_lt_zero j), rfl⟩
      case round =>
        obtain ⟨k, hgk, rfl, hns, rfl⟩ := hrel
        have Hgk := hide hgk
        have Hns := hide hns
        clear hgk hns
        by_cases hlt : k < fs.size
        · have hkI : (k : Int) < (fs.size : Int) := by omega
          have hk0 : (0 : Int) ≤ (k : Int) := by omega
          go_wp2_with fail
          · go_ret
            exact hout.out
          · rename_i h47
            go_roundg (gk - 1)
            case measure => have := Hgk.out; omega
            case rel =>
              refine ⟨k + 1, by have := Hgk.out; omega, by go_num, fun j hj hjk => ?_, rfl⟩
              by_cases e : j < k
              · exact Hns.out j hj e
              · obtain rfl : j = k := by omega
                intro e2
                have e3 : fs[j] = slashB := e2
                rw [e3] at h47
                exact absurd h47 (by decide)
        · have hke : k = fs.size := by have := Hgk.out; omega
          have hnosl : NoSl fs.data.toList := fun c hc => by
            obtain ⟨j, hj, rfl⟩ := List.getElem_of_mem hc
            exact Hns.out j hj (by rw [ba_len] at hj; omega)
          have Hnosl := hide hnosl
          have hkI : ¬ (k : Int) < (fs.size : Int) := by omega
          have hml3 := Hml.out.frame Hf3.out Hlt.out
          have hren := hide (Rename_any w3 f σ _ p HA3.out hml3 HG.out.inv (HG.out.b (by decide)) 1 (by decide) fs szzz hfs (by decide))
          rw [show szzz.data.toList = zzz from rfl] at hren
          clear Hns hke hnosl hml3 hout
          by_cases hr0 : (renR σ 1 fs.data.toList zzz).1 = 0
          · obtain ⟨u1, u2⟩ := rename_back HG.out.live HG.out.inv HwE.out.symm Hnosl.out hr0
            have HG4 : Hid (∀ w, FilesAt w f (renR σ 1 fs.data.toList zzz).2 (fun k => W.heap.size ≤ k ∧ ¬ (wc.heap.size ≤ k ∧ k < w2.heap.size)) p → Good (renR σ 1 fs.data.toList zzz).2 (1 + 2 * 60 + 1)) := hide fun w h => (HG.out.ren 1 fs.data.toList zzz).good h.live
            have Hu1 := hide u1
            have Hu2 := hide u2
            rw [hr0] at hren
            clear u1 u2 hr0
            go_wp2_with fail
            refine hren.out.mono ?_
            rintro e w4 ⟨rfl, hA4, hf4⟩
            have Hf4 := hide (Hf3.out.trans (hf4.mono (fun _ _ e => e.1)))
            have hml4 := Hml.out.frame Hf4.out Hlt.out
            have hG4 := HG4.out w4 hA4
            have hren2 := hide (Rename_any w4 f _ _ p hA4 hml4 hG4.inv (hG4.b (by decide)) 1 (by decide) szzz fs (by decide) hfs)
            rw [show szzz.data.toList = zzz from rfl, Hu1.out, Hu2.out] at hren2
            have Hrv4 := hide (Hrv3.out.frame2 Hrb.out hf4 (fun q h1 h2 e => e.2 ⟨h1, h2⟩))
            clear hren hA4 hf4 hml4 hG4 Hrv3 HA3 Hf3 HG4
            go_wp2_with fail
            refine hren2.out.mono ?_
            rintro e w5 ⟨rfl, hA5, hf5⟩
            have htree := hide (tree_any w5 f σ _ p hA5 HG.out.inv Hc1.out)
            have HA5 := hide hA5
            have Hf5 := hide (Hf4.out.trans (hf5.mono (fun _ _ e => e.1)))
            have Hrv5 := hide (Hrv4.out.frame2 Hrb.out hf5 (fun q h1 h2 e => e.2 ⟨h1, h2⟩))
            clear hren2 hA5 hf5 Hrv4 Hf4
            go_wp2_with fail
            refine htree.out.mono ?_
            rintro e w6 ⟨rv6, rfl, hrv6, hf6⟩
            have hsame := hide (same_any w6 w5.heap.size wc.heap.size rv6 rv (treeL σ) hrv6 (Hrv5.out.frame hf6 (fun _ _ _ e => e)) (by have := Hcount.out; omega))
            have HA6 := hide (HA5.out.frame hf6 (fun _ _ _ e => e))
            have Hf6 := hide (Hf5.out.trans (hf6.mono (fun _ _ e => e.elim)))
            clear htree hrv6 hf6 Hrv5 Hf5 HA5
            go_wp2_with fail
            refine hsame.out.mono ?_
            rintro e w7 ⟨rfl, hf7⟩
            have HA7 := hide (HA6.out.frame hf7 (fun _ _ _ e => e))
            have Hf7 := hide (Hf6.out.trans (hf7.mono (fun _ _ e => e.elim)))
            clear hsame hf7 HA6 Hf6
            have htree := hide (tree_any w7 f σ _ p HA7.out HG.out.inv Hc1.out)
            go_wp2_with fail
            refine htree.out.mono ?_
            rintro e w10 ⟨rw10, rfl, hrv10, hf10⟩
            have HA10 := hide (HA7.out.aparts hf10)
            have Hf10 := hide (Hf7.out.trans (hf10.mono (fun _ _ e => e.elim)))
            have Hrv10 := hide hrv10
            have Hrb10 := hide (show ∀ g, rw10.ownBlock = some g → w7.heap.size ≤ g ∧ g < w10.heap.size from fun g e => hrv10.lt g e)
            have hml10 := Hml.out.frame Hf10.out Hlt.out
            have hlink := hide (Link_any w10 f σ _ p HA10.out hml10 (HG.out.b (by decide)) 1 (by decide) fs szzz hfs (by decide))
            rw [show szzz.data.toList = zzz from rfl] at hlink
            by_cases hl0 : (linkR σ 1 fs.data.toList zzz).1 = 0
            · obtain ⟨u1, u2⟩ := link_off HG.out.live HG.out.inv HwE.out.symm hl0
              have HG11 : Hid (∀ w, FilesAt w f (linkR σ 1 fs.data.toList zzz).2 (fun k => (W.heap.size ≤ k ∧ ¬ (wc.heap.size ≤ k ∧ k < w2.heap.size)) ∧ ¬ (w7.heap.size ≤ k ∧ k < w10.heap.size)) p → Good (linkR σ 1 fs.data.toList zzz).2 (1 + 2 * 60 + 2)) := hide fun w h => (HG.out.link 1 fs.data.toList zzz).good h.live
              have Hu1 := hide u1
              have Hu2 := hide u2
              rw [hl0] at hlink
              clear htree hrv10 hf10 HA7 Hf7 hml10 hl0 u1 u2
              go_wp2_with fail
              refine hlink.out.mono ?_
              rintro e w11 ⟨rfl, hA11, hf11⟩
              have Hf11 := hide (Hf10.out.trans (hf11.mono (fun _ _ e => e.1.1)))
              have hml11 := Hml.out.frame Hf11.out Hlt.out
              have hG11 := HG11.out w11 hA11
              have hunl := hide (Unlink_any w11 f _ _ p hA11 hml11 hG11.inv (hG11.b (by decide)) 1 (by decide) szzz (by decide))
              rw [show szzz.data.toList = zzz from rfl, Hu1.out, Hu2.out] at hunl
              have Hrv11 := hide (Hrv10.out.frame2 Hrb10.out hf11 (fun q h1 h2 e => e.2 ⟨h1, h2⟩))
              clear hlink hA11 hf11 hml11 hG11 Hrv10 HA10 Hf10 HG11
              go_wp2_with fail
              refine hunl.out.mono ?_
              rintro e w12 ⟨rfl, hA12, hf12⟩
              have htree := hide (tree_any w12 f σ _ p hA12 HG.out.inv Hc1.out)
              have Hf12 := hide (Hf11.out.trans (hf12.mono (fun _ _ e => e.1.1)))
              have Hrv12 := hide (Hrv11.out.frame2 Hrb10.out hf12 (fun q h1 h2 e => e.2 ⟨h1, h2⟩))
              clear hunl hA12 hf12 Hrv11 Hf11
              go_wp2_with fail
              refine htree.out.mono ?_
              rintro e w13 ⟨rv13, rfl, hrv13, hf13⟩
              have hsame := hide (same_any w13 w12.heap.size w7.heap.size rv13 rw10 (treeL σ) hrv13 (Hrv12.out.frame hf13 (fun _ _ _ e => e)) (by have := Hcount.out; omega))
              have Hf13 := hide (Hf12.out.trans (hf13.mono (fun _ _ e => e.elim)))
              clear htree hrv13 hf13 Hrv12 Hf12
              go_wp2_with fail
              refine hsame.out.mono ?_
              rintro e w14 ⟨rfl, hf14⟩
              have hfin := hide (show LawPost W (.returned (.bool true)) w14 from ⟨rfl, (Hf13.out.trans (hf14.mono (fun _ _ e => e.elim))).below (fun i hi e => by omega)⟩)
              clear hsame Hf13 hf14
              go_wp2_with fail
              go_ret
              exact hfin.out
            · have hst : (linkR σ 1 fs.data.toList zzz).2 = σ := ite_still hl0
              obtain ⟨lE, hlE⟩ : ∃ lE, lE = (linkR σ 1 fs.data.toList zzz).1 := ⟨_, rfl⟩
              rw [← hlE] at hlink hl0
              clear htree hrv10 hf10 HA7 Hf7 hml10 hst hlE
              go_wp2_with fail
              refine hlink.out.mono ?_
              rintro e w11 ⟨rfl, hA11, hf11⟩
              have hfin := hide (show LawPost W (.returned (.bool true)) w11 from ⟨rfl, (Hf10.out.trans (hf11.mono (fun _ _ e => e.1.1))).below (fun i hi e => by omega)⟩)
              clear hlink hA11 hf11 Hf10
              go_wp2_with fail
              go_ret
              exact hfin.out
          · have hst : (renR σ 1 fs.data.toList zzz).2 = σ := ite_still hr0
            rw [hst] at hren
            obtain ⟨lE, hlE⟩ : ∃ lE, lE = (renR σ 1 fs.data.toList zzz).1 := ⟨_, rfl⟩
            rw [← hlE] at hren hr0
            clear hst hlE
            go_wp2_with fail
            refine hren.out.mono ?_
            rintro e w4 ⟨rfl, hA4, hf4⟩
            have HA4 := hide hA4
            have Hf4 := hide (Hf3.out.trans (hf4.mono (fun _ _ e => e.1)))
            clear hren hA4 hf4 HA3 Hf3 Hrv3
            have htree := hide (tree_any w4 f σ _ p HA4.out HG.out.inv Hc1.out)
            go_wp2_with fail
            refine htree.out.mono ?_
            rintro e w10 ⟨rw10, rfl, hrv10, hf10⟩
            have HA10 := hide (HA4.out.aparts hf10)
            have Hf10 := hide (Hf4.out.trans (hf10.mono (fun _ _ e => e.elim)))
            have Hrv10 := hide hrv10
            have Hrb10 := hide (show ∀ g, rw10.ownBlock = some g → w4.heap.size ≤ g ∧ g < w10.heap.size from fun g e => hrv10.lt g e)
            have hml10 := Hml.out.frame Hf10.out Hlt.out
            have hlink := hide (Link_any w10 f σ _ p HA10.out hml10 (HG.out.b (by decide)) 1 (by decide) fs szzz hfs (by decide))
            rw [show szzz.data.toList = zzz from rfl] at hlink
            by_cases hl0 : (linkR σ 1 fs.data.toList zzz).1 = 0
            · obtain ⟨u1, u2⟩ := link_off HG.out.live HG.out.inv HwE.out.symm hl0
              have HG11 : Hid (∀ w, FilesAt w f (linkR σ 1 fs.data.toList zzz).2 (fun k => (W.heap.size ≤ k ∧ ¬ (wc.heap.size ≤ k ∧ k < w2.heap.size)) ∧ ¬ (w4.heap.size ≤ k ∧ k < w10.heap.size)) p → Good (linkR σ 1 fs.data.toList zzz).2 (1 + 2 * 60 + 2)) := hide fun w h => (HG.out.link 1 fs.data.toList zzz).good h.live
              have Hu1 := hide u1
              have Hu2 := hide u2
              rw [hl0] at hlink
              clear htree hrv10 hf10 HA4 Hf4 hml10 hl0 u1 u2
              go_wp2_with fail
              refine hlink.out.mono ?_
              rintro e w11 ⟨rfl, hA11, hf11⟩
              have Hf11 := hide (Hf10.out.trans (hf11.mono (fun _ _ e => e.1.1)))
              have hml11 := Hml.out.frame Hf11.out Hlt.out
              have hG11 := HG11.out w11 hA11
              have hunl := hide (Unlink_any w11 f _ _ p hA11 hml11 hG11.inv (hG11.b (by decide)) 1 (by decide) szzz (by decide))
              rw [show szzz.data.toList = zzz from rfl, Hu1.out, Hu2.out] at hunl
              have Hrv11 := hide (Hrv10.out.frame2 Hrb10.out hf11 (fun q h1 h2 e => e.2 ⟨h1, h2⟩))
              clear hlink hA11 hf11 hml11 hG11 Hrv10 HA10 Hf10 HG11
              go_wp2_with fail
              refine hunl.out.mono ?_
              rintro e w12 ⟨rfl, hA12, hf12⟩
              have htree := hide (tree_any w12 f σ _ p hA12 HG.out.inv Hc1.out)
              have Hf12 := hide (Hf11.out.trans (hf12.mono (fun _ _ e => e.1.1)))
              have Hrv12 := hide (Hrv11.out.frame2 Hrb10.out hf12 (fun q h1 h2 e => e.2 ⟨h1, h2⟩))
              clear hunl hA12 hf12 Hrv11 Hf11
              go_wp2_with fail
              refine htree.out.mono ?_
              rintro e w13 ⟨rv13, rfl, hrv13, hf13⟩
              have hsame := hide (same_any w13 w12.heap.size w4.heap.size rv13 rw10 (treeL σ) hrv13 (Hrv12.out.frame hf13 (fun _ _ _ e => e)) (by have := Hcount.out; omega))
              have Hf13 := hide (Hf12.out.trans (hf13.mono (fun _ _ e => e.elim)))
              clear htree hrv13 hf13 Hrv12 Hf12
              go_wp2_with fail
              refine hsame.out.mono ?_
              rintro e w14 ⟨rfl, hf14⟩
              have hfin := hide (show LawPost W (.returned (.bool true)) w14 from ⟨rfl, (Hf13.out.trans (hf14.mono (fun _ _ e => e.elim))).below (fun i hi e => by omega)⟩)
              clear hsame Hf13 hf14
              go_wp2_with fail
              go_ret
              exact hfin.out
            · have hst : (linkR σ 1 fs.data.toList zzz).2 = σ := ite_still hl0
              obtain ⟨lE, hlE⟩ : ∃ lE, lE = (linkR σ 1 fs.data.toList zzz).1 := ⟨_, rfl⟩
              rw [← hlE] at hlink hl0
              clear htree hrv10 hf10 HA4 Hf4 hml10 hst hlE
              go_wp2_with fail
              refine hlink.out.mono ?_
              rintro e w11 ⟨rfl, hA11, hf11⟩
              have hfin := hide (show LawPost W (.returned (.bool true)) w11 from ⟨rfl, (Hf10.out.trans (hf11.mono (fun _ _ e => e.1.1))).below (fun i hi e => by omega)⟩)
              clear hlink hA11 hf11 Hf10
              go_wp2_with fail
              go_ret
              exact hfin.out
    · go_wp2_with fail
      go_ret
      exact hout.out
end Go.Proofs.YthikjdpnlahkfaaDoor
