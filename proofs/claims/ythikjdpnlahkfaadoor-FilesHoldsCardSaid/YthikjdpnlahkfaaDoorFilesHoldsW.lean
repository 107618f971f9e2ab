/- The walk of FilesHolds: it returns true and leaves old memory as it was. Conditions: what the parameters are; the library's own variable. -/
import Derived.Test.YthikjdpnlahkfaaDoorFilesStay
import Derived.Test.YthikjdpnlahkfaaDoorFilesCall
import Derived.Test.YthikjdpnlahkfaaDoorFilesT
import Derived.Deep.CutBlock
import Derived.Deep.DeepCutAuto
namespace Go.Proofs.YthikjdpnlahkfaaDoor
open Go.RowKit

/-- The root and one file of these bytes, held so often. -/
def heldF (l : List UInt8) (h : Nat) : FSt := [some { rootN with ents := [([104, 101, 108, 100], 2)] }, some ⟨false, 420, 1, h, l, [], 1⟩]
def sheld : ByteArray := ⟨#[104, 101, 108, 100]⟩
theorem held_create : createR newT 1 sheld.data.toList 420 = (2, 0, heldF [] 0) := by kernel_rfl
theorem held_nd (l : List UInt8) (h : Nat) : (heldF l h).ndI 2 = some ⟨false, 420, 1, h, l, [], 1⟩ := rfl
theorem held_byts (l : List UInt8) (h : Nat) : (heldF l h).byts = l.length := by simp [FSt.byts, heldF, ndLen, rootN]
theorem held_write (s : List UInt8) (hs : s.length ≤ 1000) : writeR (heldF [] 0) 2 0 s = ((s.length : Int), 0, heldF s 0) := by
  by_cases h0 : s = []
  · subst h0; rfl
  have h2 : ¬ (65536 < (0 : Int) ∨ 65536 < s.length) := by omega
  have h3 : fits (heldF [] 0) ⟨false, 420, 1, 0, [], [], 1⟩ (max ([] : List UInt8).length ((0 : Int).toNat + s.length)) := by
    unfold fits
    rw [held_byts]
    simp
    omega
  unfold writeR
  rw [held_nd]
  simp only [Bool.false_eq_true, if_false, if_neg h2, if_neg h0, if_pos h3, Int.lt_irrefl]
  show ((s.length : Int), 0, heldF (overwrite (resize [] (max 0 (0 + s.length))) 0 s) 0) = _
  have e : overwrite (resize [] (max 0 (0 + s.length))) 0 s = s := by
    unfold overwrite resize
    simp [h0]
  rw [e]
theorem held_hold (l : List UInt8) : holdR (heldF l 0) 2 = (0, heldF l 1) := rfl
/-- The file that is held. -/
def HoldS (data : ByteArray) (σ : FSt) : Prop := ∃ n, σ.nd 2 = some n ∧ n.d = false ∧ n.holds = 1 ∧ n.data = data.data.toList
theorem HoldS.read {data : ByteArray} {σ : FSt} (h : HoldS data σ) (hd : data.size ≤ 1000) : (⟨(readB σ 2 0 2000).toArray⟩ : ByteArray) = data ∧ readE σ 2 0 2000 = 0 := by
  obtain ⟨n, h1, h2, h3, h4⟩ := h
  have e0 : σ.ndI 2 = some n := h1
  have e1 : readE σ 2 0 2000 = 0 := by
    unfold readE fileE
    rw [e0]
    simp [h2]
  refine ⟨?_, e1⟩
  unfold readB dataI
  rw [e1, e0]
  show (⟨((n.data.drop 0).take 2000).toArray⟩ : ByteArray) = data
  rw [List.drop_zero, List.take_of_length_le (by rw [h4, ba_len]; omega), h4]
theorem HoldS.stay {data : ByteArray} {σ τ : FSt} (h : HoldS data σ) (hs : Stay 2 σ τ) : HoldS data τ := by
  obtain ⟨n, h1, h2, h3, h4⟩ := h
  obtain ⟨m, a1, a2, a3, a4⟩ := hs n h1 (by omega)
  exact ⟨m, a1, a2.trans h2, a3.trans h3, a4.trans h4⟩
def HoldI (W : World) (f : Nat) (data : ByteArray) (k : Nat) (wr : World) : Prop := ∃ σ p, FilesAt wr f σ (fun q => W.heap.size ≤ q) p ∧ Good σ (4 + 2 * k) ∧ HoldS data σ ∧ Fr (fun q => W.heap.size ≤ q) W wr
def HoldRel (W : World) (f : Nat) (data : ByteArray) (len gk : Nat) (i : Value) (wr : World) : Prop := ∃ k, gk + k = len ∧ k ≤ 100 ∧ i = .int .i64 k ∧ HoldI W f data k wr
def skipB (what n : Int) : Bool := decide (n = 2 ∧ (what = 8 ∨ what = 9 ∨ what = 13 ∨ what = 14))
set_option maxRecDepth 100000 in
set_option maxHeartbeats 8000000 in
theorem fholds_walk (data : ByteArray) (a : Option Addr) (len cap : Nat) (W : World) (hml : Ml W) (hd : data.size ≤ 9223372036854775807) (hc : CallRowN W a len) :
    Calls Tryd.prog 5 #[.string data, .slice a len cap] W (LawPost W) := by
  obtain ⟨l, rfl, hlen, hcok, hrow⟩ := hc
  have hmlt : ¬ W.heap.size ≤ Tryd.laysSplit_ren.g 1 := by
    obtain ⟨m, hm⟩ := hml
    have := World.block_lt_of_cell? _ _ hm
    exact Nat.not_le.2 this
  have Hml := hide hml
  have Hlt := hide hmlt
  have Hcok := hide hcok
  have Hrow := hide hrow
  clear hml hmlt hcok hrow
  go_enter Tryd.func5, Tryd.ntmps5
  go_wp2_with fail
  refine (awake_any _ Hml.out).mono ?_
  rintro e w0 ⟨rfl, hf0⟩
  have hout := hide (show LawPost W (.returned (.bool true)) w0 from ⟨rfl, hf0.below (fun _ _ h => h)⟩)
  have Hf0 := hide hf0
  clear hf0
  by_cases c1 : 1000 < data.size
  · go_wp2_with fail
    go_ret
    exact hout.out
  clear hout
  go_wp2_with fail
  refine (New_any w0).mono ?_
  rintro e w1 ⟨f, p1, rfl, hA1, hf1⟩
  have hA1 := hA1.mono (S' := fun q => W.heap.size ≤ q) (fun k hk => Nat.le_trans Hf0.out.size hk)
  have hg1 : Fr (fun k => W.heap.size ≤ k) W w1 := (Hf0.out.mono (fun _ _ e => e.elim)).trans (hf1.mono (fun _ _ e => e.elim))
  have h := hide (Create_any w1 f newT _ p1 hA1 (Hml.out.frame hg1 Hlt.out) (caps_of (k := 1) rfl |>.b (by decide)) 1 (by decide) sheld (by decide) 420 (by decide))
  have hk2 := Good.new.make 1 sheld.data.toList false 420
  have e9 : (makeR newT 1 sheld.data.toList false 420).2 = heldF [] 0 := congrArg (fun x => x.2.2) held_create
  rw [e9] at hk2
  rw [held_create] at h
  have Hk2 := hide hk2
  clear hA1 hf1 e9 hk2
  go_wp2_with fail
  refine h.out.mono ?_
  rintro e w2 ⟨rfl, ⟨p2, hA2⟩, hf2⟩
  have hg2 := hg1.trans hf2
  have hG2 := Hk2.out.good hA2.live
  clear h hf2 hg1
  have h := hide (Write_any w2 f (heldF [] 0) _ p2 hA2 2 0 data (by decide) (by decide) hd)
  have hk3 := hG2.write 2 0 data.data.toList
  rw [held_write _ (by rw [ba_len]; omega)] at h hk3
  rw [ba_len] at h
  simp only at h hk3
  have Hk3 := hide hk3
  clear hA2 hG2 hk3 Hk2
  go_wp2_with fail
  refine h.out.mono ?_
  rintro e w3 ⟨rfl, hA3, hf3⟩
  have hg3 := hg2.trans hf3
  have hG3 := Hk3.out.good hA3.live
  clear h hf3 hg2
  have h := hide (Hold_any w3 f (heldF data.data.toList 0) _ p2 hA3 (hG3.b (by decide)) 2 (by decide))
  have hk4 := hG3.hold 2
  rw [held_hold] at h hk4
  simp only at h hk4
  have Hk4 := hide hk4
  clear hA3 hG3 hk4 Hk3
  go_wp2_with fail
  refine h.out.mono ?_
  rintro e w4 ⟨rfl, hA4, hf4⟩
  have hg4 := hg3.trans hf4
  have H0 := hide (show HoldI W f data 0 w4 from ⟨_, _, hA4, Hk4.out.good hA4.live, ⟨_, rfl, rfl, rfl, rfl⟩, hg4⟩)
  clear h hf4 hg3 hA4 hg4 Hk4
  go_upto_block 0 with fail
  go_cut [] (fun wx => HoldI W f data 100 wx)
  case first =>
    go_wp2_with fail
    go_loopg [53] l.length (fun gk i wr => HoldRel W f data l.length gk i wr)
    case atStart => exact ⟨0, by omega, by omega, rfl, H0.out⟩
    case round =>
      clear H0
      obtain ⟨k, hgk, hk100, rfl, σ, p, hA, hG, hH, hfr⟩ := hrel
      have Hgk := hide hgk
      clear hgk
      by_cases hlt : k < l.length
      · obtain ⟨g, o, rfl, hg, hcells⟩ := Hrow.out.resolve_left (fun e => by rw [e] at hlt; exact absurd hlt (Nat.not_lt_zero _))
        have hck := hcells k hlt
        have hok := Hcok.out l[k] (List.getElem_mem hlt)
        generalize l[k] = c at hck hok
        obtain ⟨what, n, m, kk, path, other⟩ := c
        obtain ⟨c0, c1', c2, c3, c4, c5⟩ := hck
        simp only [Nat.add_zero] at c0
        have tr : ∀ p v, W.cell? p = some v → wr.cell? p = some v := fun p v h => by
          have hb := World.block_lt_of_cell? _ _ h
          rw [World.cell?_of_block (w := W) (hfr.block _ hb (by omega))]; exact h
        have d0 := tr _ _ c0
        have d1 := tr _ _ c1'
        have d2 := tr _ _ c2
        have d3 := tr _ _ c3
        have d4 := tr _ _ c4
        have d5 := tr _ _ c5
        simp only [← Nat.add_assoc] at d1 d2 d3 d4 d5
        clear c0 c1' c2 c3 c4 c5 tr hcells
        by_cases h100 : k = 100
        · subst h100
          have hfin := hide (show HoldI W f data 100 (wr.alloc (.cells #[.int .i64 what, .int .i64 n, .int .i64 m, .int .i64 kk, .string path, .string other] 35 (0, 0))) from
            ⟨σ, p, hA.frame ((Fr.refl (fun _ => False) wr).alloc _) (fun _ _ _ e => e), hG, hH, hfr.alloc _⟩)
          clear hA hG hH hfr hok
          go_wp2_with fail
          go_meet
          exact hfin.out
        · obtain ⟨wa, hwa⟩ : ∃ wa, wa = wr.alloc (.cells #[.int .i64 what, .int .i64 n, .int .i64 m, .int .i64 kk, .string path, .string other] 35 (0, 0)) := ⟨_, rfl⟩
          obtain ⟨ca, hcae⟩ : ∃ ca, ca = wr.heap.size := ⟨_, rfl⟩
          have hca : wa.heap[ca]? = some (.cells #[.int .i64 what, .int .i64 n, .int .i64 m, .int .i64 kk, .string path, .string other] 35 (0, 0)) := by rw [hwa, hcae]; exact blk_new _ _
          have hfa : Fr (fun _ => False) wr wa := by rw [hwa]; exact (Fr.refl _ _).alloc _
          have hAa := hA.frame hfa (fun _ _ _ e => e)
          have hfra := hfr.trans (hfa.mono (fun _ _ e => e.elim))
          have Hk100 := hide (show k < 100 by omega)
          have HG := hide hG
          have HH := hide hH
          have HAa := hide hAa
          have Hfra := hide hfra
          have Hok := hide hok
          have HI : Hid (∀ wx, (∃ p', FilesAt wx f (askS σ ⟨what, n, m, kk, path, other⟩) (fun q => W.heap.size ≤ q) p') → skipB what n = false → Fr (fun q => W.heap.size ≤ q) W wx → HoldI W f data (k + 1) wx) := hide fun wx h1 h2 h3 => by
            obtain ⟨p', h1⟩ := h1
            exact ⟨_, p', h1, ((HG.out.ask ⟨what, n, m, kk, path, other⟩).good h1.live).mono (by omega), HH.out.stay (.ask (by unfold skipB at h2; simpa using h2)), h3⟩
          clear hA hG hH hfr hok hfa hAa hfra
          go_upto_region 14 with (fail)
          rw [← hwa, ← hcae]
          clear hwa hcae d0 d1 d2 d3 d4 d5
          have f0 : wa.cell? ⟨ca, 0, none⟩ = some (.int .i64 what) := by rw [blk_cell hca]; rfl
          have f1 : wa.cell? ⟨ca, 1, none⟩ = some (.int .i64 n) := by rw [blk_cell hca]; rfl
          have f2 : wa.cell? ⟨ca, 2, none⟩ = some (.int .i64 m) := by rw [blk_cell hca]; rfl
          have f3 : wa.cell? ⟨ca, 3, none⟩ = some (.int .i64 kk) := by rw [blk_cell hca]; rfl
          have f4 : wa.cell? ⟨ca, 4, none⟩ = some (.string path) := by rw [blk_cell hca]; rfl
          have f5 : wa.cell? ⟨ca, 5, none⟩ = some (.string other) := by rw [blk_cell hca]; rfl
          clear hca
          go_cut [83] (fun z wx => wa = wx ∧ z = .bool (skipB what n))
          case first =>
            clear f2 f3 f4 f5
            by_cases hn : n = 2
            · have hn2 : (n == 2) = true := by simp [hn]
              by_cases h8 : what = 8
              · have hs : skipB what n = true := by unfold skipB; rw [hn, h8]; rfl
                have Hs := hide hs
                clear hs
                subst h8 hn
                go_wp2_with fail
                go_meet
                exact ⟨rfl, by rw [Hs.out]⟩
              have b8 : (what == 8) = false := by simpa using h8
              by_cases h9 : what = 9
              · have hs : skipB what n = true := by unfold skipB; rw [hn, h9]; rfl
                have Hs := hide hs
                clear hs b8
                subst h9 hn
                go_wp2_with fail
                go_meet
                exact ⟨rfl, by rw [Hs.out]⟩
              have b9 : (what == 9) = false := by simpa using h9
              by_cases h13 : what = 13
              · have hs : skipB what n = true := by unfold skipB; rw [hn, h13]; rfl
                have Hs := hide hs
                clear hs b8 b9
                subst h13 hn
                go_wp2_with fail
                go_meet
                exact ⟨rfl, by rw [Hs.out]⟩
              have b13 : (what == 13) = false := by simpa using h13
              by_cases h14 : what = 14
              · have hs : skipB what n = true := by unfold skipB; rw [hn, h14]; rfl
                have Hs := hide hs
                clear hs b8 b9 b13
                subst h14 hn
                go_wp2_with fail
                go_meet
                exact ⟨rfl, by rw [Hs.out]⟩
              have b14 : (what == 14) = false := by simpa using h14
              have hs : skipB what n = false := by unfold skipB; simp [h8, h9, h13, h14]
              have Hs := hide hs
              clear hs
              subst hn
              go_wp2_with fail
              go_meet
              exact ⟨rfl, by rw [Hs.out]⟩
            · have hs : skipB what n = false := by unfold skipB; simp [hn]
              have bn : (n == 2) = false := by simpa using hn
              have Hs := hide hs
              clear hs
              go_wp2_with fail
              go_meet
              exact ⟨rfl, by rw [Hs.out]⟩
          case rest =>
            obtain ⟨rfl, rfl⟩ := hcut
            obtain ⟨sk, hsk⟩ : ∃ sk, sk = skipB what n := ⟨_, rfl⟩
            rw [← hsk]
            have Hsk := hide hsk
            clear hsk
            cases sk with
            | true =>
              have hnx := hide (show HoldI W f data (k + 1) wa from ⟨_, _, HAa.out, HG.out.mono (by omega), HH.out, Hfra.out⟩)
              clear HI
              go_wp2_with fail
              go_roundg (gk - 1)
              case measure => have := Hgk.out; omega
              case rel => exact ⟨k + 1, by have := Hgk.out; omega, Hk100.out, by go_num, hnx.out⟩
            | false =>
            have hask := hide (askL_any wa f σ _ p HAa.out (Hml.out.frame Hfra.out Hlt.out) HG.out (by have := Hk100.out; omega) ⟨what, n, m, kk, path, other⟩ Hok.out)
            unfold callV at hask
            dsimp only at hask
            go_wp2_with fail
            refine hask.out.mono ?_
            rintro e w5 ⟨ans, rfl, -, ⟨p5, hA5⟩, hf5⟩
            clear hask f0 f1 f2 f3 f4 f5
            have hI5 := HI.out w5 ⟨p5, hA5⟩ Hsk.out.symm (Hfra.out.trans hf5)
            obtain ⟨σ5, q5, hA6, hG6, hH6, hf6⟩ := hI5
            have hread := hide (Read_any w5 f σ5 _ q5 hA6 2 0 2000 (by decide) (by decide) (by decide))
            obtain ⟨r1, r2⟩ := hH6.read (by omega)
            rw [r1, r2] at hread
            have Hnx := hide (fun w6 (h6 : Fr (fun _ => False) w5 w6) => (show HoldI W f data (k + 1) w6 from ⟨σ5, q5, hA6.frame h6 (fun _ _ _ e => e), hG6, hH6, hf6.trans (h6.mono (fun _ _ e => e.elim))⟩))
            clear hA6 hG6 hH6 hf6 r1 r2 hA5 hf5 HI
            unfold ansV
            go_wp2_with fail
            refine hread.out.mono ?_
            rintro e w6 ⟨rfl, hf6⟩
            have hnx := hide (Hnx.out w6 hf6)
            clear hread Hnx hf6
            go_wp2_with fail
            go_roundg (gk - 1)
            case measure => have := Hgk.out; omega
            case rel => exact ⟨k + 1, by have := Hgk.out; omega, Hk100.out, by go_num, hnx.out⟩
      · have hfin := hide (show HoldI W f data 100 wr from ⟨σ, p, hA, hG.mono (by omega), hH, hfr⟩)
        have hkI : ¬ (k : Int) < (l.length : Int) := by omega
        clear hA hG hH hfr
        go_wp2_with fail
        go_meet
        exact hfin.out
  case rest =>
    clear H0
    obtain ⟨σ, p, hA, hG, ⟨n, h1, h2, h3, h4⟩, hfr⟩ := hcut
    have hcap := hG.b (by decide)
    have hst := hide (Stat_any wc f σ _ p hA hcap 2 (by decide))
    have e0 : σ.ndI 2 = some n := h1
    have eT : statT σ 2 = ⟨2, 1, n.mode, n.links, (n.data.length : Int) + (n.ents.length : Int)⟩ := by unfold statT; rw [e0]; simp [h2]
    have eE : statE σ 2 = 0 := by unfold statE; rw [e0]
    rw [eT, eE] at hst
    have eD : dropR σ 2 = (0, letS (σ.put 2 (some { n with holds := n.holds - 1 })) 2) := by
      unfold dropR
      rw [e0]
      simp only
      rw [if_neg (by omega)]
      rfl
    have HA := hide hA
    have Hfr := hide hfr
    have HG := hide hG
    have Hcap := hide hcap
    have H4 := hide h4
    have H1 := hide h1
    clear eT eE hA hfr hG hcap h4 e0 h1
    unfold stV at hst
    dsimp only at hst
    obtain ⟨dl, hdl⟩ : ∃ dl : Int, dl = (n.data.length : Int) + (n.ents.length : Int) := ⟨_, rfl⟩
    rw [← hdl] at hst
    clear hdl
    go_wp2_with fail
    refine hst.out.mono ?_
    rintro e w7 ⟨rfl, hf7⟩
    clear hst
    obtain ⟨sb, hsb⟩ : ∃ sb, sb = w7.heap.size := ⟨_, rfl⟩
    obtain ⟨w8, hw8⟩ : ∃ w8, w8 = w7.alloc (.cells #[.int .i64 2, .int .i64 1, .int .i64 n.mode, .int .i64 n.links, .int .i64 dl] 37 (0, 0)) := ⟨_, rfl⟩
    have hA8 : FilesAt w8 f σ (fun q => W.heap.size ≤ q ∧ q ≠ sb) p := by rw [hw8, hsb]; exact (HA.out.frame hf7 (fun _ _ _ e => e)).aside _
    have hb8 : w8.heap[sb]? = some (.cells #[.int .i64 2, .int .i64 1, .int .i64 n.mode, .int .i64 n.links, .int .i64 dl] 37 (0, 0)) := by rw [hw8, hsb]; exact blk_new _ _
    have hf8 : Fr (fun _ => False) wc w8 := by rw [hw8]; exact hf7.alloc _
    have hdrop := hide (Drop_any w8 f σ _ p hA8 Hcap.out 2 (by decide) (fun j m hj2 hj _ hl _ => by
      have e : ∀ x : Option Nd, (σ.put j x).put j none = σ.put j none := fun x => by unfold FSt.put; rw [List.set_set]
      rw [e]
      exact (HG.out.inv.free HG.out.live hj hl).2))
    rw [eD] at hdrop
    simp only at hdrop
    have Hf8 := hide hf8
    have Hb8 := hide hb8
    clear hA8 eD hf7 hf8 hb8 HA
    go_upto_region 21 with (fail)
    rw [← hw8, ← hsb]
    clear hw8 hsb
    go_wp2_with fail
    refine hdrop.out.mono ?_
    rintro e w9 ⟨rfl, hA9, hf9⟩
    clear hdrop
    have hb9 := hf9.get Hb8.out (fun e => e.2 rfl)
    have hput : (σ.put 2 (some { n with holds := n.holds - 1 })).nd 2 = some { n with holds := n.holds - 1 } := by rw [put_nd H1.out, if_pos rfl]
    have hcap9 : CapB (letS (σ.put 2 (some { n with holds := n.holds - 1 })) 2) := by
      have h9 := HG.out.caps 2 n H1.out
      exact Caps.b (k := 4 + 2 * 100) ((HG.out.caps.put (n' := { n with holds := n.holds - 1 }) (Nat.le_refl _) H1.out h9.1 (Nat.le_trans (Nat.sub_le _ _) h9.2.1) h9.2.2).letS 2) (by decide)
    have hst := hide (Stat_any w9 f _ _ p hA9 hcap9 2 (by decide))
    have hfr9 : Fr (fun q => W.heap.size ≤ q) W w9 := (Hfr.out.trans (Hf8.out.mono (fun _ _ e => e.elim))).trans (hf9.mono (fun _ _ e => e.1))
    have Hfr9 := hide hfr9
    have Hb9 := hide hb9
    have hfin := hide (fun w10 (h10 : Fr (fun _ => False) w9 w10) => (show LawPost W (.returned (.bool true)) w10 from ⟨rfl, (Hfr9.out.trans (h10.mono (fun _ _ e => e.elim))).below (fun i hi e => by omega)⟩))
    have c3' := hide (fun w10 (h10 : Fr (fun _ => False) w9 w10) => (show w10.cell? ⟨sb, 3, none⟩ = some (.int .i64 n.links) by rw [blk_cell (h10.get Hb9.out (fun e => e))]; rfl))
    by_cases hl : n.links = 0
    · have e1 : (letS (σ.put 2 (some { n with holds := n.holds - 1 })) 2).ndI 2 = none := by
        show (letS (σ.put 2 (some { n with holds := n.holds - 1 })) 2).nd 2 = none
        unfold letS
        rw [hput]
        simp only
        rw [if_pos ⟨hl, by omega⟩, put_nd hput, if_pos rfl]
      have eE : statE (letS (σ.put 2 (some { n with holds := n.holds - 1 })) 2) 2 = 9 := by unfold statE; rw [e1]
      rw [eE] at hst
      rw [hl] at c3'
      obtain ⟨st, hst9⟩ : ∃ st, st = statT (letS (σ.put 2 (some { n with holds := n.holds - 1 })) 2) 2 := ⟨_, rfl⟩
      rw [← hst9] at hst
      obtain ⟨s0, s1, s2, s3, s4⟩ := st
      unfold stV at hst
      dsimp only at hst
      clear hA9 hcap9 hput e1 eE hst9 hfr9 hb9 hf9
      go_wp2_with fail
      refine hst.out.mono ?_
      rintro e w10 ⟨rfl, hf10⟩
      have c3 := c3'.out w10 hf10
      have hr := hide (hfin.out w10 hf10)
      clear hst hfin c3' hf10
      go_wp2_with fail
      go_ret
      exact hr.out
    · have e1 : (letS (σ.put 2 (some { n with holds := n.holds - 1 })) 2).ndI 2 = some { n with holds := n.holds - 1 } := by
        show (letS (σ.put 2 (some { n with holds := n.holds - 1 })) 2).nd 2 = _
        unfold letS
        rw [hput]
        simp only
        rw [if_neg (fun e => hl e.1), hput]
      have eE : statE (letS (σ.put 2 (some { n with holds := n.holds - 1 })) 2) 2 = 0 := by unfold statE; rw [e1]
      rw [eE] at hst
      have hl1 : 0 < n.links := by omega
      have hl2 : (0 : Int) < (n.links : Int) := by omega
      obtain ⟨st, hst9⟩ : ∃ st, st = statT (letS (σ.put 2 (some { n with holds := n.holds - 1 })) 2) 2 := ⟨_, rfl⟩
      rw [← hst9] at hst
      obtain ⟨s0, s1, s2, s3, s4⟩ := st
      unfold stV at hst
      dsimp only at hst
      clear hA9 hcap9 hput e1 eE hst9 hfr9 hb9 hf9
      go_wp2_with fail
      refine hst.out.mono ?_
      rintro e w10 ⟨rfl, hf10⟩
      have c3 := c3'.out w10 hf10
      have hr := hide (hfin.out w10 hf10)
      clear hst hfin c3' hf10
      go_wp2_with fail
      go_ret
      exact hr.out
end Go.Proofs.YthikjdpnlahkfaaDoor
