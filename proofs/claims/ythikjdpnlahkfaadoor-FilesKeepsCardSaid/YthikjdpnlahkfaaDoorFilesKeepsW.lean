/- The walk of FilesKeeps: it returns true and leaves old memory as it was. Conditions: what the parameter is; the library's own variable. -/
import Derived.Test.YthikjdpnlahkfaaDoorFilesKeepsL
import Derived.Test.YthikjdpnlahkfaaDoorFilesCall
import Derived.Test.YthikjdpnlahkfaaDoorFilesT
import Derived.Deep.CutBlock
import Derived.Deep.DeepCutAuto
namespace Go.Proofs.YthikjdpnlahkfaaDoor
open Go.RowKit

/-- The tree that the calls so far have left. -/
def KI (W : World) (f : Nat) (k : Nat) (wr : World) : Prop := ∃ σ p, FilesAt wr f σ (fun q => W.heap.size ≤ q) p ∧ Good σ (1 + 2 * k) ∧ Fr (fun q => W.heap.size ≤ q) W wr
def KRel (W : World) (f : Nat) (len gk : Nat) (i : Value) (wr : World) : Prop := ∃ k, gk + k = len ∧ k ≤ 100 ∧ i = .int .i64 k ∧ KI W f k wr
def stillB (what e : Int) : Bool := decide (e ≠ 0 ∨ what = 0 ∨ what = 7 ∨ what = 11 ∨ what = 12 ∨ what = 15)
def SumRel (σ : FSt) (w : World) (gk : Nat) (sv nv iv : Value) (wr : World) : Prop := ∃ m, gk + m = 220 ∧ sv = .int .i64 (sumTo σ m) ∧ nv = .int .i64 (cntTo σ m) ∧ iv = .int .i64 ((m : Int) + 1) ∧ Fr (fun _ => False) w wr
set_option maxRecDepth 100000 in
set_option maxHeartbeats 8000000 in
theorem fkeeps_walk (a : Option Addr) (len cap : Nat) (W : World) (hml : Ml W) (hc : CallRowN W a len) :
    Calls Tryd.prog 8 #[.slice a len cap] W (LawPost W) := by
  obtain ⟨l, rfl, hlen, hcok, hrow⟩ := hc
  have hmlt : ¬ W.heap.size ≤ Tryd.laysSplit_ren.g 1 := by
    obtain ⟨m, hm⟩ := hml
    have := World.block_lt_of_cell? _ _ hm
    exact Nat.not_le.2 this
  have Hml := hide hml
  have Hlt := hide hmlt
  have Hcok := hide hcok
  have Hrow := hide hrow
  clear hml hmlt hcok hrow
  go_enter Tryd.func8, Tryd.ntmps8
  go_wp2_with fail
  refine (awake_any _ Hml.out).mono ?_
  rintro e w0 ⟨rfl, hf0⟩
  have Hf0 := hide hf0
  clear hf0
  go_wp2_with fail
  refine (New_any w0).mono ?_
  rintro e w1 ⟨f, p1, rfl, hA1, hf1⟩
  have hA1 := hA1.mono (S' := fun q => W.heap.size ≤ q) (fun k hk => Nat.le_trans Hf0.out.size hk)
  have hg1 : Fr (fun k => W.heap.size ≤ k) W w1 := (Hf0.out.mono (fun _ _ e => e.elim)).trans (hf1.mono (fun _ _ e => e.elim))
  have H0 := hide (show KI W f 0 w1 from ⟨_, _, hA1, Good.new.mono (by decide), hg1⟩)
  clear hA1 hf1 hg1
  go_upto_block 0 with fail
  go_cut [] (fun wx => KI W f 100 wx)
  case first =>
    go_wp2_with fail
    go_loopg [20] l.length (fun gk i wr => KRel W f l.length gk i wr)
    case atStart => exact ⟨0, by omega, by omega, rfl, H0.out⟩
    case round =>
      clear H0
      obtain ⟨k, hgk, hk100, rfl, σ, p, hA, hG, hfr⟩ := hrel
      have Hgk := hide hgk
      clear hgk
      by_cases hlt : k < l.length
      · obtain ⟨g, o, rfl, hg, hcells⟩ := Hrow.out.resolve_left (fun e => by rw [e] at hlt; exact absurd hlt (Nat.not_lt_zero _))
        have hck := hcells k hlt
        have hok := Hcok.out l[k] (List.getElem_mem hlt)
        generalize l[k] = c at hck hok
        obtain ⟨what, n, m, kk, path, other⟩ := c
        obtain ⟨c0, c1', c2, c3, c4, c5⟩ := hck
        simp only [Nat.add_zero] at c0
        have tr : ∀ p v, W.cell? p = some v → wr.cell? p = some v := fun p v h => by
          have hb := World.block_lt_of_cell? _ _ h
          rw [World.cell?_of_block (w := W) (hfr.block _ hb (by omega))]; exact h
        have d0 := tr _ _ c0
        have d1 := tr _ _ c1'
        have d2 := tr _ _ c2
        have d3 := tr _ _ c3
        have d4 := tr _ _ c4
        have d5 := tr _ _ c5
        simp only [← Nat.add_assoc] at d1 d2 d3 d4 d5
        clear c0 c1' c2 c3 c4 c5 tr hcells
        by_cases h100 : k = 100
        · subst h100
          have hfin := hide (show KI W f 100 (wr.alloc (.cells #[.int .i64 what, .int .i64 n, .int .i64 m, .int .i64 kk, .string path, .string other] 35 (0, 0))) from
            ⟨σ, p, hA.frame ((Fr.refl (fun _ => False) wr).alloc _) (fun _ _ _ e => e), hG, hfr.alloc _⟩)
          clear hA hG hfr hok
          go_wp2_with fail
          go_meet
          exact hfin.out
        · obtain ⟨wa, hwa⟩ : ∃ wa, wa = wr.alloc (.cells #[.int .i64 what, .int .i64 n, .int .i64 m, .int .i64 kk, .string path, .string other] 35 (0, 0)) := ⟨_, rfl⟩
          obtain ⟨ca, hcae⟩ : ∃ ca, ca = wr.heap.size := ⟨_, rfl⟩
          have hca : wa.heap[ca]? = some (.cells #[.int .i64 what, .int .i64 n, .int .i64 m, .int .i64 kk, .string path, .string other] 35 (0, 0)) := by rw [hwa, hcae]; exact blk_new _ _
          have hfa : Fr (fun _ => False) wr wa := by rw [hwa]; exact (Fr.refl _ _).alloc _
          have hAa := hA.aparts hfa
          have hcw : wr.heap.size ≤ ca ∧ ca < wa.heap.size := ⟨by omega, blk_lt hca⟩
          have hfra := hfr.trans (hfa.mono (fun _ _ e => e.elim))
          have Hk100 := hide (show k < 100 by omega)
          have HG := hide hG
          have hc1 : Caps σ 1000000 := hG.caps.mono (by omega)
          have htree := hide (tree_any wa f σ _ p hAa hG.inv hc1)
          have HAa := hide hAa
          have Hfra := hide hfra
          have Hok := hide hok
          have hsz1 : wr.heap.size ≤ wa.heap.size := hfa.size
          have hsz0 : W.heap.size ≤ wr.heap.size := hfr.size
          clear hA hG hfr hok hfa hAa hfra hc1
          go_upto_region 8 with (fail)
          rw [← hwa, ← hcae]
          have Hca := hide hca
          clear hwa hcae d0 d1 d2 d3 d4 d5 hca
          go_wp2_with fail
          refine htree.out.mono ?_
          rintro e w2 ⟨rv, rfl, hrv, hf2⟩
          have HA2 := hide (HAa.out.aparts hf2)
          have hbytes := hide (Bytes_any w2 f σ _ p HA2.out)
          have hcount := hide (Count_any w2 f σ _ p HA2.out)
          have hca2 := hf2.get Hca.out (fun e => e)
          have hsz2 := hf2.size
          have Hf2 := hide (Hfra.out.trans (hf2.mono (fun _ _ e => e.elim)))
          have Hrv := hide hrv
          clear htree hrv hf2 HAa Hca Hfra
          go_wp2_with fail
          refine hbytes.out.mono ?_
          rintro e w3 ⟨rfl, rfl⟩
          clear hbytes
          go_wp2_with fail
          refine hcount.out.mono ?_
          rintro e w2 ⟨rfl, rfl⟩
          clear hcount
          have f0 : w2.cell? ⟨ca, 0, none⟩ = some (.int .i64 what) := by rw [blk_cell hca2]; rfl
          have f1 : w2.cell? ⟨ca, 1, none⟩ = some (.int .i64 n) := by rw [blk_cell hca2]; rfl
          have f2 : w2.cell? ⟨ca, 2, none⟩ = some (.int .i64 m) := by rw [blk_cell hca2]; rfl
          have f3 : w2.cell? ⟨ca, 3, none⟩ = some (.int .i64 kk) := by rw [blk_cell hca2]; rfl
          have f4 : w2.cell? ⟨ca, 4, none⟩ = some (.string path) := by rw [blk_cell hca2]; rfl
          have f5 : w2.cell? ⟨ca, 5, none⟩ = some (.string other) := by rw [blk_cell hca2]; rfl
          have hask := hide (askL_any w2 f σ _ p HA2.out (Hml.out.frame Hf2.out Hlt.out) HG.out (by have := Hk100.out; omega) ⟨what, n, m, kk, path, other⟩ Hok.out)
          unfold callV at hask
          dsimp only at hask
          have Hca2 := hide hca2
          clear hca2
          go_wp2_with fail
          refine hask.out.mono ?_
          rintro e w5 ⟨ans, rfl, hans, ⟨p5, hA5⟩, hf5⟩
          obtain ⟨an, sa, ⟨s1, s2, s3, s4, s5⟩, al, ae⟩ := ans
          have he : ae = (askA σ ⟨what, n, m, kk, path, other⟩).e := congrArg AnsQ.e hans
          have hkeep : stillB what ae = true → askS σ ⟨what, n, m, kk, path, other⟩ = σ := fun h => ask_keeps (by rw [← he]; simpa [stillB] using h)
          have HG5 := hide ((HG.out.ask ⟨what, n, m, kk, path, other⟩).good hA5.live)
          have Hrv5 := hide (Hrv.out.frame hf5 (fun q h1 h2 e => e.2 ⟨h1, h2⟩))
          have Hkeep := hide hkeep
          have hcb : W.heap.size ≤ ca := by omega
          have hca5 := hf5.get Hca2.out (fun e => e.1.2 (by omega))
          have Hf5 := hide (Hf2.out.trans (hf5.mono (fun _ _ e => e.1.1)))
          have hsz5 := hf5.size
          have hA5 := hA5.mono (S' := fun q => W.heap.size ≤ q) (fun _ e => e.1.1)
          clear hask hans he hkeep hf5 HA2 Hf2 Hca2 Hrv f0 f1 f2 f3 f4 f5
          have Hσ : Hid (stillB what ae = true → askS σ ⟨what, n, m, kk, path, other⟩ = σ) := Hkeep
          obtain ⟨σ5, hσ5⟩ : ∃ σ5, σ5 = askS σ ⟨what, n, m, kk, path, other⟩ := ⟨_, rfl⟩
          rw [← hσ5] at Hσ HG5 hA5
          clear Hkeep hσ5
          obtain ⟨w6, hw6⟩ : ∃ w6, w6 = w5.alloc (.cells #[.int .i64 an, .string sa, .int .i64 s1, .int .i64 s2, .int .i64 s3, .int .i64 s4, .int .i64 s5, .string al, .int .i64 ae] 39 (0, 0)) := ⟨_, rfl⟩
          obtain ⟨ab, hab⟩ : ∃ ab, ab = w5.heap.size := ⟨_, rfl⟩
          have hf6 : Fr (fun _ => False) w5 w6 := by rw [hw6]; exact (Fr.refl _ _).alloc _
          have hb6 : w6.heap[ab]? = some (.cells #[.int .i64 an, .string sa, .int .i64 s1, .int .i64 s2, .int .i64 s3, .int .i64 s4, .int .i64 s5, .string al, .int .i64 ae] 39 (0, 0)) := by rw [hw6, hab]; exact blk_new _ _
          have hca6 := hf6.get hca5 (fun e => e)
          have HA6 := hide (hA5.frame hf6 (fun _ _ _ e => e))
          have Hrv6 := hide (Hrv5.out.frame hf6 (fun _ _ _ e => e))
          have Hf6 := hide (Hf5.out.trans (hf6.mono (fun _ _ e => e.elim)))
          clear hA5 Hrv5 Hf5 hf6 hca5
          unfold ansV
          dsimp only
          go_upto_region 10 with (fail)
          rw [← hw6, ← hab]
          clear hw6 hab
          have q0 : w6.cell? ⟨ab, 8, none⟩ = some (.int .i64 ae) := by rw [blk_cell hb6]; rfl
          have q1 : w6.cell? ⟨ca, 0, none⟩ = some (.int .i64 what) := by rw [blk_cell hca6]; rfl
          clear hb6 hca6
          go_cut [82] (fun z wx => z = .bool false ∧ Fr (fun _ => False) w6 wx)
          case first =>
            have hno : stillB what ae = false → Hid (ae = 0 ∧ what ≠ 0 ∧ what ≠ 7 ∧ what ≠ 11 ∧ what ≠ 12 ∧ what ≠ 15) := fun e => hide (by
              unfold stillB at e
              simp only [decide_eq_false_iff_not, not_or, ne_eq, Classical.not_not] at e
              exact e)
            cases hst : stillB what ae with
            | false =>
              obtain ⟨rfl, n0, n7, n11, n12, n15⟩ := (hno hst).out
              clear hst hno
              have g0 : (what == 0) = false := by simpa using n0
              have g7 : (what == 7) = false := by simpa using n7
              have g11 : (what == 11) = false := by simpa using n11
              have g12 : (what == 12) = false := by simpa using n12
              have g15 : (what == 15) = false := by simpa using n15
              clear n0 n7 n11 n12 n15
              go_wp2_with fail
              go_meet
              exact ⟨rfl, Fr.refl _ _⟩
            | true =>
              obtain rfl : σ5 = σ := Hσ.out hst
              have hG6 := HG5.out
              have hc1 : Caps σ5 1000000 := hG6.caps.mono (by have := Hk100.out; omega)
              have hcount2 := treeL_count hG6.inv hG6.live hc1
              have htree := hide (tree_any w6 f σ5 _ p5 HA6.out hG6.inv hc1)
              have hcases : ae ≠ 0 ∨ (ae = 0 ∧ what = 0) ∨ (ae = 0 ∧ what = 7) ∨ (ae = 0 ∧ what = 11) ∨ (ae = 0 ∧ what = 12) ∨ (ae = 0 ∧ what = 15) := by
                unfold stillB at hst
                simp only [decide_eq_true_eq, ne_eq] at hst
                by_cases e : ae = 0
                · rcases hst with h | h | h | h | h | h
                  · exact absurd e h
                  · exact .inr (.inl ⟨e, h⟩)
                  · exact .inr (.inr (.inl ⟨e, h⟩))
                  · exact .inr (.inr (.inr (.inl ⟨e, h⟩)))
                  · exact .inr (.inr (.inr (.inr (.inl ⟨e, h⟩))))
                  · exact .inr (.inr (.inr (.inr (.inr ⟨e, h⟩))))
                · exact .inl e
              have Hcount2 := hide hcount2
              have hfin : ∀ w7 (rv2 : Value), EntRow w7 w6.heap.size rv2 (treeL σ5) → Fr (fun _ => False) w6 w7 → Hid (Calls Tryd.prog 28 #[rv2, rv] w7 fun e w' => e = .returned (.bool true) ∧ Fr (fun _ => False) w7 w') := fun w7 rv2 h1 h2 =>
                hide (same_any w7 w6.heap.size wa.heap.size rv2 rv (treeL σ5) h1 (Hrv6.out.frame h2 (fun _ _ _ e => e)) (by have := Hcount2.out; omega))
              have Hfin := hide hfin
              clear hst hno hG6 hc1 hcount2 hfin
              rcases hcases with e0 | ⟨rfl, rfl⟩ | ⟨rfl, rfl⟩ | ⟨rfl, rfl⟩ | ⟨rfl, rfl⟩ | ⟨rfl, rfl⟩
              · have g0 : (ae == 0) = false := by simpa using e0
                go_wp2_with fail
                refine htree.out.mono ?_
                rintro e w7 ⟨rv2, rfl, hrv2, hf7⟩
                have hsame := Hfin.out w7 rv2 hrv2 hf7
                have Hf7 := hide hf7
                clear htree Hfin hrv2 hf7
                go_wp2_with fail
                refine hsame.out.mono ?_
                rintro e w8 ⟨rfl, hf8⟩
                have Hf8 := hide (Hf7.out.trans hf8)
                have hbytes := hide (Bytes_any w8 f σ5 _ p5 (HA6.out.frame Hf8.out (fun _ _ _ e => e)))
                have hcount := hide (Count_any w8 f σ5 _ p5 (HA6.out.frame Hf8.out (fun _ _ _ e => e)))
                clear hsame Hf7 hf8
                go_wp2_with fail
                refine hbytes.out.mono ?_
                rintro e w9 ⟨rfl, rfl⟩
                clear hbytes
                go_wp2_with fail
                refine hcount.out.mono ?_
                rintro e w8 ⟨rfl, rfl⟩
                clear hcount
                go_wp2_with fail
                go_meet
                exact ⟨rfl, Hf8.out⟩
              all_goals
                go_wp2_with fail
                refine htree.out.mono ?_
                rintro e w7 ⟨rv2, rfl, hrv2, hf7⟩
                have hsame := Hfin.out w7 rv2 hrv2 hf7
                have Hf7 := hide hf7
                clear htree Hfin hrv2 hf7
                go_wp2_with fail
                refine hsame.out.mono ?_
                rintro e w8 ⟨rfl, hf8⟩
                have Hf8 := hide (Hf7.out.trans hf8)
                have hbytes := hide (Bytes_any w8 f σ5 _ p5 (HA6.out.frame Hf8.out (fun _ _ _ e => e)))
                have hcount := hide (Count_any w8 f σ5 _ p5 (HA6.out.frame Hf8.out (fun _ _ _ e => e)))
                clear hsame Hf7 hf8
                go_wp2_with fail
                refine hbytes.out.mono ?_
                rintro e w9 ⟨rfl, rfl⟩
                clear hbytes
                go_wp2_with fail
                refine hcount.out.mono ?_
                rintro e w8 ⟨rfl, rfl⟩
                clear hcount
                go_wp2_with fail
                go_meet
                exact ⟨rfl, Hf8.out⟩
          case rest =>
            obtain ⟨rfl, hfc⟩ := hcut
            have HA7 := hide (HA6.out.frame hfc (fun _ _ _ e => e))
            have Hf7 := hide (Hf6.out.trans (hfc.mono (fun _ _ e => e.elim)))
            have Hdd := hide HA7.out.dird
            clear HA6 Hf6 hfc Hrv6 q0 q1 Hσ HG
            obtain ⟨og, hog⟩ : ∃ og, og = gk := ⟨_, rfl⟩
            subst hog
            have hbyt := HA7.out.live.byts
            have hlen5 := HA7.out.live.len
            go_wp2_with fail
            go_loopg [10, 11, 12] 220 (fun gk sv nv iv wr => SumRel σ5 wc gk sv nv iv wr)
            case atStart => exact ⟨0, by omega, by simp [sumTo], by simp [cntTo], by go_num, Fr.refl _ _⟩
            case round =>
              obtain ⟨j, hgj, rfl, rfl, rfl, hfj⟩ := hrel
              have HAj := hide (HA7.out.frame hfj (fun _ _ _ e => e))
              have Hgj := hide hgj
              have hs1 := sumTo_le (σ := σ5) j hbyt
              have hs2 := cntTo_le (σ := σ5) j
              by_cases hj : j < 220
              · have hstat := hide (Stat_any wr f σ5 _ p5 HAj.out (HG5.out.b (by have := Hk100.out; omega)) ((j : Int) + 1) (by omega))
                have hjI : (j : Int) + 1 ≤ 220 := by omega
                have Hfj := hide hfj
                clear hfj
                cases hn : σ5.nd (j + 1) with
                | none =>
                  have hnI : σ5.ndI ((j : Int) + 1) = none := by unfold FSt.ndI; rw [if_pos (by omega), show ((j : Int) + 1).toNat = j + 1 by omega]; exact hn
                  rw [show statT σ5 ((j : Int) + 1) = noSt by unfold statT; rw [hnI], show statE σ5 ((j : Int) + 1) = 9 by unfold statE; rw [hnI]] at hstat
                  have hsum := sumTo_none hn
                  have Hsum := hide hsum
                  clear hn hnI hsum
                  unfold stV noSt at hstat
                  dsimp only at hstat
                  go_wp2_with fail
                  refine hstat.out.mono ?_
                  rintro e w9 ⟨rfl, hf9⟩
                  have Hf9 := hide (Hfj.out.trans hf9)
                  clear hstat hf9
                  go_wp2_with fail
                  go_roundg (gk - 1)
                  case measure => have := Hgj.out; omega
                  case rel => exact ⟨j + 1, by have := Hgj.out; omega, by rw [Hsum.out.1], by rw [Hsum.out.2], by go_num, Hf9.out.alloc _⟩
                | some nd =>
                  have hnI : σ5.ndI ((j : Int) + 1) = some nd := by unfold FSt.ndI; rw [if_pos (by omega), show ((j : Int) + 1).toNat = j + 1 by omega]; exact hn
                  have hsum := sumTo_some hn
                  have Hsum := hide hsum
                  have hs3 := sumTo_le (σ := σ5) (j + 1) hbyt
                  rw [hsum.1] at hs3
                  cases hd : nd.d with
                  | false =>
                    have hents := HG5.out.inv.file _ _ hn hd
                    rw [show statT σ5 ((j : Int) + 1) = ⟨(j : Int) + 1, 1, nd.mode, nd.links, (nd.data.length : Int)⟩ by unfold statT; rw [hnI]; simp [hd, hents], show statE σ5 ((j : Int) + 1) = 0 by unfold statE; rw [hnI]] at hstat
                    clear hn hnI hsum hd hents
                    unfold stV at hstat
                    dsimp only at hstat
                    obtain ⟨dl, hdl⟩ : ∃ dl, dl = nd.data.length := ⟨_, rfl⟩
                    rw [← hdl] at hstat Hsum hs3
                    clear hdl
                    go_wp2_with fail
                    refine hstat.out.mono ?_
                    rintro e w9 ⟨rfl, hf9⟩
                    have Hf9 := hide (Hfj.out.trans hf9)
                    clear hstat hf9
                    go_wp2_with fail
                    go_roundg (gk - 1)
                    case measure => have := Hgj.out; omega
                    case rel => exact ⟨j + 1, by have := Hgj.out; omega, by rw [Hsum.out.1]; go_num, by rw [Hsum.out.2]; go_num, by go_num, Hf9.out.alloc _⟩
                  | true =>
                    have hdat := Hdd.out _ _ hn hd
                    rw [show statT σ5 ((j : Int) + 1) = ⟨(j : Int) + 1, 2, nd.mode, nd.links, (nd.ents.length : Int)⟩ by unfold statT; rw [hnI]; simp [hd, hdat], show statE σ5 ((j : Int) + 1) = 0 by unfold statE; rw [hnI]] at hstat
                    rw [hdat] at Hsum
                    clear hn hnI hsum hd hdat hs3
                    unfold stV at hstat
                    dsimp only at hstat
                    obtain ⟨dl, hdl⟩ : ∃ dl, dl = nd.ents.length := ⟨_, rfl⟩
                    rw [← hdl] at hstat
                    clear hdl
                    go_wp2_with fail
                    refine hstat.out.mono ?_
                    rintro e w9 ⟨rfl, hf9⟩
                    have Hf9 := hide (Hfj.out.trans hf9)
                    clear hstat hf9
                    go_wp2_with fail
                    go_roundg (gk - 1)
                    case measure => have := Hgj.out; omega
                    case rel => exact ⟨j + 1, by have := Hgj.out; omega, by rw [Hsum.out.1]; simp, by rw [Hsum.out.2]; go_num, by go_num, Hf9.out.alloc _⟩
              · obtain rfl : j = 220 := by omega
                have hbytes := hide (Bytes_any wr f σ5 _ p5 HAj.out)
                have hcount := hide (Count_any wr f σ5 _ p5 HAj.out)
                have e1 : sumTo σ5 220 = σ5.byts := sumTo_all (by omega)
                have e2 : cntTo σ5 220 = σ5.cnt := cntTo_all (by omega)
                rw [e1, e2]
                have hnext := hide (show KI W f (k + 1) wr from ⟨σ5, p5, HAj.out, HG5.out.mono (by omega), Hf7.out.trans (hfj.mono (fun _ _ e => e.elim))⟩)
                clear hfj e1 e2 HAj hs1 hs2
                go_wp2_with fail
                refine hbytes.out.mono ?_
                rintro e w9 ⟨rfl, rfl⟩
                clear hbytes
                go_wp2_with fail
                refine hcount.out.mono ?_
                rintro e w8 ⟨rfl, rfl⟩
                clear hcount
                go_wp2_with fail
                go_roundg (og - 1)
                case measure => have := Hgk.out; omega
                case rel => exact ⟨k + 1, by have := Hgk.out; omega, Hk100.out, by go_num, hnext.out⟩
      · have hfin := hide (show KI W f 100 wr from ⟨σ, p, hA, hG.mono (by omega), hfr⟩)
        have hkI : ¬ (k : Int) < (l.length : Int) := by omega
        clear hA hG hfr
        go_wp2_with fail
        go_meet
        exact hfin.out
  case rest =>
    clear H0
    obtain ⟨σ, p, hA, hG, hfr⟩ := hcut
    have hfin := hide (show LawPost W (.returned (.bool true)) wc from ⟨rfl, hfr.below (fun i hi e => by omega)⟩)
    clear hA hG hfr
    go_wp2_with fail
    go_ret
    exact hfin.out
end Go.Proofs.YthikjdpnlahkfaaDoor
