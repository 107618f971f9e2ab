/- The walk of FilesRuns: it returns true and leaves old memory as it was. Conditions: what the parameter is; the library's own variable. -/
import Derived.Test.YthikjdpnlahkfaaGreatDoorFrunL
import Derived.Test.YthikjdpnlahkfaaGreatDoorFrefP
import Derived.Test.YthikjdpnlahkfaaGreatDoorRegionQ
import Derived.Test.YthikjdpnlahkfaaGreatDoorFilesCall
import Derived.Test.YthikjdpnlahkfaaGreatDoorFilesT
import Derived.Test.YthikjdpnlahkfaaGreatDoorFilesKeepsL
import Derived.Test.YthikjdpnlahkfaaGreatDoorFilesKeepsL
import Derived.BigQuiet
import Derived.Deep.CutBlock
import Derived.Deep.DeepCutAuto
namespace Go.Proofs.YthikjdpnlahkfaaGreatDoor
open Go.RowKit

def RunRel (W : World) (f g : Nat) (len gk : Nat) (i : Value) (wr : World) : Prop := ∃ k, gk + k = len ∧ k ≤ 150 ∧ i = .int .i64 k ∧ RunI W f g k wr
set_option maxRecDepth 100000 in
set_option maxHeartbeats 8000000 in
theorem fruns_walk (a : Option Addr) (len cap : Nat) (W : World) (hml : Ml W) (hc : CallRowN W a len) :
    Calls Tryz.prog 3 #[.slice a len cap] W (LawPost W) := by
  obtain ⟨l, rfl, hlen, hcok, hrow⟩ := hc
  have hmlt : ¬ W.heap.size ≤ Tryz.laysSplit_ren.g 1 := by
    obtain ⟨m, hm⟩ := hml
    have := World.block_lt_of_cell? _ _ hm
    exact Nat.not_le.2 this
  have Hml := hide hml
  have Hlt := hide hmlt
  have Hcok := hide hcok
  have Hrow := hide hrow
  clear hml hmlt hcok hrow
  go_enter Tryz.func3, Tryz.ntmps3
  go_wp2_with fail
  refine (awake_any _ Hml.out).mono ?_
  rintro e w0 ⟨rfl, hf0⟩
  have Hf0 := hide hf0
  clear hf0
  go_wp2_with fail
  refine (New_any w0).mono ?_
  rintro e w1 ⟨f, p1, rfl, hA1, hf1⟩
  have HA1 := hide hA1
  have Hf1 := hide hf1
  clear hA1 hf1
  go_wp2_with fail
  refine (rnew_any w1).mono ?_
  rintro e w2 ⟨g, rfl, hR2, hf2⟩
  have H0 := hide (show RunI W f g 0 w2 from ⟨_, _, _, _, ⟨HA1.out.apartsT hf2 (fun _ _ _ e => e), hR2, Good.new.mono (by decide), fun q hq x1 x2 => x1.2 ⟨x2, hq⟩, fun q x => Nat.le_trans Hf0.out.size x.1, fun q x => Nat.le_trans (Nat.le_trans Hf0.out.size Hf1.out.size) x,
    (Hf0.out.no.trans Hf1.out.no).trans hf2.no⟩⟩)
  clear hR2 hf2 HA1
  go_upto_block 0 with fail
  go_cut [] (fun wx => RunI W f g 150 wx)
  case first =>
    go_wp2_with fail
    go_loopg [13] l.length (fun gk i wr => RunRel W f g l.length gk i wr)
    case atStart => exact ⟨0, by omega, by omega, rfl, H0.out⟩
    case round =>
      clear H0
      obtain ⟨k, hgk, hk150, rfl, σ, p, S1, S2, hB⟩ := hrel
      have Hgk := hide hgk
      clear hgk
      by_cases hlt : k < l.length
      · obtain ⟨gb, o, rfl, hgb, hcells⟩ := Hrow.out.resolve_left (fun e => by rw [e] at hlt; exact absurd hlt (Nat.not_lt_zero _))
        have hck := hcells k hlt
        have hok := Hcok.out l[k] (List.getElem_mem hlt)
        generalize l[k] = c at hck hok
        obtain ⟨what, n, m, kk, path, other⟩ := c
        obtain ⟨c0, c1', c2, c3, c4, c5⟩ := hck
        simp only [Nat.add_zero] at c0
        have hfr := hB.fr
        have tr : ∀ p v, W.cell? p = some v → wr.cell? p = some v := fun p v h => by
          have hb := World.block_lt_of_cell? _ _ h
          rw [World.cell?_of_block (w := W) (hfr.block _ hb (by omega))]; exact h
        have d0 := tr _ _ c0
        have d1 := tr _ _ c1'
        have d2 := tr _ _ c2
        have d3 := tr _ _ c3
        have d4 := tr _ _ c4
        have d5 := tr _ _ c5
        simp only [← Nat.add_assoc] at d1 d2 d3 d4 d5
        clear c0 c1' c2 c3 c4 c5 tr hcells
        by_cases h150 : k = 150
        · subst h150
          have hfin := hide (show RunI W f g 150 (wr.alloc (.cells #[.int .i64 what, .int .i64 n, .int .i64 m, .int .i64 kk, .string path, .string other] 29 (0, 0))) from
            ⟨σ, p, _, _, hB.still ((Fr.refl (fun _ => False) wr).alloc _)⟩)
          clear hB hfr hok
          go_wp2_with fail
          go_meet
          exact hfin.out
        · obtain ⟨wa, hwa⟩ : ∃ wa, wa = wr.alloc (.cells #[.int .i64 what, .int .i64 n, .int .i64 m, .int .i64 kk, .string path, .string other] 29 (0, 0)) := ⟨_, rfl⟩
          obtain ⟨ca, hcae⟩ : ∃ ca, ca = wr.heap.size := ⟨_, rfl⟩
          have hca : wa.heap[ca]? = some (.cells #[.int .i64 what, .int .i64 n, .int .i64 m, .int .i64 kk, .string path, .string other] 29 (0, 0)) := by rw [hwa, hcae]; exact blk_new _ _
          have hfa : Fr (fun _ => False) wr wa := by rw [hwa]; exact (Fr.refl _ _).alloc _
          have hfd : Fr (fun _ => False) wr wa.drew := hfa.drew
          have hBd := hB.still hfd
          have hnc : ∀ q, q = ca → wr.heap.size ≤ q ∧ q < wa.drew.heap.size := fun q e => by subst e; exact ⟨by omega, blk_lt hca⟩
          have Hk150 := hide (show k < 150 by omega)
          have HBd := hide hBd
          have Hca := hide hca
          have Hnc := hide hnc
          have Hok := hide hok
          have Hmd := hide (Hml.out.frame (hfr.trans hfd.no) Hlt.out)
          have hkne : ¬ (k : Int) = 150 := by omega
          clear hB hfr hok hfa hca hnc hBd hfd h150
          go_upto_region 8 with (fail)
          rw [← hwa, ← hcae]
          clear hwa hcae d0 d1 d2 d3 d4 d5
          refine region_calls_q (fun w' => w'.heap[ca]? = some (.cells #[.int .i64 what, .int .i64 n, .int .i64 m, .int .i64 kk, .string path, .string other] 29 (0, 0))) [0, 1, 3, 4] [2, 5] 6 (by kernel_rfl) (by kernel_rfl) (fun _ _ d _ _ h => by cases d <;> exact h) (blk_drew Hca.out) ?_
          simp only [List.map_cons, List.map_nil, List.getD_cons_zero, List.getD_cons_succ, List.drop_succ_cons, List.drop_zero]
          go_big_quiet_step (fail)
          refine wpQuiet_val (.agg #[.int .i64 what, .int .i64 n, .int .i64 m, .int .i64 kk, .string path, .string other]) rfl (fun w' hS => by
            have e0 : w'.cell? ⟨ca, 0, none⟩ = some (.int .i64 what) := by rw [blk_cell hS]; rfl
            have e1 : w'.cell? ⟨ca, 1, none⟩ = some (.int .i64 n) := by rw [blk_cell hS]; rfl
            have e2 : w'.cell? ⟨ca, 2, none⟩ = some (.int .i64 m) := by rw [blk_cell hS]; rfl
            have e3 : w'.cell? ⟨ca, 3, none⟩ = some (.int .i64 kk) := by rw [blk_cell hS]; rfl
            have e4 : w'.cell? ⟨ca, 4, none⟩ = some (.string path) := by rw [blk_cell hS]; rfl
            have e5 : w'.cell? ⟨ca, 5, none⟩ = some (.string other) := by rw [blk_cell hS]; rfl
            go_simp) ?_
          simp only [Act.put, List.setIfInBounds_toArray, List.set_cons_succ, List.set_cons_zero]
          go_big_quiet_step (fail)
          refine wpQuiet_val (.agg #[.int .i64 what, .int .i64 n, .int .i64 m, .int .i64 kk, .string path, .string other]) rfl (fun w' hS => by
            have e0 : w'.cell? ⟨ca, 0, none⟩ = some (.int .i64 what) := by rw [blk_cell hS]; rfl
            have e1 : w'.cell? ⟨ca, 1, none⟩ = some (.int .i64 n) := by rw [blk_cell hS]; rfl
            have e2 : w'.cell? ⟨ca, 2, none⟩ = some (.int .i64 m) := by rw [blk_cell hS]; rfl
            have e3 : w'.cell? ⟨ca, 3, none⟩ = some (.int .i64 kk) := by rw [blk_cell hS]; rfl
            have e4 : w'.cell? ⟨ca, 4, none⟩ = some (.string path) := by rw [blk_cell hS]; rfl
            have e5 : w'.cell? ⟨ca, 5, none⟩ = some (.string other) := by rw [blk_cell hS]; rfl
            go_simp) ?_
          simp only [Act.put, List.setIfInBounds_toArray, List.set_cons_succ, List.set_cons_zero]
          refine wpQuiet_nil ?_
          have hask := askL_any wa.drew f σ _ p HBd.out.fa Hmd.out HBd.out.gd (by have := Hk150.out; omega) ⟨what, n, m, kk, path, other⟩ Hok.out
          unfold callV at hask
          simp only at hask
          refine chainS_step rfl (fun K hK => ?_)
          go_wp2_with fail
          refine hask.mono ?_
          rintro e w4 ⟨A, rfl, hA4⟩
          have hA4' := hA4
          obtain ⟨hAe, hA4p, hA4f⟩ := hA4'
          have hca4 := hA4f.get (blk_drew Hca.out) (fun e => e.2 (Hnc.out _ rfl))
          refine hK _ _ hca4 ?_
          clear hK K hask
          have hRf4 := HBd.out.rf.apartsT hA4f (fun q hq x1 x2 => HBd.out.ap q hq x2 x1)
          have hwant := wantL_any w4 g σ _ hRf4 HBd.out.gd (by have := Hk150.out; omega) HBd.out.fa.allM ⟨what, n, m, kk, path, other⟩ Hok.out
          unfold callV at hwant
          simp only at hwant
          refine chainS_step rfl (fun K hK => ?_)
          go_wp2_with fail
          refine hwant.mono ?_
          rintro e w5 ⟨B, rfl, hB5⟩
          have hca5 := hB5.2.2.get hca4 (fun e => e.1.2 (Hnc.out _ rfl))
          refine hK _ _ hca5 ?_
          clear hK K hwant
          obtain ⟨rfl, p5, hB6⟩ := HBd.out.asked hA4 hB5
          clear hA4 hB5 hRf4 hAe hA4p hA4f hca4
          refine chainS_nil ?_
          generalize hτe : askS σ ⟨what, n, m, kk, path, other⟩ = τ at *
          clear hτe
          have hlen6 := hB6.gd.live.len
          have hbyt6 := hB6.gd.live.byts
          have kBf : ∀ q : Nat, Calls Tryz.prog 9 #[.pointer (some ⟨f, 0, none⟩)] (w5.drewN q) fun e w' => e = .returned (.int .i64 (τ.byts : Nat)) ∧ ∃ m, w' = w5.drewN m := fun q =>
            (Bytes_any _ f τ _ p5 (hB6.fa.frame ((Fr.refl (fun _ => False) w5).drewN q) (fun _ _ _ e => e))).mono fun e w' h => ⟨h.1, q, h.2⟩
          have kBr : ∀ q : Nat, Calls Tryz.prog 10 #[.pointer (some ⟨g, 0, none⟩)] (w5.drewN q) fun e w' => e = .returned (.int .i64 (τ.byts : Nat)) ∧ ∃ m, w' = w5.drewN m := fun q =>
            (rbytes_any _ g τ _ (hB6.rf.frame ((Fr.refl (fun _ => False) w5).drewN q) (fun _ _ _ e => e)) (by omega) (by omega)).mono fun e w' h => ⟨h.1, q, h.2⟩
          have kCf : ∀ q : Nat, Calls Tryz.prog 11 #[.pointer (some ⟨f, 0, none⟩)] (w5.drewN q) fun e w' => e = .returned (.int .i64 (τ.cnt : Nat)) ∧ ∃ m, w' = w5.drewN m := fun q =>
            (Count_any _ f τ _ p5 (hB6.fa.frame ((Fr.refl (fun _ => False) w5).drewN q) (fun _ _ _ e => e))).mono fun e w' h => ⟨h.1, q, h.2⟩
          have kCr : ∀ q : Nat, Calls Tryz.prog 12 #[.pointer (some ⟨g, 0, none⟩)] (w5.drewN q) fun e w' => e = .returned (.int .i64 (τ.cnt : Nat)) ∧ ∃ m, w' = w5.drewN m := fun q =>
            (rcount_any _ g τ _ (hB6.rf.frame ((Fr.refl (fun _ => False) w5).drewN q) (fun _ _ _ e => e)) (by omega)).mono fun e w' h => ⟨h.1, q, h.2⟩
          obtain ⟨bm, hbm⟩ : ∃ bm, bm = mayR τ n kk := ⟨_, rfl⟩
          have kMf : ∀ q : Nat, Calls Tryz.prog 13 #[.pointer (some ⟨f, 0, none⟩), .int .i64 n, .int .i64 kk] (w5.drewN q) fun e w' => e = .returned (.bool bm) ∧ ∃ m, w' = w5.drewN m := fun q =>
            (May_any _ f τ _ p5 (hB6.fa.frame ((Fr.refl (fun _ => False) w5).drewN q) (fun _ _ _ e => e)) n kk Hok.out.n Hok.out.k).mono fun e w' h => ⟨by rw [hbm]; exact h.1, q, h.2⟩
          have kMr : ∀ q : Nat, Calls Tryz.prog 14 #[.pointer (some ⟨g, 0, none⟩), .int .i64 n, .int .i64 kk] (w5.drewN q) fun e w' => e = .returned (.bool bm) ∧ ∃ m, w' = w5.drewN m := fun q =>
            (rmay_any _ g τ _ (hB6.rf.frame ((Fr.refl (fun _ => False) w5).drewN q) (fun _ _ _ e => e)) (by omega) hB6.fa.allM n kk Hok.out.n Hok.out.k).mono fun e w' h => ⟨by rw [hbm]; exact h.1, q, h.2⟩
          have KBf := hide kBf
          have KBr := hide kBr
          have KCf := hide kCf
          have KCr := hide kCr
          have KMf := hide kMf
          have KMr := hide kMr
          have hnext := hide (fun (w6 : World) (hf : Fr (fun _ => False) w5 w6) => (⟨k + 1, by have := Hgk.out; omega, Hk150.out, by go_num, τ, p5, _, _, hB6.still hf⟩ : RunRel W f g l.length (gk - 1) (.int .i64 ((k : Int) + 1)) w6))
          have i1 : w5.cell? ⟨ca, 1, none⟩ = some (.int .i64 n) := by rw [blk_cell hca5]; rfl
          have i3 : w5.cell? ⟨ca, 3, none⟩ = some (.int .i64 kk) := by rw [blk_cell hca5]; rfl
          clear kBf kBr kCf kCr kMf kMr hbm hB6 hca5
          obtain ⟨an, asx, ⟨t1, t2, t3, t4, t5⟩, al, ae⟩ := B
          unfold ansV
          simp only
          refine ⟨fun w' => ∃ q, w' = w5.drewN q, ⟨0, rfl⟩, ?_⟩
          repeat go_big_quiet_step (first | (go_at_call 9; exact KBf.out _) | (go_at_call 10; exact KBr.out _) | (go_at_call 11; exact KCf.out _) | (go_at_call 12; exact KCr.out _) | (go_at_call 13; exact KMf.out _) | (go_at_call 14; exact KMr.out _))
          refine wpQuiet_nil ?_
          rintro w6 ⟨nq, rfl⟩
          have hn6 := hide (hnext.out (w5.drewN nq) ((Fr.refl _ _).drewN _))
          clear hnext KBf KBr KCf KCr KMf KMr
          go_wp2_with fail
          go_roundg (gk - 1)
          case measure => have := Hgk.out; omega
          case rel => exact hn6.out
      · have hfin := hide (show RunI W f g 150 wr from ⟨σ, p, S1, S2, hB.fa, hB.rf, hB.gd.mono (by omega), hB.ap, hB.lo1, hB.lo2, hB.fr⟩)
        have hkI : ¬ (k : Int) < (l.length : Int) := by omega
        clear hB
        go_wp2_with fail
        go_meet
        exact hfin.out
  case rest =>
    clear H0
    obtain ⟨σ, p, S1, S2, hB⟩ := hcut
    have hc1 : Caps σ 1000000 := hB.gd.caps.mono (by omega)
    have hcap : CapB σ := fun i n hn => by have := hc1 i n hn; omega
    have htree := hide (tree_any wc f σ _ p hB.fa hB.gd.inv hc1)
    have hcount := treeL_count hB.gd.inv hB.gd.live hc1
    have HB := hide hB
    have Hc1 := hide hc1
    have Hcap := hide hcap
    clear hB hc1 hcap
    go_wp2_with fail
    refine htree.out.mono ?_
    rintro e w4 ⟨v4, rfl, hv4, hf4⟩
    have hR4 := HB.out.rf.frame hf4 (fun _ _ _ e => e)
    have hrt := hide (rtree_any w4 g σ _ hR4 ⟨HB.out.gd.live, HB.out.fa.allM, Hcap.out⟩ HB.out.gd.inv Hc1.out)
    have Hv4 := hide hv4
    have Hf4 := hide hf4
    clear hR4 htree hv4 hf4
    go_wp2_with fail
    refine hrt.out.mono ?_
    rintro e w5 ⟨v5, rfl, hv5, hf5⟩
    have hsame := hide (same_any w5 _ _ v4 v5 (treeL σ) (own_frame Hv4.out hf5 (fun _ _ e => e)) hv5 (by omega))
    have Hf5 := hide hf5
    clear hrt hv5 hf5
    go_wp2_with fail
    refine hsame.out.mono ?_
    rintro e w6 ⟨rfl, hf6⟩
    have hfin := hide (show LawPost W (.returned (.bool true)) w6 from ⟨rfl, ((HB.out.fr.trans (Hf4.out.trans Hf5.out).no).trans hf6.no).below (fun i hi e => by omega)⟩)
    clear hsame hf6
    go_wp2_with fail
    go_returns
    exact hfin.out
end Go.Proofs.YthikjdpnlahkfaaGreatDoor
