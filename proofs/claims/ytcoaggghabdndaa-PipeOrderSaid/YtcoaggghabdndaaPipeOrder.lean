/- The walk of PipeOrder: it returns true and leaves old memory as it was. Conditions: both rows of numbers read as rows of numbers. -/
import Derived.Test.YtcoaggghabdndaaPipeEnds
namespace Go.Proofs.Ytcoaggghabdndaa
open Go.RowKit

/-- A row of numbers. -/
def IntRow (W : World) (a : Option Addr) (len : Nat) : Prop :=
  len ≤ 9223372036854775807 ∧ (len = 0 ∨ ∃ cb co, a = some ⟨cb, co, none⟩ ∧ ∀ k, k < len → ∃ n : Int, W.cell? ⟨cb, co + k, none⟩ = some (.int .i64 n) ∧ -9223372036854775808 ≤ n ∧ n ≤ 9223372036854775807)

def OrdRel (W : World) (text : ByteArray) (b lb sz len gk : Nat) (left got i : Value) (w : World) : Prop :=
  ∃ (k : Nat) (d : List UInt8) (lf gt : ByteArray), gk + k = len ∧ i = .int .i64 k ∧ left = .string lf ∧ got = .string gt ∧ PipeAt w b lb sz d 1 1 ∧ gt.data.toList ++ d ++ lf.data.toList = text.data.toList ∧ Fr (fun _ => False) W w

/-- Write, as this law looks at it. -/
def WOrd (w : World) (b lb sz : Nat) (d : List UInt8) (s : ByteArray) (e : Ending) (w' : World) : Prop :=
  ∃ (m : Nat) (ev : Int) (d' : List UInt8), e = .returned (.tuple #[.int .i64 m, .int .i64 ev]) ∧ m ≤ s.size ∧ d' = d ++ s.data.toList.take m ∧ PipeAt w' b lb sz d' 1 1 ∧ (ev = 0 ∨ ev = 11 ∧ d'.length = sz) ∧ Fr (fun k => k = b ∨ k = lb) w w'
theorem pwrite_ord (b lb sz : Nat) (d : List UInt8) (w : World) (h : PipeAt w b lb sz d 1 1) (s : ByteArray) (hs : s.size ≤ 9223372036854775807) :
    Calls Try.prog 16 #[.pointer (some ⟨b, 0, none⟩), .string s] w (WOrd w b lb sz d s) :=
  (pwrite_any b lb sz d 1 1 w h s hs).mono fun e w' ⟨h1, h2, h3⟩ => ⟨_, _, _, h1, by unfold wrN; rw [ba_len]; simp; omega, rfl, h2, by
    unfold wrE
    by_cases hc : s.data.toList ≠ [] ∧ d.length = sz
    · right
      refine ⟨by rw [if_neg (by omega), if_pos hc], ?_⟩
      rw [List.length_append, List.length_take, hc.2]
      unfold wrN
      rw [if_neg (by omega), hc.2]
      simp
    · left
      rw [if_neg (by omega), if_neg hc], h3⟩
/-- Read, as this law looks at it. -/
def ROrd (w : World) (b lb sz : Nat) (d : List UInt8) (n : Int) (e : Ending) (w' : World) : Prop :=
  ∃ (s : ByteArray) (ev : Int) (d' : List UInt8), e = .returned (.tuple #[.string s, .int .i64 ev]) ∧ (s.size : Int) ≤ n ∧ s.data.toList ++ d' = d ∧ PipeAt w' b lb sz d' 1 1 ∧ (ev = 0 ∧ ((d.length : Int) ≤ n → d' = []) ∨ ev = 11 ∧ d' = [] ∧ s.size = 0) ∧ Fr (fun k => k = b) w w'
theorem pread_ord (b lb sz : Nat) (d : List UInt8) (w : World) (h : PipeAt w b lb sz d 1 1) (n : Int) (hn0 : 0 ≤ n) (hn : n ≤ 9223372036854775807) :
    Calls Try.prog 18 #[.pointer (some ⟨b, 0, none⟩), .int .i64 n] w (ROrd w b lb sz d n) :=
  (pread_any b lb sz d 1 1 w h n hn).mono fun e w' ⟨h1, h2, h3⟩ => by
    by_cases hc : 0 < n ∧ d.length = 0 ∧ 0 < 1
    · obtain ⟨k1, k2⟩ := rd_again (d := d) (x := 1) hc.1 hc.2.1 (by omega)
      rw [k1] at h1 h2
      rw [k2] at h1
      have hd0 := List.length_eq_zero_iff.1 hc.2.1
      exact ⟨⟨#[]⟩, 11, [], h1, by show (0 : Int) ≤ n; exact hn0, by rw [hd0]; rfl, by rw [hd0] at h2; simpa using h2, .inr ⟨rfl, rfl, rfl⟩, h3⟩
    · have h0 : ¬ n < 0 := by omega
      have hc' : ¬ (0 < n ∧ d = [] ∧ 0 < 1) := fun ⟨a, b, c⟩ => hc ⟨a, by rw [b]; rfl, c⟩
      have k1 : rdS d 1 n = d.take n.toNat := by unfold rdS; rw [if_neg h0, if_neg hc']
      have k2 : rdE d 1 n = 0 := by unfold rdE; rw [if_neg h0, if_neg hc']
      rw [k1] at h1 h2
      rw [k2] at h1
      refine ⟨⟨(d.take n.toNat).toArray⟩, 0, d.drop n.toNat, h1, ?_, by simp, ?_, .inl ⟨rfl, fun hh => List.drop_of_length_le (by omega)⟩, h3⟩
      · have := ba_len ⟨(d.take n.toNat).toArray⟩
        rw [← this]; simp; omega
      · rw [List.length_take] at h2
        rcases Nat.le_total n.toNat d.length with hle | hle
        · rwa [Nat.min_eq_left hle] at h2
        · rw [Nat.min_eq_right hle, List.drop_length] at h2
          rwa [List.drop_of_length_le hle]

set_option maxRecDepth 100000 in
set_option maxHeartbeats 6000000 in
theorem porder_walk (size : Int) (text : ByteArray) (a1 a2 : Option Addr) (l1 l2 c1 c2 : Nat) (W : World) (hr1 : IntRow W a1 l1) (hr2 : IntRow W a2 l2) (htx : text.size ≤ 9223372036854775807) :
    Calls Try.prog 4 #[.int .i64 size, .string text, .agg #[.slice a1 l1 c1, .slice a2 l2 c2]] W (LawPost W) := by
  have hl1 := hr1.1
  have hl2 := hr2.1
  go_enter Try.func4, Try.ntmps4
  go_wp2_with fail
  refine region_still (by kernel_rfl) (by kernel_rfl) ?_
  repeat go_big_quiet_step (fail)
  refine wpQuiet_nil ?_
  obtain ⟨w0, hw0⟩ : ∃ w0, w0 = (W.alloc (.cells #[.slice a1 l1 c1, .slice a2 l2 c2] 32)).drew := ⟨_, rfl⟩
  have hf0 : Fr (fun _ => False) W w0 := by rw [hw0]; exact ((Fr.refl _ _).alloc _).drew
  rw [← hw0]
  have Hw0 := hide hw0
  clear hw0
  go_wp2_with fail
  refine (pawake_any _).mono ?_
  rintro e w1 ⟨rfl, hf1⟩
  have hW1 : Fr (fun _ => False) W w1 := hf0.trans hf1
  clear hf0 hf1 Hw0
  have hret : LawPost W (.returned (.bool true)) w1 := ⟨rfl, hW1.below (fun _ _ h => h)⟩
  by_cases h1 : size.tmod 300 < 1
  · go_wp2_with fail
    go_ret
    exact hret
  by_cases h2 : 2000 < (text.size : Int)
  · have h1' : 1 ≤ size.tmod 300 := by omega
    go_wp2_with fail
    go_ret
    exact hret
  by_cases h3 : 100 < (l1 : Int)
  · have h1' : 1 ≤ size.tmod 300 := by omega
    go_wp2_with fail
    go_ret
    exact hret
  have hz : size.tmod 300 < 300 := by have := Int.tmod_lt_of_pos size (show (0 : Int) < 300 by omega); omega
  obtain ⟨sz, hsz⟩ : ∃ sz : Nat, size.tmod 300 = sz := ⟨(size.tmod 300).toNat, by omega⟩
  have h1' : 1 ≤ sz := by omega
  have hz' : sz < 300 := by omega
  have hbn : ((sz : Int) < 1) = False := by simp; omega
  clear h1 hz
  go_wp2_with fail
  refine (pnew_any _ _).mono ?_
  rintro e w2 ⟨hf2, (⟨hs, rfl⟩ | ⟨hs, b, lb, hb, hlb, rfl, hp1⟩)⟩
  · omega
  rw [Int.toNat_natCast] at hp1
  go_wp2_with fail
  refine (popen_any _ _ _ _ _ _ _ hp1 (by omega) (by omega) _).mono ?_
  rintro e w3 ⟨rfl, hp3', hf3⟩
  have hp3 : PipeAt w3 b lb sz [] 0 1 := hp3'
  clear hp3'
  go_wp2_with fail
  refine (popen_any _ _ _ _ _ _ _ hp3 (by omega) (by omega) _).mono ?_
  rintro e w4 ⟨rfl, hp4', hf4⟩
  have hp4 : PipeAt w4 b lb sz [] 1 1 := hp4'
  clear hp4' hp3 hp1 hret
  have hs2 := hf2.size
  have hs1 := hW1.size
  have hW4 : Fr (fun _ => False) W w4 := ((hW1.trans hf2).trans' hf3 (fun i hi e => by omega)).trans' hf4 (fun i hi e => by omega)
  clear hW1 hf2 hf3 hf4
  go_wp2_with fail
  go_outline
  go_loopg [11, 12, 55] l1 (fun gk left got i wr => OrdRel W text b lb sz l1 gk left got i wr)
  case atStart => exact ⟨0, [], text, ⟨#[]⟩, by omega, rfl, rfl, rfl, hp4, by simp, hW4⟩
  case round =>
    clear hp4 hW4
    obtain ⟨k, d, lf, gt, hgk, rfl, rfl, rfl, hp, htxt, hfr⟩ := hrel
    have Hgk := hide hgk
    have Htxt := hide htxt
    clear hgk htxt
    by_cases hlt : k < l1
    · obtain ⟨cb, co, rfl, hrow⟩ := hr1.2.resolve_left (by omega)
      obtain ⟨wv, c0, hwv1, hwv2⟩ := hrow k hlt
      have d0 : wr.cell? ⟨cb, co + k, none⟩ = some (.int .i64 wv) := by rw [World.cell?_of_block (w := W) (hfr.block _ (World.block_lt_of_cell? _ _ c0) (fun h => h))]; exact c0
      clear hrow c0
      have hlf : lf.size ≤ 2000 ∧ gt.size ≤ 2000 := by
        have := congrArg List.length Htxt.out
        simp only [List.length_append, ba_len] at this
        omega
      obtain ⟨hlf, hgt⟩ := hlf
      go_upto_region 17 with fail
      go_cut [68] (fun s wx => wr = wx ∧ ∃ bb : Bool, s = .bool bb ∧ (bb = true → 0 ≤ wv ∧ wv < (lf.size : Int)))
      case first =>
        by_cases ha : 0 ≤ wv
        · by_cases hb : wv < (lf.size : Int)
          · go_wp2_with fail
            go_meet
            exact ⟨rfl, true, rfl, fun _ => ⟨ha, hb⟩⟩
          · have hb' : decide (wv < (lf.size : Int)) = false := by simpa using hb
            go_wp2_with fail
            go_meet
            exact ⟨rfl, false, rfl, fun hh => by cases hh⟩
        · have ha' : decide (0 ≤ wv) = false := by simpa using ha
          go_wp2_with fail
          go_meet
          exact ⟨rfl, false, rfl, fun hh => by cases hh⟩
      case rest =>
        obtain ⟨rfl, bb, rfl, hbb⟩ := hcut
        go_upto_if 68 with fail
        go_cut [15] (fun s wx => wr = wx ∧ ∃ kk : Nat, s = .int .i64 kk ∧ kk ≤ lf.size)
        case first =>
          cases bb
          · clear hbb
            go_wp2_with fail
            go_meet
            exact ⟨rfl, _, rfl, Nat.le_refl _⟩
          · have hb1 := (hbb rfl).1
            have hb2 := (hbb rfl).2
            clear hbb
            go_wp2_with fail
            go_meet
            exact ⟨rfl, wv.toNat, by rw [show ((wv.toNat : Nat) : Int) = wv by omega], by omega⟩
        case rest =>
          obtain ⟨rfl, kk, rfl, hkk⟩ := hcut
          clear hbb d0
          have hpl := hp.lt
          have hkk' : (kk : Int) ≤ (lf.size : Int) := by omega
          go_wp2_with fail
          have hsx : (lf.extract 0 kk).size = kk := by rw [← ba_len, ba_extract]; simp [ba_len]; omega
          refine (pwrite_ord _ _ _ _ _ hp _ (by omega)).mono ?_
          rintro e w5 ⟨m, ev, d1, rfl, hm, hd1, hp5, hev, hf5⟩
          rw [hsx] at hm
          rw [ba_extract, List.drop_zero, Nat.sub_zero] at hd1
          have Hd1 := hide hd1
          have hfr5 : Fr (fun _ => False) W w5 := hfr.trans' hf5 (fun i hi e => by have := hfr.size; have := hb; omega)
          clear hd1 hsx hp hf5 hfr
          have hpl5 := hp5.lt
          have hm' : (m : Int) ≤ (kk : Int) := by omega
          have hm2 : (m : Int) ≤ (lf.size : Int) := by omega
          go_upto_region 20 with fail
          go_cut [104] (fun s wx => w5 = wx ∧ s = .bool false)
          case first =>
            have hd2 : (d1.length : Int) ≤ (sz : Int) := by omega
            rcases hev with rfl | ⟨rfl, hfull⟩
            · go_wp2_with fail
              refine (plen_any _ _ _ _ _ _ _ hp5).mono ?_
              rintro e w6 ⟨rfl, rfl⟩
              go_wp2_with fail
              go_meet
              exact ⟨rfl, by first | rfl | (simp; omega)⟩
            · have Hfull := hide hfull
              clear hfull
              go_wp2_with fail
              refine (plen_any _ _ _ _ _ _ _ hp5).mono ?_
              rintro e w6 ⟨rfl, rfl⟩
              rw [Hfull.out]
              go_wp2_with fail
              refine (plen_any _ _ _ _ _ _ _ hp5).mono ?_
              rintro e w6 ⟨rfl, rfl⟩
              rw [Hfull.out]
              go_wp2_with fail
              go_meet
              exact ⟨rfl, by first | rfl | (simp; omega)⟩
          case rest =>
            obtain ⟨rfl, rfl⟩ := hcut
            clear hev
            go_upto_if 111 with fail
            go_cut [18] (fun s wx => w5 = wx ∧ ∃ rr : Int, s = .int .i64 rr ∧ rr ≤ 9223372036854775807)
            case first =>
              by_cases h2k : k < l2
              · obtain ⟨cb2, co2, rfl, hrow2⟩ := hr2.2.resolve_left (by omega)
                obtain ⟨rv, c0, hrv1, hrv2⟩ := hrow2 k h2k
                have d2 : w5.cell? ⟨cb2, co2 + k, none⟩ = some (.int .i64 rv) := by rw [World.cell?_of_block (w := W) (hfr5.block _ (World.block_lt_of_cell? _ _ c0) (fun h => h))]; exact c0
                clear hrow2 c0
                have h2k' : (k : Int) < (l2 : Int) := by omega
                go_wp2_with fail
                go_meet
                exact ⟨rfl, rv, rfl, hrv2⟩
              · have h2k' : ¬ (k : Int) < (l2 : Int) := by omega
                go_wp2_with fail
                go_meet
                exact ⟨rfl, 0, rfl, by omega⟩
            case rest =>
              obtain ⟨rfl, rr, rfl, hrr⟩ := hcut
              by_cases hneg : rr < 0
              · go_wp2_with fail
                refine (pread_ord _ _ _ _ _ hp5 _ (by omega) (by omega)).mono ?_
                rintro e w6 ⟨sb, ev, d2, rfl, hsb, hd2, hp6, hev, hf6⟩
                have Hd2 := hide hd2
                have hfr6 : Fr (fun _ => False) W w6 := hfr5.trans' hf6 (fun i hi e => by have := hfr5.size; have := hb; omega)
                have hs2 : sb.size ≤ 300 := by
                  have := congrArg List.length hd2
                  simp only [List.length_append, ba_len] at this
                  omega
                clear hd2 hf6
                have hsA : decide ((0 : Int) < (sb.size : Int)) = false := decide_eq_false (by omega)
                have hsB : decide (0 < sb.size) = false := decide_eq_false (by omega)
                clear hsb
                go_upto_region 27 with fail
                go_cut [140] (fun s wx => w6 = wx ∧ s = .bool false)
                case first =>
                  rcases hev with ⟨rfl, hx⟩ | ⟨rfl, rfl, hx⟩
                  all_goals clear hx
                  · go_wp2_with fail
                    go_meet
                    exact ⟨rfl, by first | rfl | (simp; omega)⟩
                  · go_wp2_with fail
                    refine (plen_any _ _ _ _ _ _ _ hp6).mono ?_
                    rintro e w7 ⟨rfl, rfl⟩
                    go_wp2_with fail
                    go_meet
                    exact ⟨rfl, by first | rfl | (simp; omega)⟩
                case rest =>
                  obtain ⟨rfl, rfl⟩ := hcut
                  clear hev
                  go_wp2_with fail
                  go_roundg (gk - 1)
                  case measure => have := Hgk.out; omega
                  case rel =>
                    refine ⟨k + 1, d2, _, _, by have := Hgk.out; omega, by go_num, rfl, rfl, hp6, ?_, hfr6⟩
                    rw [ba_append, ba_extract, List.take_of_length_le (by rw [List.length_drop, ba_len]; omega), ← Htxt.out]
                    have hk2 : (lf.data.toList.take kk).take m = lf.data.toList.take m := by rw [List.take_take, Nat.min_eq_left hm]
                    have e1 := Hd2.out
                    rw [Hd1.out, hk2] at e1
                    rw [List.append_assoc gt.data.toList, e1]
                    simp only [List.append_assoc, List.take_append_drop]
              · go_wp2_with fail
                refine (pread_ord _ _ _ _ _ hp5 _ (by omega) (by omega)).mono ?_
                rintro e w6 ⟨sb, ev, d2, rfl, hsb, hd2, hp6, hev, hf6⟩
                have Hd2 := hide hd2
                have hfr6 : Fr (fun _ => False) W w6 := hfr5.trans' hf6 (fun i hi e => by have := hfr5.size; have := hb; omega)
                have hs2 : sb.size ≤ 300 := by
                  have := congrArg List.length hd2
                  simp only [List.length_append, ba_len] at this
                  omega
                clear hd2 hf6
                go_upto_region 27 with fail
                go_cut [140] (fun s wx => w6 = wx ∧ s = .bool false)
                case first =>
                  rcases hev with ⟨rfl, hx⟩ | ⟨rfl, rfl, hx⟩
                  all_goals clear hx
                  · go_wp2_with fail
                    go_meet
                    exact ⟨rfl, by first | rfl | (simp; omega)⟩
                  · go_wp2_with fail
                    refine (plen_any _ _ _ _ _ _ _ hp6).mono ?_
                    rintro e w7 ⟨rfl, rfl⟩
                    go_wp2_with fail
                    go_meet
                    exact ⟨rfl, by first | rfl | (simp; omega)⟩
                case rest =>
                  obtain ⟨rfl, rfl⟩ := hcut
                  clear hev
                  go_wp2_with fail
                  go_roundg (gk - 1)
                  case measure => have := Hgk.out; omega
                  case rel =>
                    refine ⟨k + 1, d2, _, _, by have := Hgk.out; omega, by go_num, rfl, rfl, hp6, ?_, hfr6⟩
                    rw [ba_append, ba_extract, List.take_of_length_le (by rw [List.length_drop, ba_len]; omega), ← Htxt.out]
                    have hk2 : (lf.data.toList.take kk).take m = lf.data.toList.take m := by rw [List.take_take, Nat.min_eq_left hm]
                    have e1 := Hd2.out
                    rw [Hd1.out, hk2] at e1
                    rw [List.append_assoc gt.data.toList, e1]
                    simp only [List.append_assoc, List.take_append_drop]
    · obtain rfl : k = l1 := by have := Hgk.out; omega
      have hpl := hp.lt
      have hss : lf.size ≤ text.size := by
        have := congrArg List.length Htxt.out
        simp only [List.length_append, ba_len] at this
        omega
      go_wp2_with fail
      refine (pread_ord _ _ _ _ _ hp _ (by omega) (by omega)).mono ?_
      rintro e w6 ⟨sb, ev, d2, rfl, hsb, hd2, hp6, hev, hf6⟩
      have hfr6 : Fr (fun _ => False) W w6 := hfr.trans' hf6 (fun i hi e => by have := hfr.size; have := hb; omega)
      have hfin : LawPost W (.returned (.bool true)) w6 := ⟨rfl, hfr6.below (fun _ _ h => h)⟩
      have hlens := congrArg List.length Htxt.out
      simp only [List.length_append, ba_len] at hlens
      have hcut : text.extract 0 (text.size - lf.size) = ⟨(gt.data.toList ++ d).toArray⟩ := by
        apply ByteArray.ext
        apply Array.toList_inj.1
        rw [ba_extract, List.drop_zero, ← Htxt.out, List.take_append_of_le_length (by simp only [List.length_append, ba_len]; omega), List.take_of_length_le (by simp only [List.length_append, ba_len]; omega)]
      have Hcut := hide hcut
      have Hlens := hide hlens
      have Hd2 := hide hd2
      have hgs : gt.size ≤ 2000 := by omega
      have hss2 : sb.size ≤ 300 := by omega
      have hss' : (lf.size : Int) ≤ (text.size : Int) := by omega
      clear hcut hlens hd2 hsb hf6
      have hct : (text.extract 0 (text.size - lf.size)).toList = gt.data.toList ++ d := by rw [ByteArray.toList_eq, Hcut.out]
      rcases hev with ⟨rfl, hx⟩ | ⟨rfl, rfl, hx⟩
      · obtain rfl := hx (by omega)
        have hg : gt ++ sb = ⟨(gt.data.toList ++ d).toArray⟩ := by
          apply ByteArray.ext
          apply Array.toList_inj.1
          rw [ba_append, ← Hd2.out, List.append_nil]
        have Hg := hide hg
        clear hg hx
        go_upto_region 35 with fail
        rw [Hg.out]
        go_wp2_with fail
        refine (plen_any _ _ _ _ _ _ _ hp6).mono ?_
        rintro e w7 ⟨rfl, rfl⟩
        go_wp2_with fail
        go_ret
        exact hfin
      · have hd0 : d = [] := by
          have h1 := Hd2.out
          have h2 := congrArg List.length h1
          simp only [List.length_append, ba_len, hx] at h2
          exact List.length_eq_zero_iff.1 (by simpa using h2.symm)
        have hct2 : (text.extract 0 (text.size - lf.size)).toList = gt.toList := by rw [hct, hd0, List.append_nil, ByteArray.toList_eq]
        have hge : gt ++ (⟨#[]⟩ : ByteArray) = gt := by
          apply ByteArray.ext
          apply Array.toList_inj.1
          rw [ba_append]; simp
        clear hct hd0 hx
        go_wp2_with fail
        refine (plen_any _ _ _ _ _ _ _ hp6).mono ?_
        rintro e w7 ⟨rfl, rfl⟩
        go_wp2_with fail
        go_ret
        exact hfin
end Go.Proofs.Ytcoaggghabdndaa
