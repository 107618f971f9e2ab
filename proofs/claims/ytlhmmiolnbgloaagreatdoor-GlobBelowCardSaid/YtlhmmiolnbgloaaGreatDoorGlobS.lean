/- pattern.Match. Conditions: the contract's own premises. -/
import Derived.Test.YtlhmmiolnbgloaaGreatDoorFilesD
import Derived.Test.YtlhmmiolnbgloaaGreatDoorFilesD
import Derived.Test.YtlhmmiolnbgloaaGreatDoorGlobP
import Derived.Test.YtlhmmiolnbgloaaGreatDoorRangeFunc
import Derived.Test.YtlhmmiolnbgloaaGreatDoorShelf
import Derived.Test.YtlhmmiolnbgloaaGreatDoorStrs
import Derived.Shelf.Abstract
import Derived.Shelf.Strings.Builder1
namespace Go.Proofs.YtlhmmiolnbgloaaGreatDoor
open Go.RowKit

theorem Mtn.inl {k : Nat} {t : MSt} {r b : Bool} (e : mstep t = .inl b) (h : Mtn k t r) : r = b := by
  cases h with
  | fin e' => rw [e] at e'; exact (Sum.inl.inj e').symm
  | go e' _ => rw [e] at e'; cases e'
theorem Mtn.inr {k : Nat} {t u : MSt} {r : Bool} (e : mstep t = .inr u) (h : Mtn k t r) : ∃ k', k = k' + 1 ∧ Mtn k' u r := by
  cases h with
  | fin e' => rw [e] at e'; cases e'
  | go e' h' => rw [e] at e'; cases Sum.inr.inj e'; exact ⟨_, rfl, h'⟩
theorem ext_drop (s : ByteArray) : (s.extract 1 s.size).data.toList = s.data.toList.drop 1 := by
  rw [ba_extract, List.take_of_length_le (by rw [List.length_drop, ba_len]; exact Nat.le_refl _)]
/-- What going back comes to. -/
theorem back_spec {k : Nat} {t : MSt} {r : Bool} (e : mstep t = backM t) (h : Mtn k t r) : ((t.star = false ∨ t.fr = []) → r = false) ∧ (¬ t.star = false → ¬ t.fr = [] → ∃ k', k = k' + 1 ∧ Mtn k' ⟨t.again, t.fr.drop 1, t.again, t.fr.drop 1, t.star⟩ r) := by
  refine ⟨fun h1 => ?_, fun h1 h2 => ?_⟩
  · unfold backM at e
    rw [if_pos h1] at e
    exact h.inl e
  · unfold backM at e
    rw [if_neg (by rintro (e | e); exact h1 e; exact h2 e)] at e
    exact h.inr e
def MtRel (w : World) (T : Nat → Prop) (gk : Nat) (r : Bool) (pv sv av fv bv : Value) (wr : World) : Prop :=
  ∃ (t : MSt) (sb fb : ByteArray), ChV wr T pv t.p ∧ sv = .string sb ∧ sb.data.toList = t.s ∧ ChV wr T av t.again ∧ fv = .string fb ∧ fb.data.toList = t.fr ∧ bv = .bool t.star ∧ t.p.length ≤ 1000000 ∧ t.again.length ≤ 1000000 ∧ Mtn gk t r ∧ Fr (fun _ => False) w wr
set_option maxRecDepth 100000 in
set_option maxHeartbeats 16000000 in
theorem match_any (w : World) (T : Nat → Prop) (v : Value) (p : List Ch) (h : ChV w T v p) (hp : p.length ≤ 1000000) (s : ByteArray) : Calls Tryz.prog 63 #[v, .string s] w (BPost w (matchL p s.data.toList)) := by
  obtain ⟨k, r, hk⟩ := Mtn.ends ⟨p, s.data.toList, [], [], false⟩ rfl
  rw [hk.mt.val]
  have H0 := hide (show MtRel w T k r v (.string s) (.slice none 0 0) (.string ⟨#[]⟩) (.bool false) w from ⟨_, s, ⟨#[]⟩, h, rfl, rfl, ⟨none, 0, rfl, Nat.le_refl _, by omega, .inl rfl⟩, rfl, rfl, rfl, hp, Nat.zero_le _, hk, Fr.refl _ _⟩)
  obtain ⟨pa, pc, rfl⟩ := h.form
  clear h hk hp
  go_enter Tryz.func63, Tryz.ntmps63
  go_wp2_with fail
  go_loopg [0, 1, 5, 6, 7] k (fun gk pv sv av fv bv wr => MtRel w T gk r pv sv av fv bv wr)
  case atStart => exact H0.out
  case round =>
    clear H0
    obtain ⟨⟨q, sl, ag, fl, st⟩, sb, fb, hq, rfl, hs, ha, rfl, hf, rfl, hql, hal, hm, hfr⟩ := hrel
    simp only at hq hs ha hf hql hal
    subst hs
    subst hf
    obtain ⟨qa, qc, rfl⟩ := hq.form
    obtain ⟨aa, ac, rfl⟩ := ha.form
    obtain ⟨-, hqc, hqc2, -⟩ := hq.at
    have Hq := hide hq
    have Hag := hide ha
    have Hm := hide hm
    have Hfr := hide hfr
    clear hq ha hm hfr
    cases q with
    | nil =>
      cases hsd : sb.data.toList with
      | nil =>
        have hr := Hm.out.inl (mstep_fin (t := ⟨[], sb.data.toList, ag, fb.data.toList, st⟩) hsd rfl)
        subst hr
        have hse := ba_empty hsd
        have hout := hide (show BPost w true (.returned (.bool true)) wr from ⟨rfl, Hfr.out⟩)
        clear Hq Hag Hm Hfr hsd
        go_wp2_with fail
        go_ret
        exact hout.out
      | cons c sr =>
        have hbk := back_spec (mstep_nil (t := ⟨[], sb.data.toList, ag, fb.data.toList, st⟩) rfl hsd) Hm.out
        have hse := ba_nonempty (s := sb) (by rw [hsd]; simp)
        have hst1 := hide (starts_any wr T _ [] Hq.out ⟨#[42]⟩)
        have hs0 : startsL [] (ByteArray.mk #[42]).data.toList = false := rfl
        rw [hs0] at hst1
        clear Hq Hm hsd
        go_wp2_with fail
        refine hst1.out.mono ?_
        rintro e w2 ⟨rfl, hf2⟩
        clear hst1
        have hbk := hide hbk
        by_cases hst : st = false
        · subst hst
          have hr : r = false := (hbk.out).1 (.inl rfl)
          subst hr
          have hout := hide (show BPost w false (.returned (.bool false)) w2 from ⟨rfl, (Hfr.out.trans hf2)⟩)
          clear hbk hf2
          go_wp2_with fail
          go_ret
          exact hout.out
        · have hst1 : st = true := by cases st <;> first | exact absurd rfl hst | rfl
          subst hst1
          by_cases hf0 : fb.data.toList = []
          · have hr : r = false := (hbk.out).1 (.inr hf0)
            subst hr
            have hout := hide (show BPost w false (.returned (.bool false)) w2 from ⟨rfl, (Hfr.out.trans hf2)⟩)
            have hfe := ba_empty hf0
            clear hbk hf2
            go_wp2_with fail
            go_ret
            exact hout.out
          · have hfe := ba_nonempty hf0
            have hfl : 0 < fb.size := by rw [← ba_len]; exact List.length_pos_iff.2 hf0
            have hfl2 : (1 : Int) ≤ (fb.size : Int) := by omega
            obtain ⟨k', hk', hm'⟩ := (hbk.out).2 hst hf0
            have hn := hide (show MtRel w T k' r (.slice aa ag.length ac) (.string (fb.extract 1 fb.size)) (.slice aa ag.length ac) (.string (fb.extract 1 fb.size)) (.bool true) w2 from ⟨⟨ag, fb.data.toList.drop 1, ag, fb.data.toList.drop 1, true⟩, _, _, Hag.out.still hf2, rfl, ext_drop fb, Hag.out.still hf2, rfl, ext_drop fb, rfl, hal, hal, hm', (Hfr.out.trans hf2)⟩)
            clear hbk hm' hf2
            go_wp2_with fail
            go_roundg k'
            case measure => omega
            case rel => exact hn.out
    | cons x q =>
      have hlx : (x :: q).length = q.length + 1 := rfl
      have hst1 := hide (starts_any wr T _ (x :: q) Hq.out ⟨#[42]⟩)
      have hs0 : startsL (x :: q) (ByteArray.mk #[42]).data.toList = decide (x = un starB) := starts_one x q 42
      rw [hs0] at hst1
      by_cases hx : x = un starB
      · obtain ⟨k', hk', hm'⟩ := Hm.out.inr (mstep_star (t := ⟨x :: q, sb.data.toList, ag, fb.data.toList, st⟩) rfl hx)
        rw [decide_eq_true hx] at hst1
        obtain ⟨g, o, rfl, hg, -, -⟩ := Hq.out.head
        obtain ⟨X, hX, hrest⟩ := Hq.out.rest
        have Hrest := hide hrest
        have hql2 : q.length ≤ 1000000 := by rw [List.length_cons] at hql; omega
        have hqc3 : q.length + 1 ≤ qc := hqc
        have hn := hide (fun (W2 : World) (hf : Fr (fun _ => False) wr W2) => (show MtRel w T k' r (.slice X q.length (qc - 1)) (.string sb) (.slice X q.length (qc - 1)) (.string sb) (.bool true) W2 from ⟨⟨q, sb.data.toList, q, sb.data.toList, true⟩, sb, sb, Hrest.out.still hf, rfl, rfl, Hrest.out.still hf, rfl, rfl, rfl, hql2, hql2, hm', Hfr.out.trans hf⟩))
        clear Hq Hag Hm Hfr hx hm' hrest Hrest hs0
        by_cases hsd : sb.data.toList = []
        · have hse := ba_empty hsd
          go_wp2_with fail
          refine hst1.out.mono ?_
          rintro e w2 ⟨rfl, hf2⟩
          have hn2 := hide (hn.out w2 hf2)
          clear hn hst1 hf2
          go_wp2_with fail
          go_roundg k'
          case measure => omega
          case rel => exact hn2.out
        · have hse := ba_nonempty hsd
          go_wp2_with fail
          refine hst1.out.mono ?_
          rintro e w2 ⟨rfl, hf2⟩
          have hn2 := hide (hn.out w2 hf2)
          clear hn hst1 hf2
          go_wp2_with fail
          go_roundg k'
          case measure => omega
          case rel => exact hn2.out
      · rw [decide_eq_false hx] at hst1
        cases hsd : sb.data.toList with
        | nil =>
          have hbk := back_spec (mstep_end (t := ⟨x :: q, sb.data.toList, ag, fb.data.toList, st⟩) rfl hsd hx) Hm.out
          have hse := ba_empty hsd
          clear Hq Hm hsd hx hs0
          go_wp2_with fail
          refine hst1.out.mono ?_
          rintro e w2 ⟨rfl, hf2⟩
          clear hst1
          have hbk := hide hbk
          by_cases hst : st = false
          · subst hst
            have hr : r = false := (hbk.out).1 (.inl rfl)
            subst hr
            have hout := hide (show BPost w false (.returned (.bool false)) w2 from ⟨rfl, (Hfr.out.trans hf2)⟩)
            clear hbk hf2
            go_wp2_with fail
            go_ret
            exact hout.out
          · have hst1 : st = true := by cases st <;> first | exact absurd rfl hst | rfl
            subst hst1
            by_cases hf0 : fb.data.toList = []
            · have hr : r = false := (hbk.out).1 (.inr hf0)
              subst hr
              have hout := hide (show BPost w false (.returned (.bool false)) w2 from ⟨rfl, (Hfr.out.trans hf2)⟩)
              have hfe := ba_empty hf0
              clear hbk hf2
              go_wp2_with fail
              go_ret
              exact hout.out
            · have hfe := ba_nonempty hf0
              have hfl : 0 < fb.size := by rw [← ba_len]; exact List.length_pos_iff.2 hf0
              have hfl2 : (1 : Int) ≤ (fb.size : Int) := by omega
              obtain ⟨k', hk', hm'⟩ := (hbk.out).2 hst hf0
              have hn := hide (show MtRel w T k' r (.slice aa ag.length ac) (.string (fb.extract 1 fb.size)) (.slice aa ag.length ac) (.string (fb.extract 1 fb.size)) (.bool true) w2 from ⟨⟨ag, fb.data.toList.drop 1, ag, fb.data.toList.drop 1, true⟩, _, _, Hag.out.still hf2, rfl, ext_drop fb, Hag.out.still hf2, rfl, ext_drop fb, rfl, hal, hal, hm', (Hfr.out.trans hf2)⟩)
              clear hbk hm' hf2
              go_wp2_with fail
              go_roundg k'
              case measure => omega
              case rel => exact hn.out
        | cons c sr =>
          have hse := ba_nonempty (s := sb) (by rw [hsd]; simp)
          have hr0 : 0 < sb.size := by rw [← ba_len, hsd]; simp
          have hr1 : (1 : Int) ≤ (sb.size : Int) := by omega
          have hx0 : sb[0]'hr0 = c := by
            have e1 : sb.data.toList[0]? = some (sb[0]'hr0) := by rw [Array.getElem?_toList]; exact Array.getElem?_eq_getElem hr0
            rw [hsd] at e1
            exact (Option.some.inj e1).symm
          have hone := hide (fun (W2 : World) (hf : Fr (fun _ => False) wr W2) => one_any W2 T _ x q (Hq.out.still hf) (by rw [List.length_cons] at hql; omega) c)
          cases ho : (oneL (x :: q) c).1 with
          | true =>
            obtain ⟨k', hk', hm'⟩ := Hm.out.inr (mstep_take (t := ⟨x :: q, sb.data.toList, ag, fb.data.toList, st⟩) rfl hsd hx ho)
            have hol := one_len x q c
            have hex : (sb.extract 1 sb.size).data.toList = sr := by rw [ext_drop, hsd]; rfl
            have Ho := hide ho
            have Hex := hide hex
            clear Hq Hm hsd hx hs0 ho hex
            go_wp2_with fail
            refine hst1.out.mono ?_
            rintro e w2 ⟨rfl, hf2⟩
            clear hst1
            go_wp2_with fail
            refine (hone.out w2 hf2).mono ?_
            rintro e w3 ⟨rv, rfl, hrv, hf3⟩
            rw [Ho.out]
            obtain ⟨ra, rc, rfl⟩ := hrv.form
            have hn := hide (show MtRel w T k' r (.slice ra (oneL (x :: q) c).2.length rc) (.string (sb.extract 1 sb.size)) (.slice aa ag.length ac) (.string fb) (.bool st) w3.drew from ⟨⟨(oneL (x :: q) c).2, sr, ag, fb.data.toList, st⟩, _, fb, hrv.still ((Fr.refl _ _).drew), rfl, Hex.out, Hag.out.still (hf2.trans hf3).drew, rfl, rfl, rfl, by simp only; rw [List.length_cons] at hql; omega, hal, hm', Hfr.out.trans (hf2.trans hf3).drew⟩)
            generalize (oneL (x :: q) c).2.length = rl at *
            clear hone hrv hf2 hf3 hm' Hex
            go_wp2_with fail
            refine region_still (by kernel_rfl) (by kernel_rfl) ?_
            repeat go_big_quiet_step (fail)
            refine wpQuiet_nil ?_
            go_wp2_with fail
            go_roundg k'
            case measure => omega
            case rel => exact hn.out
          | false =>
            have hbk := back_spec (mstep_no (t := ⟨x :: q, sb.data.toList, ag, fb.data.toList, st⟩) rfl hsd hx ho) Hm.out
            have Ho := hide ho
            clear Hq Hm hsd hx hs0 ho
            go_wp2_with fail
            refine hst1.out.mono ?_
            rintro e w2 ⟨rfl, hf2⟩
            clear hst1
            go_wp2_with fail
            refine (hone.out w2 hf2).mono ?_
            rintro e w3 ⟨rv, rfl, hrv, hf3⟩
            rw [Ho.out]
            obtain ⟨ra, rc, rfl⟩ := hrv.form
            generalize (oneL (x :: q) c).2.length = rl at *
            have hf23 := hf2.trans hf3
            clear hone hrv
            have hbk := hide hbk
            by_cases hst : st = false
            · subst hst
              have hr : r = false := (hbk.out).1 (.inl rfl)
              subst hr
              have hout := hide (show BPost w false (.returned (.bool false)) w3 from ⟨rfl, (Hfr.out.trans hf23)⟩)
              clear hbk hf23 hf2 hf3
              go_wp2_with fail
              go_ret
              exact hout.out
            · have hst1 : st = true := by cases st <;> first | exact absurd rfl hst | rfl
              subst hst1
              by_cases hf0 : fb.data.toList = []
              · have hr : r = false := (hbk.out).1 (.inr hf0)
                subst hr
                have hout := hide (show BPost w false (.returned (.bool false)) w3 from ⟨rfl, (Hfr.out.trans hf23)⟩)
                have hfe := ba_empty hf0
                clear hbk hf23 hf2 hf3
                go_wp2_with fail
                go_ret
                exact hout.out
              · have hfe := ba_nonempty hf0
                have hfl : 0 < fb.size := by rw [← ba_len]; exact List.length_pos_iff.2 hf0
                have hfl2 : (1 : Int) ≤ (fb.size : Int) := by omega
                obtain ⟨k', hk', hm'⟩ := (hbk.out).2 hst hf0
                have hn := hide (show MtRel w T k' r (.slice aa ag.length ac) (.string (fb.extract 1 fb.size)) (.slice aa ag.length ac) (.string (fb.extract 1 fb.size)) (.bool true) w3 from ⟨⟨ag, fb.data.toList.drop 1, ag, fb.data.toList.drop 1, true⟩, _, _, Hag.out.still hf23, rfl, ext_drop fb, Hag.out.still hf23, rfl, ext_drop fb, rfl, hal, hal, hm', (Hfr.out.trans hf23)⟩)
                clear hbk hm' hf23 hf2 hf3
                go_wp2_with fail
                go_roundg k'
                case measure => omega
                case rel => exact hn.out
end Go.Proofs.YtlhmmiolnbgloaaGreatDoor

/- strings.Builder, byte by byte; glob.text. Conditions: the contracts' own premises. -/
namespace Go.Proofs.YtlhmmiolnbgloaaGreatDoor
open Go.RowKit Go.Shelf

theorem extraB : Builder.Extra Tryz.prog Tryz.laysBStr_ren :=
  { sizeBuilder := by kernel_rfl, liesBuilder := by kernel_rfl, t5 := Tryz.underlying5, a5 := Tryz.isAgg5, z5 := Tryz.sizeOf5, v5 := Tryz.zeroValue5, infoByte := by kernel_rfl, cellsByte := by kernel_rfl, sizeByte := by kernel_rfl, neB5 := by decide }
set_option maxRecDepth 100000 in
set_option maxHeartbeats 1000000 in
theorem cc_used (b : Nat) (w : World) (h0 : w.cell? ⟨b, 0, none⟩ = some (.pointer (some ⟨b, 0, none⟩))) :
    Calls Tryz.prog 92 #[.pointer (some ⟨b, 0, none⟩)] w fun e w' => e = .returned (.tuple #[]) ∧ w' = w := by
  obtain ⟨j, hj, _⟩ := Option.map_eq_some_iff.1 extraB.sizeBuilder
  go_enter Tryz.func92, Tryz.ntmps92
  go_wp2
  rw [Lib.run_neq_ptr_same w _ Tryz.underlying119 hj]
  go_wp2
  go_end0
  exact ⟨rfl, rfl⟩
set_option maxRecDepth 100000 in
set_option maxHeartbeats 1000000 in
theorem cc_fresh (b : Nat) (w : World) (h0 : w.cell? ⟨b, 0, none⟩ = some (.pointer none)) (hsh : w.shape? b = some (121, 2)) (hfz : w.frozen? ⟨b, 0, none⟩ = false) :
    Calls Tryz.prog 92 #[.pointer (some ⟨b, 0, none⟩)] w fun e w' => e = .returned (.tuple #[]) ∧ w' = w.setCell ⟨b, 0, none⟩ (.pointer (some ⟨b, 0, none⟩)) := by
  obtain ⟨j, hj, hjs⟩ := Option.map_eq_some_iff.1 extraB.sizeBuilder
  go_enter Tryz.func92, Tryz.ntmps92
  go_wp2
  rw [Lib.run_to_unsafe w ⟨b, 0, none⟩ Tryz.underlying119 Tryz.underlying158 hj (by rw [hjs]; decide) hsh (Nat.zero_lt_succ 1)]
  simp only [Result.andThen]
  rw [Oper.upon_value]
  go_wp2
  rw [run_callFunc_extern Tryz.func104 (by kernel_rfl) (by kernel_rfl) (by kernel_rfl) (e := Extern.AbiNoEscape.same) (by kernel_rfl)]
  rw [Lib.run_noEscape]
  simp only [Result.andThen]
  rw [Oper.upon_value]
  go_wp2
  rw [Lib.run_from_unsafe w ⟨b, 0, none⟩ Tryz.underlying158 Tryz.underlying119 hj hsh extraB.liesBuilder]
  simp only [Result.andThen]
  rw [Oper.upon_value]
  go_wp2
  go_end0
  exact ⟨rfl, rfl⟩
theorem cc_any (B b : Nat) (bs : List Value) (w : World) (h : Lib.IsBuilder 121 5 B b bs w) :
    Calls Tryz.prog 92 #[.pointer (some ⟨b, 0, none⟩)] w fun e w' => e = .returned (.tuple #[]) ∧ (Lib.BuilderAt 121 5 B b (.pointer (some ⟨b, 0, none⟩)) bs w' ∧ Below B w w') := by
  rcases h with h | h
  · refine (cc_fresh b w h.cell0 h.shape h.frozen0).mono ?_
    rintro e w' ⟨rfl, rfl⟩
    exact ⟨rfl, h.used _, (Below.refl B w).setCell (p := ⟨b, 0, none⟩) h.1 _⟩
  · refine (cc_used b w h.cell0).mono ?_
    rintro e w' ⟨rfl, rfl⟩
    exact ⟨rfl, h, Below.refl B _⟩
set_option maxRecDepth 100000 in
set_option maxHeartbeats 2000000 in
theorem wb_any (B b : Nat) (bs : List Value) (c : Int) (w : World) (h : Lib.IsBuilder 121 5 B b bs w) (hlen : bs.length + 1 ≤ 140737488355328) (hBw : B ≤ w.heap.size) :
    Calls Tryz.prog 64 #[.pointer (some ⟨b, 0, none⟩), .int .u8 c] w fun e w' => e = .returned .nilIface ∧ (Lib.BuilderAt 121 5 B b (.pointer (some ⟨b, 0, none⟩)) (bs ++ [.int .u8 c]) w' ∧ Below B w w') := by
  obtain ⟨i0, hi, hz0, hz1, hz2⟩ := info_parts extraB.infoByte
  go_enter Tryz.func64, Tryz.ntmps64
  go_wp2_with (go_at_call 92; refine (cc_any B b bs _ h).mono ?_)
  rintro e w1 ⟨rfl, h1, hb1⟩
  obtain ⟨hB, v, hbk, hown, hne⟩ := h1
  have c0 : w1.cell? ⟨b, 0, none⟩ = some (.pointer (some ⟨b, 0, none⟩)) := by rw [Lib.cell_of_heap hbk]; rfl
  have c1 : w1.cell? ⟨b, 1, none⟩ = some v := by rw [Lib.cell_of_heap hbk]; rfl
  go_wp2_with (at_builtin; refine wpList_append_own _ rfl _ _ 63 rfl B 5 i0 (.int .u8 0) 1 1 Tryz.underlying63 hi hz0 hz1 hz2 rfl (by decide) _ _ _ rfl (hown.alloc _) ⟨w1.heap.size, 0, none⟩ 1 1 [.int .u8 c] rfl rfl ?c1 ?c2 ?c3 ?c4 ?c5 ?_)
  case c1 =>
    intro j u hj
    match j, hj with
    | 0, hj => simp at hj; subst hj; simp [Addr.add]
  case c2 => intro u hu; simp at hu; subst hu; rfl
  case c3 => unfold maxLen; omega
  case c4 => omega
  case c5 => have := hb1.size; simp; omega
  intro v' w2 hown' hgrow _
  have hlt : b < w1.heap.size := by
    rcases Nat.lt_or_ge b w1.heap.size with h' | h'
    · exact h'
    · simp [Array.getElem?_eq_none h'] at hbk
  have hb2 : w2.heap[b]? = some (.cells #[.pointer (some ⟨b, 0, none⟩), v] 121 (0, 0)) := by
    rw [hgrow.block b (by simp; omega) (fun e => hne e.symm), Lib.alloc_old w1 _ b hlt]
    exact hbk
  have d0 : w2.cell? ⟨b, 0, none⟩ = some (.pointer (some ⟨b, 0, none⟩)) := by rw [Lib.cell_of_heap hb2]; rfl
  have d1 : w2.cell? ⟨b, 1, none⟩ = some v := by rw [Lib.cell_of_heap hb2]; rfl
  have f1 : w2.frozen? ⟨b, 1, none⟩ = false := Lib.frozen_of_heap hb2 1
  obtain ⟨g, cap, rfl⟩ : ∃ g cap, v' = .slice (some ⟨g, 0, none⟩) (bs.length + 1) cap := by
    rcases hown'.2 with ⟨_, h0⟩ | ⟨g, cap, cur, hv, _⟩
    · omega
    · exact ⟨g, cap, hv⟩
  go_wp2
  go_ret
  refine ⟨rfl, ?_, ?_⟩
  · exact Lib.BuilderAt.put (T := 121) (e := 5) hB hb2 (bs' := bs ++ [.int .u8 c]) (by simpa using hown') extraB.neB5
  · exact ((hb1.alloc (by have := hb1.size; omega) _).grown hgrow (by have := hb1.size; simp; omega) (fun k hk => (hown.lt k hk).1)).setCell (p := ⟨b, 1, none⟩) hB _
theorem fr_from {B : Nat} {w w' : World} (h : Below B w w') : Fr (fun k => B ≤ k) w w' := ⟨h.os, h.tape, h.output, h.size, fun i _ hn => h.block i (by omega)⟩
theorem bl_alloc {B b : Nat} {bs : List Value} {w : World} (h : Lib.IsBuilder 121 5 B b bs w) (o : Obj) : Lib.IsBuilder 121 5 B b bs (w.alloc o) :=
  h.imp (fun h => ⟨h.1, by
    obtain ⟨v, h1, h2, h3⟩ := h.2
    exact ⟨v, blk_alloc h1 o, h2.alloc o, h3⟩⟩) (fun h => ⟨h.1, by
    obtain ⟨v, h1, h2, h3⟩ := h.2
    exact ⟨v, blk_alloc h1 o, h2.alloc o, h3⟩⟩)
def SPost (w : World) (l : List UInt8) (e : Ending) (w' : World) : Prop := e = .returned (.string ⟨l.toArray⟩) ∧ Fr (fun _ => False) w w'
def txL (p : List Ch) : List UInt8 := p.map (·.b)
def TxRel (w : World) (b : Nat) (p : List Ch) (gk : Nat) (i : Value) (wr : World) : Prop := ∃ k, gk + k = p.length ∧ i = .int .i64 k ∧ Lib.IsBuilder 121 5 w.heap.size b (Lib.byteCells (txL (p.take k))) wr ∧ Fr (fun _ => False) w wr
theorem tx_step {p : List Ch} {k : Nat} (h : k < p.length) : Lib.byteCells (txL (p.take (k + 1))) = Lib.byteCells (txL (p.take k)) ++ [.int .u8 p[k].b.toNat] := by
  rw [List.take_succ_eq_append_getElem h]
  unfold txL Lib.byteCells
  rw [List.map_append, List.map_append]
  rfl
set_option maxRecDepth 100000 in
set_option maxHeartbeats 1000000 in
theorem text_any (w : World) (T : Nat → Prop) (v : Value) (p : List Ch) (h : ChV w T v p) (hp : p.length ≤ 1000000) : Calls Tryz.prog 43 #[v] w (SPost w (txL p)) := by
  obtain ⟨a, c, rfl⟩ := h.form
  have Hp := hide h
  obtain ⟨w1, hw1⟩ : ∃ w1, w1 = w.alloc (.cells #[.pointer none, .slice none 0 0] 121 (0, 0)) := ⟨_, rfl⟩
  obtain ⟨b, hb⟩ : ∃ b, b = w.heap.size := ⟨_, rfl⟩
  have H0 := hide (show TxRel w b p p.length (.int .i64 (0 : Nat)) w1 from ⟨0, rfl, rfl, .inl ⟨by omega, .slice none 0 0, by rw [hw1, hb]; exact blk_new _ _, ⟨by simp [txL, Lib.byteCells], .inl ⟨rfl, rfl⟩⟩, by simp [Value.ownBlock]⟩, by rw [hw1]; exact (Fr.refl _ _).alloc _⟩)
  clear h
  go_enter Tryz.func43, Tryz.ntmps43
  go_upto_region 3 with (fail)
  rw [← hw1, ← hb]
  have Hb := hide hb
  clear hw1 hb
  go_loopg [8] p.length (fun gk i wr => TxRel w b p gk i wr)
  case atStart => exact H0.out
  case round =>
    clear H0
    obtain ⟨k, hk, rfl, hB, hfr⟩ := hrel
    have Hgk := hide hk
    by_cases hlt : k < p.length
    · obtain ⟨_, hcap, hcc, A⟩ := Hp.out.at
      rcases A with A | ⟨g, o, rfl, _, hg, C⟩
      · have : p.length = 0 := by rw [A]; rfl
        omega
      obtain ⟨e1, e2⟩ := C k hlt
      have hbl := hfr.block g hg (fun e => e)
      have d1 : wr.cell? ⟨g, o + k * 2, none⟩ = some (.int .u8 p[k].b.toNat) := (World.cell?_of_block (w := w) (a := ⟨g, o + k * 2, none⟩) hbl).trans e1
      have d2 : wr.cell? ⟨g, o + k * 2 + 1, none⟩ = some (.bool p[k].q) := (World.cell?_of_block (w := w) (a := ⟨g, o + k * 2 + 1, none⟩) hbl).trans e2
      clear e1 e2 C hbl
      have hsz := hfr.size
      have hstep := tx_step hlt
      have hln : (Lib.byteCells (txL (p.take k))).length = k := by simp [txL, Lib.byteCells]; omega
      have hwb := hide (wb_any w.heap.size b _ p[k].b.toNat (wr.alloc (.cells #[.int .u8 p[k].b.toNat, .bool p[k].q] 35 (0, 0))) (bl_alloc hB _) (by rw [hln]; omega) (by simp; omega))
      have hfa : Fr (fun _ => False) w (wr.alloc (.cells #[.int .u8 p[k].b.toNat, .bool p[k].q] 35 (0, 0))) := hfr.alloc _
      have Hfa := hide hfa
      have Hst := hide hstep
      clear hB hfr hfa hstep hln
      go_wp2_with fail
      refine hwb.out.mono ?_
      rintro e w2 ⟨rfl, hb2, hbe⟩
      have hf2 : Fr (fun _ => False) w w2 := Hfa.out.trans' (fr_from hbe) (fun _ hi e => absurd hi (by omega))
      have hn2 := hide (show TxRel w b p (gk - 1) (.int .i64 ((k : Int) + 1)) w2 from ⟨k + 1, by have := Hgk.out; omega, by go_num, by rw [Hst.out]; exact .inr hb2, hf2⟩)
      clear hwb hb2 hbe hf2 Hfa
      go_wp2_with fail
      go_roundg (gk - 1)
      case measure => have := Hgk.out; omega
      case rel => exact hn2.out
    · have hk' : k = p.length := by omega
      subst hk'
      rw [List.take_length] at hB
      have hs := hide ((Any.Builder_String_any_k Tryz.laysBStr extraB w.heap.size b (txL p) wr (Lib.IsBuilderF.of hB) hfr.size).mono fun e w' h => (⟨h.1, hfr.trans' (fr_from h.2.2.1) (fun _ hi e => absurd hi (by omega))⟩ : SPost w (txL p) e w'))
      clear hB hfr
      go_wp2_with fail
      refine hs.out.mono ?_
      rintro e w2 ⟨rfl, hf⟩
      go_wp2_with fail
      go_returns
      exact ⟨rfl, hf⟩
end Go.Proofs.YtlhmmiolnbgloaaGreatDoor
