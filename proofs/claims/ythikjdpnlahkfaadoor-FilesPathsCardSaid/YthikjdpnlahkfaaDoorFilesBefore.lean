/- shyardlaw08.before. Conditions: the contract's own premises. -/
import Derived.Test.YthikjdpnlahkfaaDoorFilesPathsL
import Derived.Test.YthikjdpnlahkfaaDoorFilesKeepsL
import Derived.Deep.LoopGhost
namespace Go.Proofs.YthikjdpnlahkfaaDoor
open Go.RowKit

def BefRel (s t : ByteArray) (w : World) (gk : Nat) (i : Value) (wr : World) : Prop := ∃ k, gk + k = s.size ∧ k ≤ t.size ∧ i = .int .i64 k ∧ bef s.data.toList t.data.toList = bef (s.data.toList.drop k) (t.data.toList.drop k) ∧ Fr (fun _ => False) w wr
theorem drop_at {s : ByteArray} {k : Nat} (h : k < s.size) : s.data.toList.drop k = s[k] :: s.data.toList.drop (k + 1) := by
  have h2 : k < s.data.toList.length := by rw [ba_len]; exact h
  rw [List.drop_eq_getElem_cons h2]
  rfl
theorem key_slash (c : UInt8) : (((c.toNat : Int) == 47) = true ↔ c = slashB) := by
  constructor
  · intro h
    have h1 : (c.toNat : Int) = 47 := by simpa using h
    apply UInt8.toNat_inj.1
    show c.toNat = 47
    omega
  · rintro rfl; rfl
theorem key_other {c : UInt8} (h : c ≠ slashB) : ((c.toNat : Int) == 47) = false := by
  cases h2 : ((c.toNat : Int) == 47) with
  | false => rfl
  | true => exact absurd ((key_slash c).1 h2) h
set_option maxRecDepth 100000 in
set_option maxHeartbeats 2000000 in
theorem before_any (w : World) (s t : ByteArray) (hs : s.size ≤ 1000000) (ht : t.size ≤ 1000000) :
    Calls Tryd.prog 26 #[.string s, .string t] w fun e w' => e = .returned (.bool (bef s.data.toList t.data.toList)) ∧ Fr (fun _ => False) w w' := by
  obtain ⟨res, hres⟩ : ∃ res, res = bef s.data.toList t.data.toList := ⟨_, rfl⟩
  rw [← hres]
  have Hres := hide hres
  clear hres
  go_enter Tryd.func26, Tryd.ntmps26
  go_wp2_with fail
  go_loopg [5] s.size (fun gk i wr => BefRel s t w gk i wr)
  case atStart => exact ⟨0, by omega, by omega, rfl, rfl, Fr.refl _ _⟩
  case round =>
    obtain ⟨k, hgk, hkt, rfl, hb, hfr⟩ := hrel
    rw [← Hres.out] at hb
    have Hgk := hide hgk
    have Hfr := hide hfr
    have hks : k ≤ s.size := by omega
    clear hgk hfr
    by_cases h1 : k < s.size
    · by_cases h2 : k < t.size
      · rw [drop_at h1, drop_at h2] at hb
        have hb2 : res = if s[k] = t[k] then bef (s.data.toList.drop (k + 1)) (t.data.toList.drop (k + 1)) else decide (keyB s[k] < keyB t[k]) := hb
        have Hb := hide hb2
        have hk0 : (0 : Int) ≤ (k : Int) := by omega
        have hk1 : (k : Int) < (s.size : Int) := by omega
        have hk2 : (k : Int) < (t.size : Int) := by omega
        clear hb hb2
        have Hnext := hide (show s[k] = t[k] → res = bef (s.data.toList.drop (k + 1)) (t.data.toList.drop (k + 1)) from fun e => by rw [Hb.out, if_pos e])
        have Hdiff := hide (show s[k] ≠ t[k] → res = decide (keyB s[k] < keyB t[k]) from fun e => by rw [Hb.out, if_neg e])
        clear Hb
        go_wp2_with fail
        refine region_still (by kernel_rfl) (by kernel_rfl) ?_
        repeat go_big_quiet_step (fail)
        have hx := (s[k]).toNat_lt
        have hy := (t[k]).toNat_lt
        have w1 : wrap64 (s[k].toNat : Int) = (s[k].toNat : Int) := by unfold wrap64; omega
        have w2 : wrap64 (t[k].toNat : Int) = (t[k].toNat : Int) := by unfold wrap64; omega
        rw [w1, w2]
        clear w1 w2
        have hnext := hide (show s[k] = t[k] → BefRel s t w (gk - 1) (.int .i64 ((k : Int) + 1)) wr.drew from fun e => ⟨k + 1, by have := Hgk.out; omega, by omega, by go_num, by rw [← Hres.out]; exact Hnext.out e, Hfr.out.drew⟩)
        clear Hnext
        generalize s[k] = x at *
        generalize t[k] = y at *
        refine wpQuiet_nil ?_
        by_cases e1 : x = slashB
        · by_cases e2 : y = slashB
          · have hn := hide (hnext.out (e1.trans e2.symm))
            clear hnext Hdiff
            subst e1 e2
            go_wp2_with fail
            go_roundg (gk - 1)
            case measure => have := Hgk.out; omega
            case rel => exact hn.out
          · have hr := Hdiff.out (fun e => e2 (e.symm.trans e1))
            have hlt : keyB x < keyB y := by unfold keyB; rw [if_pos e1, if_neg e2]; omega
            rw [decide_eq_true hlt] at hr
            have k2 := key_other e2
            have k3 : ¬ ((-1 : Int) = (y.toNat : Int)) := by omega
            have k4 : (-1 : Int) < (y.toNat : Int) := by omega
            clear hnext Hdiff hlt
            subst e1 hr
            go_wp2_with fail
            go_returns
            exact ⟨rfl, Hfr.out.drew⟩
        · have k1 := key_other e1
          by_cases e2 : y = slashB
          · have hr := Hdiff.out (fun e => e1 (e.trans e2))
            have hlt : ¬ keyB x < keyB y := by unfold keyB; rw [if_neg e1, if_pos e2]; omega
            rw [decide_eq_false hlt] at hr
            have k3 : ¬ ((x.toNat : Int) = (-1 : Int)) := by omega
            have k4 : ¬ (x.toNat : Int) < (-1 : Int) := by omega
            clear hnext Hdiff hlt
            subst e2 hr
            go_wp2_with fail
            go_returns
            exact ⟨rfl, Hfr.out.drew⟩
          · have k2 := key_other e2
            by_cases e3 : x = y
            · have hn := hide (hnext.out e3)
              clear hnext Hdiff
              subst e3
              go_wp2_with fail
              go_roundg (gk - 1)
              case measure => have := Hgk.out; omega
              case rel => exact hn.out
            · have hr := Hdiff.out e3
              have hkl : (keyB x < keyB y) ↔ ((x.toNat : Int) < (y.toNat : Int)) := by unfold keyB; rw [if_neg e1, if_neg e2]
              have k3 : ¬ ((x.toNat : Int) = (y.toNat : Int)) := fun e => e3 (UInt8.toNat_inj.1 (by omega))
              by_cases hlt : (x.toNat : Int) < (y.toNat : Int)
              · rw [decide_eq_true (hkl.2 hlt)] at hr
                clear hnext Hdiff hkl
                subst hr
                go_wp2_with fail
                go_returns
                exact ⟨rfl, Hfr.out.drew⟩
              · rw [decide_eq_false (fun e => hlt (hkl.1 e))] at hr
                clear hnext Hdiff hkl
                subst hr
                go_wp2_with fail
                go_returns
                exact ⟨rfl, Hfr.out.drew⟩
      · have hk1 : (k : Int) < (s.size : Int) := by omega
        have hk2 : ¬ (k : Int) < (t.size : Int) := by omega
        have hke : k = t.size := by omega
        have hr : res = false := by
          rw [hb, show t.data.toList.drop k = [] from List.drop_eq_nil_of_le (by rw [ba_len]; omega), drop_at h1]; rfl
        have hlen : ¬ (s.size : Int) < (t.size : Int) := by omega
        clear hb
        subst hr
        go_wp2_with fail
        go_returns
        exact ⟨rfl, Hfr.out⟩
    · have hk1 : ¬ (k : Int) < (s.size : Int) := by omega
      have hke : k = s.size := by omega
      rw [show s.data.toList.drop k = [] from List.drop_eq_nil_of_le (by rw [ba_len]; omega)] at hb
      by_cases h2 : s.size < t.size
      · have hr : res = true := by rw [hb, drop_at (s := t) (k := k) (by omega)]; rfl
        have hlen : (s.size : Int) < (t.size : Int) := by omega
        clear hb
        subst hr
        go_wp2_with fail
        go_returns
        exact ⟨rfl, Hfr.out⟩
      · have hr : res = false := by rw [hb, show t.data.toList.drop k = [] from List.drop_eq_nil_of_le (by rw [ba_len]; omega)]; rfl
        have hlen : ¬ (s.size : Int) < (t.size : Int) := by omega
        clear hb
        subst hr
        go_wp2_with fail
        go_returns
        exact ⟨rfl, Hfr.out⟩
end Go.Proofs.YthikjdpnlahkfaaDoor
