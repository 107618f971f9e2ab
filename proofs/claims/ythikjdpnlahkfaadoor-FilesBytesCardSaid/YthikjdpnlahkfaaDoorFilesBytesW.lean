/- The walk of FilesBytes: it returns true and leaves old memory as it was. Conditions: what the parameters are; the library's own variable. -/
import Derived.Test.YthikjdpnlahkfaaDoorFilesT
namespace Go.Proofs.YthikjdpnlahkfaaDoor
open Go.RowKit

/-- The root and one file of these bytes. -/
def oneF (l : List UInt8) : FSt := [some { rootN with ents := [([97], 2)] }, some ⟨false, 0, 1, 0, l, [], 1⟩]
def sa97 : ByteArray := ⟨#[97]⟩
theorem one_create : createR newT 1 sa97.data.toList 0 = (2, 0, oneF []) := by kernel_rfl
theorem one_nd (l : List UInt8) : (oneF l).ndI 2 = some ⟨false, 0, 1, 0, l, [], 1⟩ := rfl
theorem one_byts (l : List UInt8) : (oneF l).byts = l.length := by simp [FSt.byts, oneF, ndLen, rootN]
def wrote (l : List UInt8) (a : Nat) (s : List UInt8) : List UInt8 := overwrite (resize l (max l.length (a + s.length))) a s
theorem one_write (l : List UInt8) (a : Nat) (s : List UInt8) (hl : l.length ≤ 10000) (ha : a ≤ 10000) (hs : s.length ≤ 10000) (h0 : s ≠ []) : writeR (oneF l) 2 a s = ((s.length : Int), 0, oneF (wrote l a s)) := by
  have h1 : ¬ ((a : Int) < 0) := by omega
  have h2 : ¬ (65536 < (a : Int) ∨ 65536 < s.length) := by omega
  have h3 : fits (oneF l) ⟨false, 0, 1, 0, l, [], 1⟩ (max l.length ((a : Int).toNat + s.length)) := by
    unfold fits
    rw [one_byts]
    simp only [Int.toNat_natCast]
    omega
  unfold writeR
  rw [one_nd]
  simp only [Bool.false_eq_true, if_false, if_neg h1, if_neg h2, if_neg h0, if_pos h3]
  rfl
theorem one_write0 (l : List UInt8) : writeR (oneF l) 2 0 [] = (0, 0, oneF l) := by
  unfold writeR
  rw [one_nd]
  rfl
theorem wrote_zero (s : List UInt8) : wrote [] 0 s = s := by
  unfold wrote overwrite resize
  by_cases h : s = []
  · subst h; rfl
  · simp [h]
theorem one_read (l : List UInt8) (hl : l.length ≤ 9000) : readB (oneF l) 2 0 9000 = l ∧ readE (oneF l) 2 0 9000 = 0 := by
  have h1 : readE (oneF l) 2 0 9000 = 0 := rfl
  refine ⟨?_, h1⟩
  unfold readB
  rw [h1]
  show ((dataI (oneF l) 2).drop 0).take 9000 = l
  rw [show dataI (oneF l) 2 = l from rfl, List.drop_zero, List.take_of_length_le hl]
theorem wrote_length (l : List UInt8) (a : Nat) (s : List UInt8) : (wrote l a s).length = max l.length (a + s.length) := by
  unfold wrote
  rw [overwrite_length (by rw [resize_length]; omega), resize_length]
theorem one_trunc (l : List UInt8) (a : Nat) (ha : a ≤ l.length) (hl : l.length ≤ 20000) : truncR (oneF l) 2 a = (0, oneF (l.take a)) := by
  have h1 : ¬ ((a : Int) < 0) := by omega
  have h2 : ¬ (65536 < (a : Int)) := by omega
  have h3 : fits (oneF l) ⟨false, 0, 1, 0, l, [], 1⟩ (a : Int).toNat := by
    unfold fits
    rw [one_byts]
    simp only [Int.toNat_natCast]
    omega
  unfold truncR
  rw [one_nd]
  simp only [Bool.false_eq_true, if_false, if_neg h1, if_neg h2, if_pos h3]
  show (0, oneF (resize l a)) = _
  unfold resize
  rw [if_pos ha]
theorem wrote_in? {l : List UInt8} {a : Nat} {s : List UInt8} {j : Nat} (hj : j < s.length) : (wrote l a s)[a + j]? = s[j]? := by
  unfold wrote overwrite
  have h1 : ((resize l (max l.length (a + s.length))).take a).length = a := by rw [List.length_take, resize_length]; omega
  rw [List.getElem?_append_left (by rw [List.length_append, h1]; omega), List.getElem?_append_right (by omega)]
  congr 1
  omega
theorem resize_at? {l : List UInt8} {k i : Nat} (h : i < k) (hk : l.length ≤ k) : (resize l k)[i]? = some (l.getD i 0) := by
  rw [List.getD_eq_getElem?_getD]
  unfold resize
  by_cases e : k ≤ l.length
  · have ek : k = l.length := by omega
    subst ek
    simp only [Nat.le_refl, if_true, List.take_length]
    rw [List.getElem?_eq_getElem h]
    rfl
  · rw [if_neg e]
    by_cases e2 : i < l.length
    · rw [List.getElem?_append_left e2, List.getElem?_eq_getElem e2]; rfl
    · rw [List.getElem?_append_right (by omega), List.getElem?_eq_none (by omega : l.length ≤ i), List.getElem?_replicate, if_pos (by omega)]; rfl
theorem wrote_out? {l : List UInt8} {a : Nat} {s : List UInt8} {i : Nat} (hi : i < a ∨ a + s.length ≤ i) (h : i < max l.length (a + s.length)) : (wrote l a s)[i]? = some (l.getD i 0) := by
  have hr := resize_length l (max l.length (a + s.length))
  rw [← resize_at? h (Nat.le_max_left _ _)]
  unfold wrote overwrite
  have h1 : ((resize l (max l.length (a + s.length))).take a).length = a := by rw [List.length_take, hr]; omega
  rcases hi with hi | hi
  · rw [List.getElem?_append_left (by rw [List.length_append, h1]; omega), List.getElem?_append_left (by omega), List.getElem?_take_of_lt hi]
  · rw [List.getElem?_append_right (by rw [List.length_append, h1]; omega), List.getElem?_drop]
    congr 1
    rw [List.length_append, h1]
    omega
theorem ba_get {t : ByteArray} {i : Nat} (h : i < t.size) {c : UInt8} (hc : t.data.toList[i]? = some c) : t[i] = c := by
  have h2 : t.data.toList[i]? = some t[i] := by rw [List.getElem?_eq_getElem (by rw [ba_len]; exact h)]; rfl
  rw [h2] at hc
  exact Option.some.inj hc
theorem wrote_in {l s t : ByteArray} {a j : Nat} (ht : t.data.toList = wrote l.data.toList a s.data.toList) (hj : j < s.size) (h : a + j < t.size) : t[a + j] = s[j] := by
  refine ba_get h ?_
  rw [ht, wrote_in? (by rw [ba_len]; exact hj), List.getElem?_eq_getElem (by rw [ba_len]; exact hj)]
  rfl
theorem wrote_old {l s t : ByteArray} {a i : Nat} (ht : t.data.toList = wrote l.data.toList a s.data.toList) (hi : i < a ∨ a + s.size ≤ i) (h : i < t.size) (hl : i < l.size) : t[i] = l[i] := by
  refine ba_get h ?_
  rw [ht, wrote_out? (by rw [ba_len]; exact hi) (by rw [← wrote_length, ← ht, ba_len]; exact h), List.getD_eq_getElem?_getD, List.getElem?_eq_getElem (by rw [ba_len]; exact hl)]
  rfl
theorem wrote_nil {l s t : ByteArray} {a i : Nat} (ht : t.data.toList = wrote l.data.toList a s.data.toList) (hi : i < a ∨ a + s.size ≤ i) (h : i < t.size) (hl : ¬ i < l.size) : t[i] = 0 := by
  refine ba_get h ?_
  rw [ht, wrote_out? (by rw [ba_len]; exact hi) (by rw [← wrote_length, ← ht, ba_len]; exact h), List.getD_eq_getElem?_getD, List.getElem?_eq_none (by rw [ba_len]; omega)]
  rfl
set_option maxRecDepth 100000 in
set_option maxHeartbeats 4000000 in
theorem fbytes_walk (old : ByteArray) (at' : Int) (s : ByteArray) (W : World) (hml : Ml W) (ho : old.size ≤ 9223372036854775807) (h1 : -9223372036854775808 ≤ at') (h2 : at' ≤ 9223372036854775807) (hs : s.size ≤ 9223372036854775807) :
    Calls Tryd.prog 3 #[.string old, .int .i64 at', .string s] W (LawPost W) := by
  have hmlt : ¬ W.heap.size ≤ Tryd.laysSplit_ren.g 1 := by
    obtain ⟨m, hm⟩ := hml
    have := World.block_lt_of_cell? _ _ hm
    exact Nat.not_le.2 this
  have Hml := hide hml
  have Hlt := hide hmlt
  clear hml hmlt
  go_enter Tryd.func3, Tryd.ntmps3
  go_wp2_with fail
  refine (awake_any _ Hml.out).mono ?_
  rintro e w0 ⟨rfl, hf0⟩
  have hout := hide (show LawPost W (.returned (.bool true)) w0 from ⟨rfl, hf0.below (fun _ _ h => h)⟩)
  have Hf0 := hide hf0
  clear hf0
  by_cases c1 : 2000 < old.size
  · go_wp2_with fail
    go_ret
    exact hout.out
  by_cases c2 : 2000 < s.size
  · go_wp2_with fail
    go_ret
    exact hout.out
  by_cases c3 : at' < 0
  · go_wp2_with fail
    go_ret
    exact hout.out
  by_cases c4 : 3000 < at'
  · go_wp2_with fail
    go_ret
    exact hout.out
  by_cases c5 : s.data.toList = []
  · have c6 := ba_empty c5
    clear c5
    go_wp2_with fail
    go_ret
    exact hout.out
  have c6 := ba_nonempty c5
  have Hc5 := hide c5
  clear c5 hout
  obtain ⟨a, rfl⟩ := Int.eq_ofNat_of_zero_le (Int.not_lt.1 c3)
  go_wp2_with fail
  refine (New_any w0).mono ?_
  rintro e w1 ⟨f, p1, rfl, hA1, hf1⟩
  have hg1 : Fr (fun k => w0.heap.size ≤ k) w0 w1 := hf1.mono (fun _ _ e => e.elim)
  have hml1 : Ml w1 := (Hml.out.frame Hf0.out (fun e => e)).frame hf1 (fun e => e)
  have h := hide (Create_any w1 f newT _ p1 hA1 hml1 (caps_of (k := 1) rfl |>.b (by decide)) 1 (by decide) sa97 (by decide) 0 (by decide))
  rw [one_create] at h
  clear hA1 hf1 hml1
  go_wp2_with fail
  refine h.out.mono ?_
  rintro e w2 ⟨rfl, ⟨p2, hA2⟩, hf2⟩
  have hg2 := hg1.trans hf2
  clear h hf2 hg1
  have h := hide (Write_any w2 f (oneF []) _ p2 hA2 2 0 old (by decide) (by decide) ho)
  have ew : (writeR (oneF []) 2 0 old.data.toList).2.2 = oneF old.data.toList ∧ (writeR (oneF []) 2 0 old.data.toList).2.1 = 0 := by
    by_cases e : old.data.toList = []
    · rw [e, one_write0]; exact ⟨rfl, rfl⟩
    · have h9 := one_write [] 0 old.data.toList (by decide) (by decide) (by rw [ba_len]; omega) e
      rw [wrote_zero, show ((0 : Nat) : Int) = 0 from rfl] at h9
      rw [h9]; exact ⟨rfl, rfl⟩
  rw [ew.1, ew.2] at h
  obtain ⟨z0, hz0⟩ : ∃ z, z = (writeR (oneF []) 2 0 old.data.toList).1 := ⟨_, rfl⟩
  rw [← hz0] at h
  clear ew hA2 hz0
  go_wp2_with fail
  refine h.out.mono ?_
  rintro e w3 ⟨rfl, hA3, hf3⟩
  have hg3 := hg2.trans hf3
  clear h hf3 hg2
  have h := hide (Write_any w3 f (oneF old.data.toList) _ p2 hA3 2 a s (by decide) (by omega) hs)
  rw [one_write _ a _ (by rw [ba_len]; omega) (by omega) (by rw [ba_len]; omega) Hc5.out] at h
  simp only at h
  clear hA3
  have hwl := wrote_length old.data.toList a s.data.toList
  rw [ba_len, ba_len] at hwl
  rw [ba_len] at h
  go_wp2_with fail
  refine h.out.mono ?_
  rintro e w4 ⟨rfl, hA4, hf4⟩
  have hg4 := hg3.trans hf4
  clear h hf4 hg3
  have h := hide (Read_any w4 f _ _ p2 hA4 2 0 9000 (by decide) (by decide) (by decide))
  obtain ⟨hr1, hr2⟩ := one_read (wrote old.data.toList a s.data.toList) (by rw [hwl]; omega)
  rw [hr1, hr2] at h
  obtain ⟨t, ht, htd⟩ : ∃ t : ByteArray, (⟨(wrote old.data.toList a s.data.toList).toArray⟩ : ByteArray) = t ∧ t.data.toList = wrote old.data.toList a s.data.toList := ⟨_, rfl, rfl⟩
  have htl : t.size = max old.size (a + s.size) := by rw [← ba_len, htd, hwl]
  rw [ht] at h
  clear ht hr1 hr2
  go_wp2_with fail
  refine h.out.mono ?_
  rintro e w5 ⟨rfl, hf5⟩
  have hA5 := hA4.frame hf5 (fun _ _ _ e => e)
  have hg5 := hg4.trans' hf5 (fun _ _ e => e.elim)
  clear h hf5 hg4 hA4
  have htI : (t.size : Int) = max (old.size : Int) ((a : Int) + (s.size : Int)) := by omega
  have HtI := hide htI
  have Htl := hide htl
  have Htd := hide htd
  have Hwl := hide hwl
  clear htl htd hwl htI
  have hbq : ((t.size : Int) != max (old.size : Int) ((a : Int) + (s.size : Int))) = false := by rw [HtI.out]; simp
  have ht6 : t.size ≤ 6000 := by have := Htl.out; omega
  go_wp2_with fail
  clear hbq
  go_loop [94] (fun i => ∃ k : Nat, k ≤ t.size ∧ i = .int .i64 k) (fun i => t.size - (intOf i).toNat)
  case atStart => exact ⟨0, Nat.zero_le _, rfl⟩
  case round =>
    obtain ⟨k, hk, rfl⟩ := hrel
    by_cases hlt : k < t.size
    · have hkI : (k : Int) < (t.size : Int) := by omega
      by_cases hin : a ≤ k ∧ k < a + s.size
      · obtain ⟨j, rfl⟩ : ∃ j, k = a + j := ⟨k - a, by omega⟩
        have hj : j < s.size := by omega
        have he := wrote_in Htd.out hj hlt
        have hjI : (j : Int) < (s.size : Int) := by omega
        rw [Int.natCast_add] at hkI ⊢
        clear hA5 hg5
        go_wp2
        refine ⟨⟨a + j + 1, hlt, by go_num⟩, ?_⟩
        simp [intOf]
        omega
      · have hout : k < a ∨ a + s.size ≤ k := by omega
        have hb : (k : Int) < (a : Int) ∨ ((a : Int) ≤ (k : Int) ∧ (a : Int) + (s.size : Int) ≤ (k : Int)) := by omega
        by_cases ho2 : k < old.size
        · have he := wrote_old Htd.out hout hlt ho2
          have hoI : (k : Int) < (old.size : Int) := by omega
          clear hin hout hA5 hg5
          rcases hb with hb | ⟨hb1, hb2⟩
          all_goals
            go_wp2
            refine ⟨⟨k + 1, hlt, by go_num⟩, ?_⟩
            simp [intOf]
            omega
        · have he := wrote_nil Htd.out hout hlt ho2
          have hoI : ¬ (k : Int) < (old.size : Int) := by omega
          clear hin hout hA5 hg5
          rcases hb with hb | ⟨hb1, hb2⟩
          all_goals
            go_wp2
            refine ⟨⟨k + 1, hlt, by go_num⟩, ?_⟩
            simp [intOf]
            omega
    · have hkI : ¬ (k : Int) < (t.size : Int) := by omega
      have htl := Htl.out
      have hat : a ≤ t.size := by omega
      have hatI : (a : Int) ≤ (t.size : Int) := by omega
      have h := hide (Truncate_any w5 f _ _ p2 hA5 2 a (by decide) (by omega))
      rw [one_trunc _ a (by rw [Hwl.out]; omega) (by rw [Hwl.out]; omega)] at h
      simp only at h
      have Hg5 := hide hg5
      clear hA5 hg5 htl
      go_wp2_with fail
      refine h.out.mono ?_
      rintro e w6 ⟨rfl, hA6, hf6⟩
      have hg6 := Hg5.out.trans hf6
      clear h hf6 Hg5
      have htk : ((wrote old.data.toList a s.data.toList).take a).length = a := by rw [List.length_take, Hwl.out]; omega
      have h := hide (Read_any w6 f _ _ p2 hA6 2 0 9000 (by decide) (by decide) (by decide))
      obtain ⟨hr1, hr2⟩ := one_read ((wrote old.data.toList a s.data.toList).take a) (by rw [htk]; omega)
      have hu : (⟨((wrote old.data.toList a s.data.toList).take a).toArray⟩ : ByteArray) = t.extract 0 a := by
        apply ba_of_data
        rw [ba_extract, Htd.out]
        simp
      rw [hr1, hr2, hu] at h
      clear hr1 hr2 hu
      go_wp2_with fail
      refine h.out.mono ?_
      rintro e w7 ⟨rfl, hf7⟩
      have hA7 := hA6.frame hf7 (fun _ _ _ e => e)
      have hg7 := hg6.trans' hf7 (fun _ _ e => e.elim)
      clear h hf7 hg6 hA6
      have h := hide (Bytes_any w7 f _ _ p2 hA7)
      rw [one_byts, htk] at h
      have hres := hide (show Below W.heap.size W w7 from (Hf0.out.trans (hg7.mono (S' := fun _ => False) (fun i hi e => by omega))).below (fun _ _ e => e))
      clear hA7 hg7 htk
      go_wp2_with fail
      refine h.out.mono ?_
      rintro e w8 ⟨rfl, rfl⟩
      clear h
      go_wp2_with fail
      go_ret
      exact ⟨rfl, hres.out⟩
end Go.Proofs.YthikjdpnlahkfaaDoor
