/- What a name is: octet.letter, octet.Name and the document's. No condition but strings' own length. -/
import Derived.Test.YtcojeojmodjmdaaProg
import Derived.Test.YtcojeojmodjmdaaOwn
import Derived.Test.YtcojeojmodjmdaaSMap
import Derived.Outline
import Derived.Lib.ConvBytes
namespace Go.Proofs.Ytcojeojmodjmdaa
open Go.RowKit

def letB (c : Nat) : Bool := (decide (97 ≤ c) && decide (c ≤ 122)) || (decide (65 ≤ c) && decide (c ≤ 90)) || decide (c = 95)
def digB (c : Nat) : Bool := decide (48 ≤ c) && decide (c ≤ 57)
def letO (c : Nat) : Bool := (decide (97 ≤ bits .or .u8 (c : Int) 32) && decide (bits .or .u8 (c : Int) 32 ≤ 122) && decide ((c : Int) < 128)) || ((c : Int) == 95)
theorem letO_eq (c : Nat) (hc : c < 256) : letO c = letB c := by
  have h : ∀ c : Fin 256, letO c.val = letB c.val := by decide +kernel
  exact h ⟨c, hc⟩
theorem letter_any (c : Nat) (hc : c < 256) (w : World) : Calls Try.prog 40 #[.int .u8 c] w fun e w' => e = .returned (.bool (letB c)) ∧ w = w' := by
  have hL := hide (letO_eq c hc)
  go_enter Try.func40, Try.ntmps40
  go_wp2
  all_goals
    go_ret
    refine ⟨ret_bool ?_, rfl⟩
    rw [← hL.out]
    unfold letO
    first
      | (simp [*]; done)
      | (simp [*]; intros; omega)
theorem rletter_any (c : Nat) (hc : c < 256) (w : World) : Calls Try.prog 42 #[.int .u8 c] w fun e w' => e = .returned (.bool (letB c)) ∧ w = w' := by
  go_enter Try.func42, Try.ntmps42
  go_wp2
  all_goals
    go_ret
    refine ⟨ret_bool ?_, rfl⟩
    unfold letB
    first
      | (simp [*]; done)
      | (rw [Bool.eq_iff_iff]; simp [*]; omega)
theorem rdigit_any (c : Nat) (hc : c < 256) (w : World) : Calls Try.prog 43 #[.int .u8 c] w fun e w' => e = .returned (.bool (digB c)) ∧ w = w' := by
  go_enter Try.func43, Try.ntmps43
  go_wp2
  all_goals
    go_ret
    refine ⟨ret_bool ?_, rfl⟩
    unfold digB
    first
      | (simp [*]; done)
      | (rw [Bool.eq_iff_iff]; simp [*]; omega)
/-- A name: letters, digits behind the first, not empty. -/
def nameFrom : Nat → List UInt8 → Bool
  | _, [] => true
  | i, c :: r => (letB c.toNat || (decide (i ≠ 0) && digB c.toNat)) && nameFrom (i + 1) r
def nameB (s : List UInt8) : Bool := nameFrom 0 s && !s.isEmpty
theorem nameFrom_snoc (c : UInt8) : ∀ (l : List UInt8) (i : Nat), nameFrom i (l ++ [c]) = (nameFrom i l && (letB c.toNat || (decide (i + l.length ≠ 0) && digB c.toNat)))
  | [], i => by simp [nameFrom]
  | a :: r, i => by
    rw [List.cons_append, nameFrom, nameFrom_snoc c r (i + 1), nameFrom, Bool.and_assoc]
    congr 4
    simp
theorem nameFrom_false {l : List UInt8} {k : Nat} (h : nameFrom 0 (l.take k) = false) : nameFrom 0 l = false := by
  have key : ∀ (l : List UInt8) (k i : Nat), nameFrom i (l.take k) = false → nameFrom i l = false := by
    intro l
    induction l with
    | nil => intro k i h; simpa using h
    | cons a r ih =>
      intro k i h
      cases k with
      | zero => simp [nameFrom] at h
      | succ k =>
        rw [List.take_succ_cons, nameFrom, Bool.and_eq_false_iff] at h
        rw [nameFrom, Bool.and_eq_false_iff]
        exact h.imp (fun h => h) (fun h => ih _ _ h)
  exact key l k 0 h
theorem vfr_bytes (w : World) (e : TypeId) (s : ByteArray) : Fr (fun _ => False) w (Lib.bytesWorld w e s) :=
  ⟨rfl, rfl, rfl, by rw [Lib.bytesWorld_size]; omega, fun i hi _ => Lib.bytesWorld_at_old w e s i hi⟩
theorem getD_byte {s : ByteArray} {k : Nat} (hk : k < s.size) : s.data.toList.getD k 0 = s[k] := by
  rw [List.getD_eq_getElem?_getD, List.getElem?_eq_getElem (by simpa using hk)]; rfl
theorem take_byte {s : ByteArray} {k : Nat} (hk : k < s.size) : s.data.toList.take (k + 1) = s.data.toList.take k ++ [s[k]] := by
  rw [List.take_succ_eq_append_getElem (by simpa using hk)]; rfl
/-- One byte more. -/
theorem nameFrom_byte {s : ByteArray} {k : Nat} (hk : k < s.size) : nameFrom 0 (s.data.toList.take (k + 1)) = (nameFrom 0 (s.data.toList.take k) && (letB s[k].toNat || (decide (k ≠ 0) && digB s[k].toNat))) := by
  rw [take_byte hk, nameFrom_snoc, List.length_take, ba_len, Nat.min_eq_left (by omega), Nat.zero_add]
theorem nameB_false {s : ByteArray} {k : Nat} (h : nameFrom 0 (s.data.toList.take k) = false) : nameB s.data.toList = false := by
  unfold nameB; rw [nameFrom_false h]; rfl
theorem nameB_whole {s : ByteArray} (h : nameFrom 0 (s.data.toList.take s.size) = true) : nameB s.data.toList = !s.data.toList.isEmpty := by
  rw [List.take_of_length_le (by rw [ba_len]; omega)] at h
  unfold nameB; rw [h]; rfl
set_option maxHeartbeats 2000000 in
theorem name_any (s : ByteArray) (hs : s.size ≤ 9223372036854775807) (w : World) : Calls Try.prog 29 #[.string s] w fun e w' => e = .returned (.bool (nameB s.data.toList)) ∧ Fr (fun _ => False) w w' := by
  have hcv := Lib.run_convert_string_bytes (P := Try.prog) w 9 77 5 s Try.underlying9 Try.underlying77 Try.underlying5
  have hfr := vfr_bytes w 5 s
  have hcell := hide (fun k (hk : k < s.size) => Lib.bytesWorld_cell w 5 s k hk)
  generalize Lib.bytesWorld w 5 s = w1 at *
  go_enter Try.func29, Try.ntmps29
  go_wp2_with fail
  clear hcv
  go_loop [8] (fun i => ∃ k : Nat, k ≤ s.size ∧ i = .int .i64 k ∧ nameFrom 0 (s.data.toList.take k) = true) (fun i => s.size - (intOf i).toNat)
  case atStart => exact ⟨0, by omega, rfl, by simp [nameFrom]⟩
  case round =>
    obtain ⟨k, hk, rfl, hn⟩ := hrel
    have Hn := hide hn
    clear hn
    by_cases hlt : k < s.size
    · have hc := hcell.out k hlt
      rw [getD_byte hlt] at hc
      have hnb := nameFrom_byte hlt
      rw [Hn.out, Bool.true_and] at hnb
      have Hnb := hide hnb
      have hc256 := s[k].toNat_lt
      clear hnb
      generalize hcc : s[k].toNat = c at *
      clear hcc
      have hrel' : letB c = true ∨ (k ≠ 0 ∧ digB c = true) → ∃ k' : Nat, k' ≤ s.size ∧ Value.int .i64 ((k : Int) + 1) = .int .i64 k' ∧ nameFrom 0 (s.data.toList.take k') = true := fun h => ⟨k + 1, by omega, by go_num, by
        rw [Hnb.out]
        rcases h with h | ⟨h1, h2⟩
        · simp [h]
        · simp [h1, h2]⟩
      have hret : letB c = false → (k = 0 ∨ digB c = false) → nameB s.data.toList = false := fun h1 h2 => nameB_false (k := k + 1) (by
        rw [Hnb.out, h1]
        rcases h2 with h2 | h2 <;> simp [h2])
      have hrel' := hide hrel'
      have hret := hide hret
      go_wp2_with fail
      refine (letter_any c hc256 w1).mono ?_
      rintro e w' ⟨rfl, rfl⟩
      cases hl : letB c with
      | true =>
        go_wp2_with fail
        go_round
        case rel => exact hrel'.out (.inl hl)
        case measure => simp [intOf]; omega
      | false =>
        by_cases hk0 : k = 0
        · subst hk0
          go_wp2_with fail
          go_ret
          exact ⟨ret_bool (hret.out hl (.inl (by trivial))).symm, hfr⟩
        · have hk0' : ((k : Int) == 0) = false := by simpa using hk0
          by_cases h48 : (48 : Int) ≤ (c : Int)
          · by_cases h57 : (c : Int) ≤ 57
            · go_wp2_with fail
              go_round
              case rel => exact hrel'.out (.inr ⟨hk0, by unfold digB; simp; omega⟩)
              case measure => simp [intOf]; omega
            · go_wp2_with fail
              go_ret
              exact ⟨ret_bool (hret.out hl (.inr (by unfold digB; simp; omega))).symm, hfr⟩
          · go_wp2_with fail
            go_ret
            exact ⟨ret_bool (hret.out hl (.inr (by unfold digB; simp; omega))).symm, hfr⟩
    · have e : k = s.size := by omega
      subst e
      have hw := nameB_whole Hn.out
      have Hw := hide hw
      clear hw
      go_wp2_with fail
      go_ret
      refine ⟨ret_bool ?_, hfr⟩
      rw [Hw.out, ByteArray.toList_eq]
set_option maxHeartbeats 2000000 in
theorem rname_any (s : ByteArray) (hs : s.size ≤ 9223372036854775807) (w : World) : Calls Try.prog 34 #[.string s] w fun e w' => e = .returned (.bool (nameB s.data.toList)) ∧ w = w' := by
  go_enter Try.func34, Try.ntmps34
  go_wp2_with fail
  go_loop [3] (fun i => ∃ k : Nat, k ≤ s.size ∧ i = .int .i64 k ∧ nameFrom 0 (s.data.toList.take k) = true) (fun i => s.size - (intOf i).toNat)
  case atStart => exact ⟨0, by omega, rfl, by simp [nameFrom]⟩
  case round =>
    obtain ⟨k, hk, rfl, hn⟩ := hrel
    have Hn := hide hn
    clear hn
    by_cases hlt : k < s.size
    · have hnb := nameFrom_byte hlt
      rw [Hn.out, Bool.true_and] at hnb
      have Hnb := hide hnb
      have hc256 := s[k].toNat_lt
      clear hnb
      have hlet := hide (rletter_any s[k].toNat hc256 w)
      have hdig := hide (rdigit_any s[k].toNat hc256 w)
      have hrel' : letB s[k].toNat = true ∨ (k ≠ 0 ∧ digB s[k].toNat = true) → ∃ k' : Nat, k' ≤ s.size ∧ Value.int .i64 ((k : Int) + 1) = .int .i64 k' ∧ nameFrom 0 (s.data.toList.take k') = true := fun h => ⟨k + 1, by omega, by go_num, by
        rw [Hnb.out]
        rcases h with h | ⟨h1, h2⟩
        · simp [h]
        · simp [h1, h2]⟩
      have hret : letB s[k].toNat = false → (k = 0 ∨ digB s[k].toNat = false) → nameB s.data.toList = false := fun h1 h2 => nameB_false (k := k + 1) (by
        rw [Hnb.out, h1]
        rcases h2 with h2 | h2 <;> simp [h2])
      have hrel' := hide hrel'
      have hret := hide hret
      go_wp2_with fail
      refine hlet.out.mono ?_
      rintro e w' ⟨rfl, rfl⟩
      cases hl : letB s[k].toNat with
      | true =>
        go_wp2_with fail
        go_round
        case rel => exact hrel'.out (.inl hl)
        case measure => simp [intOf]; omega
      | false =>
        by_cases hk0 : k = 0
        · have hk0' : ((k : Int) == 0) = true := by simpa using hk0
          have Hk0 := hide hk0
          clear hk0
          go_wp2_with fail
          go_ret
          exact ⟨ret_bool (hret.out hl (.inl Hk0.out)).symm, rfl⟩
        · have hk0' : ((k : Int) == 0) = false := by simpa using hk0
          go_wp2_with fail
          refine hdig.out.mono ?_
          rintro e w' ⟨rfl, rfl⟩
          cases hd : digB s[k].toNat with
          | true =>
            go_wp2_with fail
            go_round
            case rel => exact hrel'.out (.inr ⟨hk0, hd⟩)
            case measure => simp [intOf]; omega
          | false =>
            go_wp2_with fail
            go_ret
            exact ⟨ret_bool (hret.out hl (.inr hd)).symm, rfl⟩
    · have e : k = s.size := by omega
      subst e
      have hw := nameB_whole Hn.out
      have Hw := hide hw
      clear hw
      go_wp2_with fail
      go_ret
      refine ⟨ret_bool ?_, rfl⟩
      rw [Hw.out, ByteArray.toList_eq]
end Go.Proofs.Ytcojeojmodjmdaa
