/- The tree of files as plain data: what put and add do to numbers, counts and bytes; when what is named stays there. No program in sight; no condition. -/
import Derived.Test.YthikjdpnlahkfaaDoorFilesI
namespace Go.Proofs.YthikjdpnlahkfaaDoor
open Go.RowKit

theorem and511 (n : Int) : bits .and .i64 n 511 = n % 512 := by
  have e1 : IntKind.i64.bits = 64 := rfl
  unfold bits
  rw [e1]
  have key : (BitVec.ofInt 64 n &&& BitVec.ofInt 64 511).toNat = (n % 512).toNat := by
    rw [BitVec.toNat_and, BitVec.toNat_ofInt, BitVec.toNat_ofInt]
    have : ((511 : Int) % ((2 ^ 64 : Nat) : Int)).toNat = 2 ^ 9 - 1 := by decide
    rw [this, Nat.and_two_pow_sub_one_eq_mod]
    have e : ((2 ^ 64 : Nat) : Int) = 18446744073709551616 := by decide
    rw [e]
    omega
  simp only [key]
  rw [IntKind.wrap_i64]
  omega
def modeN (m : Int) : Nat := (m % 512).toNat
theorem modeN_lt (m : Int) : modeN m < 512 := by unfold modeN; omega
theorem modeN_eq (m : Int) : bits .and .i64 m 511 = (modeN m : Int) := by rw [and511]; unfold modeN; omega
theorem FSt.nd_lt {σ : FSt} {i : Nat} (h : (σ.nd i).isSome = true) : 0 < i ∧ i ≤ σ.length := by
  unfold FSt.nd at h
  split at h
  · cases h
  · rename_i h0
    refine ⟨by omega, ?_⟩
    by_cases hi : i - 1 < σ.length
    · omega
    · rw [List.getElem?_eq_none (by omega)] at h; cases h
theorem FSt.nd_at {σ : FSt} {i : Nat} (h0 : 0 < i) (hi : i - 1 < σ.length) : σ.nd i = σ[i - 1] := by
  unfold FSt.nd
  rw [if_neg (by omega), List.getElem?_eq_getElem hi]
  rfl
theorem FSt.nd_put {σ : FSt} {i : Nat} (h : (σ.nd i).isSome = true) (x : Option Nd) (j : Nat) : (σ.put i x).nd j = if j = i then x else σ.nd j := by
  obtain ⟨h0, hl⟩ := FSt.nd_lt h
  unfold FSt.put FSt.nd
  by_cases hj : j = 0
  · rw [if_pos hj, if_neg (by omega), if_pos hj]
  · rw [if_neg hj, if_neg hj, List.getElem?_set]
    by_cases e : j = i
    · rw [if_pos e, if_pos (by omega), if_pos (by omega)]; rfl
    · rw [if_neg e, if_neg (by omega)]
theorem FSt.put_length (σ : FSt) (i : Nat) (x : Option Nd) : (σ.put i x).length = σ.length := by unfold FSt.put; exact List.length_set
theorem FSt.nd_free (σ : FSt) : σ.nd σ.free = none := by
  unfold FSt.nd FSt.free
  rw [if_neg (by omega), Nat.add_sub_cancel]
  by_cases h : σ.findIdx (·.isNone) < σ.length
  · rw [List.getElem?_eq_getElem h]
    have : (σ[σ.findIdx (·.isNone)]).isNone = true := List.findIdx_getElem (w := h)
    simpa using this
  · rw [List.getElem?_eq_none (by omega)]; rfl
theorem FSt.free_pos (σ : FSt) : 0 < σ.free := by unfold FSt.free; omega
theorem FSt.nd_add (σ : FSt) (n : Nd) (j : Nat) : (σ.add n).nd j = if j = σ.free then some n else σ.nd j := by
  have hle : σ.findIdx (·.isNone) ≤ σ.length := List.findIdx_le_length
  unfold FSt.add FSt.nd FSt.free
  by_cases hj : j = 0
  · rw [if_pos hj, if_neg (by omega), if_pos hj]
  · rw [if_neg hj, if_neg hj]
    split
    · rename_i h
      rw [List.getElem?_set]
      by_cases e : j = σ.findIdx (·.isNone) + 1
      · rw [if_pos e, if_pos (by omega), if_pos (by omega)]; rfl
      · rw [if_neg e, if_neg (by omega)]
    · rename_i h
      by_cases e : j = σ.findIdx (·.isNone) + 1
      · rw [if_pos e, List.getElem?_append_right (by omega), show j - 1 - σ.length = 0 by omega]; rfl
      · rw [if_neg e]
        by_cases h2 : j - 1 < σ.length
        · rw [List.getElem?_append_left h2]
        · rw [List.getElem?_eq_none (by simp; omega), List.getElem?_eq_none (by omega)]
theorem sum_set {α : Type} (g : α → Nat) : ∀ (l : List α) (i : Nat) (hi : i < l.length) (x : α), ((l.set i x).map g).sum + g l[i] = (l.map g).sum + g x
  | [], i, hi, x => by simp at hi
  | a :: l, 0, hi, x => by simp; omega
  | a :: l, i + 1, hi, x => by
    have ih := sum_set g l i (by simpa using hi) x
    simp only [List.set_cons_succ, List.map_cons, List.sum_cons, List.getElem_cons_succ]
    omega
def one (o : Option Nd) : Nat := if o.isSome then 1 else 0
theorem FSt.cnt_sum (σ : FSt) : σ.cnt = (σ.map one).sum := by
  unfold FSt.cnt
  induction σ with
  | nil => rfl
  | cons a l ih =>
    rw [List.filter_cons]
    cases h : a.isSome <;> simp [one, h, ih] <;> omega
theorem FSt.cnt_put {σ : FSt} {i : Nat} (h : (σ.nd i).isSome = true) (x : Option Nd) : (σ.put i x).cnt + 1 = σ.cnt + one x := by
  obtain ⟨h0, hl⟩ := FSt.nd_lt h
  rw [FSt.cnt_sum, FSt.cnt_sum]
  have := sum_set one σ (i - 1) (by omega) x
  rw [FSt.nd_at h0 (by omega)] at h
  rw [show one σ[i - 1] = 1 by unfold one; rw [h]; rfl] at this
  exact this
theorem FSt.byts_put {σ : FSt} {i : Nat} {n : Nd} (h : σ.nd i = some n) (x : Option Nd) : (σ.put i x).byts + n.data.length = σ.byts + ndLen x := by
  obtain ⟨h0, hl⟩ := FSt.nd_lt (by rw [h]; rfl)
  have := sum_set ndLen σ (i - 1) (by omega) x
  rw [FSt.nd_at h0 (by omega)] at h
  rw [h] at this
  exact this
theorem FSt.cnt_add (σ : FSt) (n : Nd) : (σ.add n).cnt = σ.cnt + 1 := by
  rw [FSt.cnt_sum, FSt.cnt_sum]
  unfold FSt.add
  split
  · rename_i h
    have h2 := sum_set one σ _ h (some n)
    have h3 : (σ[σ.findIdx (·.isNone)]).isNone = true := List.findIdx_getElem (w := h)
    have h4 : σ[σ.findIdx (·.isNone)] = none := by simpa using h3
    rw [h4] at h2
    simpa [one] using h2
  · simp [one]
theorem FSt.byts_add (σ : FSt) (n : Nd) : (σ.add n).byts = σ.byts + n.data.length := by
  unfold FSt.byts FSt.add
  split
  · rename_i h
    have h2 := sum_set ndLen σ _ h (some n)
    have h3 : (σ[σ.findIdx (·.isNone)]).isNone = true := List.findIdx_getElem (w := h)
    have h4 : σ[σ.findIdx (·.isNone)] = none := by simpa using h3
    rw [h4] at h2
    simpa [ndLen] using h2
  · simp [ndLen]
theorem FSt.cnt_le (σ : FSt) : σ.cnt ≤ σ.length := List.length_filter_le _ _
theorem FSt.add_length {σ : FSt} (n : Nd) (h : σ.cnt < 100) (hl : σ.length ≤ 100) : (σ.add n).length ≤ 100 := by
  unfold FSt.add
  split
  · rw [List.length_set]; exact hl
  · rename_i h2
    have h3 : σ.cnt = σ.length := by
      unfold FSt.cnt
      congr 1
      rw [List.filter_eq_self]
      intro a ha
      have := List.findIdx_eq_length.1 (Nat.le_antisymm List.findIdx_le_length (by omega) : σ.findIdx (·.isNone) = σ.length) a ha
      simpa using this
    simp
    omega
theorem byts_nd {σ : FSt} {i : Nat} {n : Nd} (h : σ.nd i = some n) : n.data.length ≤ σ.byts := by
  have := FSt.byts_put h none
  simp [ndLen] at this
  omega
/-- A changed inode. -/
theorem Live.put {σ : FSt} (h : Live σ) {i : Nat} {n n' : Nd} (hn : σ.nd i = some n) (hd : n'.d = n.d) (h1 : i = 1 → n'.links = 1) (he : ∀ q ∈ n'.ents, (σ.nd q.2).isSome = true)
    (hp : n'.d = true → 0 < n'.links → (σ.nd n'.par).isSome = true) (hb : (σ.put i (some n')).byts ≤ 65536) (hnm : ∀ q ∈ n'.ents, q.1.length ≤ 32) : Live (σ.put i (some n')) := by
  have hs : (σ.nd i).isSome = true := by rw [hn]; rfl
  have hnd := FSt.nd_put hs (some n')
  have sm : ∀ k, (σ.nd k).isSome = true → ((σ.put i (some n')).nd k).isSome = true := fun k hk => by
    rw [hnd]; split
    · rfl
    · exact hk
  have cs : ∀ j m, (σ.put i (some n')).nd j = some m → (j = i ∧ m = n') ∨ σ.nd j = some m := fun j m hj => by
    rw [hnd] at hj
    split at hj
    · rename_i e; cases hj; exact .inl ⟨e, rfl⟩
    · exact .inr hj
  refine ⟨?_, ?_, ?_, ?_, by rw [FSt.put_length]; exact h.len, hb, ?_⟩
  · obtain ⟨r, hr, hr2, hr3⟩ := h.root
    by_cases e : i = 1
    · refine ⟨n', by rw [hnd, if_pos e.symm], ?_, h1 e⟩
      subst e; rw [hn] at hr; cases hr; rw [hd]; exact hr2
    · exact ⟨r, by rw [hnd, if_neg (fun e2 => e e2.symm)]; exact hr, hr2, hr3⟩
  · intro j m hj q hq
    rcases cs j m hj with ⟨_, rfl⟩ | hj
    · exact sm _ (he q hq)
    · exact sm _ (h.ents j m hj q hq)
  · intro j m hj hd2 hl
    rcases cs j m hj with ⟨_, rfl⟩ | hj
    · exact sm _ (hp hd2 hl)
    · exact sm _ (h.par j m hj hd2 hl)
  · have := FSt.cnt_put hs (some n'); have h9 := h.cnt; simp [one] at this; omega
  · intro j m hj
    rcases cs j m hj with ⟨_, rfl⟩ | hj
    · exact hnm
    · exact h.names j m hj
/-- An inode more. -/
theorem Live.add {σ : FSt} (h : Live σ) {n : Nd} (he : n.ents = []) (hdt : n.data = []) (hp : (σ.nd n.par).isSome = true) (hc : σ.cnt < 100) : Live (σ.add n) := by
  have hnd := FSt.nd_add σ n
  have sm : ∀ k, (σ.nd k).isSome = true → ((σ.add n).nd k).isSome = true := fun k hk => by
    rw [hnd]; split
    · rfl
    · exact hk
  have cs : ∀ j m, (σ.add n).nd j = some m → m = n ∨ σ.nd j = some m := fun j m hj => by
    rw [hnd] at hj
    split at hj
    · cases hj; exact .inl rfl
    · exact .inr hj
  refine ⟨?_, ?_, ?_, by rw [FSt.cnt_add]; omega, FSt.add_length n hc h.len, by rw [FSt.byts_add, hdt]; exact h.byts, ?_⟩
  · obtain ⟨r, hr, hr2⟩ := h.root
    refine ⟨r, ?_, hr2⟩
    rw [hnd, if_neg]
    · exact hr
    · intro e; rw [e, FSt.nd_free] at hr; cases hr
  · intro j m hj q hq
    rcases cs j m hj with rfl | hj
    · rw [he] at hq; cases hq
    · exact sm _ (h.ents j m hj q hq)
  · intro j m hj hd hl
    rcases cs j m hj with rfl | hj
    · exact sm _ hp
    · exact sm _ (h.par j m hj hd hl)
  · intro j m hj
    rcases cs j m hj with rfl | hj
    · rw [he]; exact fun q hq => by cases hq
    · exact h.names j m hj
end Go.Proofs.YthikjdpnlahkfaaDoor
