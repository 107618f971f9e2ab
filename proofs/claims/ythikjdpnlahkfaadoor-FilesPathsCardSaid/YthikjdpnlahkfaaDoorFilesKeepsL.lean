/- The tree of files as plain data: a call that answers an error changes nothing; the bytes and the count are those of the inodes. And what a call has made is set aside. Conditions: the lemmas' own premises. -/
import Derived.Test.YthikjdpnlahkfaaDoorFilesAskL
import Derived.Test.YthikjdpnlahkfaaDoorFilesSame
namespace Go.Proofs.YthikjdpnlahkfaaDoor
open Go.RowKit

/-- What was made since then is not the tree's. -/
theorem FilesF.aparts {w w' : World} {f : Nat} {σ : FSt} {S : Nat → Prop} {p : Nat → Nat} {dv ev pv : Nat → Value} {lv : Value} (h : FilesF w f σ S p dv ev pv lv) (hf : Fr (fun _ => False) w w') : FilesF w' f σ (fun k => S k ∧ ¬ (w.heap.size ≤ k ∧ k < w'.heap.size)) p dv ev pv lv := by
  have h' := h.frame hf (fun _ _ _ e => e)
  have nl : ∀ i, (σ.nd i).isSome = true → ∃ n, NodeF w p (p i) i n (dv i) (ev i) (pv i) := fun i hi => by
    obtain ⟨n, hn⟩ := Option.isSome_iff_exists.1 hi
    exact ⟨n, h.nd i n hn⟩
  exact ⟨h'.hb, h'.hl, h'.nd, h.inj, h.injd, h.inje, ⟨h.own, by have := blk_lt h.hb; omega⟩, fun g e => ⟨h.ownl g e, by have := (h.hl.lt g e).2; omega⟩,
    fun i hi => ⟨h.ownn i hi, by obtain ⟨n, hn⟩ := nl i hi; have := blk_lt hn.hb; omega⟩, fun i g hi e => ⟨h.ownd i g hi e, by obtain ⟨n, hn⟩ := nl i hi; have := hn.data.lt e; omega⟩,
    fun i m hi e => ⟨h.owne i m hi e, by obtain ⟨n, hn⟩ := nl i hi; have := hn.map_lt e; omega⟩, fun k hk => ⟨h.up k (Nat.le_trans hf.size hk), by omega⟩, h.live⟩
theorem FilesAt.aparts {w w' : World} {f : Nat} {σ : FSt} {S : Nat → Prop} {p : Nat → Nat} (h : FilesAt w f σ S p) (hf : Fr (fun _ => False) w w') : FilesAt w' f σ (fun k => S k ∧ ¬ (w.heap.size ≤ k ∧ k < w'.heap.size)) p := by
  obtain ⟨_, _, _, _, h⟩ := h
  exact ⟨_, _, _, _, h.aparts hf⟩
/-- A directory has no bytes. -/
def DirD (σ : FSt) : Prop := ∀ i n, σ.nd i = some n → n.d = true → n.data = []
theorem FilesAt.dird {w : World} {f : Nat} {σ : FSt} {S : Nat → Prop} {p : Nat → Nat} (h : FilesAt w f σ S p) : DirD σ := fun i n hn hd => by
  obtain ⟨_, _, _, hN⟩ := h.node hn
  exact (hN.dir hd).1
/-- An entry row stands where nothing of it is touched. -/
theorem EntRow.frame {w w' : World} {base : Nat} {v : Value} {L : List EntQ} {T : Nat → Prop} (h : EntRow w base v L) (hf : Fr T w w') (hn : ∀ q, base ≤ q → q < w.heap.size → ¬ T q) : EntRow w' base v L :=
  own_frame h hf fun g e => hn g (h.lt g e).1 (h.lt g e).2
theorem makeR_still {σ : FSt} {i m : Int} {s : List UInt8} {d : Bool} (h : (makeR σ i s d m).1 ≠ 0) : (makeR σ i s d m).2 = σ := by
  unfold makeR at h ⊢
  split
  · rfl
  · rename_i e; rw [if_neg e] at h; exact absurd rfl h
theorem ite_still {E : Int} {σ τ : FSt} (h : (if E ≠ 0 then ((E, σ) : Int × FSt) else (0, τ)).1 ≠ 0) : (if E ≠ 0 then ((E, σ) : Int × FSt) else (0, τ)).2 = σ := by
  split
  · rfl
  · rename_i e; rw [if_neg e] at h; exact absurd rfl h
theorem truncR_still {σ : FSt} {i n : Int} (h : (truncR σ i n).1 ≠ 0) : (truncR σ i n).2 = σ := by
  unfold truncR at h ⊢
  split at h
  · rfl
  · repeat' split at h
    all_goals first | (simp at h; done) | (simp_all; done) | (simp_all; split <;> rfl)
theorem writeR_still {σ : FSt} {i a : Int} {s : List UInt8} (h : (writeR σ i a s).2.1 ≠ 0) : (writeR σ i a s).2.2 = σ := by
  unfold writeR at h ⊢
  split at h
  · rfl
  · repeat' split at h
    all_goals first | (simp at h; done) | (simp_all; done) | (simp_all; split <;> rfl)
theorem chmodR_still {σ : FSt} {i m : Int} (h : (chmodR σ i m).1 ≠ 0) : (chmodR σ i m).2 = σ := by
  unfold chmodR at h ⊢
  split at h
  · rfl
  · simp at h
theorem holdR_still {σ : FSt} {i : Int} (h : (holdR σ i).1 ≠ 0) : (holdR σ i).2 = σ := by
  unfold holdR at h ⊢
  split at h
  · rfl
  · simp at h
theorem dropR_still {σ : FSt} {i : Int} (h : (dropR σ i).1 ≠ 0) : (dropR σ i).2 = σ := by
  unfold dropR at h ⊢
  split at h
  · rfl
  · split at h
    · simp_all
    · simp at h
/-- Whoever only asks, or is refused, changes nothing. -/
theorem ask_keeps {σ : FSt} {c : CallQ} (h : (askA σ c).e ≠ 0 ∨ c.what = 0 ∨ c.what = 7 ∨ c.what = 11 ∨ c.what = 12 ∨ c.what = 15) : askS σ c = σ := by
  unfold askS
  split
  · rename_i e
    rw [e] at h
    unfold askA at h
    rw [if_neg (by omega), if_pos e] at h
    simp only [errA] at h
    exact makeR_still (h.resolve_right (by decide))
  split
  · rename_i e1 e
    rw [e] at h
    unfold askA at h
    rw [if_neg (by omega), if_neg e1, if_pos e] at h
    simp only [errA] at h
    exact makeR_still (h.resolve_right (by decide))
  split
  · rename_i e1 e2 e
    rw [e] at h
    unfold askA at h
    rw [if_neg (by omega), if_neg e1, if_neg e2, if_pos e] at h
    simp only [errA] at h
    exact ite_still (h.resolve_right (by decide))
  split
  · rename_i e1 e2 e3 e
    rw [e] at h
    unfold askA at h
    rw [if_neg (by omega), if_neg e1, if_neg e2, if_neg e3, if_pos e] at h
    simp only [errA] at h
    exact ite_still (h.resolve_right (by decide))
  split
  · rename_i e1 e2 e3 e4 e
    rw [e] at h
    unfold askA at h
    rw [if_neg (by omega), if_neg e1, if_neg e2, if_neg e3, if_neg e4, if_pos e] at h
    simp only [errA] at h
    exact ite_still (h.resolve_right (by decide))
  split
  · rename_i e1 e2 e3 e4 e5 e
    rw [e] at h
    unfold askA at h
    rw [if_neg (by omega), if_neg e1, if_neg e2, if_neg e3, if_neg e4, if_neg e5, if_pos e] at h
    simp only [errA] at h
    exact ite_still (h.resolve_right (by decide))
  split
  · rename_i e1 e2 e3 e4 e5 e6 e
    rw [e] at h
    unfold askA at h
    rw [if_neg (by omega), if_neg e1, if_neg e2, if_neg e3, if_neg e4, if_neg e5, if_neg e6, if_neg (by omega), if_pos e] at h
    simp only [errA] at h
    exact writeR_still (h.resolve_right (by decide))
  split
  · rename_i e1 e2 e3 e4 e5 e6 e8 e
    rw [e] at h
    unfold askA at h
    rw [if_neg (by omega), if_neg e1, if_neg e2, if_neg e3, if_neg e4, if_neg e5, if_neg e6, if_neg (by omega), if_neg e8, if_pos e] at h
    simp only [errA] at h
    exact truncR_still (h.resolve_right (by decide))
  split
  · rename_i e1 e2 e3 e4 e5 e6 e8 e9 e
    rw [e] at h
    unfold askA at h
    rw [if_neg (by omega), if_neg e1, if_neg e2, if_neg e3, if_neg e4, if_neg e5, if_neg e6, if_neg (by omega), if_neg e8, if_neg e9, if_pos e] at h
    simp only [errA] at h
    exact chmodR_still (h.resolve_right (by decide))
  split
  · rename_i e1 e2 e3 e4 e5 e6 e8 e9 e10 e
    rw [e] at h
    unfold askA at h
    rw [if_neg (by omega), if_neg e1, if_neg e2, if_neg e3, if_neg e4, if_neg e5, if_neg e6, if_neg (by omega), if_neg e8, if_neg e9, if_neg e10, if_neg (by omega), if_neg (by omega), if_pos e] at h
    simp only [errA] at h
    exact holdR_still (h.resolve_right (by decide))
  split
  · rename_i e1 e2 e3 e4 e5 e6 e8 e9 e10 e13 e
    rw [e] at h
    unfold askA at h
    rw [if_neg (by omega), if_neg e1, if_neg e2, if_neg e3, if_neg e4, if_neg e5, if_neg e6, if_neg (by omega), if_neg e8, if_neg e9, if_neg e10, if_neg (by omega), if_neg (by omega), if_neg e13, if_pos e] at h
    simp only [errA] at h
    exact dropR_still (h.resolve_right (by decide))
  · rfl
/-- The bytes and the count of the first inodes. -/
def sumTo (σ : FSt) (m : Nat) : Nat := ((σ.take m).map ndLen).sum
def cntTo (σ : FSt) (m : Nat) : Nat := ((σ.take m).filter (·.isSome)).length
theorem sumTo_all {σ : FSt} {m : Nat} (h : σ.length ≤ m) : sumTo σ m = σ.byts := by unfold sumTo FSt.byts; rw [List.take_of_length_le h]
theorem cntTo_all {σ : FSt} {m : Nat} (h : σ.length ≤ m) : cntTo σ m = σ.cnt := by unfold cntTo FSt.cnt; rw [List.take_of_length_le h]
theorem nd_succ (σ : FSt) (m : Nat) : σ.nd (m + 1) = (σ[m]?).join := by
  unfold FSt.nd
  rw [if_neg (by omega), Nat.add_sub_cancel]
theorem sumTo_none {σ : FSt} {m : Nat} (h : σ.nd (m + 1) = none) : sumTo σ (m + 1) = sumTo σ m ∧ cntTo σ (m + 1) = cntTo σ m := by
  rw [nd_succ] at h
  unfold sumTo cntTo
  cases hm : σ[m]? with
  | none =>
    have := List.getElem?_eq_none_iff.1 hm
    rw [List.take_of_length_le (by omega : σ.length ≤ m + 1), List.take_of_length_le this]
    exact ⟨rfl, rfl⟩
  | some o =>
    rw [hm] at h
    obtain rfl : o = none := h
    rw [List.take_add_one, hm]
    simp [ndLen]
theorem sumTo_some {σ : FSt} {m : Nat} {n : Nd} (h : σ.nd (m + 1) = some n) : sumTo σ (m + 1) = sumTo σ m + n.data.length ∧ cntTo σ (m + 1) = cntTo σ m + 1 := by
  rw [nd_succ] at h
  unfold sumTo cntTo
  cases hm : σ[m]? with
  | none => rw [hm] at h; cases h
  | some o =>
    rw [hm] at h
    obtain rfl : o = some n := h
    rw [List.take_add_one, hm]
    simp [ndLen]
theorem sumTo_le {σ : FSt} (m : Nat) (h : σ.byts ≤ 65536) : sumTo σ m ≤ 65536 := by
  refine Nat.le_trans ?_ h
  unfold sumTo FSt.byts
  conv => rhs; rw [← List.take_append_drop m σ]
  rw [List.map_append, List.sum_append]
  omega
theorem cntTo_le {σ : FSt} (m : Nat) : cntTo σ m ≤ m := by
  unfold cntTo
  exact Nat.le_trans (List.length_filter_le _ _) (List.length_take_le _ _)
end Go.Proofs.YthikjdpnlahkfaaDoor
