/- shyardref08.New. Conditions: the contract's own premises. -/
import Derived.Test.YtlhmmiolnbgloaaGreatDoorFrefL
import Derived.Test.YtlhmmiolnbgloaaGreatDoorFilesTreeT
import Derived.Deep.LoopGhost
import Derived.Laws.StructEq
import Derived.Test.YtlhmmiolnbgloaaGreatDoorFilesAskL
namespace Go.Proofs.YtlhmmiolnbgloaaGreatDoor
open Go.RowKit

def RnewPost (w : World) (e : Ending) (w' : World) : Prop := ∃ g, e = .returned (.pointer (some ⟨g, 0, none⟩)) ∧ RfAt w' g newT (fun k => w.heap.size ≤ k) ∧ Fr (fun _ => False) w w'
set_option maxRecDepth 100000 in
set_option maxHeartbeats 4000000 in
theorem rnew_any (w : World) : Calls Tryz.prog 18 #[] w (RnewPost w) := by
  go_enter Tryz.func18, Tryz.ntmps18
  go_wp2_with fail
  go_returns
  obtain ⟨w1, hw1⟩ : ∃ w1, w1 = w.alloc (.cells #[.int .i64 0, .int .i64 0, .int .i64 0, .int .i64 0, .int .i64 0, .string ⟨#[]⟩, .slice none 0 0, .slice none 0 0, .int .i64 2, .int .i64 493, .int .i64 1, .int .i64 0, .int .i64 1, .string ⟨#[]⟩, .slice none 0 0, .slice none 0 0] 82 (0, 0)) := ⟨_, rfl⟩
  have hs1 : w1.heap.size = w.heap.size + 1 := by rw [hw1]; simp
  have hb1 : w1.heap[w.heap.size]? = some (.cells #[.int .i64 0, .int .i64 0, .int .i64 0, .int .i64 0, .int .i64 0, .string ⟨#[]⟩, .slice none 0 0, .slice none 0 0, .int .i64 2, .int .i64 493, .int .i64 1, .int .i64 0, .int .i64 1, .string ⟨#[]⟩, .slice none 0 0, .slice none 0 0] 82 (0, 0)) := by rw [hw1]; exact blk_new _ _
  have hf1 : Fr (fun _ => False) w w1 := by rw [hw1]; exact (Fr.refl _ _).alloc _
  rw [← hw1, ← hs1]
  have hnd : ∀ i n, newT.nd i = some n → i = 1 ∧ n = rootN := fun i n h => by
    unfold newT FSt.nd at h
    split at h
    · cases h
    · rcases i with _ | _ | i
      · omega
      · simp at h; exact ⟨rfl, h.symm⟩
      · simp at h
  refine ⟨_, rfl, ⟨.slice (some ⟨w.heap.size, 0, none⟩) 2 2, fun _ => .slice none 0 0, fun _ => .slice none 0 0, ?_, ?_, fun i n hn => ?_, fun i n hn => ?_, by omega, fun q e => ?_, fun k hk => ?_⟩, hf1.alloc _⟩
  · exact blk_new _ _
  · refine World.ownsRow.alloc ⟨by rw [nodesR_len]; rfl, .inr ⟨w.heap.size, 2, _, rfl, Nat.zero_le _, hb1, Nat.le_refl _, by decide, by simp, ?_⟩⟩ _
    rfl
  · obtain ⟨rfl, rfl⟩ := hnd i n hn
    exact args_nil' _ _
  · obtain ⟨rfl, rfl⟩ := hnd i n hn
    exact ints_nil _ _
  · have : w.heap.size = q := by simpa [Value.ownBlock] using e
    omega
  · have := (hf1.alloc (.cells #[.slice (some ⟨w.heap.size, 0, none⟩) 2 2] 85 (0, 0))).size
    omega
end Go.Proofs.YtlhmmiolnbgloaaGreatDoor

/- shyardref08.Same at rows that hold the same entries. Conditions: the contract's own premises. -/
namespace Go.Proofs.YtlhmmiolnbgloaaGreatDoor
open Go.RowKit

def SameRel (w : World) (len gk : Nat) (i : Value) (wr : World) : Prop := ∃ k, gk + k = len ∧ i = .int .i64 k ∧ Fr (fun _ => False) w wr
end Go.Proofs.YtlhmmiolnbgloaaGreatDoor

/- The tree of files as plain data: a call that answers an error changes nothing; the bytes and the count are those of the inodes. And what a call has made is set aside. Conditions: the lemmas' own premises. -/
namespace Go.Proofs.YtlhmmiolnbgloaaGreatDoor
open Go.RowKit

/-- What was made since then is not the tree's. -/
theorem FilesF.aparts {w w' : World} {f : Nat} {σ : FSt} {S : Nat → Prop} {p : Nat → Nat} {dv ev pv : Nat → Value} {lv : Value} (h : FilesF w f σ S p dv ev pv lv) (hf : Fr (fun _ => False) w w') : FilesF w' f σ (fun k => S k ∧ ¬ (w.heap.size ≤ k ∧ k < w'.heap.size)) p dv ev pv lv := by
  have h' := h.frame hf (fun _ _ _ e => e)
  have nl : ∀ i, (σ.nd i).isSome = true → ∃ n, NodeF w p (p i) i n (dv i) (ev i) (pv i) := fun i hi => by
    obtain ⟨n, hn⟩ := Option.isSome_iff_exists.1 hi
    exact ⟨n, h.nd i n hn⟩
  exact ⟨h'.hb, h'.hl, h'.nd, h.inj, h.injd, h.inje, ⟨h.own, by have := blk_lt h.hb; omega⟩, fun g e => ⟨h.ownl g e, by have := (h.hl.lt g e).2; omega⟩,
    fun i hi => ⟨h.ownn i hi, by obtain ⟨n, hn⟩ := nl i hi; have := blk_lt hn.hb; omega⟩, fun i g hi e => ⟨h.ownd i g hi e, by obtain ⟨n, hn⟩ := nl i hi; have := hn.data.lt e; omega⟩,
    fun i m hi e => ⟨h.owne i m hi e, by obtain ⟨n, hn⟩ := nl i hi; have := hn.map_lt e; omega⟩, fun k hk => ⟨h.up k (Nat.le_trans hf.size hk), by omega⟩, h.live⟩
theorem FilesAt.aparts {w w' : World} {f : Nat} {σ : FSt} {S : Nat → Prop} {p : Nat → Nat} (h : FilesAt w f σ S p) (hf : Fr (fun _ => False) w w') : FilesAt w' f σ (fun k => S k ∧ ¬ (w.heap.size ≤ k ∧ k < w'.heap.size)) p := by
  obtain ⟨_, _, _, _, h⟩ := h
  exact ⟨_, _, _, _, h.aparts hf⟩
/-- A directory has no bytes. -/
def DirD (σ : FSt) : Prop := ∀ i n, σ.nd i = some n → n.d = true → n.data = []
theorem FilesAt.dird {w : World} {f : Nat} {σ : FSt} {S : Nat → Prop} {p : Nat → Nat} (h : FilesAt w f σ S p) : DirD σ := fun i n hn hd => by
  obtain ⟨_, _, _, hN⟩ := h.node hn
  exact (hN.dir hd).1
theorem makeR_still {σ : FSt} {i m : Int} {s : List UInt8} {d : Bool} (h : (makeR σ i s d m).1 ≠ 0) : (makeR σ i s d m).2 = σ := by
  unfold makeR at h ⊢
  split
  · rfl
  · rename_i e; rw [if_neg e] at h; exact absurd rfl h
theorem ite_still {E : Int} {σ τ : FSt} (h : (if E ≠ 0 then ((E, σ) : Int × FSt) else (0, τ)).1 ≠ 0) : (if E ≠ 0 then ((E, σ) : Int × FSt) else (0, τ)).2 = σ := by
  split
  · rfl
  · rename_i e; rw [if_neg e] at h; exact absurd rfl h
theorem truncR_still {σ : FSt} {i n : Int} (h : (truncR σ i n).1 ≠ 0) : (truncR σ i n).2 = σ := by
  unfold truncR at h ⊢
  split at h
  · rfl
  · repeat' split at h
    all_goals first | (simp at h; done) | (simp_all; done) | (simp_all; split <;> rfl)
theorem writeR_still {σ : FSt} {i a : Int} {s : List UInt8} (h : (writeR σ i a s).2.1 ≠ 0) : (writeR σ i a s).2.2 = σ := by
  unfold writeR at h ⊢
  split at h
  · rfl
  · repeat' split at h
    all_goals first | (simp at h; done) | (simp_all; done) | (simp_all; split <;> rfl)
theorem chmodR_still {σ : FSt} {i m : Int} (h : (chmodR σ i m).1 ≠ 0) : (chmodR σ i m).2 = σ := by
  unfold chmodR at h ⊢
  split at h
  · rfl
  · simp at h
theorem holdR_still {σ : FSt} {i : Int} (h : (holdR σ i).1 ≠ 0) : (holdR σ i).2 = σ := by
  unfold holdR at h ⊢
  split at h
  · rfl
  · simp at h
theorem dropR_still {σ : FSt} {i : Int} (h : (dropR σ i).1 ≠ 0) : (dropR σ i).2 = σ := by
  unfold dropR at h ⊢
  split at h
  · rfl
  · split at h
    · simp_all
    · simp at h
/-- Whoever only asks, or is refused, changes nothing. -/
theorem ask_keeps {σ : FSt} {c : CallQ} (h : (askA σ c).e ≠ 0 ∨ c.what = 0 ∨ c.what = 7 ∨ c.what = 11 ∨ c.what = 12 ∨ c.what = 15) : askS σ c = σ := by
  unfold askS
  split
  · rename_i e
    rw [e] at h
    unfold askA at h
    rw [if_neg (by omega), if_pos e] at h
    simp only [errA] at h
    exact makeR_still (h.resolve_right (by decide))
  split
  · rename_i e1 e
    rw [e] at h
    unfold askA at h
    rw [if_neg (by omega), if_neg e1, if_pos e] at h
    simp only [errA] at h
    exact makeR_still (h.resolve_right (by decide))
  split
  · rename_i e1 e2 e
    rw [e] at h
    unfold askA at h
    rw [if_neg (by omega), if_neg e1, if_neg e2, if_pos e] at h
    simp only [errA] at h
    exact ite_still (h.resolve_right (by decide))
  split
  · rename_i e1 e2 e3 e
    rw [e] at h
    unfold askA at h
    rw [if_neg (by omega), if_neg e1, if_neg e2, if_neg e3, if_pos e] at h
    simp only [errA] at h
    exact ite_still (h.resolve_right (by decide))
  split
  · rename_i e1 e2 e3 e4 e
    rw [e] at h
    unfold askA at h
    rw [if_neg (by omega), if_neg e1, if_neg e2, if_neg e3, if_neg e4, if_pos e] at h
    simp only [errA] at h
    exact ite_still (h.resolve_right (by decide))
  split
  · rename_i e1 e2 e3 e4 e5 e
    rw [e] at h
    unfold askA at h
    rw [if_neg (by omega), if_neg e1, if_neg e2, if_neg e3, if_neg e4, if_neg e5, if_pos e] at h
    simp only [errA] at h
    exact ite_still (h.resolve_right (by decide))
  split
  · rename_i e1 e2 e3 e4 e5 e6 e
    rw [e] at h
    unfold askA at h
    rw [if_neg (by omega), if_neg e1, if_neg e2, if_neg e3, if_neg e4, if_neg e5, if_neg e6, if_neg (by omega), if_pos e] at h
    simp only [errA] at h
    exact writeR_still (h.resolve_right (by decide))
  split
  · rename_i e1 e2 e3 e4 e5 e6 e8 e
    rw [e] at h
    unfold askA at h
    rw [if_neg (by omega), if_neg e1, if_neg e2, if_neg e3, if_neg e4, if_neg e5, if_neg e6, if_neg (by omega), if_neg e8, if_pos e] at h
    simp only [errA] at h
    exact truncR_still (h.resolve_right (by decide))
  split
  · rename_i e1 e2 e3 e4 e5 e6 e8 e9 e
    rw [e] at h
    unfold askA at h
    rw [if_neg (by omega), if_neg e1, if_neg e2, if_neg e3, if_neg e4, if_neg e5, if_neg e6, if_neg (by omega), if_neg e8, if_neg e9, if_pos e] at h
    simp only [errA] at h
    exact chmodR_still (h.resolve_right (by decide))
  split
  · rename_i e1 e2 e3 e4 e5 e6 e8 e9 e10 e
    rw [e] at h
    unfold askA at h
    rw [if_neg (by omega), if_neg e1, if_neg e2, if_neg e3, if_neg e4, if_neg e5, if_neg e6, if_neg (by omega), if_neg e8, if_neg e9, if_neg e10, if_neg (by omega), if_neg (by omega), if_pos e] at h
    simp only [errA] at h
    exact holdR_still (h.resolve_right (by decide))
  split
  · rename_i e1 e2 e3 e4 e5 e6 e8 e9 e10 e13 e
    rw [e] at h
    unfold askA at h
    rw [if_neg (by omega), if_neg e1, if_neg e2, if_neg e3, if_neg e4, if_neg e5, if_neg e6, if_neg (by omega), if_neg e8, if_neg e9, if_neg e10, if_neg (by omega), if_neg (by omega), if_neg e13, if_pos e] at h
    simp only [errA] at h
    exact dropR_still (h.resolve_right (by decide))
  · rfl
/-- The bytes and the count of the first inodes. -/
def sumTo (σ : FSt) (m : Nat) : Nat := ((σ.take m).map ndLen).sum
def cntTo (σ : FSt) (m : Nat) : Nat := ((σ.take m).filter (·.isSome)).length
theorem sumTo_all {σ : FSt} {m : Nat} (h : σ.length ≤ m) : sumTo σ m = σ.byts := by unfold sumTo FSt.byts; rw [List.take_of_length_le h]
theorem cntTo_all {σ : FSt} {m : Nat} (h : σ.length ≤ m) : cntTo σ m = σ.cnt := by unfold cntTo FSt.cnt; rw [List.take_of_length_le h]
theorem nd_succ (σ : FSt) (m : Nat) : σ.nd (m + 1) = (σ[m]?).join := by
  unfold FSt.nd
  rw [if_neg (by omega), Nat.add_sub_cancel]
theorem sumTo_none {σ : FSt} {m : Nat} (h : σ.nd (m + 1) = none) : sumTo σ (m + 1) = sumTo σ m ∧ cntTo σ (m + 1) = cntTo σ m := by
  rw [nd_succ] at h
  unfold sumTo cntTo
  cases hm : σ[m]? with
  | none =>
    have := List.getElem?_eq_none_iff.1 hm
    rw [List.take_of_length_le (by omega : σ.length ≤ m + 1), List.take_of_length_le this]
    exact ⟨rfl, rfl⟩
  | some o =>
    rw [hm] at h
    obtain rfl : o = none := h
    rw [List.take_add_one, hm]
    simp [ndLen]
theorem sumTo_some {σ : FSt} {m : Nat} {n : Nd} (h : σ.nd (m + 1) = some n) : sumTo σ (m + 1) = sumTo σ m + n.data.length ∧ cntTo σ (m + 1) = cntTo σ m + 1 := by
  rw [nd_succ] at h
  unfold sumTo cntTo
  cases hm : σ[m]? with
  | none => rw [hm] at h; cases h
  | some o =>
    rw [hm] at h
    obtain rfl : o = some n := h
    rw [List.take_add_one, hm]
    simp [ndLen]
theorem sumTo_le {σ : FSt} (m : Nat) (h : σ.byts ≤ 65536) : sumTo σ m ≤ 65536 := by
  refine Nat.le_trans ?_ h
  unfold sumTo FSt.byts
  conv => rhs; rw [← List.take_append_drop m σ]
  rw [List.map_append, List.sum_append]
  omega
theorem cntTo_le {σ : FSt} (m : Nat) : cntTo σ m ≤ m := by
  unfold cntTo
  exact Nat.le_trans (List.length_filter_le _ _) (List.length_take_le _ _)
end Go.Proofs.YtlhmmiolnbgloaaGreatDoor

/- shyardref08.FS.Count, Bytes. Conditions: each contract's own premises. -/
namespace Go.Proofs.YtlhmmiolnbgloaaGreatDoor
open Go.RowKit

def RcntRel (σ : FSt) (w : World) (gk : Nat) (c i : Value) (wr : World) : Prop := ∃ k, gk + k = σ.length + 1 ∧ i = .int .i64 k ∧ c = .int .i64 (cntTo σ (k - 1) : Nat) ∧ w = wr
set_option maxRecDepth 100000 in
set_option maxHeartbeats 2000000 in
theorem rcount_any (w : World) (g : Nat) (σ : FSt) (S : Nat → Prop) (h : RfAt w g σ S) (hL : σ.length ≤ 1000000) :
    Calls Tryz.prog 54 #[.pointer (some ⟨g, 0, none⟩)] w fun e w' => e = .returned (.int .i64 (σ.cnt : Nat)) ∧ w' = w := by
  obtain ⟨rv, nv, iv, hF⟩ := h
  have c0 : w.cell? ⟨g, 0, none⟩ = some rv := by rw [blk_cell hF.hb]; rfl
  obtain ⟨nb, cap, rfl, -⟩ := hF.node (Nat.zero_le _)
  have HF := hide hF
  clear hF
  go_enter Tryz.func54, Tryz.ntmps54
  go_wp2_with fail
  go_loopg [3, 4] (σ.length + 1) (fun gk c i wr => RcntRel σ w gk c i wr)
  case atStart => exact ⟨0, by omega, rfl, rfl, rfl⟩
  case round =>
    obtain ⟨k, hgk, rfl, rfl, rfl⟩ := hrel
    have Hgk := hide hgk
    by_cases hk : k ≤ σ.length
    · obtain ⟨nb', cap', e0, hnb, k0, k1, k2, k3, k4, dt, na, nc, ia, ic, -, -, -, q0, -, -, -, -, -, -, -, hsm, hno⟩ := HF.out.node hk
      cases e0
      have hkI : (k : Int) < ((σ.length + 1 : Nat) : Int) := by omega
      have hk0 : (0 : Int) ≤ (k : Int) := by omega
      cases hn : σ.nd k with
      | none =>
        obtain ⟨rfl, -, -⟩ := hno hn
        have hc : cntTo σ (k + 1 - 1) = cntTo σ (k - 1) := by
          rcases k with _ | k
          · rfl
          · exact (sumTo_none hn).2
        have hnext := hide (show RcntRel σ w (gk - 1) (.int .i64 (cntTo σ (k - 1) : Nat)) (.int .i64 ((k : Int) + 1)) w from ⟨k + 1, by omega, by go_num, by rw [hc], rfl⟩)
        clear hgk hk hc hn hno hsm
        go_wp2_with fail
        go_roundg (gk - 1)
        case measure => have := Hgk.out; omega
        case rel => exact hnext.out
      | some n =>
        obtain ⟨rfl, -⟩ := hsm n hn
        have hkp : 0 < k := (HF.out.cells hn).2
        have hc : cntTo σ (k + 1 - 1) = cntTo σ (k - 1) + 1 := by
          obtain ⟨k, rfl⟩ : ∃ j, k = j + 1 := ⟨k - 1, by omega⟩
          exact (sumTo_some hn).2
        have hle := cntTo_le (σ := σ) (k - 1)
        have hkind : (0 : Int) < kindN n := by unfold kindN; split <;> decide
        have hnext := hide (show RcntRel σ w (gk - 1) (.int .i64 ((cntTo σ (k - 1) : Nat) + 1)) (.int .i64 ((k : Int) + 1)) w from ⟨k + 1, by omega, by go_num, by rw [hc]; go_num, rfl⟩)
        clear hgk hk hc hn hno hsm
        go_wp2_with fail
        go_roundg (gk - 1)
        case measure => have := Hgk.out; omega
        case rel => exact hnext.out
    · have hkI : ¬ (k : Int) < ((σ.length + 1 : Nat) : Int) := by omega
      have hc : cntTo σ (k - 1) = σ.cnt := cntTo_all (by omega)
      rw [hc]
      clear hgk hk
      go_wp2_with fail
      go_returns
      exact ⟨rfl, rfl⟩
def RbytRel (σ : FSt) (w : World) (gk : Nat) (c i : Value) (wr : World) : Prop := ∃ k, gk + k = σ.length + 1 ∧ i = .int .i64 k ∧ c = .int .i64 (sumTo σ (k - 1) : Nat) ∧ w = wr
theorem rsumTo_le (σ : FSt) (m : Nat) : sumTo σ m ≤ σ.byts := by
  unfold sumTo FSt.byts
  conv => rhs; rw [← List.take_append_drop m σ]
  rw [List.map_append, List.sum_append]
  omega
end Go.Proofs.YtlhmmiolnbgloaaGreatDoor

/- The document's inodes grown by a free number; which number is free. Conditions: the laws' own premises. -/
namespace Go.Proofs.YtlhmmiolnbgloaaGreatDoor
open Go.RowKit

theorem free_eq {σ : FSt} {k : Nat} (h1 : 1 ≤ k) (h2 : ∀ j, 1 ≤ j → j < k → (σ.nd j).isSome = true) (h3 : σ.nd k = none) (_hk : k ≤ σ.length + 1) : σ.free = k := by
  have a1 : ¬ σ.free < k := fun h => by
    have := h2 _ σ.free_pos h
    rw [FSt.nd_free] at this
    cases this
  have a2 : ¬ k < σ.free := fun h => by
    unfold FSt.free at h
    have hlt : k - 1 < σ.findIdx (·.isNone) := by omega
    have hb := List.not_of_lt_findIdx hlt
    have hle : σ.findIdx (·.isNone) ≤ σ.length := List.findIdx_le_length
    unfold FSt.nd at h3
    rw [if_neg (by omega), List.getElem?_eq_getElem (by omega)] at h3
    simp at h3
    simp [h3] at hb
  omega
def zeroR : List Value := [.int .i64 0, .int .i64 0, .int .i64 0, .int .i64 0, .int .i64 0, .string ⟨#[]⟩, .slice none 0 0, .slice none 0 0]
theorem nd_grown (σ : FSt) (j : Nat) : FSt.nd (σ ++ [none]) j = σ.nd j := by
  unfold FSt.nd
  by_cases h0 : j = 0
  · rw [if_pos h0, if_pos h0]
  · rw [if_neg h0, if_neg h0]
    by_cases h : j - 1 < σ.length
    · rw [List.getElem?_append_left h]
    · rw [List.getElem?_append_right (by omega), List.getElem?_eq_none (l := σ) (by omega)]
      cases hh : j - 1 - σ.length with
      | zero => rfl
      | succ q => rfl
theorem nodesR_grown (σ : FSt) (nv iv : Nat → Value) : nodesR (σ ++ [none]) nv iv = nodesR σ nv iv ++ zeroR := by
  unfold nodesR rowsOf
  rw [List.length_append, List.length_singleton, List.range_succ, List.map_append, List.flatten_append]
  congr 1
  · congr 1
    apply List.map_congr_left
    intro i _
    unfold nodeR
    rw [nd_grown]
  · simp only [List.map_cons, List.map_nil, List.flatten_cons, List.flatten_nil, List.append_nil]
    unfold nodeR
    rw [nd_grown, nd_big (by omega)]
    rfl
theorem add_full {σ : FSt} (h : σ.free = σ.length + 1) (n : Nd) : σ.add n = FSt.put (σ ++ [none]) σ.free (some n) := by
  have e : σ.findIdx (·.isNone) = σ.length := by unfold FSt.free at h; omega
  unfold FSt.add FSt.put
  rw [if_neg (by omega), h, Nat.add_sub_cancel]
  simp
theorem add_room {σ : FSt} (h : σ.free ≤ σ.length) (n : Nd) : σ.add n = σ.put σ.free (some n) := by
  unfold FSt.add FSt.put
  rw [if_pos (by unfold FSt.free at h; omega)]
  rfl
/-- A new row for the inodes, one free number more. -/
theorem RfF.grow {w w' : World} {g : Nat} {σ : FSt} {S : Nat → Prop} {rv v : Value} {nv iv : Nat → Value} (h : RfF w g σ S rv nv iv) (hf : Fr (fun _ => False) w w') (hl : w'.ownsRow w.heap.size 82 8 v (σ.length + 2) (nodesR σ nv iv ++ zeroR)) :
    RfF (w'.setCell ⟨g, 0, none⟩ v) g (σ ++ [none]) S v nv iv ∧ Fr (fun k => k = g) w (w'.setCell ⟨g, 0, none⟩ v) := by
  have hfs : Fr (fun k => k = g) w' (w'.setCell ⟨g, 0, none⟩ v) := (Fr.refl (fun k => k = g) w').setCell (p := ⟨g, 0, none⟩) (.inl rfl) v
  have h' := h.frame hf (fun _ _ _ e => e)
  have hb := blk_lt h.hb
  have hfa := (hf.mono (fun _ _ e => e.elim) : Fr (fun k => k = g) w w').trans hfs
  refine ⟨⟨by rw [blk_set h'.hb]; rfl, ?_, fun j n hn => ?_, fun j n hn => ?_, h.own, fun q e => ?_, fun k hk => h'.up k (by simpa [World.setCell] using hk)⟩, hfa⟩
  · rw [nodesR_grown, List.length_append, List.length_singleton]
    exact own_base (own_frame hl hfs (fun q e => by have := (hl.lt q e).1; omega)) (fun _ _ => Nat.zero_le _)
  · rw [nd_grown] at hn
    exact ((h.nm j n hn).mono (fun k hk h2 => ⟨h2.1, h2.2.1, fun e => by have := (hl.lt k e).1; omega⟩)).frame hfa (fun k _ h2 e => h2.2.1 e)
  · rw [nd_grown] at hn
    exact ((h.im j n hn).mono (fun k hk h2 => ⟨h2.1, h2.2.1, fun e => by have := (hl.lt k e).1; omega⟩)).frame hfa (fun k _ h2 e => h2.2.1 e)
  · have := (hl.lt q e).1
    exact ⟨h.up q this, by omega⟩
theorem add_len (σ : FSt) (n : Nd) : (σ.add n).length = if σ.free ≤ σ.length then σ.length else σ.length + 1 := by
  have e : σ.free = σ.findIdx (·.isNone) + 1 := rfl
  unfold FSt.add
  by_cases h : σ.findIdx (·.isNone) < σ.length
  · rw [if_pos h, if_pos (by omega), List.length_set]
  · rw [if_neg h, if_neg (by omega), List.length_append, List.length_singleton]
/-- A new inode written at the free number. -/
theorem RfF.addAt {w : World} {g : Nat} {σ τ : FSt} {S : Nat → Prop} {nb cap : Nat} {nv iv : Nat → Value} (h : RfF w g τ S (.slice (some ⟨nb, 0, none⟩) (τ.length + 1) cap) nv iv) (hτ : ∀ j, τ.nd j = σ.nd j) {n : Nd} (he : n.ents = []) (hl : (σ.add n).length = τ.length) (hfr : σ.free ≤ τ.length) :
    RfF (set8 w nb σ.free (.int .i64 (kindN n)) (.int .i64 n.mode) (.int .i64 n.links) (.int .i64 n.holds) (.int .i64 n.par) (.string (baL n.data)) (.slice none 0 0) (.slice none 0 0)) g (σ.add n) S (.slice (some ⟨nb, 0, none⟩) (τ.length + 1) cap) (fun j => if j = σ.free then .slice none 0 0 else nv j) (fun j => if j = σ.free then .slice none 0 0 else iv j) := by
  refine h.write hfr hl (fun j hj => ⟨by rw [FSt.nd_add, if_neg hj, hτ], if_neg hj, if_neg hj⟩) (fun m hm => ?_) (fun m hm => ?_) ?_
  · rw [FSt.nd_add, if_pos rfl] at hm
    cases hm
    rw [if_pos rfl, he]
    exact args_nil' _ _
  · rw [FSt.nd_add, if_pos rfl] at hm
    cases hm
    rw [if_pos rfl, he]
    exact ints_nil _ _
  · unfold nodeR
    rw [FSt.nd_add, if_pos rfl]
    simp only
    rfl
end Go.Proofs.YtlhmmiolnbgloaaGreatDoor
