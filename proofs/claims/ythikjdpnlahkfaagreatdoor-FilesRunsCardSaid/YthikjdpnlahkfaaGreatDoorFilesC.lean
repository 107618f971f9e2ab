/- files.FS.start: where a path begins, and its pieces. Conditions: the contract's own premises. -/
import Derived.Test.YthikjdpnlahkfaaGreatDoorFilesB
import Derived.Test.YthikjdpnlahkfaaGreatDoorShelf
namespace Go.Proofs.YthikjdpnlahkfaaGreatDoor
open Go.RowKit

theorem split_eq : ∀ s : List UInt8, Lib.splitK [47] 0 (s.count 47) s = splitS s
  | [] => rfl
  | c :: r => by
    have ih := split_eq r
    by_cases hc : c = 47
    · subst hc
      rw [List.count_cons_self]
      unfold Lib.splitK
      have h0 : Lib.index ((47 : UInt8) :: r) [47] = 0 := by unfold Lib.index; rw [if_pos (by simp [List.isPrefixOf])]
      rw [h0, if_neg (by decide)]
      simp only [Int.toNat_zero, Nat.zero_add, List.take_zero, List.length_cons, List.length_nil, List.drop_succ_cons, List.drop_zero]
      rw [ih]
      show _ = (if (47 : UInt8) = slashB then _ else _)
      rw [if_pos (show (47 : UInt8) = slashB from rfl)]
    · have hcount : (c :: r).count 47 = r.count 47 := by rw [List.count_cons, if_neg (by simpa using hc)]; rfl
      rw [hcount]
      have hS : splitS (c :: r) = match splitS r with | [] => [[c]] | p :: q => (c :: p) :: q := by
        show (if c = slashB then _ else _) = _
        rw [if_neg (show ¬ c = slashB from hc)]
        rfl
      rw [hS, ← ih]
      have hidx : Lib.index (c :: r) [47] = if Lib.index r [47] == -1 then -1 else Lib.index r [47] + 1 := by
        rw [Lib.index, if_neg (by simp [List.isPrefixOf]; exact fun e => hc e.symm)]
      cases hk : r.count 47 with
      | zero => rfl
      | succ k =>
        unfold Lib.splitK
        rw [hidx]
        by_cases hm : (Lib.index r [47] == -1) = true
        · rw [if_pos hm, if_pos (by decide), if_pos hm]
        · have hge := Lib.index_ge r [47]
          have hne : ¬ Lib.index r [47] = -1 := by simpa using hm
          rw [if_neg hm, if_neg (by simp; omega), if_neg hm]
          have ht : (Lib.index r [47] + 1).toNat = (Lib.index r [47]).toNat + 1 := by omega
          rw [ht]
          simp only [List.length_cons, List.length_nil, Nat.zero_add, Nat.add_zero, List.take_succ_cons, List.drop_succ_cons]
def slashBA : ByteArray := ⟨#[47]⟩
theorem splitB_eq (s : ByteArray) : (Lib.splitB slashBA 0 (Lib.countB s slashBA) s).map (·.data.toList) = splitS s.data.toList := by
  rw [Lib.splitB_data]
  show Lib.splitK [47] 0 (Lib.count s.data.toList [47]) s.data.toList = _
  rw [Lib.count_one]
  exact split_eq _
theorem piece_len : ∀ (s : List UInt8), ∀ q ∈ splitS s, q.length ≤ s.length
  | [], q, h => by simp [splitS] at h; simp [h]
  | c :: r, q, h => by
    have ih := piece_len r
    by_cases hc : c = slashB
    · simp only [splitS, if_pos hc, List.mem_cons] at h
      rcases h with rfl | h
      · simp
      · have := ih q h; simp; omega
    · simp only [splitS, if_neg hc] at h
      cases hs : splitS r with
      | nil => rw [hs] at h; simp at h; simp [h]
      | cons p t =>
        rw [hs] at h ih
        simp only [List.mem_cons] at h
        rcases h with rfl | h
        · have := ih p (by simp); simp; omega
        · have := ih q (by simp [h]); simp; omega
theorem split_count : ∀ (s : List UInt8), (splitS s).length ≤ s.length + 1
  | [] => by simp [splitS]
  | c :: r => by
    have ih := split_count r
    by_cases hc : c = slashB
    · simp only [splitS, if_pos hc, List.length_cons]; omega
    · simp only [splitS, if_neg hc]
      cases hs : splitS r with
      | nil => simp
      | cons p t => rw [hs] at ih; simp at ih ⊢; omega
/-- The library's own variable holds some number. -/
def Ml (w : World) : Prop := ∃ m, w.cell? ⟨Tryz.laysSplit_ren.g 1, 0, none⟩ = some (.int .i64 m)
theorem Ml.frame {w w' : World} {T : Nat → Prop} (h : Ml w) (hf : Fr T w w') (hT : ¬ T (Tryz.laysSplit_ren.g 1)) : Ml w' := by
  obtain ⟨m, hm⟩ := h
  exact ⟨m, (World.cell?_of_block (a := ⟨Tryz.laysSplit_ren.g 1, 0, none⟩) (hf.block _ (World.block_lt_of_cell? _ _ hm) hT)).trans hm⟩
theorem start1_any (x : ByteArray) (W : World) : Calls Tryz.prog 98 #[.string x] W fun e w' => e = .returned (.bool x.data.toList.isEmpty) ∧ ∃ q, w' = W.drewN q := by
  by_cases h : x.data.toList = []
  · have h1 := ba_empty h
    rw [h]
    go_enter Tryz.func98, Tryz.ntmps98
    go_wp2
    go_ret
    exact ⟨rfl, 0, rfl⟩
  · have h1 := ba_nonempty h
    have h2 : x.data.toList.isEmpty = false := by simpa using h
    rw [h2]
    go_enter Tryz.func98, Tryz.ntmps98
    go_wp2
    go_ret
    exact ⟨rfl, 0, rfl⟩
theorem Tryz.infoS : (Tryz.prog.info? 9).map (fun i => (i.zero, i.size, i.bytes)) = some (some (.string ByteArray.empty), 1, 16) := by kernel_rfl
theorem split_any (s : ByteArray) (w : World) (hs : s.size ≤ 256) (hm : Ml w) : Calls Tryz.prog 97 #[.string s, .string ⟨#[47]⟩] w fun e w' =>
    e = .returned (.slice (some ⟨w.heap.size, 0, none⟩) (Lib.splitB slashBA 0 (Lib.countB s slashBA) s).length (Lib.splitB slashBA 0 (Lib.countB s slashBA) s).length) ∧ w' = w.alloc (.cells ((Lib.splitB slashBA 0 (Lib.countB s slashBA) s).map Value.string).toArray 9 (0, 0)) := by
  obtain ⟨m, hm⟩ := hm
  have h := Any.strings_Split Tryz.laysSplit (by kernel_rfl) s slashBA m w (by omega) hm (by decide)
  have hl := Lib.splitB_all slashBA (by decide) 0 _ s rfl
  rw [← hl] at h
  exact h
theorem fr_putRow {α : Type} [Inhabited α] (enc : α → Value) (w : World) (q blk off : Nat) (d : Array α) : Fr (fun k => k = blk) w (Sort.putRow enc (Sort.ahead w q) blk off d) := by
  refine ⟨rfl, rfl, rfl, ?_, fun i hi hne => ?_⟩
  · rw [Sort.size_putRow]; exact Nat.le_refl _
  · show (w.heap.modify blk _)[i]? = _
    rw [Array.getElem?_modify, if_neg (fun e => hne e.symm)]
/-- The pieces that aren't empty. -/
theorem del_any (w : World) (blk : Nat) (l : List ByteArray) (hb : w.heap[blk]? = some (.cells (l.map Value.string).toArray 9 (0, 0))) (hl : l.length ≤ 1000) :
    Calls Tryz.prog 96 #[.slice (some ⟨blk, 0, none⟩) l.length l.length, .func (.func 98) #[] #[]] w fun e w' =>
      ∃ c, e = .returned (.slice (some ⟨blk, 0, none⟩) (l.filter fun x => !x.data.toList.isEmpty).length c) ∧ ArgsV w' (fun k => k = blk) (.slice (some ⟨blk, 0, none⟩) (l.filter fun x => !x.data.toList.isEmpty).length c) (l.filter fun x => !x.data.toList.isEmpty) ∧ Fr (fun k => k = blk) w w' := by
  have eg : ∀ args w, (callFunc 98 args).run Tryz.prog w = .ok (.enter 98 args) w := enters_of Tryz.func98 (by kernel_rfl) rfl
  have hH : Sort.Holds Value.string w blk 0 l.toArray := fun j hj => by
    have hj' : j < l.length := by simpa using hj
    refine ⟨?_, ?_⟩
    · rw [blk_cell hb]
      simp [hj', getElem!_pos]
    · exact blk_frozen hb _
  have h := AnyE.slices_DeleteFunc Tryz.laysDel Value.string (fun _ => rfl) (fun x : ByteArray => x.data.toList.isEmpty) 98 #[] eg ⟨#[]⟩ (fun w => by kernel_rfl) blk 0 l.length l.toArray w
    (fun W x _ => start1_any x W) (fun n os dk x _ => start1_any x _) hH (by simp; omega) (by simp)
  rw [show l.toArray.size = l.length by simp] at h
  refine Calls.mono h ?_
  rintro e w' ⟨rfl, q, rfl⟩
  have hle := List.length_filter_le (fun x : ByteArray => !x.data.toList.isEmpty) l
  show ∃ c, Ending.returned (.slice (some ⟨blk, 0, none⟩) (l.filter fun x => !x.data.toList.isEmpty).length l.length) = _ ∧ ArgsV (Sort.putRow Value.string (Sort.ahead w q) blk 0 ((l.filter fun x => !x.data.toList.isEmpty) ++ List.replicate (l.length - (l.filter fun x => !x.data.toList.isEmpty).length) (⟨#[]⟩ : ByteArray)).toArray) _ _ _ ∧ Fr _ _ (Sort.putRow Value.string (Sort.ahead w q) blk 0 ((l.filter fun x => !x.data.toList.isEmpty) ++ List.replicate (l.length - (l.filter fun x => !x.data.toList.isEmpty).length) (⟨#[]⟩ : ByteArray)).toArray)
  generalize (l.filter fun x => !x.data.toList.isEmpty) = r at *
  have hH2 := Sort.holds_putRow Value.string (Sort.ahead w q) blk 0 l.toArray (r ++ List.replicate (l.length - r.length) (⟨#[]⟩ : ByteArray)).toArray
    (Sort.holds_ahead Value.string w q blk 0 l.toArray hH) (by simp; omega)
  refine ⟨l.length, rfl, ⟨some ⟨blk, 0, none⟩, l.length, rfl, hle, (fun e => nomatch e), .inr ⟨blk, 0, rfl, rfl, ?_, fun k hk => ?_⟩⟩, fr_putRow _ _ _ _ _ _⟩
  · rw [Sort.size_putRow]; exact blk_lt hb
  · have := (hH2 k (by simp; omega)).1
    rw [this]
    congr 2
    rw [getElem!_pos _ _ (by simp; omega)]
    simp [List.getElem_append_left hk]
theorem suffix_any (s : ByteArray) (w : World) (hs : s.size ≤ 9223372036854775807) : Calls Tryz.prog 99 #[.string s, .string ⟨#[47]⟩] w fun e w' => e = .returned (.bool (slashS s.data.toList)) ∧ w' = w := by
  have h := Any.strings_HasSuffix Tryz.laysSuffix s slashBA w hs
  have he : Lib.hasSuffix s.data.toList slashBA.data.toList = slashS s.data.toList := by
    show ([47] : List UInt8).isSuffixOf s.data.toList = (s.data.toList.getLast? == some slashB)
    generalize s.data.toList = l
    rcases List.eq_nil_or_concat l with rfl | ⟨r, c, rfl⟩
    · rfl
    · have : ([47] : List UInt8).isSuffixOf (r ++ [c]) = (c == 47) := by
        simp [List.isSuffixOf, List.isPrefixOf]
        exact Bool.beq_comm
      rw [List.concat_eq_append, this]
      simp [slashB]
  rw [he] at h
  exact h
end Go.Proofs.YthikjdpnlahkfaaGreatDoor
