/- gate.register.add, at the kernel's three registers. Conditions: the contract's own premises. -/
import Derived.Test.YtffekmjoenppaaaGreatDoorKerG
import Derived.Test.YtffekmjoenppaaaGreatDoorOwn
import Derived.BigQuiet
import Derived.StillTailTactics
import Derived.Test.YtffekmjoenppaaaGreatDoorFilesE
namespace Go.Proofs.YtffekmjoenppaaaGreatDoor
open Go.RowKit

/-- A register has a thing more. -/
def RegAddPost (w : World) (k off : Nat) (cs : Array Value) (m : Option Nat) (inn : Nat → Bool) (b : Nat → Nat) (n xb : Nat) (e : Ending) (w' : World) : Prop :=
  e = .returned (.int .i64 ((n : Int) + 1)) ∧ ∃ m', w'.heap[k]? = some (.cells ((cs.setIfInBounds off (.int .i64 ((n : Int) + 1))).setIfInBounds (off + 1) (.map m')) 56 (0, 0)) ∧
    RegV w' m' (fun j => if j = n + 1 then true else inn j) (fun j => if j = n + 1 then xb else b j) (n + 1) ∧ ((m' = m ∧ m ≠ none) ∨ (m = none ∧ m' = some w.heap.size)) ∧ Fr (fun q => q = k ∨ m = some q) w w'
theorem regV_add {w' : World} {g n : Nat} {inn : Nat → Bool} {b : Nat → Nat} {xb : Nat} (h : IMapAt Tryz.prog 3 w' g (iput ((n : Int) + 1) (ptrAt xb) (regL inn (fun i => ptrAt (b i)) n))) : RegV w' (some g) (fun j => if j = n + 1 then true else inn j) (fun j => if j = n + 1 then xb else b j) (n + 1) := by
  have e := regL_add (inn := inn) (v := fun i => ptrAt (b i)) (n := n) (ptrAt xb)
  rw [show (((n + 1 : Nat) : Int)) = (n : Int) + 1 by omega] at e
  rw [e] at h
  show IMapAt Tryz.prog 3 w' g _
  have e2 : (fun j => if j = n + 1 then ptrAt xb else ptrAt (b j)) = fun j => ptrAt (if j = n + 1 then xb else b j) := by
    funext j
    by_cases e : j = n + 1
    · rw [if_pos e, if_pos e]
    · rw [if_neg e, if_neg e]
  rw [e2] at h
  exact h
set_option maxRecDepth 100000 in
set_option maxHeartbeats 1000000 in
theorem d_add (w : World) (k : Nat) (cs : Array Value) (m : Option Nat) (inn : Nat → Bool) (b : Nat → Nat) (n xb : Nat) (hk : w.heap[k]? = some (.cells cs 56 (0, 0))) (h0 : cs[3]? = some (.int .i64 n)) (h1 : cs[4]? = some (.map m)) (hr : RegV w m inn b n) (hkm : m ≠ some k) (hn : n ≤ 1000000000000) :
    Calls Tryz.prog 20 #[.pointer (some ⟨k, 3, none⟩), ptrAt xb] w (RegAddPost w k 3 cs m inn b n xb) := by
  have hmm := @run_makeMap Tryz.prog
  have hl0 : 3 < cs.size := (Array.getElem?_eq_some_iff.1 h0).1
  have hl1 : 4 < cs.size := (Array.getElem?_eq_some_iff.1 h1).1
  have hkl := blk_lt hk
  have hb64 : (Lit.int .i64 ((n : Int) + 1)).wf = true := wf_i64 (by omega)
  unfold ptrAt
  cases m with
  | none =>
    have hn0 : n = 0 := hr
    have heq : (binOp .eql 48 (.map none) (.map none)).run Tryz.prog w = .ok (.bool true) w := by kernel_rfl
    have c1 : w.cell? ⟨k, 4, none⟩ = some (.map none) := by rw [blk_cell hk]; exact h1
    have f1 : (w.alloc (.map #[] 0)).frozen? ⟨k, 4, none⟩ = false := blk_frozen (blk_alloc hk _) _
    obtain ⟨w1, hw1⟩ : ∃ w1, w1 = w.setCell ⟨k, 4, none⟩ (.map (some w.heap.size)) := ⟨_, rfl⟩
    have k1 : w1.heap[k]? = some (.cells (cs.setIfInBounds (4) (.map (some w.heap.size))) 56 (0, 0)) := by rw [hw1]; exact blk_set hk _ _
    have z1 : w1.heap.size = w.heap.size := by rw [hw1]; simp
    obtain ⟨w2, hw2⟩ : ∃ w2, w2 = w1.alloc (.map #[] 0) := ⟨_, rfl⟩
    have k2 : w2.heap[k]? = some (.cells (cs.setIfInBounds (4) (.map (some w.heap.size))) 56 (0, 0)) := by rw [hw2]; exact blk_alloc k1 _
    have c2 : w2.cell? ⟨k, 3, none⟩ = some (.int .i64 n) := by rw [blk_cell k2, Array.getElem?_setIfInBounds_ne (by omega)]; exact h0
    have f2 : w2.frozen? ⟨k, 3, none⟩ = false := blk_frozen k2 _
    obtain ⟨w3, hw3⟩ : ∃ w3, w3 = w2.setCell ⟨k, 3, none⟩ (.int .i64 ((n : Int) + 1)) := ⟨_, rfl⟩
    have k3 : w3.heap[k]? = some (.cells ((cs.setIfInBounds (4) (.map (some w.heap.size))).setIfInBounds 3 (.int .i64 ((n : Int) + 1))) 56 (0, 0)) := by rw [hw3]; exact blk_set k2 _ _
    have c3 : w3.drew.cell? ⟨k, 3, none⟩ = some (.int .i64 ((n : Int) + 1)) := by rw [blk_cell (blk_drew k3), Array.getElem?_setIfInBounds_self_of_lt (by simpa using hl0)]
    have c4 : w3.drew.cell? ⟨k, 4, none⟩ = some (.map (some w.heap.size)) := by rw [blk_cell (blk_drew k3), Array.getElem?_setIfInBounds_ne (by omega), Array.getElem?_setIfInBounds_self_of_lt hl1]
    have hfr3 : Fr (fun q => q = k) w w3 := by
      rw [hw3, hw2, hw1]
      exact (((Fr.refl (fun q => q = k) w).setCell (p := ⟨k, 4, none⟩) (.inl rfl) _).alloc _).setCell (p := ⟨k, 3, none⟩) (.inl rfl) _
    have hM : IMapAt Tryz.prog 3 w3.drew w.heap.size [] := by
      have h1 : IMapAt Tryz.prog 3 w2 w.heap.size [] := by rw [hw2, ← z1]; exact IMapAt.made w1
      have hf : Fr (fun q => q = k) w2 w3.drew := by rw [hw3]; exact ((Fr.refl (fun q => q = k) w2).setCell (p := ⟨k, 3, none⟩) (.inl rfl) _).drew
      exact h1.frame hf (by omega)
    obtain ⟨w4, hup, hM4, hf4⟩ := hM.update (t := 48) Tryz.underlying3 Tryz.underlying48 (by simp [maxLen]) ((n : Int) + 1) (by omega) (.pointer (some ⟨xb, 0, none⟩))
    have k4 : w4.heap[k]? = some (.cells ((cs.setIfInBounds 3 (.int .i64 ((n : Int) + 1))).setIfInBounds (4) (.map (some w.heap.size))) 56 (0, 0)) := by
      rw [hf4.get (blk_drew k3) (by omega), Array.setIfInBounds_comm _ _ (by omega)]
    have c5 : w4.cell? ⟨k, 3, none⟩ = some (.int .i64 ((n : Int) + 1)) := by rw [blk_cell k4, Array.getElem?_setIfInBounds_ne (by omega), Array.getElem?_setIfInBounds_self_of_lt hl0]
    have hfin := hide (show RegAddPost w k 3 cs none inn b n xb (.returned (.int .i64 ((n : Int) + 1))) w4 from ⟨rfl, some w.heap.size, k4, regV_add (by rw [show regL inn (fun i => ptrAt (b i)) n = [] by rw [hn0]; rfl]; exact hM4), .inr ⟨rfl, rfl⟩, (hfr3.drew.mono fun _ _ e => .inl e).trans' hf4 fun i hi e => by omega⟩)
    have hov : ¬ (9223372036854775807 < (n : Int) + 1) := by omega
    clear hn0 h0 h1 hl0 hl1 hk hb64 hkm
    have Hw2 := hide (show w2 = (w.setCell ⟨k, 4, none⟩ (.map (some w.heap.size))).alloc (.map #[] 0) by rw [hw2, hw1])
    have Hw3 := hide hw3
    clear hr hM hM4 hf4 k4 k3 k2 k1 hfr3 hw1 hw2 hw3 z1
    go_enter Tryz.func20, Tryz.ntmps20
    go_upto_region 3 with (fail)
    rw [← Hw2.out]
    clear Hw2 hmm f1 c1 heq
    go_wp2_with fail
    rw [← Hw3.out]
    refine region_tail 9 (by kernel_rfl) (by kernel_rfl) ?_
    simp only [List.take_succ_cons, List.take_zero, List.drop_succ_cons, List.drop_zero]
    repeat go_big_quiet_step (fail)
    refine wpQuiet_nil ?_
    go_wp2_with fail
    go_ret
    exact hfin.out
  | some g =>
    have hM0 : IMapAt Tryz.prog 3 w g (regL inn (fun i => ptrAt (b i)) n) := hr
    have heq : (binOp .eql 48 (.map (some g)) (.map none)).run Tryz.prog w = .ok (.bool false) w := by kernel_rfl
    have hgk : g ≠ k := fun e => hkm (by rw [e])
    have c1 : w.cell? ⟨k, 4, none⟩ = some (.map (some g)) := by rw [blk_cell hk]; exact h1
    have c2 : w.cell? ⟨k, 3, none⟩ = some (.int .i64 n) := by rw [blk_cell hk]; exact h0
    have f2 : w.frozen? ⟨k, 3, none⟩ = false := blk_frozen hk _
    obtain ⟨w3, hw3⟩ : ∃ w3, w3 = w.setCell ⟨k, 3, none⟩ (.int .i64 ((n : Int) + 1)) := ⟨_, rfl⟩
    have k3 : w3.heap[k]? = some (.cells (cs.setIfInBounds 3 (.int .i64 ((n : Int) + 1))) 56 (0, 0)) := by rw [hw3]; exact blk_set hk _ _
    have c3 : w3.drew.cell? ⟨k, 3, none⟩ = some (.int .i64 ((n : Int) + 1)) := by rw [blk_cell (blk_drew k3), Array.getElem?_setIfInBounds_self_of_lt hl0]
    have c4 : w3.drew.cell? ⟨k, 4, none⟩ = some (.map (some g)) := by rw [blk_cell (blk_drew k3), Array.getElem?_setIfInBounds_ne (by omega)]; exact h1
    have hfr3 : Fr (fun q => q = k) w w3.drew := by rw [hw3]; exact ((Fr.refl (fun q => q = k) w).setCell (p := ⟨k, 3, none⟩) (.inl rfl) _).drew
    have hM := hM0.frame hfr3 hgk
    have hln := regL_len inn (fun i => ptrAt (b i)) n
    obtain ⟨w4, hup, hM4, hf4⟩ := hM.update (t := 48) Tryz.underlying3 Tryz.underlying48 (by unfold maxLen; omega) ((n : Int) + 1) (by omega) (.pointer (some ⟨xb, 0, none⟩))
    have k4 : w4.heap[k]? = some (.cells ((cs.setIfInBounds 3 (.int .i64 ((n : Int) + 1))).setIfInBounds (4) (.map (some g))) 56 (0, 0)) := by
      rw [hf4.get (blk_drew k3) (Ne.symm hgk), show (cs.setIfInBounds 3 (.int .i64 ((n : Int) + 1))).setIfInBounds (4) (.map (some g)) = cs.setIfInBounds 3 (.int .i64 ((n : Int) + 1)) from by
        apply Array.ext_getElem?
        intro j
        by_cases e : j = 4
        · rw [e, Array.getElem?_setIfInBounds_self_of_lt (by simpa using hl1), Array.getElem?_setIfInBounds_ne (by omega), h1]
        · rw [Array.getElem?_setIfInBounds_ne (Ne.symm e)]]
    have c5 : w4.cell? ⟨k, 3, none⟩ = some (.int .i64 ((n : Int) + 1)) := by rw [blk_cell k4, Array.getElem?_setIfInBounds_ne (by omega), Array.getElem?_setIfInBounds_self_of_lt hl0]
    have hfin := hide (show RegAddPost w k 3 cs (some g) inn b n xb (.returned (.int .i64 ((n : Int) + 1))) w4 from ⟨rfl, some g, k4, regV_add hM4, .inl ⟨rfl, by simp⟩, (hfr3.mono fun _ _ e => .inl e).trans' hf4 fun i hi e => .inr (by rw [e])⟩)
    have hov : ¬ (9223372036854775807 < (n : Int) + 1) := by omega
    clear h0 h1 hl0 hl1 hk hb64 hkm
    rw [hw3] at hup c3 c4
    clear hr hM hM4 hf4 k4 k3 hfr3 hM0 hw3
    go_enter Tryz.func20, Tryz.ntmps20
    go_wp2_with fail
    refine region_tail 9 (by kernel_rfl) (by kernel_rfl) ?_
    simp only [List.take_succ_cons, List.take_zero, List.drop_succ_cons, List.drop_zero]
    repeat go_big_quiet_step (fail)
    refine wpQuiet_nil ?_
    go_wp2_with fail
    go_ret
    exact hfin.out
set_option maxRecDepth 100000 in
set_option maxHeartbeats 1000000 in
theorem q_add (w : World) (k : Nat) (cs : Array Value) (m : Option Nat) (inn : Nat → Bool) (b : Nat → Nat) (n xb : Nat) (hk : w.heap[k]? = some (.cells cs 56 (0, 0))) (h0 : cs[5]? = some (.int .i64 n)) (h1 : cs[6]? = some (.map m)) (hr : RegV w m inn b n) (hkm : m ≠ some k) (hn : n ≤ 1000000000000) :
    Calls Tryz.prog 11 #[.pointer (some ⟨k, 5, none⟩), ptrAt xb] w (RegAddPost w k 5 cs m inn b n xb) := by
  have hmm := @run_makeMap Tryz.prog
  have hl0 : 5 < cs.size := (Array.getElem?_eq_some_iff.1 h0).1
  have hl1 : 6 < cs.size := (Array.getElem?_eq_some_iff.1 h1).1
  have hkl := blk_lt hk
  have hb64 : (Lit.int .i64 ((n : Int) + 1)).wf = true := wf_i64 (by omega)
  unfold ptrAt
  cases m with
  | none =>
    have hn0 : n = 0 := hr
    have heq : (binOp .eql 51 (.map none) (.map none)).run Tryz.prog w = .ok (.bool true) w := by kernel_rfl
    have c1 : w.cell? ⟨k, 6, none⟩ = some (.map none) := by rw [blk_cell hk]; exact h1
    have f1 : (w.alloc (.map #[] 0)).frozen? ⟨k, 6, none⟩ = false := blk_frozen (blk_alloc hk _) _
    obtain ⟨w1, hw1⟩ : ∃ w1, w1 = w.setCell ⟨k, 6, none⟩ (.map (some w.heap.size)) := ⟨_, rfl⟩
    have k1 : w1.heap[k]? = some (.cells (cs.setIfInBounds (6) (.map (some w.heap.size))) 56 (0, 0)) := by rw [hw1]; exact blk_set hk _ _
    have z1 : w1.heap.size = w.heap.size := by rw [hw1]; simp
    obtain ⟨w2, hw2⟩ : ∃ w2, w2 = w1.alloc (.map #[] 0) := ⟨_, rfl⟩
    have k2 : w2.heap[k]? = some (.cells (cs.setIfInBounds (6) (.map (some w.heap.size))) 56 (0, 0)) := by rw [hw2]; exact blk_alloc k1 _
    have c2 : w2.cell? ⟨k, 5, none⟩ = some (.int .i64 n) := by rw [blk_cell k2, Array.getElem?_setIfInBounds_ne (by omega)]; exact h0
    have f2 : w2.frozen? ⟨k, 5, none⟩ = false := blk_frozen k2 _
    obtain ⟨w3, hw3⟩ : ∃ w3, w3 = w2.setCell ⟨k, 5, none⟩ (.int .i64 ((n : Int) + 1)) := ⟨_, rfl⟩
    have k3 : w3.heap[k]? = some (.cells ((cs.setIfInBounds (6) (.map (some w.heap.size))).setIfInBounds 5 (.int .i64 ((n : Int) + 1))) 56 (0, 0)) := by rw [hw3]; exact blk_set k2 _ _
    have c3 : w3.drew.cell? ⟨k, 5, none⟩ = some (.int .i64 ((n : Int) + 1)) := by rw [blk_cell (blk_drew k3), Array.getElem?_setIfInBounds_self_of_lt (by simpa using hl0)]
    have c4 : w3.drew.cell? ⟨k, 6, none⟩ = some (.map (some w.heap.size)) := by rw [blk_cell (blk_drew k3), Array.getElem?_setIfInBounds_ne (by omega), Array.getElem?_setIfInBounds_self_of_lt hl1]
    have hfr3 : Fr (fun q => q = k) w w3 := by
      rw [hw3, hw2, hw1]
      exact (((Fr.refl (fun q => q = k) w).setCell (p := ⟨k, 6, none⟩) (.inl rfl) _).alloc _).setCell (p := ⟨k, 5, none⟩) (.inl rfl) _
    have hM : IMapAt Tryz.prog 3 w3.drew w.heap.size [] := by
      have h1 : IMapAt Tryz.prog 3 w2 w.heap.size [] := by rw [hw2, ← z1]; exact IMapAt.made w1
      have hf : Fr (fun q => q = k) w2 w3.drew := by rw [hw3]; exact ((Fr.refl (fun q => q = k) w2).setCell (p := ⟨k, 5, none⟩) (.inl rfl) _).drew
      exact h1.frame hf (by omega)
    obtain ⟨w4, hup, hM4, hf4⟩ := hM.update (t := 51) Tryz.underlying3 Tryz.underlying51 (by simp [maxLen]) ((n : Int) + 1) (by omega) (.pointer (some ⟨xb, 0, none⟩))
    have k4 : w4.heap[k]? = some (.cells ((cs.setIfInBounds 5 (.int .i64 ((n : Int) + 1))).setIfInBounds (6) (.map (some w.heap.size))) 56 (0, 0)) := by
      rw [hf4.get (blk_drew k3) (by omega), Array.setIfInBounds_comm _ _ (by omega)]
    have c5 : w4.cell? ⟨k, 5, none⟩ = some (.int .i64 ((n : Int) + 1)) := by rw [blk_cell k4, Array.getElem?_setIfInBounds_ne (by omega), Array.getElem?_setIfInBounds_self_of_lt hl0]
    have hfin := hide (show RegAddPost w k 5 cs none inn b n xb (.returned (.int .i64 ((n : Int) + 1))) w4 from ⟨rfl, some w.heap.size, k4, regV_add (by rw [show regL inn (fun i => ptrAt (b i)) n = [] by rw [hn0]; rfl]; exact hM4), .inr ⟨rfl, rfl⟩, (hfr3.drew.mono fun _ _ e => .inl e).trans' hf4 fun i hi e => by omega⟩)
    have hov : ¬ (9223372036854775807 < (n : Int) + 1) := by omega
    clear hn0 h0 h1 hl0 hl1 hk hb64 hkm
    have Hw2 := hide (show w2 = (w.setCell ⟨k, 6, none⟩ (.map (some w.heap.size))).alloc (.map #[] 0) by rw [hw2, hw1])
    have Hw3 := hide hw3
    clear hr hM hM4 hf4 k4 k3 k2 k1 hfr3 hw1 hw2 hw3 z1
    go_enter Tryz.func11, Tryz.ntmps11
    go_upto_region 3 with (fail)
    rw [← Hw2.out]
    clear Hw2 hmm f1 c1 heq
    go_wp2_with fail
    rw [← Hw3.out]
    refine region_tail 9 (by kernel_rfl) (by kernel_rfl) ?_
    simp only [List.take_succ_cons, List.take_zero, List.drop_succ_cons, List.drop_zero]
    repeat go_big_quiet_step (fail)
    refine wpQuiet_nil ?_
    go_wp2_with fail
    go_ret
    exact hfin.out
  | some g =>
    have hM0 : IMapAt Tryz.prog 3 w g (regL inn (fun i => ptrAt (b i)) n) := hr
    have heq : (binOp .eql 51 (.map (some g)) (.map none)).run Tryz.prog w = .ok (.bool false) w := by kernel_rfl
    have hgk : g ≠ k := fun e => hkm (by rw [e])
    have c1 : w.cell? ⟨k, 6, none⟩ = some (.map (some g)) := by rw [blk_cell hk]; exact h1
    have c2 : w.cell? ⟨k, 5, none⟩ = some (.int .i64 n) := by rw [blk_cell hk]; exact h0
    have f2 : w.frozen? ⟨k, 5, none⟩ = false := blk_frozen hk _
    obtain ⟨w3, hw3⟩ : ∃ w3, w3 = w.setCell ⟨k, 5, none⟩ (.int .i64 ((n : Int) + 1)) := ⟨_, rfl⟩
    have k3 : w3.heap[k]? = some (.cells (cs.setIfInBounds 5 (.int .i64 ((n : Int) + 1))) 56 (0, 0)) := by rw [hw3]; exact blk_set hk _ _
    have c3 : w3.drew.cell? ⟨k, 5, none⟩ = some (.int .i64 ((n : Int) + 1)) := by rw [blk_cell (blk_drew k3), Array.getElem?_setIfInBounds_self_of_lt hl0]
    have c4 : w3.drew.cell? ⟨k, 6, none⟩ = some (.map (some g)) := by rw [blk_cell (blk_drew k3), Array.getElem?_setIfInBounds_ne (by omega)]; exact h1
    have hfr3 : Fr (fun q => q = k) w w3.drew := by rw [hw3]; exact ((Fr.refl (fun q => q = k) w).setCell (p := ⟨k, 5, none⟩) (.inl rfl) _).drew
    have hM := hM0.frame hfr3 hgk
    have hln := regL_len inn (fun i => ptrAt (b i)) n
    obtain ⟨w4, hup, hM4, hf4⟩ := hM.update (t := 51) Tryz.underlying3 Tryz.underlying51 (by unfold maxLen; omega) ((n : Int) + 1) (by omega) (.pointer (some ⟨xb, 0, none⟩))
    have k4 : w4.heap[k]? = some (.cells ((cs.setIfInBounds 5 (.int .i64 ((n : Int) + 1))).setIfInBounds (6) (.map (some g))) 56 (0, 0)) := by
      rw [hf4.get (blk_drew k3) (Ne.symm hgk), show (cs.setIfInBounds 5 (.int .i64 ((n : Int) + 1))).setIfInBounds (6) (.map (some g)) = cs.setIfInBounds 5 (.int .i64 ((n : Int) + 1)) from by
        apply Array.ext_getElem?
        intro j
        by_cases e : j = 6
        · rw [e, Array.getElem?_setIfInBounds_self_of_lt (by simpa using hl1), Array.getElem?_setIfInBounds_ne (by omega), h1]
        · rw [Array.getElem?_setIfInBounds_ne (Ne.symm e)]]
    have c5 : w4.cell? ⟨k, 5, none⟩ = some (.int .i64 ((n : Int) + 1)) := by rw [blk_cell k4, Array.getElem?_setIfInBounds_ne (by omega), Array.getElem?_setIfInBounds_self_of_lt hl0]
    have hfin := hide (show RegAddPost w k 5 cs (some g) inn b n xb (.returned (.int .i64 ((n : Int) + 1))) w4 from ⟨rfl, some g, k4, regV_add hM4, .inl ⟨rfl, by simp⟩, (hfr3.mono fun _ _ e => .inl e).trans' hf4 fun i hi e => .inr (by rw [e])⟩)
    have hov : ¬ (9223372036854775807 < (n : Int) + 1) := by omega
    clear h0 h1 hl0 hl1 hk hb64 hkm
    rw [hw3] at hup c3 c4
    clear hr hM hM4 hf4 k4 k3 hfr3 hM0 hw3
    go_enter Tryz.func11, Tryz.ntmps11
    go_wp2_with fail
    refine region_tail 9 (by kernel_rfl) (by kernel_rfl) ?_
    simp only [List.take_succ_cons, List.take_zero, List.drop_succ_cons, List.drop_zero]
    repeat go_big_quiet_step (fail)
    refine wpQuiet_nil ?_
    go_wp2_with fail
    go_ret
    exact hfin.out
set_option maxRecDepth 100000 in
set_option maxHeartbeats 1000000 in
theorem p_add (w : World) (k : Nat) (cs : Array Value) (m : Option Nat) (inn : Nat → Bool) (b : Nat → Nat) (n xb : Nat) (hk : w.heap[k]? = some (.cells cs 56 (0, 0))) (h0 : cs[1]? = some (.int .i64 n)) (h1 : cs[2]? = some (.map m)) (hr : RegV w m inn b n) (hkm : m ≠ some k) (hn : n ≤ 1000000000000) :
    Calls Tryz.prog 61 #[.pointer (some ⟨k, 1, none⟩), ptrAt xb] w (RegAddPost w k 1 cs m inn b n xb) := by
  have hmm := @run_makeMap Tryz.prog
  have hl0 : 1 < cs.size := (Array.getElem?_eq_some_iff.1 h0).1
  have hl1 : 2 < cs.size := (Array.getElem?_eq_some_iff.1 h1).1
  have hkl := blk_lt hk
  have hb64 : (Lit.int .i64 ((n : Int) + 1)).wf = true := wf_i64 (by omega)
  unfold ptrAt
  cases m with
  | none =>
    have hn0 : n = 0 := hr
    have heq : (binOp .eql 45 (.map none) (.map none)).run Tryz.prog w = .ok (.bool true) w := by kernel_rfl
    have c1 : w.cell? ⟨k, 2, none⟩ = some (.map none) := by rw [blk_cell hk]; exact h1
    have f1 : (w.alloc (.map #[] 0)).frozen? ⟨k, 2, none⟩ = false := blk_frozen (blk_alloc hk _) _
    obtain ⟨w1, hw1⟩ : ∃ w1, w1 = w.setCell ⟨k, 2, none⟩ (.map (some w.heap.size)) := ⟨_, rfl⟩
    have k1 : w1.heap[k]? = some (.cells (cs.setIfInBounds (2) (.map (some w.heap.size))) 56 (0, 0)) := by rw [hw1]; exact blk_set hk _ _
    have z1 : w1.heap.size = w.heap.size := by rw [hw1]; simp
    obtain ⟨w2, hw2⟩ : ∃ w2, w2 = w1.alloc (.map #[] 0) := ⟨_, rfl⟩
    have k2 : w2.heap[k]? = some (.cells (cs.setIfInBounds (2) (.map (some w.heap.size))) 56 (0, 0)) := by rw [hw2]; exact blk_alloc k1 _
    have c2 : w2.cell? ⟨k, 1, none⟩ = some (.int .i64 n) := by rw [blk_cell k2, Array.getElem?_setIfInBounds_ne (by omega)]; exact h0
    have f2 : w2.frozen? ⟨k, 1, none⟩ = false := blk_frozen k2 _
    obtain ⟨w3, hw3⟩ : ∃ w3, w3 = w2.setCell ⟨k, 1, none⟩ (.int .i64 ((n : Int) + 1)) := ⟨_, rfl⟩
    have k3 : w3.heap[k]? = some (.cells ((cs.setIfInBounds (2) (.map (some w.heap.size))).setIfInBounds 1 (.int .i64 ((n : Int) + 1))) 56 (0, 0)) := by rw [hw3]; exact blk_set k2 _ _
    have c3 : w3.drew.cell? ⟨k, 1, none⟩ = some (.int .i64 ((n : Int) + 1)) := by rw [blk_cell (blk_drew k3), Array.getElem?_setIfInBounds_self_of_lt (by simpa using hl0)]
    have c4 : w3.drew.cell? ⟨k, 2, none⟩ = some (.map (some w.heap.size)) := by rw [blk_cell (blk_drew k3), Array.getElem?_setIfInBounds_ne (by omega), Array.getElem?_setIfInBounds_self_of_lt hl1]
    have hfr3 : Fr (fun q => q = k) w w3 := by
      rw [hw3, hw2, hw1]
      exact (((Fr.refl (fun q => q = k) w).setCell (p := ⟨k, 2, none⟩) (.inl rfl) _).alloc _).setCell (p := ⟨k, 1, none⟩) (.inl rfl) _
    have hM : IMapAt Tryz.prog 3 w3.drew w.heap.size [] := by
      have h1 : IMapAt Tryz.prog 3 w2 w.heap.size [] := by rw [hw2, ← z1]; exact IMapAt.made w1
      have hf : Fr (fun q => q = k) w2 w3.drew := by rw [hw3]; exact ((Fr.refl (fun q => q = k) w2).setCell (p := ⟨k, 1, none⟩) (.inl rfl) _).drew
      exact h1.frame hf (by omega)
    obtain ⟨w4, hup, hM4, hf4⟩ := hM.update (t := 45) Tryz.underlying3 Tryz.underlying45 (by simp [maxLen]) ((n : Int) + 1) (by omega) (.pointer (some ⟨xb, 0, none⟩))
    have k4 : w4.heap[k]? = some (.cells ((cs.setIfInBounds 1 (.int .i64 ((n : Int) + 1))).setIfInBounds (2) (.map (some w.heap.size))) 56 (0, 0)) := by
      rw [hf4.get (blk_drew k3) (by omega), Array.setIfInBounds_comm _ _ (by omega)]
    have c5 : w4.cell? ⟨k, 1, none⟩ = some (.int .i64 ((n : Int) + 1)) := by rw [blk_cell k4, Array.getElem?_setIfInBounds_ne (by omega), Array.getElem?_setIfInBounds_self_of_lt hl0]
    have hfin := hide (show RegAddPost w k 1 cs none inn b n xb (.returned (.int .i64 ((n : Int) + 1))) w4 from ⟨rfl, some w.heap.size, k4, regV_add (by rw [show regL inn (fun i => ptrAt (b i)) n = [] by rw [hn0]; rfl]; exact hM4), .inr ⟨rfl, rfl⟩, (hfr3.drew.mono fun _ _ e => .inl e).trans' hf4 fun i hi e => by omega⟩)
    have hov : ¬ (9223372036854775807 < (n : Int) + 1) := by omega
    clear hn0 h0 h1 hl0 hl1 hk hb64 hkm
    have Hw2 := hide (show w2 = (w.setCell ⟨k, 2, none⟩ (.map (some w.heap.size))).alloc (.map #[] 0) by rw [hw2, hw1])
    have Hw3 := hide hw3
    clear hr hM hM4 hf4 k4 k3 k2 k1 hfr3 hw1 hw2 hw3 z1
    go_enter Tryz.func61, Tryz.ntmps61
    go_upto_region 3 with (fail)
    rw [← Hw2.out]
    clear Hw2 hmm f1 c1 heq
    go_wp2_with fail
    rw [← Hw3.out]
    refine region_tail 9 (by kernel_rfl) (by kernel_rfl) ?_
    simp only [List.take_succ_cons, List.take_zero, List.drop_succ_cons, List.drop_zero]
    repeat go_big_quiet_step (fail)
    refine wpQuiet_nil ?_
    go_wp2_with fail
    go_ret
    exact hfin.out
  | some g =>
    have hM0 : IMapAt Tryz.prog 3 w g (regL inn (fun i => ptrAt (b i)) n) := hr
    have heq : (binOp .eql 45 (.map (some g)) (.map none)).run Tryz.prog w = .ok (.bool false) w := by kernel_rfl
    have hgk : g ≠ k := fun e => hkm (by rw [e])
    have c1 : w.cell? ⟨k, 2, none⟩ = some (.map (some g)) := by rw [blk_cell hk]; exact h1
    have c2 : w.cell? ⟨k, 1, none⟩ = some (.int .i64 n) := by rw [blk_cell hk]; exact h0
    have f2 : w.frozen? ⟨k, 1, none⟩ = false := blk_frozen hk _
    obtain ⟨w3, hw3⟩ : ∃ w3, w3 = w.setCell ⟨k, 1, none⟩ (.int .i64 ((n : Int) + 1)) := ⟨_, rfl⟩
    have k3 : w3.heap[k]? = some (.cells (cs.setIfInBounds 1 (.int .i64 ((n : Int) + 1))) 56 (0, 0)) := by rw [hw3]; exact blk_set hk _ _
    have c3 : w3.drew.cell? ⟨k, 1, none⟩ = some (.int .i64 ((n : Int) + 1)) := by rw [blk_cell (blk_drew k3), Array.getElem?_setIfInBounds_self_of_lt hl0]
    have c4 : w3.drew.cell? ⟨k, 2, none⟩ = some (.map (some g)) := by rw [blk_cell (blk_drew k3), Array.getElem?_setIfInBounds_ne (by omega)]; exact h1
    have hfr3 : Fr (fun q => q = k) w w3.drew := by rw [hw3]; exact ((Fr.refl (fun q => q = k) w).setCell (p := ⟨k, 1, none⟩) (.inl rfl) _).drew
    have hM := hM0.frame hfr3 hgk
    have hln := regL_len inn (fun i => ptrAt (b i)) n
    obtain ⟨w4, hup, hM4, hf4⟩ := hM.update (t := 45) Tryz.underlying3 Tryz.underlying45 (by unfold maxLen; omega) ((n : Int) + 1) (by omega) (.pointer (some ⟨xb, 0, none⟩))
    have k4 : w4.heap[k]? = some (.cells ((cs.setIfInBounds 1 (.int .i64 ((n : Int) + 1))).setIfInBounds (2) (.map (some g))) 56 (0, 0)) := by
      rw [hf4.get (blk_drew k3) (Ne.symm hgk), show (cs.setIfInBounds 1 (.int .i64 ((n : Int) + 1))).setIfInBounds (2) (.map (some g)) = cs.setIfInBounds 1 (.int .i64 ((n : Int) + 1)) from by
        apply Array.ext_getElem?
        intro j
        by_cases e : j = 2
        · rw [e, Array.getElem?_setIfInBounds_self_of_lt (by simpa using hl1), Array.getElem?_setIfInBounds_ne (by omega), h1]
        · rw [Array.getElem?_setIfInBounds_ne (Ne.symm e)]]
    have c5 : w4.cell? ⟨k, 1, none⟩ = some (.int .i64 ((n : Int) + 1)) := by rw [blk_cell k4, Array.getElem?_setIfInBounds_ne (by omega), Array.getElem?_setIfInBounds_self_of_lt hl0]
    have hfin := hide (show RegAddPost w k 1 cs (some g) inn b n xb (.returned (.int .i64 ((n : Int) + 1))) w4 from ⟨rfl, some g, k4, regV_add hM4, .inl ⟨rfl, by simp⟩, (hfr3.mono fun _ _ e => .inl e).trans' hf4 fun i hi e => .inr (by rw [e])⟩)
    have hov : ¬ (9223372036854775807 < (n : Int) + 1) := by omega
    clear h0 h1 hl0 hl1 hk hb64 hkm
    rw [hw3] at hup c3 c4
    clear hr hM hM4 hf4 k4 k3 hfr3 hM0 hw3
    go_enter Tryz.func61, Tryz.ntmps61
    go_wp2_with fail
    refine region_tail 9 (by kernel_rfl) (by kernel_rfl) ?_
    simp only [List.take_succ_cons, List.take_zero, List.drop_succ_cons, List.drop_zero]
    repeat go_big_quiet_step (fail)
    refine wpQuiet_nil ?_
    go_wp2_with fail
    go_ret
    exact hfin.out
end Go.Proofs.YtffekmjoenppaaaGreatDoor

/- The kernel in memory: a description, a pipe, a process more. Conditions: each law's own premises. -/
namespace Go.Proofs.YtffekmjoenppaaaGreatDoor
open Go.RowKit

section
variable {w w' : World} {k : Nat} {K : KQ} {L L' : KLay} {T : Nat → Prop}
/-- All that a register with a new thing keeps of the rest. -/
theorem tag_tm (h : KF w k K L) {s : Option Nat} {i : Nat} (hT : ∀ b t, L.o b = some t → T b → b = k ∨ s = some b) (hs : ∀ g, s = some g → L.o g = some (tMap i)) {b : Nat} {t : Nat × Nat} (e : L.o b = some t) (h1 : t ≠ tKer) (h2 : t ≠ tMap i) : ¬ T b := fun e2 => by
  rcases hT b t e e2 with e3 | e3
  · rw [e3, h.ok] at e
    exact h1 (Option.some.inj e).symm
  · rw [hs b e3] at e
    exact h2 (Option.some.inj e).symm
def KLay.addD (L : KLay) (n xb : Nat) (m : Option Nat) : KLay := { L with dm := m, db := fun j => if j = n + 1 then xb else L.db j, o := fun x => if x = xb then some (tDsc (n + 1)) else if m = some x then some (tMap 1) else L.o x }
theorem tabS_addD {L : KLay} {n xb : Nat} {m : Option Nat} {t : TSt} (h : ∀ fd j x, t fd = some (j, x) → j ≤ n) : tabS (L.addD n xb m) t = tabS L t := by
  funext fd
  unfold tabS
  cases e : t fd with
  | none => rfl
  | some p =>
    obtain ⟨j, x⟩ := p
    have := h fd j x e
    show some (if j = n + 1 then xb else L.db j, x) = some (L.db j, x)
    rw [if_neg (by omega)]
theorem KF.addD (h : KF w k K L) {xb : Nat} {m : Option Nat} {d : DescQ} (hk : w'.heap[k]? = some (.cells (kerC { L with dm := m } { K with dn := K.dn + 1 }) 56 (0, 0)))
    (hr : RegV w' m (fun j => if j = K.dn + 1 then true else (K.desc j).inn) (fun j => if j = K.dn + 1 then xb else L.db j) (K.dn + 1)) (hin : d.inn = true)
    (hb : w'.heap[xb]? = some (.cells (descC L (K.dn + 1) d) 72 (0, 0))) (hxo : L.o xb = none) (hm : m = L.dm ∨ ∃ g, m = some g ∧ L.o g = none ∧ g < w'.heap.size ∧ g ≠ xb)
    (hf : Fr T w w') (hT : ∀ b t, L.o b = some t → T b → b = k ∨ L.dm = some b) (hfd : ∀ i fd j x, 1 ≤ i → i ≤ K.qn → (K.proc i).fds fd = some (j, x) → j ≤ K.dn) : KF w' k (K.addD d) (L.addD K.dn xb m) := by
  have hml : ∀ g, m = some g → g < w'.heap.size := fun g e => by subst e; exact hr.lt
  have hold : ∀ b t, L.o b = some t → (L.addD K.dn xb m).o b = some t := fun b t e => by
    show (if b = xb then some (tDsc (K.dn + 1)) else if m = some b then some (tMap 1) else L.o b) = some t
    rw [if_neg (fun e2 => by rw [e2, hxo] at e; cases e)]
    by_cases e2 : m = some b
    · rw [if_pos e2]
      rcases hm with hm | ⟨g, g1, g2, _⟩
      · rw [h.odm b (hm ▸ e2)] at e; exact e
      · rw [g1] at e2; cases e2; rw [g2] at e; cases e
    · rw [if_neg e2]; exact e
  have ho : Own2 L (L.addD K.dn xb m).o w' := ⟨hold, fun b hb2 => by
    show (if b = xb then some (tDsc (K.dn + 1)) else if m = some b then some (tMap 1) else L.o b) = none
    rw [if_neg (fun e2 => by have := blk_lt hb; omega), if_neg (fun e2 => by have := hml b e2; omega)]
    exact h.new b (Nat.le_trans hf.size hb2)⟩
  have off : ∀ {t : Nat × Nat}, t ≠ tKer → t ≠ tMap 1 → ∀ {b : Nat}, L.o b = some t → ¬ T b := fun h1 h2 b e => tag_tm h hT h.odm e h1 h2
  exact
    { hk := hk
      files := h.files_keep hf ho fun b _ e => off (by simp) (by simp) e
      pr := h.pr.frame hf fun g e => off (by simp) (by simp) (h.opm g e)
      dr := hr.congr fun j _ _ => ⟨by show _ = (if j = K.dn + 1 then d else K.desc j).inn; by_cases e : j = K.dn + 1; (· rw [if_pos e, if_pos e, hin]); (· rw [if_neg e, if_neg e]), rfl⟩
      qr := h.qr.frame hf fun g e => off (by simp) (by simp) (h.oqm g e)
      hd := fun j g1 g2 => by
        show w'.heap[if j = K.dn + 1 then xb else L.db j]? = some (Obj.cells (descC L j (if j = K.dn + 1 then d else K.desc j)) 72 (0, 0))
        have g2 : j ≤ K.dn + 1 := g2
        by_cases e : j = K.dn + 1
        · rw [if_pos e, if_pos e, e]; exact hb
        · rw [if_neg e, if_neg e]; exact hf.get (h.hd j g1 (by omega)) (off (by simp) (by simp) (h.od j g1 (by omega)))
      hq := fun j g1 g2 => hf.get (h.hq j g1 g2) (off (by simp) (by simp) (h.oq j g1 g2))
      ht := fun j g1 g2 => by
        show TabAt w' (L.tb j) (tabS (L.addD K.dn xb m) (K.proc j).fds) ((L.addD K.dn xb m).S (tTab j) w')
        rw [tabS_addD fun fd a x e => hfd j fd a x g1 g2 e]
        exact h.tab_keep hf ho g1 g2 fun b _ e => off (by simp) (by simp) e
      hp := fun j g1 g2 => h.pipe_keep hf g1 g2 fun b e => off (by simp) (by simp) e
      ok := hold _ _ h.ok
      opm := fun g e => hold _ _ (h.opm g e)
      odm := fun g e => by
        show (if g = xb then some (tDsc (K.dn + 1)) else if m = some g then some (tMap 1) else L.o g) = some (tMap 1)
        have e : m = some g := e
        rw [if_neg (fun e2 => by
          rcases hm with hm | ⟨g', g1, _, _, g2⟩
          · rw [hm] at e; have := h.odm g e; rw [e2, hxo] at this; cases this
          · rw [g1] at e; cases e; exact g2 e2), if_pos e]
      oqm := fun g e => hold _ _ (h.oqm g e)
      od := fun j g1 g2 => by
        have g2 : j ≤ K.dn + 1 := g2
        by_cases e : j = K.dn + 1
        · show (L.addD K.dn xb m).o (if j = K.dn + 1 then xb else L.db j) = some (tDsc j)
          rw [if_pos e, e]; exact if_pos rfl
        · show (L.addD K.dn xb m).o (if j = K.dn + 1 then xb else L.db j) = some (tDsc j)
          rw [if_neg e]; exact hold _ _ (h.od j g1 (by omega))
      oq := fun j g1 g2 => hold _ _ (h.oq j g1 g2)
      op := fun j g1 g2 => ⟨hold _ _ (h.op j g1 g2).1, hold _ _ (h.op j g1 g2).2⟩
      new := ho.new }
def KQ.addP (K : KQ) (p : PipeQ) : KQ := { K with pn := K.pn + 1, pipe := fun j => if j = K.pn + 1 then p else K.pipe j }
def KLay.addP (L : KLay) (n xb lb : Nat) (m : Option Nat) : KLay := { L with pm := m, pb := fun j => if j = n + 1 then xb else L.pb j, lb := fun j => if j = n + 1 then lb else L.lb j, o := fun x => if x = xb ∨ x = lb then some (tPip (n + 1)) else if m = some x then some (tMap 0) else L.o x }
theorem pipeV_addP {L : KLay} {n xb lb : Nat} {m : Option Nat} {d : DescQ} (h : d.kind = 3 ∨ d.kind = 4 → d.n ≤ n) : pipeV (L.addP n xb lb m) d = pipeV L d := by
  unfold pipeV
  by_cases e : d.kind = 3 ∨ d.kind = 4
  · rw [if_pos e, if_pos e]
    have := h e
    show ptrAt (if d.n = n + 1 then xb else L.pb d.n) = _
    rw [if_neg (by omega)]
  · rw [if_neg e, if_neg e]
theorem KF.addP (h : KF w k K L) {xb lb : Nat} {m : Option Nat} {p : PipeQ} {fm : Nat} {cs : Array Value} (hk : w'.heap[k]? = some (.cells (kerC { L with pm := m } { K with pn := K.pn + 1 }) 56 (0, 0)))
    (hr : RegV w' m (fun j => if j = K.pn + 1 then true else (K.pipe j).inn) (fun j => if j = K.pn + 1 then xb else L.pb j) (K.pn + 1)) (hin : p.inn = true)
    (hb : PipeF w' xb lb 64 fm p.data p.r p.x cs) (hxo : L.o xb = none) (hlo : L.o lb = none) (hm : m = L.pm ∨ ∃ g, m = some g ∧ L.o g = none ∧ g < w'.heap.size ∧ g ≠ xb ∧ g ≠ lb)
    (hf : Fr T w w') (hT : ∀ b t, L.o b = some t → T b → b = k ∨ L.pm = some b) (hpd : ∀ j, 1 ≤ j → j ≤ K.dn → (K.desc j).kind = 3 ∨ (K.desc j).kind = 4 → (K.desc j).n ≤ K.pn) : KF w' k (K.addP p) (L.addP K.pn xb lb m) := by
  have hml : ∀ g, m = some g → g < w'.heap.size := fun g e => by subst e; exact hr.lt
  have hold : ∀ b t, L.o b = some t → (L.addP K.pn xb lb m).o b = some t := fun b t e => by
    show (if b = xb ∨ b = lb then some (tPip (K.pn + 1)) else if m = some b then some (tMap 0) else L.o b) = some t
    rw [if_neg (fun e2 => by
      rcases e2 with e2 | e2
      · rw [e2, hxo] at e; cases e
      · rw [e2, hlo] at e; cases e)]
    by_cases e2 : m = some b
    · rw [if_pos e2]
      rcases hm with hm | ⟨g, g1, g2, _⟩
      · rw [h.opm b (hm ▸ e2)] at e; exact e
      · rw [g1] at e2; cases e2; rw [g2] at e; cases e
    · rw [if_neg e2]; exact e
  have ho : Own2 L (L.addP K.pn xb lb m).o w' := ⟨hold, fun b hb2 => by
    show (if b = xb ∨ b = lb then some (tPip (K.pn + 1)) else if m = some b then some (tMap 0) else L.o b) = none
    rw [if_neg (fun e2 => by have := blk_lt hb.hb; have := blk_lt hb.hl; omega), if_neg (fun e2 => by have := hml b e2; omega)]
    exact h.new b (Nat.le_trans hf.size hb2)⟩
  have off : ∀ {t : Nat × Nat}, t ≠ tKer → t ≠ tMap 0 → ∀ {b : Nat}, L.o b = some t → ¬ T b := fun h1 h2 b e => tag_tm h hT h.opm e h1 h2
  exact
    { hk := hk
      files := h.files_keep hf ho fun b _ e => off (by simp) (by simp) e
      pr := hr.congr fun j _ _ => ⟨by show _ = (if j = K.pn + 1 then p else K.pipe j).inn; by_cases e : j = K.pn + 1; (· rw [if_pos e, if_pos e, hin]); (· rw [if_neg e, if_neg e]), rfl⟩
      dr := h.dr.frame hf fun g e => off (by simp) (by simp) (h.odm g e)
      qr := h.qr.frame hf fun g e => off (by simp) (by simp) (h.oqm g e)
      hd := fun j g1 g2 => by
        have e : descC (L.addP K.pn xb lb m) j (K.desc j) = descC L j (K.desc j) := by
          unfold descC
          rw [pipeV_addP fun e => hpd j g1 g2 e]
        show w'.heap[L.db j]? = some (Obj.cells (descC (L.addP K.pn xb lb m) j (K.desc j)) 72 (0, 0))
        rw [e]
        exact hf.get (h.hd j g1 g2) (off (by simp) (by simp) (h.od j g1 g2))
      hq := fun j g1 g2 => hf.get (h.hq j g1 g2) (off (by simp) (by simp) (h.oq j g1 g2))
      ht := fun j g1 g2 => h.tab_keep hf ho g1 g2 fun b _ e => off (by simp) (by simp) e
      hp := fun j g1 g2 => by
        have g2 : j ≤ K.pn + 1 := g2
        show ∃ fm cs, PipeF w' (if j = K.pn + 1 then xb else L.pb j) (if j = K.pn + 1 then lb else L.lb j) 64 fm (if j = K.pn + 1 then p else K.pipe j).data (if j = K.pn + 1 then p else K.pipe j).r (if j = K.pn + 1 then p else K.pipe j).x cs
        by_cases e : j = K.pn + 1
        · rw [if_pos e, if_pos e, if_pos e]; exact ⟨fm, cs, hb⟩
        · rw [if_neg e, if_neg e, if_neg e]; exact h.pipe_keep hf g1 (by omega) fun b e2 => off (by simp) (by simp) e2
      ok := hold _ _ h.ok
      opm := fun g e => by
        show (if g = xb ∨ g = lb then some (tPip (K.pn + 1)) else if m = some g then some (tMap 0) else L.o g) = some (tMap 0)
        have e : m = some g := e
        rw [if_neg (fun e2 => by
          rcases hm with hm | ⟨g', g1, _, _, g2, g3⟩
          · rw [hm] at e
            have := h.opm g e
            rcases e2 with e2 | e2
            · rw [e2, hxo] at this; cases this
            · rw [e2, hlo] at this; cases this
          · rw [g1] at e; cases e; rcases e2 with e2 | e2; (· exact g2 e2); (· exact g3 e2)), if_pos e]
      odm := fun g e => hold _ _ (h.odm g e)
      oqm := fun g e => hold _ _ (h.oqm g e)
      od := fun j g1 g2 => hold _ _ (h.od j g1 g2)
      oq := fun j g1 g2 => hold _ _ (h.oq j g1 g2)
      op := fun j g1 g2 => by
        have g2 : j ≤ K.pn + 1 := g2
        show (L.addP K.pn xb lb m).o (if j = K.pn + 1 then xb else L.pb j) = some (tPip j) ∧ (L.addP K.pn xb lb m).o (if j = K.pn + 1 then lb else L.lb j) = some (tPip j)
        by_cases e : j = K.pn + 1
        · rw [if_pos e, if_pos e, e]; exact ⟨if_pos (.inl rfl), if_pos (.inr rfl)⟩
        · rw [if_neg e, if_neg e]; exact ⟨hold _ _ (h.op j g1 (by omega)).1, hold _ _ (h.op j g1 (by omega)).2⟩
      new := ho.new }
def KQ.addQ (K : KQ) (q : ProcQ) : KQ := { K with qn := K.qn + 1, proc := fun j => if j = K.qn + 1 then q else K.proc j }
open Classical in
noncomputable def KLay.addQ (L : KLay) (n xb tb : Nat) (X : Nat → Prop) (m : Option Nat) : KLay := { L with qm := m, qb := fun j => if j = n + 1 then xb else L.qb j, tb := fun j => if j = n + 1 then tb else L.tb j, o := fun x => if x = xb then some (tPrc (n + 1)) else if X x then some (tTab (n + 1)) else if m = some x then some (tMap 2) else L.o x }
open Classical in
theorem addQ_new {L : KLay} {n xb tb : Nat} {X : Nat → Prop} {m : Option Nat} {b : Nat} (h : (L.addQ n xb tb X m).o b ≠ none) : L.o b ≠ none ∨ b = xb ∨ X b ∨ m = some b := by
  by_cases e1 : b = xb
  · exact .inr (.inl e1)
  by_cases e2 : X b
  · exact .inr (.inr (.inl e2))
  by_cases e3 : m = some b
  · exact .inr (.inr (.inr e3))
  refine .inl fun e => h ?_
  show (if b = xb then some (tPrc (n + 1)) else if X b then some (tTab (n + 1)) else if m = some b then some (tMap 2) else L.o b) = none
  rw [if_neg e1, if_neg e2, if_neg e3, e]
open Classical in
theorem KF.addQ (h : KF w k K L) {xb tb : Nat} {X : Nat → Prop} {m : Option Nat} {q : ProcQ} (hk : w'.heap[k]? = some (.cells (kerC { L with qm := m } { K with qn := K.qn + 1 }) 56 (0, 0)))
    (hr : RegV w' m (fun j => if j = K.qn + 1 then true else (K.proc j).inn) (fun j => if j = K.qn + 1 then xb else L.qb j) (K.qn + 1)) (hin : q.inn = true)
    (hb : w'.heap[xb]? = some (.cells (procC (L.addQ K.qn xb tb X m) (K.qn + 1) q) 64 (0, 0))) (htb : TabAt w' tb (tabS L q.fds) (fun b => X b ∨ w'.heap.size ≤ b)) (hxo : L.o xb = none) (hXo : ∀ b, X b → L.o b = none ∧ b < w'.heap.size ∧ b ≠ xb) (hm : m = L.qm ∨ ∃ g, m = some g ∧ L.o g = none ∧ g < w'.heap.size ∧ g ≠ xb ∧ ¬ X g)
    (hf : Fr T w w') (hT : ∀ b t, L.o b = some t → T b → b = k ∨ L.qm = some b) : KF w' k (K.addQ q) (L.addQ K.qn xb tb X m) := by
  have hml : ∀ g, m = some g → g < w'.heap.size := fun g e => by subst e; exact hr.lt
  have hold : ∀ b t, L.o b = some t → (L.addQ K.qn xb tb X m).o b = some t := fun b t e => by
    show (if b = xb then some (tPrc (K.qn + 1)) else if X b then some (tTab (K.qn + 1)) else if m = some b then some (tMap 2) else L.o b) = some t
    rw [if_neg (fun e2 => by rw [e2, hxo] at e; cases e), if_neg (fun e2 => by rw [(hXo b e2).1] at e; cases e)]
    by_cases e2 : m = some b
    · rw [if_pos e2]
      rcases hm with hm | ⟨g, g1, g2, _⟩
      · rw [h.oqm b (hm ▸ e2)] at e; exact e
      · rw [g1] at e2; cases e2; rw [g2] at e; cases e
    · rw [if_neg e2]; exact e
  have ho : Own2 L (L.addQ K.qn xb tb X m).o w' := ⟨hold, fun b hb2 => by
    show (if b = xb then some (tPrc (K.qn + 1)) else if X b then some (tTab (K.qn + 1)) else if m = some b then some (tMap 2) else L.o b) = none
    rw [if_neg (fun e2 => by have := blk_lt hb; omega), if_neg (fun e2 => by have := (hXo b e2).2.1; omega), if_neg (fun e2 => by have := hml b e2; omega)]
    exact h.new b (Nat.le_trans hf.size hb2)⟩
  have off : ∀ {t : Nat × Nat}, t ≠ tKer → t ≠ tMap 2 → ∀ {b : Nat}, L.o b = some t → ¬ T b := fun h1 h2 b e => tag_tm h hT h.oqm e h1 h2
  exact
    { hk := hk
      files := h.files_keep hf ho fun b _ e => off (by simp) (by simp) e
      pr := h.pr.frame hf fun g e => off (by simp) (by simp) (h.opm g e)
      dr := h.dr.frame hf fun g e => off (by simp) (by simp) (h.odm g e)
      qr := hr.congr fun j _ _ => ⟨by show _ = (if j = K.qn + 1 then q else K.proc j).inn; by_cases e : j = K.qn + 1; (· rw [if_pos e, if_pos e, hin]); (· rw [if_neg e, if_neg e]), rfl⟩
      hd := fun j g1 g2 => hf.get (h.hd j g1 g2) (off (by simp) (by simp) (h.od j g1 g2))
      hq := fun j g1 g2 => by
        have g2 : j ≤ K.qn + 1 := g2
        show w'.heap[if j = K.qn + 1 then xb else L.qb j]? = some (Obj.cells (procC (L.addQ K.qn xb tb X m) j (if j = K.qn + 1 then q else K.proc j)) 64 (0, 0))
        by_cases e : j = K.qn + 1
        · rw [if_pos e, if_pos e, e]; exact hb
        · rw [if_neg e, if_neg e]
          have e2 : procC (L.addQ K.qn xb tb X m) j (K.proc j) = procC L j (K.proc j) := by
            unfold procC
            show #[_, _, _, _, _, _, ptrAt (if j = K.qn + 1 then tb else L.tb j)] = _
            rw [if_neg e]
          rw [e2]
          exact hf.get (h.hq j g1 (by omega)) (off (by simp) (by simp) (h.oq j g1 (by omega)))
      ht := fun j g1 g2 => by
        have g2 : j ≤ K.qn + 1 := g2
        show TabAt w' (if j = K.qn + 1 then tb else L.tb j) (tabS L (if j = K.qn + 1 then q else K.proc j).fds) _
        by_cases e : j = K.qn + 1
        · rw [if_pos e, if_pos e, e]
          refine htb.mono fun b e2 => ?_
          rcases e2 with e2 | e2
          · refine .inl ?_
            show (if b = xb then some (tPrc (K.qn + 1)) else if X b then some (tTab (K.qn + 1)) else if m = some b then some (tMap 2) else L.o b) = _
            rw [if_neg (hXo b e2).2.2, if_pos e2]
          · exact .inr e2
        · rw [if_neg e, if_neg e]; exact h.tab_keep hf ho g1 (by omega) fun b _ e2 => off (by simp) (by simp) e2
      hp := fun j g1 g2 => h.pipe_keep hf g1 g2 fun b e => off (by simp) (by simp) e
      ok := hold _ _ h.ok
      opm := fun g e => hold _ _ (h.opm g e)
      odm := fun g e => hold _ _ (h.odm g e)
      oqm := fun g e => by
        show (if g = xb then some (tPrc (K.qn + 1)) else if X g then some (tTab (K.qn + 1)) else if m = some g then some (tMap 2) else L.o g) = some (tMap 2)
        have e : m = some g := e
        have h9 : g ≠ xb ∧ ¬ X g := by
          rcases hm with hm | ⟨g', g1, _, _, g2, g3⟩
          · rw [hm] at e
            have := h.oqm g e
            exact ⟨fun e2 => (by rw [e2, hxo] at this; cases this), fun e2 => (by rw [(hXo g e2).1] at this; cases this)⟩
          · rw [g1] at e; cases e; exact ⟨g2, g3⟩
        rw [if_neg h9.1, if_neg h9.2, if_pos e]
      od := fun j g1 g2 => hold _ _ (h.od j g1 g2)
      oq := fun j g1 g2 => by
        have g2 : j ≤ K.qn + 1 := g2
        show (L.addQ K.qn xb tb X m).o (if j = K.qn + 1 then xb else L.qb j) = some (tPrc j)
        by_cases e : j = K.qn + 1
        · rw [if_pos e, e]; exact if_pos rfl
        · rw [if_neg e]; exact hold _ _ (h.oq j g1 (by omega))
      op := fun j g1 g2 => ⟨hold _ _ (h.op j g1 g2).1, hold _ _ (h.op j g1 g2).2⟩
      new := ho.new }
end
end Go.Proofs.YtffekmjoenppaaaGreatDoor

/- gate.Kernel.open: a new description, with a descriptor of a process. Conditions: the contract's own premises. -/
namespace Go.Proofs.YtffekmjoenppaaaGreatDoor
open Go.RowKit

attribute [local go_sem] Oper.semAt_some

/-- Where things lay, they lie. -/
structure LExt (K K' : KQ) (L L' : KLay) : Prop where
  f : L'.f = L.f
  pn : K.pn ≤ K'.pn
  dn : K.dn ≤ K'.dn
  qn : K.qn ≤ K'.qn
  pb : ∀ i, 1 ≤ i → i ≤ K.pn → L'.pb i = L.pb i
  db : ∀ i, 1 ≤ i → i ≤ K.dn → L'.db i = L.db i
  qb : ∀ i, 1 ≤ i → i ≤ K.qn → L'.qb i = L.qb i
  tb : ∀ i, 1 ≤ i → i ≤ K.qn → L'.tb i = L.tb i
  own : ∀ b t, L.o b = some t → L'.o b = some t
theorem LExt.refl (K : KQ) (L : KLay) : LExt K K L L := ⟨rfl, Nat.le_refl _, Nat.le_refl _, Nat.le_refl _, fun _ _ _ => rfl, fun _ _ _ => rfl, fun _ _ _ => rfl, fun _ _ _ => rfl, fun _ _ e => e⟩
theorem LExt.trans {K K' K'' : KQ} {L L' L'' : KLay} (h : LExt K K' L L') (g : LExt K' K'' L' L'') : LExt K K'' L L'' :=
  ⟨g.f.trans h.f, Nat.le_trans h.pn g.pn, Nat.le_trans h.dn g.dn, Nat.le_trans h.qn g.qn, fun i a b => (g.pb i a (Nat.le_trans b h.pn)).trans (h.pb i a b), fun i a b => (g.db i a (Nat.le_trans b h.dn)).trans (h.db i a b),
    fun i a b => (g.qb i a (Nat.le_trans b h.qn)).trans (h.qb i a b), fun i a b => (g.tb i a (Nat.le_trans b h.qn)).trans (h.tb i a b), fun b t e => g.own b t (h.own b t e)⟩
/-- The kernel has turned; of the rest only X; of what was there Y has become its own. -/
def KMut (k : Nat) (K K' : KQ) (L : KLay) (X Y : Nat → Prop) (w w' : World) : Prop :=
  ∃ L', KF w' k K' L' ∧ LExt K K' L L' ∧ Fr (fun b => L.o b ≠ none ∨ X b) w w' ∧ ∀ b, L'.o b ≠ none → L.o b ≠ none ∨ Y b ∨ w.heap.size ≤ b
theorem KF.mut {w : World} {k : Nat} {K : KQ} {L : KLay} (h : KF w k K L) (X Y : Nat → Prop) : KMut k K K L X Y w w := ⟨L, h, .refl K L, Fr.refl _ _, fun _ e => .inl e⟩
theorem grow_ext {K K' : KQ} {L : KLay} {t : Nat × Nat} {w w' : World} {k : Nat} (h : KF w k K L) (hs : w.heap.size ≤ w'.heap.size) (hp : K.pn ≤ K'.pn) (hd : K.dn ≤ K'.dn) (hq : K.qn ≤ K'.qn) : LExt K K' L (L.grow t w w') :=
  ⟨rfl, hp, hd, hq, fun _ _ _ => rfl, fun _ _ _ => rfl, fun _ _ _ => rfl, fun _ _ _ => rfl, fun b t' e => (h.own_grow t hs).old b t' e⟩
theorem grow_new {L : KLay} {t : Nat × Nat} {w w' : World} {b : Nat} (e : (L.grow t w w').o b ≠ none) : L.o b ≠ none ∨ w.heap.size ≤ b := by
  by_cases h : w.heap.size ≤ b ∧ b < w'.heap.size
  · exact .inr h.1
  · exact .inl fun e2 => e ((if_neg h).trans e2)
theorem ff_tabS (L : KLay) (t : TSt) : ∀ (n k : Nat), ff (tabS L t) k n = ff t k n
  | 0, _ => rfl
  | n + 1, k => by
    have e : (tabS L t k).isSome = (t k).isSome := by unfold tabS; cases t k <;> rfl
    rw [ff, ff, e, ff_tabS L t n (k + 1)]
theorem firstFree_tabS (L : KLay) (t : TSt) (l : Nat) : firstFree (tabS L t) l = firstFree t l := ff_tabS L t _ _
theorem tabS_set (L : KLay) (t : TSt) (fd j : Nat) (m : Bool) : tabS L (t.set fd (some (j, m))) = (tabS L t).set fd (some (L.db j, m)) := by
  funext i
  unfold tabS TSt.set
  by_cases e : i = fd
  · rw [if_pos e, if_pos e]; rfl
  · rw [if_neg e, if_neg e]
/-- Descriptors name descriptions that there are. -/
def FdsOk (K : KQ) : Prop := ∀ i fd j x, 1 ≤ i → i ≤ K.qn → (K.proc i).fds fd = some (j, x) → 1 ≤ j ∧ j ≤ K.dn
def rawD (L : KLay) (d : DescQ) (r id : Int) : Array Value := #[.int .i64 d.kind, .int .i64 d.n, .int .i64 d.pos, .int .i64 r, .int .i64 d.flags, pipeV L d, .string d.text, .int .i64 id]
set_option maxRecDepth 100000 in
set_option maxHeartbeats 1000000 in
theorem kopen_any (w : World) (k : Nat) (K : KQ) (L : KLay) (h : KF w k K L) (i : Nat) (h1 : 1 ≤ i) (h2 : i ≤ K.qn) (xb : Nat) (d : DescQ) (hxb : w.heap[xb]? = some (.cells (rawD L d 0 0) 72 (0, 0))) (hxo : L.o xb = none) (hfd : FdsOk K) (hdn : K.dn ≤ 1000000000000) :
    Calls Tryz.prog 13 #[ptrAt k, ptrAt (L.qb i), ptrAt xb] w fun e w' => e = .returned (.int .i64 (openQ K i d).1) ∧ KMut k K (openQ K i d).2 L (fun b => b = xb) (fun b => b = xb) w w' := by
  have hxk : xb ≠ k := fun e => by rw [e, h.ok] at hxo; cases hxo
  have hadd := hide (d_add w k (kerC L K) L.dm (fun j => (K.desc j).inn) L.db K.dn xb h.hk rfl rfl h.dr (fun e => by have := h.odm k e; rw [h.ok] at this; cases this) hdn)
  have H := hide h
  have Hxb := hide hxb
  have Hxo := hide hxo
  have Hfd := hide hfd
  clear h hxb hxo hfd
  unfold ptrAt at *
  go_enter Tryz.func13, Tryz.ntmps13
  go_wp2_with fail
  refine hadd.out.mono ?_
  rintro e w1 ⟨rfl, m, hk1, hr1, hm1, hf1⟩
  have hkc : ((kerC L K).setIfInBounds 3 (.int .i64 ((K.dn : Int) + 1))).setIfInBounds 4 (.map m) = kerC { L with dm := m } { K with dn := K.dn + 1 } := rfl
  rw [hkc] at hk1
  have hmx : ¬ (xb = k ∨ L.dm = some xb) := fun e => by
    rcases e with e | e
    · exact hxk e
    · have := H.out.odm xb e; rw [Hxo.out] at this; cases this
  have x1 : w1.heap[xb]? = some (.cells (rawD L d 0 0) 72 (0, 0)) := hf1.get Hxb.out hmx
  have f1 : w1.frozen? ⟨xb, 7, none⟩ = false := blk_frozen x1 _
  have g1 : w1.cell? ⟨xb, 7, none⟩ = some (.int .i64 0) := by rw [blk_cell x1]; rfl
  obtain ⟨w2, hw2⟩ : ∃ w2, w2 = w1.setCell ⟨xb, 7, none⟩ (.int .i64 ((K.dn : Int) + 1)) := ⟨_, rfl⟩
  have x2 : w2.heap[xb]? = some (.cells (rawD L d 0 ((K.dn : Int) + 1)) 72 (0, 0)) := by rw [hw2]; exact blk_set x1 _ _
  have f2 : w2.frozen? ⟨xb, 3, none⟩ = false := blk_frozen x2 _
  have g2 : w2.cell? ⟨xb, 3, none⟩ = some (.int .i64 0) := by rw [blk_cell x2]; rfl
  obtain ⟨w3, hw3⟩ : ∃ w3, w3 = w2.setCell ⟨xb, 3, none⟩ (.int .i64 1) := ⟨_, rfl⟩
  have x3 : w3.heap[xb]? = some (.cells (rawD L d 1 ((K.dn : Int) + 1)) 72 (0, 0)) := by rw [hw3]; exact blk_set x2 _ _
  have k3 : w3.heap[k]? = some (.cells (kerC { L with dm := m } { K with dn := K.dn + 1 }) 56 (0, 0)) := by
    rw [hw3, hw2]
    exact blk_set_other (blk_set_other hk1 _ _ (Ne.symm hxk)) _ _ (Ne.symm hxk)
  have hf13 : Fr (fun b => b = xb) w1 w3 := by
    rw [hw3, hw2]
    exact ((Fr.refl (fun b => b = xb) w1).setCell (p := ⟨xb, 7, none⟩) (.inl rfl) _).setCell (p := ⟨xb, 3, none⟩) (.inl rfl) _
  have hmg : m = L.dm ∨ ∃ g, m = some g ∧ L.o g = none ∧ g < w1.heap.size ∧ g ≠ xb := by
    rcases hm1 with ⟨e, _⟩ | ⟨e1, e2⟩
    · exact .inl e
    · refine .inr ⟨_, e2, H.out.new _ (Nat.le_refl _), ?_, ?_⟩
      · rw [e2] at hr1; exact hr1.lt
      · have := blk_lt Hxb.out; omega
  have hr3 : RegV w3 m (fun j => if j = K.dn + 1 then true else (K.desc j).inn) (fun j => if j = K.dn + 1 then xb else L.db j) (K.dn + 1) := by
    refine hr1.frame hf13 fun g e e2 => ?_
    rcases hmg with hmg | ⟨g', e3, _, _, e4⟩
    · have := H.out.odm g (hmg ▸ e)
      rw [e2, Hxo.out] at this
      cases this
    · rw [e3] at e; cases e; exact e4 e2
  have hf3 : Fr (fun b => b = k ∨ L.dm = some b ∨ b = xb) w w3 := (hf1.mono fun b _ e => e.elim .inl (fun e => .inr (.inl e))).trans (hf13.mono fun b _ e => .inr (.inr e))
  have hF3 := H.out.addD (d := { d with refs := 1, inn := true }) k3 hr3 rfl x3 Hxo.out (by
    rcases hmg with e | ⟨g, e1, e2, e3, e4⟩
    · exact .inl e
    · exact .inr ⟨g, e1, e2, Nat.lt_of_lt_of_le e3 hf13.size, e4⟩) hf3 (fun b t e1 e2 => by
      rcases e2 with e2 | e2 | e2
      · exact .inl e2
      · exact .inr e2
      · rw [e2, Hxo.out] at e1; cases e1) (fun i fd j x a1 a2 a3 => (Hfd.out i fd j x a1 a2 a3).2)
  have hext : LExt K (K.addD { d with refs := 1, inn := true }) L (L.addD K.dn xb m) :=
    ⟨rfl, Nat.le_refl _, Nat.le_succ _, Nat.le_refl _, fun _ _ _ => rfl, fun j a1 a2 => if_neg (by omega), fun _ _ _ => rfl, fun _ _ _ => rfl, fun b t e => by
      show (if b = xb then some (tDsc (K.dn + 1)) else if m = some b then some (tMap 1) else L.o b) = some t
      rw [if_neg (fun e2 => by rw [e2, Hxo.out] at e; cases e)]
      by_cases e2 : m = some b
      · rw [if_pos e2]
        rcases hmg with hm | ⟨g, g1, g2, _⟩
        · rw [H.out.odm b (hm ▸ e2)] at e; exact e
        · rw [g1] at e2; cases e2; rw [g2] at e; cases e
      · rw [if_neg e2]; exact e⟩
  have hnew3 : ∀ b, (L.addD K.dn xb m).o b ≠ none → L.o b ≠ none ∨ b = xb ∨ w.heap.size ≤ b := fun b e => by
    by_cases e1 : b = xb
    · exact .inr (.inl e1)
    by_cases e2 : m = some b
    · rcases hm1 with ⟨e3, _⟩ | ⟨_, e4⟩
      · exact .inl (by rw [H.out.odm b (e3 ▸ e2)]; simp)
      · rw [e4] at e2; cases e2; exact .inr (.inr (Nat.le_refl _))
    · refine .inl fun e3 => e ?_
      show (if b = xb then some (tDsc (K.dn + 1)) else if m = some b then some (tMap 1) else L.o b) = none
      rw [if_neg e1, if_neg e2, e3]
  have hq3 : w3.heap[L.qb i]? = some (.cells (procC L i (K.proc i)) 64 (0, 0)) := hF3.hq i h1 h2
  have c6 : w3.cell? ⟨L.qb i, 6, none⟩ = some (.pointer (some ⟨L.tb i, 0, none⟩)) := by rw [blk_cell hq3]; rfl
  have htab := hF3.ht i h1 h2
  have hput := putT_any w3 (L.tb i) _ _ htab xb 0
  have Hext := hide hext
  have Hnew3 := hide hnew3
  have HF3 := hide hF3
  have Hf3 := hide hf3
  have Hput := hide hput
  have Hw2 := hide hw2
  have Hw3 := hide hw3
  clear hq3 hadd hk1 hr1 hm1 hf1 hkc x1 x2 x3 k3 hf13 hmg hr3 hext hnew3 hF3 hf3 htab hput hw2 hw3 hmx
  go_upto_region 2 with (fail)
  rw [← Hw2.out]
  go_upto_region 3 with (fail)
  rw [← Hw3.out]
  clear f1 f2 g1 g2 Hw2 Hw3
  go_wp2_with fail
  refine Hput.out.mono ?_
  rintro e w4 hp
  have hst : ∀ fd, firstFree (tabS (L.addD K.dn xb m) (K.proc i).fds) fd = firstFree (K.proc i).fds fd := fun fd => firstFree_tabS _ _ _
  have hL3 : (L.addD K.dn xb m).db (K.dn + 1) = xb := if_pos rfl
  rcases hp with ⟨a1, _⟩ | ⟨_, a2, rfl, rfl⟩ | ⟨_, fd, a1, a2, rfl, a3, a4⟩
  · cases a1
  · have hop : openQ K i d = (0, K.addD { d with refs := 1, inn := true }) := by
      unfold openQ
      have : firstFree (K.proc i).fds 0 = none := (hst 0).symm.trans a2
      rw [this]
    have hfin := hide (show (Ending.returned (.int .i64 (0 : Int)) : Ending) = .returned (.int .i64 (openQ K i d).1) ∧ KMut k K (openQ K i d).2 L (fun b => b = xb) (fun b => b = xb) w w3 by
      rw [hop]
      exact ⟨rfl, _, HF3.out, Hext.out, Hf3.out.mono fun b _ e => by
        rcases e with e | e | e
        · exact .inl (by rw [e, H.out.ok]; simp)
        · exact .inl (by rw [H.out.odm b e]; simp)
        · exact .inr e, Hnew3.out⟩)
    clear HF3 Hf3 Hput Hext Hnew3 hst hL3 hop a2
    go_wp2_with fail
    go_ret
    exact hfin.out
  · have hop : openQ K i d = (fd, (K.addD { d with refs := 1, inn := true }).fds i ((K.proc i).fds.set fd (some (K.dn + 1, false)))) := by
      unfold openQ
      have : firstFree (K.proc i).fds 0 = some fd := (hst 0).symm.trans a2
      rw [this]
    have hF4 := HF3.out.tabU h1 h2 (t := (K.proc i).fds.set fd (some (K.dn + 1, false))) a4 (by rw [tabS_set, hL3]; exact a3)
    have hext4 := Hext.out.trans (grow_ext (t := tTab i) (w' := w4) (K' := (K.addD { d with refs := 1, inn := true }).fds i ((K.proc i).fds.set fd (some (K.dn + 1, false)))) HF3.out a4.size (Nat.le_refl _) (Nat.le_refl _) (Nat.le_refl _))
    have hfin := hide (show (Ending.returned (.int .i64 (fd : Int)) : Ending) = .returned (.int .i64 (openQ K i d).1) ∧ KMut k K (openQ K i d).2 L (fun b => b = xb) (fun b => b = xb) w w4 by
      rw [hop]
      refine ⟨rfl, _, hF4, hext4, (Hf3.out.mono fun b _ e => ?_).trans' a4 fun b hb e => ?_, fun b e => ?_⟩
      · rcases e with e | e | e
        · exact .inl (by rw [e, H.out.ok]; simp)
        · exact .inl (by rw [H.out.odm b e]; simp)
        · exact .inr e
      · rcases e with e | e
        · rcases Hnew3.out b (by rw [e]; simp) with e2 | e2 | e2
          · exact .inl e2
          · exact .inr e2
          · omega
        · have := Hf3.out.size; omega
      · rcases grow_new e with e | e
        · exact Hnew3.out b e
        · exact .inr (.inr (Nat.le_trans Hf3.out.size e)))
    clear HF3 Hf3 Hput Hext Hnew3 hst hL3 hop a2 a3 a4 hF4 hext4
    go_wp2_with fail
    go_ret
    exact hfin.out
end Go.Proofs.YtffekmjoenppaaaGreatDoor
