/- Contract of table.Table[int].Copy. Conditions: the contract's own premises. -/
import Derived.Test.YtcoaggghabdndaaTabSame
import Derived.Laws.Rows
import Derived.Laws.PanicsMore
namespace Go.Proofs.Ytcoaggghabdndaa
open Go.RowKit

/-- An element of an array by value, one cell an element. -/
theorem run_index_arr {P : Program} (t e : TypeId) (n : Nat) (cs : Array Value) (i : Nat) (v : Value) (w : World) (h : P.underlying t = some (.array n e)) (hs : ∀ w, (sizeOf e).run P w = .ok 1 w) (ha : ∀ w, (isAgg e).run P w = .ok false w)
    (hi : i < n) (hv : cs[i]? = some v) : (Instr.index t (.agg cs) (.int .i64 i)).run P w = .ok v w := by
  have hn : (0 : Int) ≤ (i : Int) ∧ (i : Int) < (n : Int) := by omega
  simp [Instr.index, run_underlying h, asIntOf, hi, hv, hs, ha, go_sem]
def stTo (st : TSt) (k : Nat) : TSt := fun i => if i < k then st i else none
theorem stTo_eq (st : TSt) (k i : Nat) : stTo st k i = if i < k then st i else none := rfl
theorem stTo_same {st : TSt} {k : Nat} (h : st k = none) : stTo st (k + 1) = stTo st k := by
  funext i
  rw [stTo_eq, stTo_eq]
  by_cases h1 : i < k
  · rw [if_pos h1, if_pos (by omega)]
  · by_cases h2 : i < k + 1
    · have : i = k := by omega
      subst this
      rw [if_pos h2, if_neg h1, h]
    · rw [if_neg h1, if_neg h2]
theorem stTo_set (st : TSt) (k : Nat) : stTo st (k + 1) = (stTo st k).set k (st k) := by
  funext i
  rw [stTo_eq, set_eq, stTo_eq]
  by_cases h1 : i < k
  · rw [if_pos h1, if_pos (by omega), if_neg (by omega)]
  · by_cases h2 : i < k + 1
    · have : i = k := by omega
      subst this
      rw [if_pos h2, if_pos rfl]
    · rw [if_neg h1, if_neg h2, if_neg (by omega)]
def CopyPost (w : World) (st : TSt) (e : Ending) (w' : World) : Prop :=
  e = .returned (.pointer (some ⟨w.heap.size, 0, none⟩)) ∧ TabAt w' w.heap.size st (fun k => w.heap.size ≤ k) ∧ Fr (fun _ => False) w w'
def CopyRel (w : World) (st : TSt) (i : Value) (wr : World) : Prop :=
  ∃ k : Nat, k ≤ 32 ∧ i = .int .i64 k ∧ TabAt wr w.heap.size (stTo st k) (fun k => w.heap.size ≤ k) ∧ Fr (fun _ => False) w wr
set_option maxRecDepth 100000 in
set_option maxHeartbeats 2000000 in
theorem copy_any (w : World) (t : Nat) (st : TSt) (S : Nat → Prop) (ht : TabAt w t st S) :
    Calls Try.prog 38 #[.pointer (some ⟨t, 0, none⟩)] w (CopyPost w st) := by
  obtain ⟨p, cs, htf⟩ := ht
  go_enter Try.func38, Try.ntmps38
  go_wp2_with fail
  refine (new_any w).mono ?_
  rintro e w1 ⟨rfl, hw1⟩
  have ht1 := TabF.new w (fun k => w.heap.size ≤ k) (fun _ h => h) w1 hw1
  have hf1 : Fr (fun _ => False) w w1 := by rw [hw1]; exact (Fr.refl _ _).alloc _
  have htf1 := htf.frame hf1 (fun _ _ _ e => e)
  clear hw1
  go_upto_region 4 with fail
  have hi32 : (Try.prog.info? 87).map (·.size) = some cs.size := by rw [htf.hcs]; kernel_rfl
  have hi32 := hide hi32
  go_wp2_with (refine wpList_load_row rfl 87 _ rfl t rfl 89 cs (0, 0) _ htf1.hb Try.underlying87 rfl hi32.out ?_)
  have hcs := htf.hcs
  have hcc := hide htf.hc
  clear hi32 htf1
  go_loopw [14] (fun i wr => CopyRel w st i wr) (fun i _ => 32 - (intOf i).toNat)
  case atStart => exact ⟨0, by omega, rfl, by obtain ⟨p, cs, h⟩ := ht1; exact ⟨p, cs, h.ext (fun i _ => by rw [stTo_eq, if_neg (by omega)])⟩, hf1⟩
  case round =>
    clear ht1 hf1
    obtain ⟨k, hk, rfl, ⟨pc, cc, htc⟩, hfr⟩ := hrel
    by_cases h1 : k < 32
    · have hck := hcc.out k h1
      have htw := htf.frame hfr (fun _ _ _ e => e)
      have hidx := run_index_arr (P := Try.prog) 87 86 32 cs k _ wr Try.underlying87 (fun _ => by kernel_rfl) (fun _ => by kernel_rfl) h1 hck
      have hst' := hide (stTo_set st k)
      rcases hst : st k with _ | ⟨x, m⟩
      · rw [hst] at hidx
        simp only [ptrOf] at hidx
        clear hck
        have hrel' : CopyRel w st (.int .i64 ((k : Int) + 1)) wr := ⟨k + 1, by omega, by go_num, by rw [stTo_same hst]; exact ⟨pc, cc, htc⟩, hfr⟩
        have hrel' := hide hrel'
        go_wp2
        go_roundw
        case rel => exact hrel'.out
        case measure => simp [intOf]; omega
      · rw [hst] at hidx
        simp only [ptrOf] at hidx
        clear hck
        have hsl := htw.hs k x m h1 hst
        have c1 : wr.cell? ⟨p k, 0, none⟩ = some (.int .i64 x) := by rw [blk_cell hsl]; rfl
        have c2 : wr.cell? ⟨p k, 1, none⟩ = some (.bool m) := by rw [blk_cell hsl]; rfl
        have hsz := hfr.size
        have hbt := blk_lt htc.hb
        have c3 : wr.cell? ⟨w.heap.size, k, none⟩ = some (ptrOf (stTo st k k) (pc k)) := by rw [blk_cell htc.hb]; exact htc.hc k h1
        rw [stTo_eq, if_neg (by omega)] at c3
        simp only [ptrOf] at c3
        have hfz := blk_frozen htc.hb
        have hnew := htc.putNew k h1 x m rfl
        rw [← hst, ← stTo_set] at hnew
        rw [World.setCell_alloc_past _ _ _ _ hbt] at hnew
        have hrel' : CopyRel w st (.int .i64 ((k : Int) + 1)) ((wr.setCell ⟨w.heap.size, k, none⟩ (.pointer (some ⟨wr.heap.size, 0, none⟩))).alloc (.cells #[.int .i64 x, .bool m] 91 (0, 0))) :=
          ⟨k + 1, by omega, by go_num, hnew, (hfr.setCell (.inr (Nat.le_refl _)) _).alloc _⟩
        have hrel' := hide hrel'
        clear hnew hst hsl
        go_wp2
        go_roundw
        case rel => exact hrel'.out
        case measure => simp [intOf]; omega
    · have e : k = 32 := by omega
      subst e
      have hfin : CopyPost w st (.returned (.pointer (some ⟨w.heap.size, 0, none⟩))) wr := ⟨rfl, ⟨pc, cc, htc.ext (fun i hi => by rw [stTo_eq, if_pos hi])⟩, hfr⟩
      clear htc
      go_wp2
      go_ret
      exact hfin
end Go.Proofs.Ytcoaggghabdndaa
