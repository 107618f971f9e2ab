/- The walk of VarsFixed: it returns true and leaves old memory as it was. Conditions: the row of calls reads as a row of calls. -/
import Derived.Test.YtcojeojmodjmdaaVarsF
import Derived.Deep.CutBlock
import Derived.Deep.DeepCutAuto
import Derived.Deep.LoopGhost
import Derived.Outline
namespace Go.Proofs.Ytcojeojmodjmdaa
open Go.RowKit

theorem VarsAt.narrow' {w w' : World} {b : Nat} {M : KA VR} {args : List ByteArray} {S S' : Nat → Prop} (h : VarsAt w b M args S) (hf : Fr (fun _ => False) w w') (h1 : ∀ k, k < w.heap.size → S k → S' k) (h2 : ∀ k, w'.heap.size ≤ k → S' k) : VarsAt w' b M args S' := by
  obtain ⟨mb, av, h⟩ := h
  have h' := h.frame hf (fun _ _ _ e => e)
  refine ⟨mb, av, h'.hb, h'.hm, h'.ne, ?_, h1 _ (blk_lt h.hb) h.own, h1 _ h.hm.lt h.ownm, h2, h.len, h.sz⟩
  exact (h.ha.mono h1).frame hf (fun _ _ _ e => e)
def fx : ByteArray := ⟨#[102, 105, 120, 101, 100]⟩
theorem fx_name : nameB fx.data.toList = true := by decide
/-- The variable is there, read only, with its value. -/
def Fixed (val : ByteArray) (M : KA VR) : Prop := ∃ e, kget fx.data.toList M = some ⟨val, e, true, false⟩
theorem ba_of_data {s t : ByteArray} (h : s.data.toList = t.data.toList) : s = t := by
  cases s; cases t
  simp only [ByteArray.mk.injEq]
  exact Array.toList_inj.1 h
theorem fx_list : fx.toList = [102, 105, 120, 101, 100] := by rw [ByteArray.toList_eq]; rfl
theorem fx_of_list {s : ByteArray} (h : s.toList = [102, 105, 120, 101, 100]) : s = fx := ba_of_data (by rw [ByteArray.toList_eq] at h; exact h)
theorem fixed_setE {val : ByteArray} {M : KA VR} (h : Fixed val M) (n : Nat) : setE M fx.data.toList n = 63 := by
  obtain ⟨e, h⟩ := h
  unfold setE getX
  rw [if_neg (by rw [fx_name]; simp), h]
  simp
theorem fixed_unsetE {val : ByteArray} {M : KA VR} (h : Fixed val M) : unsetE M fx.data.toList = 63 := by
  obtain ⟨e, h⟩ := h
  unfold unsetE getX
  rw [if_neg (by rw [fx_name]; simp), h]
  simp
theorem fixed_set {val : ByteArray} {M : KA VR} (h : Fixed val M) (s : List UInt8) (v : ByteArray) : Fixed val (setM M s v) := by
  by_cases hs : s = fx.data.toList
  · subst hs
    unfold setM
    rw [fixed_setE h, if_neg (by decide)]
    exact h
  · unfold setM
    split
    · obtain ⟨e, h⟩ := h
      exact ⟨e, by rw [kget_kput_other (Ne.symm hs)]; exact h⟩
    · exact h
theorem fixed_unset {val : ByteArray} {M : KA VR} (h : Fixed val M) (s : List UInt8) : Fixed val (unsetM M s) := by
  by_cases hs : s = fx.data.toList
  · subst hs
    unfold unsetM
    rw [fixed_unsetE h, if_neg (by decide)]
    exact h
  · unfold unsetM
    split
    · obtain ⟨e, h⟩ := h
      exact ⟨e, by rw [kget_kdel_other (Ne.symm hs)]; exact h⟩
    · exact h
theorem fixed_mark {val : ByteArray} {M : KA VR} (h : Fixed val M) (s : List UInt8) (ex ro : Bool) : Fixed val (markM M s ex ro) := by
  unfold markM
  split
  · obtain ⟨e, h⟩ := h
    by_cases hs : s = fx.data.toList
    · subst hs
      exact ⟨e || ex, by rw [kget_kput_same, h]; rfl⟩
    · exact ⟨e, by rw [kget_kput_other (Ne.symm hs)]; exact h⟩
  · exact h
theorem start_set (val : ByteArray) (h : val.size ≤ 65536) : setE [] fx.data.toList val.size = 0 := by
  unfold setE getX roomB
  rw [if_neg (by rw [fx_name]; simp), if_neg (by simp [kget_nil, VR.zero]), if_neg (by omega), if_neg (by simp)]
theorem start_get (val : ByteArray) (h : val.size ≤ 65536) : kget fx.data.toList (setM [] fx.data.toList val) = some ⟨val, false, false, false⟩ := by
  unfold setM
  rw [if_pos (start_set val h), kget_kput_same]
  rfl
theorem start_mark (val : ByteArray) (h : val.size ≤ 65536) : markE (setM [] fx.data.toList val) fx.data.toList false true = 0 := by
  unfold markE roomB
  rw [if_neg (by rw [fx_name]; simp), if_neg (by simp), start_get val h]
  simp
theorem start_fixed (val : ByteArray) (h : val.size ≤ 65536) : Fixed val (markM (setM [] fx.data.toList val) fx.data.toList false true) := by
  unfold markM
  rw [if_pos ⟨start_mark val h, by simp⟩]
  exact ⟨false, by rw [kget_kput_same, start_get val h]; rfl⟩
/-- A row of calls of the variables' law. -/
def VCallRow (W : World) (a : Option Addr) (len : Nat) : Prop :=
  len ≤ 9223372036854775807 ∧ (len = 0 ∨ ∃ cb co, a = some ⟨cb, co, none⟩ ∧ ∀ k, k < len → ∃ (what n : Int) (nm vl : ByteArray) (ex ro : Bool) (av : Value) (al : List ByteArray),
    W.cell? ⟨cb, co + k * 7, none⟩ = some (.int .i64 what) ∧ W.cell? ⟨cb, co + k * 7 + 1, none⟩ = some (.int .i64 n) ∧ W.cell? ⟨cb, co + k * 7 + 2, none⟩ = some (.string nm) ∧ W.cell? ⟨cb, co + k * 7 + 3, none⟩ = some (.string vl) ∧
    W.cell? ⟨cb, co + k * 7 + 4, none⟩ = some (.bool ex) ∧ W.cell? ⟨cb, co + k * 7 + 5, none⟩ = some (.bool ro) ∧ W.cell? ⟨cb, co + k * 7 + 6, none⟩ = some av ∧
    nm.size ≤ 140737488355328 ∧ vl.size ≤ 140737488355328 ∧ al.length * 16 ≤ 140737488355328 ∧ ArgsV W (fun k => k < W.heap.size) av al)
def FxI (W : World) (val : ByteArray) (b : Nat) (wr : World) : Prop := ∃ M S, VarsAt wr b M [] S ∧ (∀ k, S k → W.heap.size ≤ k) ∧ Fixed val M ∧ Fr (fun _ => False) W wr
def FxRel (W : World) (val : ByteArray) (len gk : Nat) (vv i : Value) (wr : World) : Prop := ∃ k b, gk + k = len ∧ k ≤ 150 ∧ i = .int .i64 k ∧ vv = .pointer (some ⟨b, 0, none⟩) ∧ FxI W val b wr
set_option maxRecDepth 100000 in
set_option maxHeartbeats 8000000 in
theorem vfixed_walk (val : ByteArray) (a : Option Addr) (len cap : Nat) (W : World) (hval : val.size ≤ 9223372036854775807) (hc : VCallRow W a len) :
    Calls Try.prog 5 #[.string val, .slice a len cap] W (LawPost W) := by
  go_enter Try.func5, Try.ntmps5
  go_wp2_with fail
  refine (vawake_any _).mono ?_
  rintro e w0 ⟨rfl, hf0⟩
  by_cases c1 : 65536 < val.size
  · have hout : LawPost W (.returned (.bool true)) w0 := ⟨rfl, hf0.below (fun _ _ h => h)⟩
    go_wp2_with fail
    go_ret
    exact hout
  go_wp2_with fail
  refine (vnew_any _).mono ?_
  rintro e w1 ⟨b, rfl, h1, hf1⟩
  go_wp2_with fail
  refine (vset_any _ _ _ _ _ h1 fx val (by decide) hval).mono ?_
  rintro e w2 ⟨rfl, h2, hf2⟩
  rw [start_set val (by omega)]
  go_wp2_with fail
  refine (vmark_any _ _ _ _ _ h2 fx (by decide) false true).mono ?_
  rintro e w3 ⟨rfl, h3, hf3⟩
  rw [start_mark val (by omega)]
  have hI : FxI W val b w3 := ⟨_, _, h3, fun k hk => by have := hf0.size; omega, start_fixed val (by omega), (hf0.trans hf1).trans' (hf2.trans hf3) (fun i hi e => by have := hf0.size; have := hf1.size; omega)⟩
  clear h1 h2 h3 hf0 hf1 hf2 hf3
  go_wp2_with fail
  go_loopg [5, 29] len (fun gk vv i wr => FxRel W val len gk vv i wr)
  case atStart => exact ⟨0, b, by omega, by omega, rfl, rfl, hI⟩
  case round =>
    clear hI
    obtain ⟨k, b', hgk, hk, rfl, rfl, M, S, hv, hS, hfx, hfr⟩ := hrel
    have Hgk := hide hgk
    clear hgk
    by_cases hlt : k < len
    · obtain ⟨cb, co, rfl, hrow⟩ := hc.2.resolve_left (by omega)
      obtain ⟨what, n, nm, vl, ex, ro, av, al, c0, c1, c2, c3, c4, c5, c6, hnm, hvl, _, hal⟩ := hrow k hlt
      obtain ⟨ala, alc, rfl⟩ := hal.form
      have tr : ∀ p v, W.cell? p = some v → wr.cell? p = some v := fun p v h => by rw [World.cell?_of_block (w := W) (hfr.block _ (World.block_lt_of_cell? _ _ h) (fun h => h))]; exact h
      have d0 := tr _ _ c0
      have d1 := tr _ _ c1
      have d2 := tr _ _ c2
      have d3 := tr _ _ c3
      have d4 := tr _ _ c4
      have d5 := tr _ _ c5
      have d6 := tr _ _ c6
      clear hrow c0 c1 c2 c3 c4 c5 c6 tr hal
      have hua := hv.up'
      have hva : VarsAt (wr.alloc (.cells #[.int .i64 what, .int .i64 n, .string nm, .string vl, .bool ex, .bool ro, .slice ala al.length alc] 39)) b' M [] (fun k => S k ∧ k ≠ wr.heap.size) :=
        hv.narrow' ((Fr.refl _ _).alloc _) (fun k hk hs => ⟨hs, by omega⟩) (fun k hk => ⟨hua k (by simp at hk; omega), by simp at hk; omega⟩)
      have hca : (wr.alloc (.cells #[.int .i64 what, .int .i64 n, .string nm, .string vl, .bool ex, .bool ro, .slice ala al.length alc] 39)).heap[wr.heap.size]? = some (.cells #[.int .i64 what, .int .i64 n, .string nm, .string vl, .bool ex, .bool ro, .slice ala al.length alc] 39 (0, 0)) := blk_new _ _
      have hnS : ¬ (S wr.heap.size ∧ wr.heap.size ≠ wr.heap.size) := fun h => h.2 rfl
      have Hca := hide hca
      clear hca hv hua
      by_cases h150 : k = 150
      · subst h150
        have hout : LawPost W (.returned (.bool true)) (wr.alloc (.cells #[.int .i64 what, .int .i64 n, .string nm, .string vl, .bool ex, .bool ro, .slice ala al.length alc] 39)) := ⟨rfl, (hfr.alloc _).below (fun _ _ h => h)⟩
        have hout := hide hout
        clear hva
        go_wp2_with fail
        go_ret
        exact hout.out
      obtain ⟨wa, hwa⟩ : ∃ wa, wa = wr.alloc (.cells #[.int .i64 what, .int .i64 n, .string nm, .string vl, .bool ex, .bool ro, .slice ala al.length alc] 39) := ⟨_, rfl⟩
      rw [← hwa] at hva Hca
      have Hwa := hide hwa
      clear hwa
      go_upto_region 12 with fail
      rw [← Hwa.out]
      clear d0 d1 d2 d3 d4 d5 d6
      have f0 : wa.cell? ⟨wr.heap.size, 0, none⟩ = some (.int .i64 what) := by rw [blk_cell Hca.out]; rfl
      have f2 : wa.cell? ⟨wr.heap.size, 2, none⟩ = some (.string nm) := by rw [blk_cell Hca.out]; rfl
      have f3 : wa.cell? ⟨wr.heap.size, 3, none⟩ = some (.string vl) := by rw [blk_cell Hca.out]; rfl
      have f4 : wa.cell? ⟨wr.heap.size, 4, none⟩ = some (.bool ex) := by rw [blk_cell Hca.out]; rfl
      have f5 : wa.cell? ⟨wr.heap.size, 5, none⟩ = some (.bool ro) := by rw [blk_cell Hca.out]; rfl
      by_cases q0 : what = 0
      · subst q0
        go_wp2_with fail
        refine (vset_any _ _ _ _ _ hva nm vl hnm (by omega)).mono ?_
        rintro e w4 ⟨rfl, hv4, hf4⟩
        clear f0 f2 f3 f4 f5
        have hc4 := hf4.get Hca.out hnS
        have e42 : w4.cell? ⟨wr.heap.size, 2, none⟩ = some (.string nm) := by rw [blk_cell hc4]; rfl
        clear hc4
        have hI4 : FxI W val b' w4 := ⟨_, _, hv4, fun k hk => hS k hk.1, fixed_set hfx _ _, (hfr.alloc _).trans' (Hwa.out ▸ hf4) (fun i hi e => by have := hS i e.1; omega)⟩
        clear hv4 hf4
        by_cases hnf : nm = fx
        · rw [hnf] at e42
          have hfl := fx_list
          rw [hnf, fixed_setE hfx]
          clear hnf
          go_wp2_with fail
          obtain ⟨M4, S4, hv4, hS4, hfx4, hfr4⟩ := hI4
          obtain ⟨e4, hg4⟩ := id hfx4
          have hI5 : ∀ w5, Fr (fun _ => False) w4 w5 → FxI W val _ w5 := fun w5 h5 => ⟨M4, S4, hv4.frame h5 (fun _ _ _ e => e), hS4, hfx4, hfr4.trans h5⟩
          have hget := vget_any _ _ _ _ _ hv4 fx (by decide)
          rw [hg4] at hget
          clear hv4 hS4 hfx4 hfr4 hg4
          refine hget.mono ?_
          rintro e w5 ⟨rfl, hf5⟩
          have hI5 := hide (hI5 w5 hf5)
          clear hf5 hget
          simp only [getR, Bool.not_false]
          go_wp2_with fail
          go_roundg (gk - 1)
          case measure => have := Hgk.out; omega
          case rel => exact ⟨k + 1, _, by have := Hgk.out; omega, by omega, by go_num, rfl, hI5.out⟩
        · have hnn : ¬ nm.toList = [102, 105, 120, 101, 100] := fun e => hnf (fx_of_list e)
          clear hnf
          go_wp2_with fail
          obtain ⟨M4, S4, hv4, hS4, hfx4, hfr4⟩ := hI4
          obtain ⟨e4, hg4⟩ := id hfx4
          have hI5 : ∀ w5, Fr (fun _ => False) w4 w5 → FxI W val _ w5 := fun w5 h5 => ⟨M4, S4, hv4.frame h5 (fun _ _ _ e => e), hS4, hfx4, hfr4.trans h5⟩
          have hget := vget_any _ _ _ _ _ hv4 fx (by decide)
          rw [hg4] at hget
          clear hv4 hS4 hfx4 hfr4 hg4
          refine hget.mono ?_
          rintro e w5 ⟨rfl, hf5⟩
          have hI5 := hide (hI5 w5 hf5)
          clear hf5 hget
          simp only [getR, Bool.not_false]
          go_wp2_with fail
          go_roundg (gk - 1)
          case measure => have := Hgk.out; omega
          case rel => exact ⟨k + 1, _, by have := Hgk.out; omega, by omega, by go_num, rfl, hI5.out⟩
      by_cases q1 : what = 1
      · subst q1
        go_wp2_with fail
        refine (vunset_any _ _ _ _ _ hva nm (by omega)).mono ?_
        rintro e w4 ⟨rfl, hv4, hf4⟩
        clear f0 f2 f3 f4 f5
        have hc4 := hf4.get Hca.out hnS
        have e42 : w4.cell? ⟨wr.heap.size, 2, none⟩ = some (.string nm) := by rw [blk_cell hc4]; rfl
        clear hc4
        have hI4 : FxI W val b' w4 := ⟨_, _, hv4, fun k hk => hS k hk.1, fixed_unset hfx _, (hfr.alloc _).trans' (Hwa.out ▸ hf4) (fun i hi e => by have := hS i e.1; omega)⟩
        clear hv4 hf4
        by_cases hnf : nm = fx
        · rw [hnf] at e42
          have hfl := fx_list
          rw [hnf, fixed_unsetE hfx]
          clear hnf
          go_wp2_with fail
          obtain ⟨M4, S4, hv4, hS4, hfx4, hfr4⟩ := hI4
          obtain ⟨e4, hg4⟩ := id hfx4
          have hI5 : ∀ w5, Fr (fun _ => False) w4 w5 → FxI W val _ w5 := fun w5 h5 => ⟨M4, S4, hv4.frame h5 (fun _ _ _ e => e), hS4, hfx4, hfr4.trans h5⟩
          have hget := vget_any _ _ _ _ _ hv4 fx (by decide)
          rw [hg4] at hget
          clear hv4 hS4 hfx4 hfr4 hg4
          refine hget.mono ?_
          rintro e w5 ⟨rfl, hf5⟩
          have hI5 := hide (hI5 w5 hf5)
          clear hf5 hget
          simp only [getR, Bool.not_false]
          go_wp2_with fail
          go_roundg (gk - 1)
          case measure => have := Hgk.out; omega
          case rel => exact ⟨k + 1, _, by have := Hgk.out; omega, by omega, by go_num, rfl, hI5.out⟩
        · have hnn : ¬ nm.toList = [102, 105, 120, 101, 100] := fun e => hnf (fx_of_list e)
          clear hnf
          go_wp2_with fail
          obtain ⟨M4, S4, hv4, hS4, hfx4, hfr4⟩ := hI4
          obtain ⟨e4, hg4⟩ := id hfx4
          have hI5 : ∀ w5, Fr (fun _ => False) w4 w5 → FxI W val _ w5 := fun w5 h5 => ⟨M4, S4, hv4.frame h5 (fun _ _ _ e => e), hS4, hfx4, hfr4.trans h5⟩
          have hget := vget_any _ _ _ _ _ hv4 fx (by decide)
          rw [hg4] at hget
          clear hv4 hS4 hfx4 hfr4 hg4
          refine hget.mono ?_
          rintro e w5 ⟨rfl, hf5⟩
          have hI5 := hide (hI5 w5 hf5)
          clear hf5 hget
          simp only [getR, Bool.not_false]
          go_wp2_with fail
          go_roundg (gk - 1)
          case measure => have := Hgk.out; omega
          case rel => exact ⟨k + 1, _, by have := Hgk.out; omega, by omega, by go_num, rfl, hI5.out⟩
      by_cases q2 : what = 2
      · subst q2
        go_wp2_with fail
        refine (vmark_any _ _ _ _ _ hva nm hnm ex ro).mono ?_
        rintro e w4 ⟨rfl, hv4, hf4⟩
        have hI4 : FxI W val b' w4 := ⟨_, _, hv4, fun k hk => hS k hk.1, fixed_mark hfx _ _ _, (hfr.alloc _).trans' (Hwa.out ▸ hf4) (fun i hi e => by have := hS i e.1; omega)⟩
        clear hv4 hf4 f0 f2 f3 f4 f5
        go_wp2_with fail
        obtain ⟨M4, S4, hv4, hS4, hfx4, hfr4⟩ := hI4
        obtain ⟨e4, hg4⟩ := id hfx4
        have hI5 : ∀ w5, Fr (fun _ => False) w4 w5 → FxI W val _ w5 := fun w5 h5 => ⟨M4, S4, hv4.frame h5 (fun _ _ _ e => e), hS4, hfx4, hfr4.trans h5⟩
        have hget := vget_any _ _ _ _ _ hv4 fx (by decide)
        rw [hg4] at hget
        clear hv4 hS4 hfx4 hfr4 hg4
        refine hget.mono ?_
        rintro e w5 ⟨rfl, hf5⟩
        have hI5 := hide (hI5 w5 hf5)
        clear hf5 hget
        simp only [getR, Bool.not_false]
        go_wp2_with fail
        go_roundg (gk - 1)
        case measure => have := Hgk.out; omega
        case rel => exact ⟨k + 1, _, by have := Hgk.out; omega, by omega, by go_num, rfl, hI5.out⟩
      by_cases q5 : what = 5
      · subst q5
        go_wp2_with fail
        refine (vcopy_any _ _ _ _ _ hva (by simp)).mono ?_
        rintro e w4 ⟨b4, rfl, hv4, hf4⟩
        have hsz : wa.heap.size = wr.heap.size + 1 := by rw [Hwa.out]; simp
        have hI4 : FxI W val b4 w4 := ⟨_, _, hv4, fun k hk => by have := hfr.size; omega, hfx, (hfr.alloc _).trans (Hwa.out ▸ hf4)⟩
        clear hv4 hf4 f0 f2 f3 f4 f5
        go_wp2_with fail
        obtain ⟨M4, S4, hv4, hS4, hfx4, hfr4⟩ := hI4
        obtain ⟨e4, hg4⟩ := id hfx4
        have hI5 : ∀ w5, Fr (fun _ => False) w4 w5 → FxI W val _ w5 := fun w5 h5 => ⟨M4, S4, hv4.frame h5 (fun _ _ _ e => e), hS4, hfx4, hfr4.trans h5⟩
        have hget := vget_any _ _ _ _ _ hv4 fx (by decide)
        rw [hg4] at hget
        clear hv4 hS4 hfx4 hfr4 hg4
        refine hget.mono ?_
        rintro e w5 ⟨rfl, hf5⟩
        have hI5 := hide (hI5 w5 hf5)
        clear hf5 hget
        simp only [getR, Bool.not_false]
        go_wp2_with fail
        go_roundg (gk - 1)
        case measure => have := Hgk.out; omega
        case rel => exact ⟨k + 1, _, by have := Hgk.out; omega, by omega, by go_num, rfl, hI5.out⟩
      obtain ⟨w4, hw4⟩ : ∃ w4, w4 = wa := ⟨_, rfl⟩
      have hI4 : FxI W val b' w4 := ⟨_, _, hw4 ▸ hva, fun k hk => hS k hk.1, hfx, by rw [hw4, Hwa.out]; exact hfr.alloc _⟩
      clear hva
      go_wp2_with fail
      rw [← hw4]
      clear f0 f2 f3 f4 f5
      obtain ⟨M4, S4, hv4, hS4, hfx4, hfr4⟩ := hI4
      obtain ⟨e4, hg4⟩ := id hfx4
      have hI5 : ∀ w5, Fr (fun _ => False) w4 w5 → FxI W val _ w5 := fun w5 h5 => ⟨M4, S4, hv4.frame h5 (fun _ _ _ e => e), hS4, hfx4, hfr4.trans h5⟩
      have hget := vget_any _ _ _ _ _ hv4 fx (by decide)
      rw [hg4] at hget
      clear hv4 hS4 hfx4 hfr4 hg4
      refine hget.mono ?_
      rintro e w5 ⟨rfl, hf5⟩
      have hI5 := hide (hI5 w5 hf5)
      clear hf5 hget
      simp only [getR, Bool.not_false]
      go_wp2_with fail
      go_roundg (gk - 1)
      case measure => have := Hgk.out; omega
      case rel => exact ⟨k + 1, _, by have := Hgk.out; omega, by omega, by go_num, rfl, hI5.out⟩
    · have hout : LawPost W (.returned (.bool true)) wr := ⟨rfl, hfr.below (fun _ _ h => h)⟩
      clear hv
      go_wp2_with fail
      go_ret
      exact hout
end Go.Proofs.Ytcojeojmodjmdaa
