/- The walk of TableFills: it returns true and leaves old memory as it was. Conditions: both rows of numbers read as rows of numbers. -/
import Derived.Test.YtcoaggghabdndaaTabAwake
import Derived.Deep.CutBlock
import Derived.Deep.DeepCutAuto
import Derived.Deep.LoopGhost
import Derived.Great.BuildSlice
namespace Go.Proofs.Ytcoaggghabdndaa
open Go.RowKit

theorem TabF.new' {w : World} {t : Nat} {S : Nat → Prop} (hb : w.heap[t]? = some (.cells (Array.replicate 32 (.pointer none)) 89 (0, 0))) (hS : S t) (hu : ∀ k, w.heap.size ≤ k → S k) : TabAt w t (fun _ => none) S :=
  ⟨fun _ => 0, _, hb, by simp, fun i hi => by simp [hi, ptrOf], by simp, by simp, by simp, hS, by simp, hu⟩
def HasAt (w : World) (h : Nat) (st : TSt) : Prop := ∃ hs : Array Value, w.heap[h]? = some (.cells hs 26 (0, 0)) ∧ hs.size = 32 ∧ ∀ i, i < 32 → hs[i]? = some (.bool (st i).isSome)
theorem HasAt.frame {w w' : World} {h : Nat} {st : TSt} {S : Nat → Prop} (hh : HasAt w h st) (hf : Fr S w w') (hn : ¬ S h) : HasAt w' h st := by
  obtain ⟨hs, h1, h2, h3⟩ := hh
  exact ⟨hs, hf.get h1 hn, h2, h3⟩
theorem HasAt.set {w : World} {h : Nat} {st : TSt} (hh : HasAt w h st) (n : Nat) (k : Nat) (o : Option (Int × Bool)) (b : Bool) (hb : b = o.isSome) : HasAt ((w.drewN n).setCell ⟨h, k, none⟩ (.bool b)) h (st.set k o) := by
  obtain ⟨hs, h1, h2, h3⟩ := hh
  refine ⟨_, blk_set (blk_drewN h1 n) _ _, by simpa using h2, fun i hi => ?_⟩
  by_cases e : i = k
  · subst e; simp [h2, hi, TSt.set, hb]
  · rw [Array.getElem?_setIfInBounds_ne (Ne.symm e), h3 i hi]; simp [TSt.set, e]
def FillRel (W : World) (t hb : Nat) (S : Nat → Prop) (len gk : Nat) (i : Value) (w : World) : Prop :=
  ∃ (k : Nat) (st : TSt), gk + k = len ∧ i = .int .i64 k ∧ TabAt w t st S ∧ HasAt w hb st ∧ Fr (fun _ => False) W w
def WantRel (wr : World) (st : TSt) (i : Value) (w : World) : Prop := ∃ j : Nat, i = .int .i64 j ∧ j ≤ 32 ∧ (∀ x, 0 ≤ x → x < j → (st x).isSome = true) ∧ w = wr

/-- Put, as this law looks at it. -/
def FPut (w : World) (t j : Nat) (st : TSt) (S : Nat → Prop) (x : Int) (e : Ending) (w' : World) : Prop :=
  ∃ fd ev : Int, e = .returned (.tuple #[.int .i64 fd, .int .i64 ev]) ∧ ((j = 32 ∧ fd = 0 ∧ ev = 24 ∧ w = w') ∨ (j < 32 ∧ fd = j ∧ ev = 0 ∧ TabAt w' t (st.set j (some (x, false))) S ∧ Fr S w w'))
theorem fput {w : World} {t j : Nat} {st : TSt} {S : Nat → Prop} (hall : ∀ x, 0 ≤ x → x < j → (st x).isSome = true) (hjj : j = 32 ∨ j < 32 ∧ st j = none) (ht : TabAt w t st S) (x : Int) :
    Calls Try.prog 11 #[.pointer (some ⟨t, 0, none⟩), .int .i64 x, .int .i64 0] w (FPut w t j st S x) := by
  refine (putT_any w t st S ht x 0).mono ?_
  rcases hjj with rfl | ⟨h1, h2⟩
  · have hn : firstFree st (0 : Int).toNat = none := firstFree_none hall
    rintro e w' (⟨h, _⟩ | ⟨_, _, rfl, rfl⟩ | ⟨_, k, _, h, _⟩)
    · cases h
    · exact ⟨_, _, rfl, .inl ⟨rfl, rfl, rfl, rfl⟩⟩
    · rw [hn] at h; cases h
  · have hn : firstFree st (0 : Int).toNat = some j := firstFree_some (Nat.zero_le _) h1 hall h2
    rintro e w' hp
    obtain ⟨rfl, h3, h4⟩ := putT_ok rfl hn hp
    exact ⟨_, _, rfl, .inr ⟨h1, rfl, rfl, h3, h4⟩⟩

def FCut (w : World) (t : Nat) (st : TSt) (S : Nat → Prop) (n : Nat) (e : Ending) (w' : World) : Prop := e = .returned (getV (st n)) ∧ TabAt w' t (st.set n none) S ∧ Fr S w w'
theorem fcut {w : World} {t : Nat} {st : TSt} {S : Nat → Prop} (ht : TabAt w t st S) (n : Nat) (hn : n < 32) : Calls Try.prog 12 #[.pointer (some ⟨t, 0, none⟩), .int .i64 n] w (FCut w t st S n) := by
  refine (cut_any w t st S ht n).mono ?_
  rintro e w' ⟨h1, h2, h3⟩
  have hi : inB (n : Int) = true := by simp [inB]; omega
  rw [at_in' hn] at h1
  rw [if_pos hi] at h2
  exact ⟨h1, h2, h3⟩

set_option maxRecDepth 100000 in
set_option maxHeartbeats 6000000 in
theorem tfills_walk (a1 a2 : Option Addr) (l1 l2 c1 c2 : Nat) (W : World) (hr1 : IntRow W a1 l1) (hr2 : IntRow W a2 l2) :
    Calls Try.prog 3 #[.slice a1 l1 c1, .slice a2 l2 c2] W (LawPost W) := by
  have hl1 := hr1.1
  have hl2 := hr2.1
  go_enter Try.func3, Try.ntmps3
  go_wp2_with fail
  refine (awake_any _).mono ?_
  rintro e w1 ⟨rfl, hf1⟩
  have hret : LawPost W (.returned (.bool true)) w1 := ⟨rfl, hf1.below (fun _ _ h => h)⟩
  by_cases h3 : 100 < (l1 : Int)
  · go_wp2_with fail
    go_ret
    exact hret
  clear hret
  go_wp2_with fail
  refine (new_any _).mono ?_
  rintro e w2 ⟨rfl, hw2⟩
  have hb1 : w2.heap[w1.heap.size]? = some (.cells (Array.replicate 32 (.pointer none)) 89 (0, 0)) := by rw [hw2]; exact blk_new _ _
  have hs2 : w2.heap.size = w1.heap.size + 1 := by rw [hw2]; simp
  have hs1 := hf1.size
  have hf2 : Fr (fun _ => False) W w2 := by rw [hw2]; exact hf1.alloc _
  clear hw2 hf1
  obtain ⟨t, ht0⟩ : ∃ t, t = w1.heap.size := ⟨_, rfl⟩
  rw [← ht0] at hb1 hs2 hs1 ⊢
  clear ht0
  go_upto_region 6 with fail
  go_wp2_with (refine wpList_store_rowTo rfl 26 _ _ rfl rfl w2.heap.size (Array.replicate 32 (.bool false)) ?s1 ?s2 26 (Array.replicate 32 (.bool false)) ?s3 ?s4 rfl ?s5 ?_)
  case s1 => rw [hs2]; rfl
  case s2 => rfl
  case s3 => exact blk_new _ _
  case s4 => kernel_rfl
  case s5 => kernel_rfl
  generalize hw3 : World.setRow _ _ _ = w3
  have hH : HasAt w3 (t + 1) (fun _ => none) := by
    refine ⟨Array.replicate 32 (.bool false), ?_, by simp, fun i hi => by simp [hi]⟩
    rw [← hw3, ← hs2]
    exact setRow_heap _ _ _ _ _ _ (blk_new _ _)
  have hb3 : w3.heap[t]? = some (.cells (Array.replicate 32 (.pointer none)) 89 (0, 0)) := by
    rw [← hw3, setRow_other _ _ _ _ (by omega)]
    exact blk_alloc hb1 _
  have hs3 : w3.heap.size = t + 2 := by rw [← hw3]; simp [hs2]
  have hf3 : Fr (fun _ => False) W w3 := by
    refine hf2.trans' (S' := fun k => k = w2.heap.size) ?_ (fun i hi e => by have := hf2.size; omega)
    rw [← hw3]
    refine ⟨rfl, rfl, rfl, by simp, fun k hk hn => ?_⟩
    rw [setRow_other _ _ _ _ (by omega)]
    exact Below.heap_alloc _ _ _ hk
  have hT : TabAt w3 t (fun _ => none) (fun k => W.heap.size ≤ k ∧ k ≠ t + 1) := TabF.new' hb3 ⟨hs1, by omega⟩ (fun k hk => ⟨by omega, by omega⟩)
  clear hw3 hb1 hb3 hf2 hs2 hs3
  go_wp2_with fail
  go_loopg [23] l1 (fun gk i wr => FillRel W t (t + 1) (fun k => W.heap.size ≤ k ∧ k ≠ t + 1) l1 gk i wr)
  case atStart => exact ⟨0, _, by omega, rfl, hT, hH, hf3⟩
  case round =>
    clear hT hH hf3
    obtain ⟨k, st, hgk, rfl, ht, hh, hfr⟩ := hrel
    have Hgk := hide hgk
    clear hgk
    by_cases hlt : k < l1
    · obtain ⟨cb, co, rfl, hrow⟩ := hr1.2.resolve_left (by omega)
      obtain ⟨xv, c0, _, _⟩ := hrow k hlt
      have d0 : wr.cell? ⟨cb, co + k, none⟩ = some (.int .i64 xv) := by rw [World.cell?_of_block (w := W) (hfr.block _ (World.block_lt_of_cell? _ _ c0) (fun h => h))]; exact c0
      clear hrow c0
      go_upto_block 2 with fail
      go_cut [9] (fun s wx => wr = wx ∧ ∃ j : Nat, s = .int .i64 j ∧ j ≤ 32 ∧ Hid (∀ x, 0 ≤ x → x < j → (st x).isSome = true) ∧ (j = 32 ∨ j < 32 ∧ st j = none))
      case first =>
        go_wp2_with fail
        go_loopw [9] (fun i w' => WantRel wr st i w') (fun i _ => 32 - (intOf i).toNat)
        case atStart => exact ⟨0, rfl, by omega, fun x _ h2 => by omega, rfl⟩
        case round =>
          obtain ⟨j, rfl, hj, hall, rfl⟩ := hrel
          have hall := hide hall
          by_cases h1 : j < 32
          · obtain ⟨hsA, e1, e2, e3⟩ := id hh
            have hc : wr.cell? ⟨t + 1, j, none⟩ = some (.bool (st j).isSome) := by rw [blk_cell e1]; exact e3 j h1
            clear e1 e2 e3 hsA
            rcases hst : st j with _ | ⟨x0, m0⟩
            · simp only [hst, Option.isSome_none] at hc
              go_wp2_with fail
              go_meet
              exact ⟨rfl, j, rfl, by omega, hall, .inr ⟨h1, hst⟩⟩
            · simp only [hst, Option.isSome_some] at hc
              go_wp2_with fail
              go_roundw
              case rel =>
                refine ⟨j + 1, by go_num, by omega, fun x h2 h3 => ?_, rfl⟩
                by_cases e : x = j
                · rw [e, hst]; rfl
                · exact hall.out x h2 (by omega)
              case measure => simp [intOf]; omega
          · obtain rfl : j = 32 := by omega
            go_wp2_with fail
            go_meet
            exact ⟨rfl, 32, rfl, by omega, hall, .inl rfl⟩
      case rest =>
        obtain ⟨rfl, j, rfl, hj, hall, hjj⟩ := hcut
        have hput := fput hall.out hjj ht xv
        clear d0 hjj hall
        go_wp2_with fail
        refine hput.mono ?_
        rintro e w2 ⟨fd, ev, rfl, hor⟩
        clear hput
        go_upto_if 44 with fail
        go_cut [7] (fun s wx => s = .int .i64 k ∧ ∃ st', TabAt wx t st' (fun k => W.heap.size ≤ k ∧ k ≠ t + 1) ∧ HasAt wx (t + 1) st' ∧ Fr (fun _ => False) W wx)
        case first =>
          rcases hor with ⟨rfl, rfl, rfl, rfl⟩ | ⟨hj32, rfl, rfl, ht2, hf2⟩
          · go_wp2_with fail
            go_meet
            exact ⟨rfl, st, ht, hh, hfr⟩
          · have hh2 := hh.frame hf2 (fun e => e.2 rfl)
            have hfr2 : Fr (fun _ => False) W w2 := hfr.trans' hf2 (fun i hi e => by omega)
            obtain ⟨hsA, e1, e2, e3⟩ := id hh2
            have hc : w2.cell? ⟨t + 1, j, none⟩ = some (.bool (st j).isSome) := by rw [blk_cell e1]; exact e3 j hj32
            have hfz := blk_frozen e1
            clear e1 e2 e3 hsA
            have hjn : ((j : Int) == 32) = false := by rw [show (32 : Int) = ((32 : Nat) : Int) from rfl, cast_beq]; exact decide_eq_false (by omega)
            go_wp2_with fail
            go_meet
            have hset := (Fr.refl (fun k => k = t + 1) w2).setCell (p := ⟨t + 1, j, none⟩) (.inl rfl) (.bool true)
            refine ⟨rfl, _, ht2.frame hset (fun i _ e1 e2 => e1.2 e2), hh2.set 0 j (some (xv, false)) true rfl, hfr2.setCell (.inr ?_) _⟩
            show W.heap.size ≤ t + 1
            omega
        case rest =>
          obtain ⟨rfl, st2, ht2, hh2, hfr2⟩ := hcut
          clear hor hh ht
          have hnext : ∀ st' w', TabAt w' t st' (fun k => W.heap.size ≤ k ∧ k ≠ t + 1) → HasAt w' (t + 1) st' → Fr (fun _ => False) W w' → FillRel W t (t + 1) (fun k => W.heap.size ≤ k ∧ k ≠ t + 1) l1 (gk - 1) (.int .i64 ((k + 1 : Nat) : Int)) w' :=
            fun st' w' h1 h2 h3 => ⟨k + 1, st', by have := Hgk.out; omega, rfl, h1, h2, h3⟩
          have hnext := hide hnext
          by_cases hk2 : k < l2
          · obtain ⟨cb2, co2, rfl, hrow2⟩ := hr2.2.resolve_left (by omega)
            obtain ⟨cv, c0, _, _⟩ := hrow2 k hk2
            have d2 := (World.cell?_of_block (w := W) (a := ⟨cb2, co2 + k, none⟩) (hfr2.block _ (World.block_lt_of_cell? _ _ c0) (fun h => h))).trans c0
            have hk2' : (k : Int) < (l2 : Int) := by omega
            by_cases h1 : 0 ≤ cv
            · by_cases h2 : cv < 32
              · obtain ⟨n, rfl⟩ : ∃ n : Nat, cv = n := ⟨cv.toNat, by omega⟩
                have hn : n < 32 := by omega
                go_wp2_with fail
                refine (fcut ht2 n hn).mono ?_
                rintro e w6 ⟨hor, ht6, hf6⟩
                have hh6 := hh2.frame hf6 (fun e => e.2 rfl)
                have hfr6 : Fr (fun _ => False) W w6 := hfr2.trans' hf6 (fun i hi e => by omega)
                have d6 := (World.cell?_of_block (w := W) (a := ⟨cb2, co2 + k, none⟩) (hfr6.block _ (World.block_lt_of_cell? _ _ c0) (fun h => h))).trans c0
                obtain ⟨hsA, e1, e2, e3⟩ := id hh6
                have hc : w6.cell? ⟨t + 1, n, none⟩ = some (.bool (st2 n).isSome) := by rw [blk_cell e1]; exact e3 n hn
                have hfz := blk_frozen e1
                have hset := (Fr.refl (fun k => k = t + 1) w6).setCell (p := ⟨t + 1, n, none⟩) (.inl rfl) (.bool false)
                have hrel' := hnext.out _ _ (ht6.frame hset (fun i _ e1 e2 => e1.2 e2)) (hh6.set 0 n none false rfl) (hfr6.setCell (.inr (by show W.heap.size ≤ t + 1; omega)) _)
                have hrel' := hide hrel'
                clear e1 e2 e3 hsA hset d2 ht6 hh6 hh2 ht2 c0
                rcases hst : st2 n with _ | ⟨x0, m0⟩
                · rw [hst] at hor hc
                  obtain rfl := hor
                  simp only [Option.isSome_none] at hc
                  simp only [getV]
                  go_wp2_with fail
                  go_roundg (gk - 1)
                  case measure => have := Hgk.out; omega
                  case rel => exact hrel'.out
                · rw [hst] at hor hc
                  obtain rfl := hor
                  simp only [Option.isSome_some] at hc
                  simp only [getV]
                  go_wp2_with fail
                  go_roundg (gk - 1)
                  case measure => have := Hgk.out; omega
                  case rel => exact hrel'.out
              · have h2' : decide (cv < 32) = false := decide_eq_false h2
                go_wp2_with fail
                go_roundg (gk - 1)
                case measure => have := Hgk.out; omega
                case rel => exact hnext.out _ _ ht2 hh2 hfr2
            · have h1' : decide (0 ≤ cv) = false := decide_eq_false h1
              go_wp2_with fail
              go_roundg (gk - 1)
              case measure => have := Hgk.out; omega
              case rel => exact hnext.out _ _ ht2 hh2 hfr2
          · have hk2' : decide ((k : Int) < (l2 : Int)) = false := decide_eq_false (by omega)
            go_wp2_with fail
            go_roundg (gk - 1)
            case measure => have := Hgk.out; omega
            case rel => exact hnext.out _ _ ht2 hh2 hfr2
    · have hfin : LawPost W (.returned (.bool true)) wr := ⟨rfl, hfr.below (fun _ _ h => h)⟩
      go_wp2_with fail
      go_ret
      exact hfin
end Go.Proofs.Ytcoaggghabdndaa
