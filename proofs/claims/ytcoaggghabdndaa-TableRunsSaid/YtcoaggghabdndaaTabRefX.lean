/- Contract of shyardref11.Table.Exec. Conditions: the contract's own premises. -/
import Derived.Test.YtcoaggghabdndaaTabRef
import Derived.OwnWalk
import Derived.Laws.AppendOwn
namespace Go.Proofs.Ytcoaggghabdndaa
open Go.RowKit

theorem Try.info3 : (Try.prog.info? 3).map (fun i => (i.zero, i.size, i.bytes)) = some (some (.int .i64 0), 1, 8) := by kernel_rfl
/-- What goes at number i. -/
def exAt (st : TSt) (i : Nat) : Option Int := match st i with | some (x, true) => some x | _ => none
def exL (st : TSt) (k : Nat) : List Int := (List.range k).filterMap (exAt st)
def exO (o : Option (Int × Bool)) : Option (Int × Bool) := match o with | some (_, true) => none | o => o
def exSt (st : TSt) (k : Nat) : TSt := fun i => if i < k then exO (st i) else st i
theorem exSt_eq (st : TSt) (k i : Nat) : exSt st k i = if i < k then exO (st i) else st i := rfl
theorem set_eq (st : TSt) (k i : Nat) (o : Option (Int × Bool)) : st.set k o i = if i = k then o else st i := rfl
def ints (l : List Int) : List Value := l.map (.int .i64)
theorem exL_succ (st : TSt) (k : Nat) : exL st (k + 1) = exL st k ++ (exAt st k).toList := by
  unfold exL
  rw [List.range_succ, List.filterMap_append]
  cases h : exAt st k <;> simp [h]
theorem exL_le (st : TSt) (k : Nat) : (exL st k).length ≤ k := by
  have := List.length_filterMap_le (exAt st) (List.range k)
  simpa [exL] using this
theorem exO_same {st : TSt} {k : Nat} (h : exAt st k = none) : exO (st k) = st k := by
  unfold exAt at h
  unfold exO
  split <;> simp_all
theorem exSt_same {st : TSt} {k : Nat} (h : exAt st k = none) : exSt st (k + 1) = exSt st k := by
  funext i
  rw [exSt_eq, exSt_eq]
  by_cases h1 : i < k
  · rw [if_pos h1, if_pos (by omega)]
  · by_cases h2 : i < k + 1
    · have : i = k := by omega
      subst this
      rw [if_neg h1, if_pos h2, exO_same h]
    · rw [if_neg h1, if_neg h2]
theorem exSt_cut {st : TSt} {k : Nat} {x : Int} (h : st k = some (x, true)) : exSt st (k + 1) = (exSt st k).set k none := by
  funext i
  rw [exSt_eq, set_eq, exSt_eq]
  by_cases h1 : i < k
  · rw [if_pos h1, if_pos (by omega), if_neg (by omega)]
  · by_cases h2 : i < k + 1
    · have : i = k := by omega
      subst this
      rw [if_pos h2, if_pos rfl, h]
      rfl
    · rw [if_neg h1, if_neg h2, if_neg (by omega)]
theorem exSt_zero (st : TSt) : exSt st 0 = st := by funext i; rw [exSt_eq, if_neg (by omega)]
theorem exSt_at (st : TSt) (k : Nat) : exSt st k k = st k := by rw [exSt_eq, if_neg (by omega)]

def RExecPost (w : World) (r : Nat) (st : TSt) (e : Ending) (w' : World) : Prop :=
  ∃ v, e = .returned v ∧ w'.ownsRow w.heap.size 3 1 v (exL st 32).length (ints (exL st 32)) ∧ RefT w' r (exSt st 32) ∧ Fr (fun k => k = r) w w'
def RExecRel (w : World) (r : Nat) (st : TSt) (v i : Value) (wr : World) : Prop :=
  ∃ k : Nat, k ≤ 32 ∧ i = .int .i64 k ∧ wr.ownsRow w.heap.size 3 1 v (exL st k).length (ints (exL st k)) ∧ RefT wr r (exSt st k) ∧ Fr (fun k => k = r) w wr
set_option maxRecDepth 100000 in
set_option maxHeartbeats 1000000 in
theorem rexec_any (w : World) (r : Nat) (st : TSt) (h0 : RefT w r st) :
    Calls Try.prog 37 #[.pointer (some ⟨r, 0, none⟩)] w (RExecPost w r st) := by
  have hr : r < w.heap.size := by obtain ⟨cs, h⟩ := h0; exact blk_lt h.hb
  obtain ⟨i0, hi, hz0, hz1, hz2⟩ := info_parts Try.info3
  go_enter Try.func37, Try.ntmps37
  go_wp2
  go_loopw [3, 4] (fun v i wr => RExecRel w r st v i wr) (fun _ i _ => 32 - (intOf i).toNat)
  case atStart => exact ⟨0, by omega, rfl, by simpa [exL, ints] using World.ownsRow_nil _ _ _ _, by rw [exSt_zero]; exact h0, Fr.refl _ _⟩
  case round =>
    obtain ⟨k, hk, rfl, hown, ⟨cs, hf⟩, hfr⟩ := hrel
    obtain ⟨va, vcap, rfl⟩ := own_form hown
    by_cases h1 : k < 32
    · obtain ⟨hc, hc1, hc2⟩ := hf.cells k h1
      have hfz := blk_frozen hf.hb
      have hxl := exL_le st k
      have hL := hide (exL_succ st k)
      rw [exSt_at] at hc hc1 hc2
      rcases hst : st k with _ | ⟨x0, m0⟩
      · have hex : exAt st k = none := by simp [exAt, hst]
        have hrel' : RExecRel w r st (.slice va (exL st k).length vcap) (.int .i64 ((k : Int) + 1)) wr :=
          ⟨k + 1, by omega, by go_num, by rw [hL.out, hex]; simpa using hown, by rw [exSt_same hex]; exact ⟨cs, hf⟩, hfr⟩
        have hrel' := hide hrel'
        rw [hst] at hc1
        simp only [Option.isSome_none] at hc1
        clear hex hown
        go_wp2
        go_roundw
        case rel => exact hrel'.out
        case measure => simp [intOf]; omega
      · rw [hst] at hc hc1 hc2
        simp only [Option.isSome_some, rx, rm] at hc hc1 hc2
        cases m0 with
        | false =>
          have hex : exAt st k = none := by simp [exAt, hst]
          have hrel' : RExecRel w r st (.slice va (exL st k).length vcap) (.int .i64 ((k : Int) + 1)) wr :=
            ⟨k + 1, by omega, by go_num, by rw [hL.out, hex]; simpa using hown, by rw [exSt_same hex]; exact ⟨cs, hf⟩, hfr⟩
          have hrel' := hide hrel'
          clear hex hown
          go_wp2
          go_roundw
          case rel => exact hrel'.out
          case measure => simp [intOf]; omega
        | true =>
          have hex : exAt st k = some x0 := by simp [exAt, hst]
          have Hex := hide hex
          have Hst := hide hst
          have hrs := hfr.size
          clear hex hst
          go_wp2_with (at_builtin; refine wpList_append_own _ rfl _ _ 22 rfl w.heap.size 3 i0 (.int .i64 0) 1 8 Try.underlying22 hi hz0 hz1 hz2 rfl (by decide) _ _ _ rfl (hown.alloc _) ⟨wr.heap.size, 0, none⟩ 1 1 [.int .i64 x0] rfl rfl ?c1 ?c2 ?c3 ?c4 ?c5 ?_)
          case c1 => exact cell_one_new _ _ _
          case c2 => intro u hu; simp at hu; subst hu; rfl
          case c3 => unfold maxLen; omega
          case c4 => omega
          case c5 => simp; omega
          intro v' w1 hown' hgrow _
          have hnb : ¬ (Value.slice va (exL st k).length vcap).ownBlock = some r := fun e => by have := (hown.lt _ e).1; omega
          have hf1 : Fr (fun q => (Value.slice va (exL st k).length vcap).ownBlock = some q) wr w1 := ((Fr.refl _ _).alloc _).trans (Fr.of_grown hgrow)
          have hb1 := hf1.get hf.hb hnb
          have hf2 : RefF w1 r (exSt st k) cs := ⟨hb1, hf.hcs, hf.hx, hf.hi, hf.hm⟩
          have hfr1 : Fr (fun q => q = r) w w1 := hfr.trans' hf1 (fun q hq e => by have := (hown.lt _ e).1; omega)
          have hset := hf2.set k h1 none
          obtain ⟨hc, hc1, hc2⟩ := hf2.cells k h1
          have hfz := blk_frozen hf2.hb
          have hrel' : RExecRel w r st v' (.int .i64 ((k : Int) + 1)) (((w1.setCell ⟨r, k * 3, none⟩ (.int .i64 0)).setCell ⟨r, k * 3 + 1, none⟩ (.bool false)).setCell ⟨r, k * 3 + 2, none⟩ (.bool false)) := by
            refine ⟨k + 1, by omega, by go_num, ?_, ?_, hfr1.trans (fr3 _ _ _ _ _ _ _ _)⟩
            · have e1 : (exL st (k + 1)).length = (exL st k).length + 1 := by rw [hL.out, Hex.out]; simp
              have e2 : ints (exL st (k + 1)) = ints (exL st k) ++ [.int .i64 x0] := by rw [hL.out, Hex.out]; simp [ints]
              rw [e1, e2]
              exact own_frame hown' (fr3 _ _ _ _ _ _ _ _) (fun g e1 e2 => by
                have := (hown'.lt _ e1).1
                omega)
            · rw [exSt_cut Hst.out]
              simpa [rx, rm] using hset
          have hrel' := hide hrel'
          clear hset hown hown' hgrow hf1 hb1 hnb
          go_wp2
          go_roundw
          case rel => exact hrel'.out
          case measure => simp [intOf]; omega
    · have e : k = 32 := by omega
      subst e
      have hfin : RExecPost w r st (.returned (.slice va (exL st 32).length vcap)) wr := ⟨_, rfl, hown, ⟨cs, hf⟩, hfr⟩
      clear hown
      go_wp2
      go_ret
      exact hfin
end Go.Proofs.Ytcoaggghabdndaa
