/- The walk of VarsShifts: it returns true and leaves old memory as it was. Conditions: what the parameters are. -/
import Derived.Test.YtcojeojmodjmdaaVarsF
namespace Go.Proofs.Ytcojeojmodjmdaa
open Go.RowKit

theorem VarsAt.narrow {w w' : World} {b : Nat} {M : KA VR} {args : List ByteArray} {S S' : Nat → Prop} (h : VarsAt w b M args S) (hf : Fr (fun _ => False) w w') (h1 : ∀ k, k < w.heap.size → S k → S' k) (h2 : ∀ k, w'.heap.size ≤ k → S' k) : VarsAt w' b M args S' := by
  obtain ⟨mb, av, h⟩ := h
  have h' := h.frame hf (fun _ _ _ e => e)
  refine ⟨mb, av, h'.hb, h'.hm, h'.ne, ?_, h1 _ (blk_lt h.hb) h.own, h1 _ h.hm.lt h.ownm, h2, h.len, h.sz⟩
  exact (h.ha.mono h1).frame hf (fun _ _ _ e => e)
theorem VarsAt.lt {w : World} {b : Nat} {M : KA VR} {args : List ByteArray} {S : Nat → Prop} (h : VarsAt w b M args S) : b < w.heap.size := by
  obtain ⟨mb, av, h⟩ := h
  exact blk_lt h.hb
theorem VarsAt.own' {w : World} {b : Nat} {M : KA VR} {args : List ByteArray} {S : Nat → Prop} (h : VarsAt w b M args S) : S b := by
  obtain ⟨mb, av, h⟩ := h
  exact h.own
set_option maxRecDepth 100000 in
set_option maxHeartbeats 4000000 in
theorem vshifts_walk (l : List ByteArray) (v : Value) (a b : Int) (W : World) (hv : ArgsV W (fun k => k < W.heap.size) v l) (hlen : l.length ≤ 9223372036854775807) (ha1 : -9223372036854775808 ≤ a) (ha2 : a ≤ 9223372036854775807) (hb1 : -9223372036854775808 ≤ b) (hb2 : b ≤ 9223372036854775807) :
    Calls Try.prog 4 #[v, .int .i64 a, .int .i64 b] W (LawPost W) := by
  obtain ⟨la, lc, rfl⟩ := hv.form
  go_enter Try.func4, Try.ntmps4
  go_wp2_with fail
  refine (vawake_any _).mono ?_
  rintro e w0 ⟨rfl, hf0⟩
  have hv0 := hv.frame hf0 (fun _ _ _ e => e)
  have hout : LawPost W (.returned (.bool true)) w0 := ⟨rfl, hf0.below (fun _ _ h => h)⟩
  have hout := hide hout
  have hF := hide hf0
  clear hf0 hv
  by_cases c1 : 200 < l.length
  · go_wp2_with fail
    go_ret
    exact hout.out
  by_cases c2 : a < 0
  · go_wp2_with fail
    go_ret
    exact hout.out
  by_cases c3 : b < 0
  · go_wp2_with fail
    go_ret
    exact hout.out
  by_cases c4 : 300 < a
  · go_wp2_with fail
    go_ret
    exact hout.out
  by_cases c5 : 300 < b
  · go_wp2_with fail
    go_ret
    exact hout.out
  clear hout
  obtain ⟨x, rfl⟩ := Int.eq_ofNat_of_zero_le (Int.not_lt.1 c2)
  obtain ⟨y, rfl⟩ := Int.eq_ofNat_of_zero_le (Int.not_lt.1 c3)
  go_wp2_with fail
  refine (vnew_any _).mono ?_
  rintro e w1 ⟨b1, rfl, h1, hf1⟩
  go_wp2_with fail
  refine (vnew_any _).mono ?_
  rintro e w2 ⟨b2, rfl, h2, hf2⟩
  have hb1lt := h1.lt
  have hb1o := h1.own'
  have hb2o := h2.own'
  have hb2lt := h2.lt
  have h1' : VarsAt w2 b1 [] [] (fun k => w0.heap.size ≤ k ∧ k ≠ b2) := h1.narrow hf2 (fun k hk hs => ⟨hs, by omega⟩) (fun k hk => ⟨by have := hf1.size; have := hf2.size; omega, by omega⟩)
  have hv2 := (hv0.frame hf1 (fun _ _ _ e => e)).frame hf2 (fun _ _ _ e => e)
  have hF2 : Fr (fun k => W.heap.size ≤ k) W w2 := ((hF.out.trans hf1).trans hf2).mono (fun _ _ e => e.elim)
  have hs0 := hF.out.size
  have hs1 := hf1.size
  clear h1 hv0 hF hf1 hf2
  go_wp2_with fail
  refine (setargs_any _ _ _ _ _ h1' _ l _ hv2 hlen).mono ?_
  rintro e w3 ⟨rfl, h1, hf3⟩
  have hE : setargsE l = 0 := by unfold setargsE; rw [if_neg c1]
  have hM : setargsM l [] = l := by unfold setargsM; rw [if_neg c1]
  rw [hM] at h1
  rw [hE]
  clear h1'
  have h2 := h2.frame hf3 (fun k _ hk e => by omega)
  have hv3 := hv2.frame hf3 (fun k _ hk e => by omega)
  have hF3 := hF2.trans' hf3 (fun k _ e => by omega)
  clear hf3 hv2 hF2
  go_wp2_with fail
  refine (setargs_any _ _ _ _ _ h2 _ l _ hv3 hlen).mono ?_
  rintro e w4 ⟨rfl, h2', hf4⟩
  rw [hM] at h2'
  rw [show setargsE l = 0 by unfold setargsE; rw [if_neg c1]]
  clear h2 hM
  have h1 := h1.frame hf4 (fun k _ hk e => by omega)
  have h2 := h2'
  clear h2'
  have hv4 := hv3.frame hf4 (fun k _ hk e => by omega)
  have hF4 := hF3.trans' hf4 (fun k _ e => by omega)
  clear hf4 hv3 hF3
  by_cases d1 : x ≤ l.length
  · have e1 : shiftE (x : Int) l = 0 := by unfold shiftE; rw [if_neg (by omega)]
    have m1 : shiftM (x : Int) l = l.drop x := by unfold shiftM; rw [if_neg (by omega)]; simp
    go_wp2_with fail
    refine (shift_any _ _ _ _ _ h1 (x : Int) (by omega)).mono ?_
    rintro e w5 ⟨rfl, h1', hf5⟩
    rw [m1] at h1'
    rw [e1]
    clear e1 m1 h1
    have h2 := h2.frame hf5 (fun k _ hk e => by omega)
    have hv5 := hv4.frame hf5 (fun k _ hk e => by omega)
    have hF5 := hF4.trans' hf5 (fun k _ e => by omega)
    clear hf5 hv4 hF4
    have hdl : (l.drop x).length = l.length - x := by simp
    go_wp2_with fail
    refine (shift_any _ _ _ _ _ h1' (y : Int) (by omega)).mono ?_
    rintro e w6 ⟨rfl, h1, hf6⟩
    clear h1'
    have h2 := h2.frame hf6 (fun k _ hk e => by omega)
    have hv6 := hv5.frame hf6 (fun k _ hk e => by omega)
    have hF6 := hF5.trans' hf6 (fun k _ e => by omega)
    clear hf6 hv5 hF5
    by_cases d2 : x + y ≤ l.length
    · have e1 : shiftE (y : Int) (l.drop x) = 0 := by unfold shiftE; rw [if_neg (by omega)]
      have m1 : shiftM (y : Int) (l.drop x) = l.drop (x + y) := by unfold shiftM; rw [if_neg (by omega)]; simp
      have e2 : shiftE ((x : Int) + (y : Int)) l = 0 := by unfold shiftE; rw [if_neg (by omega)]
      have m2 : shiftM ((x : Int) + (y : Int)) l = l.drop (x + y) := by unfold shiftM; rw [if_neg (by omega)]; simp; congr 1
      rw [m1] at h1
      rw [e1]
      clear e1 m1
      go_wp2_with fail
      refine (shift_any _ _ _ _ _ h2 _ (by omega)).mono ?_
      rintro e w7 ⟨rfl, h2', hf7⟩
      rw [m2] at h2'
      rw [e2]
      clear e2 m2 h2
      have h1 := h1.frame hf7 (fun k _ hk e => by omega)
      have hv7 := hv6.frame hf7 (fun k _ hk e => by omega)
      have hF7 := hF6.trans' hf7 (fun k _ e => by omega)
      clear hf7 hv6 hF6
      have hdl2 : (l.drop (x + y)).length = l.length - (x + y) := by simp
      have hd := hv7.drop (x + y) d2
      obtain ⟨la', lc', he, hcap, hnone, _⟩ := id hv7
      cases he
      have hsplit : (la = none ∧ lc = 0 ∧ l.length = 0 ∧ x = 0 ∧ y = 0 ∧ ArgsV w7 (fun k => k < W.heap.size) (.slice none 0 0) (l.drop (x + y))) ∨ ∃ ad, la = some ad ∧ ((lc = x + y ∧ l.length = x + y ∧ ArgsV w7 (fun k => k < W.heap.size) (.slice (some ad) 0 0) (l.drop (x + y))) ∨ (lc ≠ x + y ∧ ArgsV w7 (fun k => k < W.heap.size) (.slice (some (ad.add (x + y))) (l.length - (x + y)) (lc - (x + y))) (l.drop (x + y)))) := by
        cases la with
        | none =>
          have := hnone rfl
          have e0 : l = [] := List.eq_nil_of_length_eq_zero (by omega)
          exact .inl ⟨rfl, this, by omega, by omega, by omega, by rw [e0]; exact ⟨none, 0, by simp, by simp, fun _ => rfl, .inl (by simp)⟩⟩
        | some ad =>
          refine .inr ⟨ad, rfl, ?_⟩
          by_cases hc : lc = x + y
          · exact .inl ⟨hc, by omega, by rw [List.drop_eq_nil_of_le (by omega)]; exact ⟨some ad, 0, by simp, by simp, fun e => by simp at e, .inl rfl⟩⟩
          · exact .inr ⟨hc, hd⟩
      clear hd hnone hv7
      rcases hsplit with ⟨rfl, rfl, hl0, rfl, rfl, hvs⟩ | ⟨ad, rfl, ⟨hlc, hll, hvs⟩ | ⟨hlc, hvs⟩⟩
      all_goals
        go_wp2_with fail
        refine (args_any _ _ _ _ _ h1 (by omega)).mono ?_
        rintro e w8 ⟨v8, rfl, ha8, hf8⟩
        have h2 := h2'.frame hf8 (fun _ _ _ e => e)
        have hvs := hvs.frame hf8 (fun _ _ _ e => e)
        have hF8 := hF7.trans' hf8 (fun _ _ e => e.elim)
        clear hf8 h2' hF7
        go_wp2_with fail
        refine (texts_any _ _ _ _ _ _ _ ha8 hvs (by omega) (by omega)).mono ?_
        rintro e w9 ⟨rfl, hf9⟩
        rw [decide_eq_true rfl]
        have h2 := h2.frame hf9 (fun _ _ _ e => e)
        have hvs := hvs.frame hf9 (fun _ _ _ e => e)
        have hF9 := hF8.trans' hf9 (fun _ _ e => e.elim)
        clear hf9 hF8 ha8
        go_wp2_with fail
        refine (args_any _ _ _ _ _ h2 (by omega)).mono ?_
        rintro e w10 ⟨v10, rfl, ha10, hf10⟩
        have hvs := hvs.frame hf10 (fun _ _ _ e => e)
        have hF10 := hF9.trans' hf10 (fun _ _ e => e.elim)
        clear hf10 hF9
        go_wp2_with fail
        refine (texts_any _ _ _ _ _ _ _ ha10 hvs (by omega) (by omega)).mono ?_
        rintro e w11 ⟨rfl, hf11⟩
        rw [decide_eq_true rfl]
        have hF11 := hF10.trans' hf11 (fun _ _ e => e.elim)
        clear hf11 hF10
        go_wp2_with fail
        go_ret
        exact ⟨rfl, hF11.below (fun i hi h => by omega)⟩
    · have e1 : shiftE (y : Int) (l.drop x) = 22 := by unfold shiftE; rw [if_pos (by omega)]
      have e2 : shiftE ((x : Int) + (y : Int)) l = 22 := by unfold shiftE; rw [if_pos (by omega)]
      have m2 : shiftM ((x : Int) + (y : Int)) l = l := by unfold shiftM; rw [if_pos (by omega)]
      rw [e1]
      clear e1
      go_wp2_with fail
      refine (shift_any _ _ _ _ _ h2 _ (by omega)).mono ?_
      rintro e w7 ⟨rfl, h2', hf7⟩
      rw [m2] at h2'
      rw [e2]
      clear e2 m2 h2
      have hv7 := hv6.frame hf7 (fun k _ hk e => by omega)
      have hF7 := hF6.trans' hf7 (fun k _ e => by omega)
      clear hf7 hv6 hF6
      go_wp2_with fail
      refine (args_any _ _ _ _ _ h2' (by omega)).mono ?_
      rintro e w8 ⟨v8, rfl, ha8, hf8⟩
      have hv8 := hv7.frame hf8 (fun _ _ _ e => e)
      have hF8 := hF7.trans' hf8 (fun _ _ e => e.elim)
      clear hf8 h2' hF7
      go_wp2_with fail
      refine (texts_any _ _ _ _ _ _ _ ha8 hv8 (by omega) (by omega)).mono ?_
      rintro e w9 ⟨rfl, hf9⟩
      rw [decide_eq_true rfl]
      have hF9 := hF8.trans' hf9 (fun _ _ e => e.elim)
      clear hf9 hF8 ha8
      go_wp2_with fail
      go_ret
      exact ⟨ret_bool (by simp; omega), hF9.below (fun i hi h => by omega)⟩
  · have e1 : shiftE (x : Int) l = 22 := by unfold shiftE; rw [if_pos (by omega)]
    have e2 : shiftE ((x : Int) + (y : Int)) l = 22 := by unfold shiftE; rw [if_pos (by omega)]
    have m2 : shiftM ((x : Int) + (y : Int)) l = l := by unfold shiftM; rw [if_pos (by omega)]
    go_wp2_with fail
    refine (shift_any _ _ _ _ _ h1 (x : Int) (by omega)).mono ?_
    rintro e w5 ⟨rfl, h1', hf5⟩
    rw [e1]
    clear e1 h1 h1'
    have h2 := h2.frame hf5 (fun k _ hk e => by omega)
    have hv5 := hv4.frame hf5 (fun k _ hk e => by omega)
    have hF5 := hF4.trans' hf5 (fun k _ e => by omega)
    clear hf5 hv4 hF4
    go_wp2_with fail
    refine (shift_any _ _ _ _ _ h2 _ (by omega)).mono ?_
    rintro e w7 ⟨rfl, h2', hf7⟩
    rw [m2] at h2'
    rw [e2]
    clear e2 m2 h2
    have hv7 := hv5.frame hf7 (fun k _ hk e => by omega)
    have hF7 := hF5.trans' hf7 (fun k _ e => by omega)
    clear hf7 hv5 hF5
    go_wp2_with fail
    refine (args_any _ _ _ _ _ h2' (by omega)).mono ?_
    rintro e w8 ⟨v8, rfl, ha8, hf8⟩
    have hv8 := hv7.frame hf8 (fun _ _ _ e => e)
    have hF8 := hF7.trans' hf8 (fun _ _ e => e.elim)
    clear hf8 h2' hF7
    go_wp2_with fail
    refine (texts_any _ _ _ _ _ _ _ ha8 hv8 (by omega) (by omega)).mono ?_
    rintro e w9 ⟨rfl, hf9⟩
    rw [decide_eq_true rfl]
    have hF9 := hF8.trans' hf9 (fun _ _ e => e.elim)
    clear hf9 hF8 ha8
    go_wp2_with fail
    go_ret
    exact ⟨ret_bool (by simp; omega), hF9.below (fun i hi h => by omega)⟩
theorem vshifts_walk1 (a : Option Addr) (len cap : Nat) (x y : Int) (W : World) (h : StrRow W a len cap) (x1 : -9223372036854775808 ≤ x) (x2 : x ≤ 9223372036854775807) (y1 : -9223372036854775808 ≤ y) (y2 : y ≤ 9223372036854775807) :
    Calls Try.prog 4 #[.slice a len cap, .int .i64 x, .int .i64 y] W (LawPost W) := by
  obtain ⟨l, hl, h⟩ := h
  exact vshifts_walk l _ x y W h hl x1 x2 y1 y2
end Go.Proofs.Ytcojeojmodjmdaa
