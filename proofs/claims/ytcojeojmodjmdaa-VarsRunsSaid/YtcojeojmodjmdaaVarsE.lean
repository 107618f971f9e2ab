/- vars.Vars: Shift, Args, Copy; the document's Texts. Conditions: each contract's own premises. -/
import Derived.Test.YtcojeojmodjmdaaVarsD
namespace Go.Proofs.Ytcojeojmodjmdaa
open Go.RowKit

theorem ArgsV.drop {w : World} {S : Nat → Prop} {a : Option Addr} {n cap : Nat} {l : List ByteArray} (h : ArgsV w S (.slice a n cap) l) (k : Nat) (hk : k ≤ n) :
    ArgsV w S (.slice (a.map (fun x => x.add k)) (n - k) (cap - k)) (l.drop k) := by
  obtain ⟨a', cap', h1, h2, h3, h4⟩ := h
  cases h1
  refine ⟨a.map (fun x => x.add k), cap - k, by simp, by simp; omega, fun e => by have := h3 (by simpa using e); omega, ?_⟩
  rcases h4 with h4 | ⟨g, o, h5, h6, h7, h8⟩
  · exact .inl (by simp [h4])
  · subst h5
    refine .inr ⟨g, o + k, by simp [Addr.add_lit], h6, h7, fun j hj => ?_⟩
    simp only [List.length_drop] at hj
    rw [List.getElem_drop, Nat.add_assoc]
    exact h8 (k + j) (by omega)
set_option maxRecDepth 100000 in
set_option maxHeartbeats 1000000 in
theorem shift_any (w : World) (b : Nat) (M : KA VR) (args : List ByteArray) (S : Nat → Prop) (h : VarsAt w b M args S) (n : Int) (hlen : args.length ≤ 200) :
    Calls Try.prog 15 #[.pointer (some ⟨b, 0, none⟩), .int .i64 n] w (ArgsPost w b M (shiftM n args) S (shiftE n args)) := by
  obtain ⟨mb, av, hf⟩ := id h
  obtain ⟨a, cap, rfl⟩ := hf.ha.form
  have hc1 : w.cell? ⟨b, 1, none⟩ = some (.slice a args.length cap) := by rw [blk_cell hf.hb]; rfl
  have hz1 := blk_frozen hf.hb
  have hlt := blk_lt hf.hb
  by_cases h0 : n < 0
  · unfold shiftE shiftM
    rw [if_pos (.inl h0), if_pos (.inl h0)]
    go_enter Try.func15, Try.ntmps15
    go_wp2_with fail
    go_ret
    exact ⟨rfl, h, Fr.refl _ _⟩
  by_cases h2 : (args.length : Int) < n
  · unfold shiftE shiftM
    rw [if_pos (.inr h2), if_pos (.inr h2)]
    go_enter Try.func15, Try.ntmps15
    go_wp2_with fail
    go_ret
    exact ⟨rfl, h, Fr.refl _ _⟩
  have hp : ∀ v, ArgsV w S v (args.drop n.toNat) → ArgsPost w b M (shiftM n args) S (shiftE n args) (.returned (.int .i64 0)) (w.setCell ⟨b, 1, none⟩ v) := by
    intro v hv
    unfold shiftE shiftM
    rw [if_neg (by omega), if_neg (by omega)]
    exact ⟨rfl, ⟨_, _, hf.newArgs hv⟩, frSet _ _ _ _⟩
  obtain ⟨k, rfl⟩ := Int.eq_ofNat_of_zero_le (Int.not_lt.1 h0)
  have hk : k ≤ args.length := by omega
  have hd := hf.ha.drop k hk
  rw [Int.toNat_natCast] at hp
  obtain ⟨a', cap', he, hcap, hnone, _⟩ := hf.ha
  cases he
  cases a with
  | none =>
    have hc0 := hnone rfl
    subst hc0
    have hl0 : args.length = 0 := by omega
    have hk0 : k = 0 := by omega
    subst hk0
    have he : args = [] := List.eq_nil_of_length_eq_zero hl0
    have hp := hide (hp (.slice none 0 0) (by rw [he]; exact ⟨none, 0, rfl, by simp, fun _ => rfl, .inl rfl⟩))
    clear hd he
    go_enter Try.func15, Try.ntmps15
    go_wp2_with fail
    go_ret
    exact hp.out
  | some x =>
    by_cases hck : cap = k
    · subst hck
      have he : args.drop cap = [] := List.drop_eq_nil_of_le hcap
      have hp := hide (hp (.slice (some x) 0 0) (by rw [he]; exact ⟨some x, 0, by simp, by simp, fun e => by simp at e, .inl rfl⟩))
      clear hd
      go_enter Try.func15, Try.ntmps15
      go_wp2_with fail
      go_ret
      exact hp.out
    · have hp := hide (hp _ hd)
      clear hd
      go_enter Try.func15, Try.ntmps15
      go_wp2_with fail
      go_ret
      exact hp.out
set_option maxRecDepth 100000 in
set_option maxHeartbeats 1000000 in
theorem args_any (w : World) (b : Nat) (M : KA VR) (args : List ByteArray) (S : Nat → Prop) (h : VarsAt w b M args S) (hlen : args.length ≤ 200) :
    Calls Try.prog 17 #[.pointer (some ⟨b, 0, none⟩)] w (ClonePost w args) := by
  obtain ⟨mb, av, hf⟩ := id h
  have ha := hf.ha
  obtain ⟨a, cap, rfl⟩ := hf.ha.form
  have hc1 : w.cell? ⟨b, 1, none⟩ = some (.slice a args.length cap) := by rw [blk_cell hf.hb]; rfl
  go_enter Try.func17, Try.ntmps17
  go_wp2_with fail
  refine (sclone_any w S _ args ha (by omega)).mono ?_
  rintro e w1 ⟨v', rfl, hv', hf1⟩
  go_wp2_with fail
  go_ret
  exact ⟨_, rfl, hv', hf1⟩
end Go.Proofs.Ytcojeojmodjmdaa
