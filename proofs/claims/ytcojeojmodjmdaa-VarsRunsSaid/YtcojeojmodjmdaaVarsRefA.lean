/- The document's variables (shyardref14): what lies where; find, at, Get. Conditions: each contract's own premises. -/
import Derived.Test.YtcojeojmodjmdaaVarsExpL
import Derived.Test.YtcojeojmodjmdaaVarsFixedW
import Derived.Handy
namespace Go.Proofs.Ytcojeojmodjmdaa
open Go.RowKit

def vcells (p : List UInt8 × VR) : List Value := [.string ⟨p.1.toArray⟩, .string p.2.value, .bool p.2.e, .bool p.2.r, .bool p.2.u]
def lcells (M : KA VR) : List Value := M.flatMap vcells
theorem lcells_cons (p : List UInt8 × VR) (M : KA VR) : lcells (p :: M) = vcells p ++ lcells M := by simp [lcells]
theorem lcells_append (M M' : KA VR) : lcells (M ++ M') = lcells M ++ lcells M' := by simp [lcells]
theorem lcells_len : ∀ M : KA VR, (lcells M).length = M.length * 5
  | [] => rfl
  | p :: r => by rw [lcells_cons, List.length_append, lcells_len r, List.length_cons]; simp [vcells]; omega
theorem lcells_get : ∀ (M : KA VR) (k : Nat) (hk : k < M.length) (j : Nat), j < 5 → (lcells M)[k * 5 + j]? = (vcells M[k])[j]?
  | p :: r, 0, _, j, hj => by
    rw [lcells_cons, Nat.zero_mul, Nat.zero_add, List.getElem?_append_left (by simpa [vcells] using hj)]; rfl
  | p :: r, k + 1, hk, j, hj => by
    rw [lcells_cons, List.getElem?_append_right (by simp [vcells]; omega)]
    rw [show (k + 1) * 5 + j - (vcells p).length = k * 5 + j by simp [vcells]; omega]
    exact lcells_get r k (by simpa using hk) j hj
/-- The document's variables lie in block r. -/
structure RvF (w : World) (r : Nat) (M : KA VR) (args : List ByteArray) (S : Nat → Prop) (lv av : Value) : Prop where
  hb : w.heap[r]? = some (.cells #[lv, av] 46 (0, 0))
  hl : w.ownsRow 0 67 5 lv M.length (lcells M)
  ownl : ∀ g, lv.ownBlock = some g → S g
  ha : ArgsV w S av args
  own : S r
  up : ∀ k, w.heap.size ≤ k → S k
def RvAt (w : World) (r : Nat) (M : KA VR) (args : List ByteArray) (S : Nat → Prop) : Prop := ∃ lv av, RvF w r M args S lv av
theorem RvF.frame {w w' : World} {r : Nat} {M : KA VR} {args : List ByteArray} {S S' : Nat → Prop} {lv av : Value} (h : RvF w r M args S lv av) (hf : Fr S' w w') (hd : ∀ k, k < w.heap.size → S k → ¬ S' k) : RvF w' r M args S lv av where
  hb := hf.get h.hb (hd _ (blk_lt h.hb) h.own)
  hl := own_frame h.hl hf (fun g e => hd _ (h.hl.lt g e).2 (h.ownl g e))
  ownl := h.ownl
  ha := h.ha.frame hf hd
  own := h.own
  up k hk := h.up k (Nat.le_trans hf.size hk)
theorem RvAt.frame {w w' : World} {r : Nat} {M : KA VR} {args : List ByteArray} {S S' : Nat → Prop} (h : RvAt w r M args S) (hf : Fr S' w w') (hd : ∀ k, k < w.heap.size → S k → ¬ S' k) : RvAt w' r M args S := by
  obtain ⟨lv, av, h⟩ := h
  exact ⟨lv, av, h.frame hf hd⟩
theorem RvAt.up' {w : World} {r : Nat} {M : KA VR} {args : List ByteArray} {S : Nat → Prop} (h : RvAt w r M args S) (k : Nat) (hk : w.heap.size ≤ k) : S k := by
  obtain ⟨_, _, h⟩ := h
  exact h.up k hk
/-- Its list, cell by cell. -/
theorem RvF.row {w : World} {r : Nat} {M : KA VR} {args : List ByteArray} {S : Nat → Prop} {lv av : Value} (h : RvF w r M args S lv av) :
    ∃ la lc, lv = .slice la M.length lc ∧ M.length ≤ lc ∧ (la = none → lc = 0) ∧ (M.length = 0 ∨ ∃ g, la = some ⟨g, 0, none⟩ ∧ g ≠ r ∧ g < w.heap.size ∧ ∀ k (hk : k < M.length), w.cell? ⟨g, k * 5, none⟩ = some (.string ⟨M[k].1.toArray⟩) ∧ w.cell? ⟨g, k * 5 + 1, none⟩ = some (.string M[k].2.value) ∧
      w.cell? ⟨g, k * 5 + 2, none⟩ = some (.bool M[k].2.e) ∧ w.cell? ⟨g, k * 5 + 3, none⟩ = some (.bool M[k].2.r) ∧ w.cell? ⟨g, k * 5 + 4, none⟩ = some (.bool M[k].2.u)) := by
  have hl := h.hl
  rcases hl.2 with ⟨rfl, h2⟩ | ⟨g, cap, cur, rfl, hb, hg, hn, hm, hs, ht⟩
  · exact ⟨none, 0, by rw [h2], by omega, fun _ => rfl, .inl h2⟩
  · refine ⟨_, cap, rfl, hn, (fun e => nomatch e), .inr ⟨g, rfl, ?_, blk_lt hg, fun k hk => ?_⟩⟩
    · rintro rfl
      rw [h.hb] at hg
      cases hg
    · have key : ∀ j, j < 5 → w.cell? ⟨g, k * 5 + j, none⟩ = (vcells M[k])[j]? := fun j hj => by
        rw [hl.cellAt (k * 5 + j) (by omega), lcells_get M k hk j hj]
      exact ⟨key 0 (by omega), key 1 (by omega), key 2 (by omega), key 3 (by omega), key 4 (by omega)⟩
theorem kget_first {α : Type} {s : List UInt8} : ∀ {M : KA α} {k : Nat} (hk : k < M.length), (∀ j (hj : j < M.length), j < k → M[j].1 ≠ s) → M[k].1 = s → kget s M = some M[k].2
  | p :: r, 0, _, _, he => by rw [kget_cons, if_pos (by simpa using he)]; rfl
  | p :: r, k + 1, hk, hn, he => by
    rw [kget_cons, if_neg (by have := hn 0 (by simp) (by omega); simpa using this)]
    exact kget_first (by simpa using hk) (fun j hj hlt => hn (j + 1) (by simpa using hj) (by omega)) he
theorem kget_all {α : Type} {s : List UInt8} {M : KA α} (hn : ∀ j (hj : j < M.length), M[j].1 ≠ s) : kget s M = none :=
  kget_of_none fun p hp => by
    obtain ⟨j, hj, rfl⟩ := List.getElem_of_mem hp
    exact hn j hj
def FindPost (w : World) (M : KA VR) (s : List UInt8) (e : Ending) (w' : World) : Prop :=
  w = w' ∧ ((∃ k, ∃ hk : k < M.length, e = .returned (.int .i64 k) ∧ M[k].1 = s ∧ kget s M = some M[k].2) ∨ (e = .returned (.int .i64 (-1)) ∧ kget s M = none))
def FindRel (w : World) (M : KA VR) (s : List UInt8) (gk : Nat) (i : Value) (wr : World) : Prop := ∃ k : Nat, gk + k = M.length ∧ i = .int .i64 k ∧ w = wr ∧ ∀ j (hj : j < M.length), j < k → M[j].1 ≠ s
set_option maxRecDepth 100000 in
set_option maxHeartbeats 2000000 in
theorem rfind_any (w : World) (r : Nat) (M : KA VR) (args : List ByteArray) (S : Nat → Prop) (h : RvAt w r M args S) (hM : M.length ≤ 64) (s : ByteArray) :
    Calls Try.prog 35 #[.pointer (some ⟨r, 0, none⟩), .string s] w (FindPost w M s.data.toList) := by
  obtain ⟨lv, av, hf⟩ := h
  obtain ⟨la, lc, rfl, hlc, hnone, hrow⟩ := hf.row
  have c0 : w.cell? ⟨r, 0, none⟩ = some (.slice la M.length lc) := by rw [blk_cell hf.hb]; rfl
  have Hrow := hide hrow
  obtain ⟨n, hn⟩ : ∃ n, n = M.length := ⟨_, rfl⟩
  rw [← hn] at c0 hlc hM
  have Hn := hide hn
  clear hrow hn hnone
  go_enter Try.func35, Try.ntmps35
  go_wp2_with fail
  go_loopg [5] n (fun gk i wr => FindRel w M s.data.toList gk i wr)
  case atStart => exact ⟨0, by have := Hn.out; omega, rfl, rfl, fun j hj h0 => by omega⟩
  case round =>
    obtain ⟨k, hgk, rfl, rfl, hno⟩ := hrel
    have Hno := hide hno
    have Hgk := hide hgk
    clear hno hgk
    by_cases hlt : k < n
    · have hltM : k < M.length := by have := Hn.out; omega
      obtain ⟨g, rfl, hgr, hg, hc⟩ := Hrow.out.resolve_left (by have := Hn.out; omega)
      obtain ⟨d0, -, -, -, -⟩ := hc k hltM
      clear hc
      have hlti : (k : Int) < (n : Int) := by omega
      by_cases hs : (⟨M[k].1.toArray⟩ : ByteArray) = s
      · have he : M[k].1 = s.data.toList := by rw [← hs]
        have hfin := hide (show FindPost w M s.data.toList (.returned (.int .i64 k)) w from ⟨rfl, .inl ⟨k, hltM, rfl, he, kget_first hltM Hno.out he⟩⟩)
        rw [hs] at d0
        clear hs he hltM
        go_wp2_with fail
        go_ret
        exact hfin.out
      · have he : M[k].1 ≠ s.data.toList := fun e => hs (by rw [e, ba_back])
        have hnn := ba_bne hs
        have hnext : ∀ j (hj : j < M.length), j < k + 1 → M[j].1 ≠ s.data.toList := fun j hj hlt => by
          rcases Nat.lt_or_ge j k with h1 | h1
          · exact Hno.out j hj h1
          · obtain rfl : j = k := by omega
            exact he
        have Hnext := hide hnext
        clear he hnext hs
        generalize (⟨M[k].1.toArray⟩ : ByteArray) = q at d0 hnn
        go_wp2_with fail
        go_roundg (gk - 1)
        case measure => have := Hgk.out; have := Hn.out; omega
        case rel => exact ⟨k + 1, by have := Hgk.out; have := Hn.out; omega, by go_num, rfl, Hnext.out⟩
    · have hfin := hide (show FindPost w M s.data.toList (.returned (.int .i64 (-1))) w from ⟨rfl, .inr ⟨rfl, kget_all fun j hj => Hno.out j hj (by have := Hn.out; omega)⟩⟩)
      have hlti : ¬ (k : Int) < (n : Int) := by omega
      go_wp2_with fail
      go_ret
      exact hfin.out
def atX (M : KA VR) (s : List UInt8) : VR := (kget s M).getD ⟨⟨#[]⟩, false, false, true⟩
set_option maxRecDepth 100000 in
set_option maxHeartbeats 2000000 in
theorem rat_any (w : World) (r : Nat) (M : KA VR) (args : List ByteArray) (S : Nat → Prop) (h : RvAt w r M args S) (hM : M.length ≤ 64) (s : ByteArray) :
    Calls Try.prog 33 #[.pointer (some ⟨r, 0, none⟩), .string s] w fun e w' => e = .returned (venc s.data.toList (atX M s.data.toList)) ∧ Fr (fun _ => False) w w' := by
  go_enter Try.func33, Try.ntmps33
  obtain ⟨W1, hW1⟩ : ∃ W1, W1 = w.alloc (.cells #[.string ⟨#[]⟩, .string ⟨#[]⟩, .bool false, .bool false, .bool false] 67 (0, 0)) := ⟨_, rfl⟩
  have hf1 : Fr (fun _ => False) w W1 := by rw [hW1]; exact (Fr.refl _ _).alloc _
  have hb1 : W1.heap[w.heap.size]? = some (.cells #[.string ⟨#[]⟩, .string ⟨#[]⟩, .bool false, .bool false, .bool false] 67 (0, 0)) := by rw [hW1]; exact blk_new _ _
  have hr1 := h.frame hf1 (fun _ _ _ e => e)
  go_wp2_with fail
  rw [← hW1]
  refine (rfind_any _ _ _ _ _ hr1 hM s).mono ?_
  rintro e w' ⟨rfl, (⟨k, hk, rfl, he, hg⟩ | ⟨rfl, hg⟩)⟩
  · have hx : atX M s.data.toList = M[k].2 := by unfold atX; rw [hg]; rfl
    obtain ⟨lv, av, hf⟩ := hr1
    obtain ⟨la, lc, rfl, hlc, hnone, hrow⟩ := hf.row
    obtain ⟨g, rfl, hgr, hgl, hc⟩ := hrow.resolve_left (by omega)
    obtain ⟨d0, d1, d2, d3, d4⟩ := hc k hk
    have c0 : W1.cell? ⟨r, 0, none⟩ = some (.slice (some ⟨g, 0, none⟩) M.length lc) := by rw [blk_cell hf.hb]; rfl
    obtain ⟨x, hxe⟩ : ∃ x, x = M[k].2 := ⟨_, rfl⟩
    rw [← hxe] at d1 d2 d3 d4 hx
    obtain ⟨v, e, ro, u⟩ := x
    simp only at d1 d2 d3 d4
    clear hxe
    rw [he] at d0
    rw [ba_back] at d0
    have hkl : (k : Int) < (M.length : Int) := by omega
    clear hf hrow hc hM hg
    generalize M.length = n at c0 hkl hlc
    subst hW1
    go_wp2_with fail
    rw [hx]
    go_returns
    exact ⟨rfl, (Fr.refl _ _).alloc _⟩
  · have hx : atX M s.data.toList = ⟨⟨#[]⟩, false, false, true⟩ := by unfold atX; rw [hg]; rfl
    go_wp2_with fail
    rw [hx]
    go_returns
    exact ⟨rfl, (Fr.refl _ _).alloc _⟩
end Go.Proofs.Ytcojeojmodjmdaa
