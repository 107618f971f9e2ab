/- Contracts of the document's table (shyardref11). Conditions: each contract's own premises. -/
import Derived.Test.YtcoaggghabdndaaTabFree
import Derived.Test.YtcoaggghabdndaaOwn
import Derived.Deep.Cut
namespace Go.Proofs.Ytcoaggghabdndaa
open Go.RowKit

def rx (o : Option (Int × Bool)) : Int := match o with | none => 0 | some (x, _) => x
def rm (o : Option (Int × Bool)) : Bool := match o with | none => false | some (_, m) => m
/-- The document's table lies in block r. -/
structure RefF (w : World) (r : Nat) (st : TSt) (cs : Array Value) : Prop where
  hb : w.heap[r]? = some (.cells cs 65 (0, 0))
  hcs : cs.size = 96
  hx : ∀ i, i < 32 → cs[i * 3]? = some (.int .i64 (rx (st i)))
  hi : ∀ i, i < 32 → cs[i * 3 + 1]? = some (.bool (st i).isSome)
  hm : ∀ i, i < 32 → cs[i * 3 + 2]? = some (.bool (rm (st i)))
def RefT (w : World) (r : Nat) (st : TSt) : Prop := ∃ cs, RefF w r st cs
theorem RefT.frame {w w' : World} {r : Nat} {st : TSt} {S : Nat → Prop} (h : RefT w r st) (hf : Fr S w w') (hn : ¬ S r) : RefT w' r st := by
  obtain ⟨cs, h⟩ := h
  exact ⟨cs, hf.get h.hb hn, h.hcs, h.hx, h.hi, h.hm⟩
theorem RefF.set {w : World} {r : Nat} {st : TSt} {cs : Array Value} (h : RefF w r st cs) (fd : Nat) (hfd : fd < 32) (o : Option (Int × Bool)) :
    RefT (((w.setCell ⟨r, fd * 3, none⟩ (.int .i64 (rx o))).setCell ⟨r, fd * 3 + 1, none⟩ (.bool o.isSome)).setCell ⟨r, fd * 3 + 2, none⟩ (.bool (rm o))) r (st.set fd o) := by
  refine ⟨_, blk_set (blk_set (blk_set h.hb _ _) _ _) _ _, by simp [h.hcs], ?_, ?_, ?_⟩
  · intro i hi
    rw [Array.getElem?_setIfInBounds_ne (by omega), Array.getElem?_setIfInBounds_ne (by omega)]
    by_cases e : i = fd
    · subst e; have h9 : i * 3 < 96 := by omega
      simp [TSt.set, h.hcs, h9]
    · rw [Array.getElem?_setIfInBounds_ne (by omega), h.hx i hi]; simp [TSt.set, e]
  · intro i hi
    rw [Array.getElem?_setIfInBounds_ne (by omega)]
    by_cases e : i = fd
    · subst e; have h9 : i * 3 + 1 < 96 := by omega
      simp [TSt.set, h.hcs, h9]
    · rw [Array.getElem?_setIfInBounds_ne (by omega), Array.getElem?_setIfInBounds_ne (by omega), h.hi i hi]; simp [TSt.set, e]
  · intro i hi
    by_cases e : i = fd
    · subst e; have h9 : i * 3 + 2 < 96 := by omega
      simp [TSt.set, h.hcs, h9]
    · rw [Array.getElem?_setIfInBounds_ne (by omega), Array.getElem?_setIfInBounds_ne (by omega), Array.getElem?_setIfInBounds_ne (by omega), h.hm i hi]; simp [TSt.set, e]

theorem RefF.cells {w : World} {r : Nat} {st : TSt} {cs : Array Value} (h : RefF w r st cs) (n : Nat) (hn : n < 32) :
    w.cell? ⟨r, n * 3, none⟩ = some (.int .i64 (rx (st n))) ∧ w.cell? ⟨r, n * 3 + 1, none⟩ = some (.bool (st n).isSome) ∧ w.cell? ⟨r, n * 3 + 2, none⟩ = some (.bool (rm (st n))) := by
  rw [blk_cell h.hb, blk_cell h.hb, blk_cell h.hb]
  exact ⟨h.hx n hn, h.hi n hn, h.hm n hn⟩
theorem at_some {st : TSt} {fd : Int} {y : Int × Bool} (hg : st.at fd = some y) : ∃ n : Nat, fd = n ∧ n < 32 ∧ st n = some y := by
  have hi : inB fd = true := by
    by_cases hi : inB fd = true
    · exact hi
    · simp [TSt.at, hi] at hg
  obtain ⟨n, rfl, hn⟩ := inB_nat hi
  rw [at_in' hn] at hg
  exact ⟨n, rfl, hn, hg⟩
theorem fr1 (w : World) (r i : Nat) (u : Value) : Fr (fun k => k = r) w (w.setCell ⟨r, i, none⟩ u) := (Fr.refl (fun k => k = r) w).setCell (p := ⟨r, i, none⟩) (.inl rfl) u
theorem fr3 (w : World) (r i j k : Nat) (u v x : Value) : Fr (fun k => k = r) w (((w.setCell ⟨r, i, none⟩ u).setCell ⟨r, j, none⟩ v).setCell ⟨r, k, none⟩ x) :=
  ((fr1 w r i u).trans (fr1 _ r j v)).trans (fr1 _ r k x)
theorem rin_any (fd : Int) (w : World) : Calls Try.prog 47 #[.int .i64 fd] w fun e w' => e = .returned (.bool (inB fd)) ∧ w = w' := by
  go_enter Try.func47, Try.ntmps47
  by_cases h1 : 0 ≤ fd
  · by_cases h2 : fd < 32
    · go_wp2
      go_ret
      exact ⟨by simp [inB, h1, h2], rfl⟩
    · go_wp2
      go_ret
      exact ⟨by simp [inB, h1, h2], rfl⟩
  · go_wp2
    go_ret
    exact ⟨by simp [inB]; omega, rfl⟩
theorem rhas_any (w : World) (r : Nat) (st : TSt) (h0 : RefT w r st) (fd : Int) : Calls Try.prog 49 #[.pointer (some ⟨r, 0, none⟩), .int .i64 fd] w fun e w' => e = .returned (.bool (st.at fd).isSome) ∧ w = w' := by
  obtain ⟨cs, h0⟩ := h0
  cases hi : inB fd with
  | false =>
    rw [at_out' hi]
    go_enter Try.func49, Try.ntmps49
    go_wp2_with fail
    refine (rin_any fd w).mono ?_
    rintro e w' ⟨rfl, rfl⟩
    rw [hi]
    go_wp2
    go_ret
    exact ⟨rfl, rfl⟩
  | true =>
    obtain ⟨n, rfl, hn⟩ := inB_nat hi
    rw [at_in' hn]
    have hc : w.cell? ⟨r, n * 3 + 1, none⟩ = some (.bool (st n).isSome) := by rw [blk_cell h0.hb]; exact h0.hi n hn
    go_enter Try.func49, Try.ntmps49
    go_wp2_with fail
    refine (rin_any n w).mono ?_
    rintro e w' ⟨rfl, rfl⟩
    rw [hi]
    go_wp2
    go_ret
    exact ⟨rfl, rfl⟩
def rgetV (o : Option (Int × Bool)) : Value := .tuple #[.int .i64 (rx o), .int .i64 (if o.isSome then 0 else 9)]
theorem rget_any (w : World) (r : Nat) (st : TSt) (h0 : RefT w r st) (fd : Int) : Calls Try.prog 32 #[.pointer (some ⟨r, 0, none⟩), .int .i64 fd] w fun e w' => e = .returned (getV (st.at fd)) ∧ w = w' := by
  obtain ⟨cs, hf⟩ := id h0
  rcases hg : st.at fd with _ | ⟨x, m⟩
  · go_enter Try.func32, Try.ntmps32
    go_wp2_with fail
    refine (rhas_any w r st h0 fd).mono ?_
    rintro e w' ⟨rfl, rfl⟩
    simp only [hg, Option.isSome_none]
    go_wp2
    go_ret2
    exact ⟨rfl, rfl⟩
  · have hi : inB fd = true := by
      by_cases hi : inB fd = true
      · exact hi
      · simp [TSt.at, hi] at hg
    obtain ⟨n, rfl, hn⟩ := inB_nat hi
    have hc : w.cell? ⟨r, n * 3, none⟩ = some (.int .i64 x) := by rw [blk_cell hf.hb, hf.hx n hn]; rw [at_in' hn] at hg; rw [hg]; rfl
    go_enter Try.func32, Try.ntmps32
    go_wp2_with fail
    refine (rhas_any w r st h0 n).mono ?_
    rintro e w' ⟨rfl, rfl⟩
    simp only [hg, Option.isSome_some]
    clear hg
    go_wp2
    go_ret2
    exact ⟨rfl, rfl⟩
def RCutPost (w : World) (r : Nat) (st : TSt) (fd : Int) (e : Ending) (w' : World) : Prop :=
  e = .returned (getV (st.at fd)) ∧ RefT w' r (st.set fd.toNat (if inB fd = true then none else st fd.toNat)) ∧ Fr (fun k => k = r) w w'
theorem rcut_any (w : World) (r : Nat) (st : TSt) (h0 : RefT w r st) (fd : Int) : Calls Try.prog 33 #[.pointer (some ⟨r, 0, none⟩), .int .i64 fd] w (RCutPost w r st fd) := by
  obtain ⟨cs, hf⟩ := id h0
  rcases hg : st.at fd with _ | ⟨x, m⟩
  · have hfin : RCutPost w r st fd (.returned (.tuple #[.int .i64 0, .int .i64 9])) w := by
      refine ⟨by rw [hg]; rfl, ⟨cs, ?_⟩, Fr.refl _ _⟩
      have : st.set fd.toNat (if inB fd = true then none else st fd.toNat) = st := by
        funext i
        by_cases e : i = fd.toNat
        · simp only [TSt.at] at hg
          by_cases hi : inB fd = true
          · simp [hi] at hg; simp [TSt.set, e, hi, hg]
          · simp [TSt.set, e, hi]
        · simp [TSt.set, e]
      rw [this]; exact hf
    go_enter Try.func33, Try.ntmps33
    go_wp2_with fail
    refine (rhas_any w r st h0 fd).mono ?_
    rintro e w' ⟨rfl, rfl⟩
    simp only [hg, Option.isSome_none]
    go_wp2
    go_ret2
    exact hfin
  · obtain ⟨n, rfl, hn, hst⟩ := at_some hg
    obtain ⟨hc, hc1, hc2⟩ := hf.cells n hn
    have hfz := blk_frozen hf.hb
    have hi : inB (n : Int) = true := by simp [inB]; omega
    have hset := hf.set n hn none
    have hfin : RCutPost w r st n (.returned (.tuple #[.int .i64 x, .int .i64 0])) (((w.setCell ⟨r, n * 3, none⟩ (.int .i64 0)).setCell ⟨r, n * 3 + 1, none⟩ (.bool false)).setCell ⟨r, n * 3 + 2, none⟩ (.bool false)) :=
      ⟨by rw [hg]; rfl, by simpa [hi, rx, rm] using hset, fr3 _ _ _ _ _ _ _ _⟩
    have hfin := hide hfin
    clear hset
    rw [hst] at hc hc1 hc2
    simp only [rx, rm, Option.isSome_some] at hc hc1 hc2
    go_enter Try.func33, Try.ntmps33
    go_wp2_with fail
    refine (rhas_any w r st h0 n).mono ?_
    rintro e w' ⟨rfl, rfl⟩
    simp only [hg, Option.isSome_some]
    clear hg hst
    go_wp2
    go_ret2
    exact hfin.out
def RSetPost (w : World) (r : Nat) (st : TSt) (fd x : Int) (e : Ending) (w' : World) : Prop :=
  (inB fd = false ∧ e = .returned (.tuple #[.int .i64 0, .bool false, .int .i64 9]) ∧ w = w') ∨
  (inB fd = true ∧ e = .returned (setV (st fd.toNat)) ∧ RefT w' r (st.set fd.toNat (some (x, false))) ∧ Fr (fun k => k = r) w w')
theorem setV_eq (o : Option (Int × Bool)) : setV o = .tuple #[.int .i64 (rx o), .bool o.isSome, .int .i64 0] := by cases o <;> rfl
theorem rset_any (w : World) (r : Nat) (st : TSt) (h0 : RefT w r st) (fd x : Int) : Calls Try.prog 30 #[.pointer (some ⟨r, 0, none⟩), .int .i64 fd, .int .i64 x] w (RSetPost w r st fd x) := by
  obtain ⟨cs, hf⟩ := h0
  cases hi : inB fd with
  | false =>
    go_enter Try.func30, Try.ntmps30
    go_wp2_with fail
    refine (rin_any fd w).mono ?_
    rintro e w' ⟨rfl, rfl⟩
    rw [hi]
    go_wp2
    go_ret3
    exact .inl ⟨hi, rfl, rfl⟩
  | true =>
    obtain ⟨n, rfl, hn⟩ := inB_nat hi
    obtain ⟨hc, hc1, hc2⟩ := hf.cells n hn
    have hfz := blk_frozen hf.hb
    have hlt := blk_lt hf.hb
    have hset := hf.set n hn (some (x, false))
    have hfin : ∀ o nq, RSetPost w r st n x (.returned (.tuple #[.int .i64 (rx (st n)), .bool (st n).isSome, .int .i64 0])) (((((w.setCell ⟨r, n * 3, none⟩ (.int .i64 x)).setCell ⟨r, n * 3 + 1, none⟩ (.bool true)).setCell ⟨r, n * 3 + 2, none⟩ (.bool false)).alloc o).drewN nq) :=
      fun o nq => .inr ⟨hi, by rw [setV_eq]; rfl, RefT.frame (by simpa [rx, rm] using hset) (((Fr.refl (fun _ => False) _).alloc o).drewN nq) (fun h => h), ((fr3 _ _ _ _ _ _ _ _).alloc o).drewN nq⟩
    have hfin := hide hfin
    clear hset
    go_enter Try.func30, Try.ntmps30
    go_wp2_with fail
    refine (rin_any n w).mono ?_
    rintro e w' ⟨rfl, rfl⟩
    rw [hi]
    go_wp2
    go_quiet (fail)
    go_wp2
    go_ret3
    exact hfin.out _ _
def RMarkPost (w : World) (r : Nat) (st : TSt) (fd : Int) (m : Bool) (e : Ending) (w' : World) : Prop :=
  match st.at fd with
  | none => e = .returned (.int .i64 9) ∧ w = w'
  | some (x, _) => e = .returned (.int .i64 0) ∧ RefT w' r (st.set fd.toNat (some (x, m))) ∧ Fr (fun k => k = r) w w'
set_option maxRecDepth 100000 in
theorem rmark_any (w : World) (r : Nat) (st : TSt) (h0 : RefT w r st) (fd : Int) (m : Bool) : Calls Try.prog 35 #[.pointer (some ⟨r, 0, none⟩), .int .i64 fd, .bool m] w (RMarkPost w r st fd m) := by
  obtain ⟨cs, hf⟩ := id h0
  rcases hg : st.at fd with _ | ⟨x, m0⟩
  · have hfin : RMarkPost w r st fd m (.returned (.int .i64 9)) w := by simp only [RMarkPost, hg]; exact ⟨trivial, trivial⟩
    go_enter Try.func35, Try.ntmps35
    go_wp2_with fail
    refine (rhas_any w r st h0 fd).mono ?_
    rintro e w' ⟨rfl, rfl⟩
    simp only [hg, Option.isSome_none]
    go_wp2
    go_ret
    exact hfin
  · obtain ⟨n, rfl, hn, hst⟩ := at_some hg
    obtain ⟨hc, hc1, hc2⟩ := hf.cells n hn
    have hfz := blk_frozen hf.hb
    have hlt := blk_lt hf.hb
    have hset := hf.set n hn (some (x, m))
    have hfin : ∀ o nq, RMarkPost w r st n m (.returned (.int .i64 0)) (((((w.setCell ⟨r, n * 3, none⟩ (.int .i64 x)).setCell ⟨r, n * 3 + 1, none⟩ (.bool true)).setCell ⟨r, n * 3 + 2, none⟩ (.bool m)).alloc o).drewN nq) := by
      intro o nq
      simp only [RMarkPost, hg]
      exact ⟨trivial, RefT.frame (by simpa [rx, rm] using hset) (((Fr.refl (fun _ => False) _).alloc o).drewN nq) (fun h => h), ((fr3 _ _ _ _ _ _ _ _).alloc o).drewN nq⟩
    have hfin := hide hfin
    clear hset
    rw [hst] at hc hc1 hc2
    simp only [rx, rm, Option.isSome_some] at hc hc1 hc2
    go_enter Try.func35, Try.ntmps35
    go_wp2_with fail
    refine (rhas_any w r st h0 n).mono ?_
    rintro e w' ⟨rfl, rfl⟩
    simp only [hg, Option.isSome_some]
    clear hg hst
    go_wp2
    refine region_tail 6 (by kernel_rfl) (by kernel_rfl) ?_
    simp only [List.take_succ_cons, List.take_zero, List.drop_succ_cons, List.drop_zero]
    repeat go_big_quiet_step (fail)
    refine wpQuiet_nil ?_
    go_wp2
    go_ret
    exact hfin.out _ _
def RPutPost (w : World) (r : Nat) (st : TSt) (x least : Int) (e : Ending) (w' : World) : Prop :=
  (inB least = false ∧ e = .returned (.tuple #[.int .i64 0, .int .i64 22]) ∧ w = w') ∨
  (inB least = true ∧ firstFree st least.toNat = none ∧ e = .returned (.tuple #[.int .i64 0, .int .i64 24]) ∧ w = w') ∨
  (inB least = true ∧ ∃ k : Nat, k < 32 ∧ firstFree st least.toNat = some k ∧ e = .returned (.tuple #[.int .i64 k, .int .i64 0]) ∧ RefT w' r (st.set k (some (x, false))) ∧ Fr (fun k => k = r) w w')
theorem rput_any (w : World) (r : Nat) (st : TSt) (h0 : RefT w r st) (x least : Int) :
    Calls Try.prog 28 #[.pointer (some ⟨r, 0, none⟩), .int .i64 x, .int .i64 least] w (RPutPost w r st x least) := by
  obtain ⟨cs, hf0⟩ := h0
  cases hi : inB least with
  | false =>
    go_enter Try.func28, Try.ntmps28
    go_wp2_with fail
    refine (rin_any least w).mono ?_
    rintro e w' ⟨rfl, rfl⟩
    rw [hi]
    go_wp2
    go_ret2
    exact .inl ⟨hi, rfl, rfl⟩
  | true =>
    obtain ⟨l, rfl, hl⟩ := inB_nat hi
    go_enter Try.func28, Try.ntmps28
    go_wp2_with fail
    refine (rin_any l w).mono ?_
    rintro e w' ⟨rfl, rfl⟩
    rw [hi]
    go_wp2
    go_loopw [8] (fun i wr => PutTRel w l st i wr) (fun i _ => 32 - (intOf i).toNat)
    case atStart => exact ⟨l, rfl, Nat.le_refl _, by omega, fun j h1 h2 => by omega, rfl⟩
    case round =>
      obtain ⟨k, rfl, hk1, hk2, hall, rfl⟩ := hrel
      by_cases h1 : k < 32
      · obtain ⟨hc, hc1, hc2⟩ := hf0.cells k h1
        have hfz := blk_frozen hf0.hb
        have hall := hide hall
        rcases hst : st k with _ | ⟨x0, m0⟩
        · have hset := hf0.set k h1 (some (x, false))
          have hfin : RPutPost wr r st x l (.returned (.tuple #[.int .i64 k, .int .i64 0])) (((wr.setCell ⟨r, k * 3, none⟩ (.int .i64 x)).setCell ⟨r, k * 3 + 1, none⟩ (.bool true)).setCell ⟨r, k * 3 + 2, none⟩ (.bool false)) :=
            .inr (.inr ⟨hi, k, h1, firstFree_some hk1 h1 hall.out hst, rfl, by simpa [rx, rm] using hset, fr3 _ _ _ _ _ _ _ _⟩)
          have hfin := hide hfin
          clear hset
          rw [hst] at hc hc1 hc2
          simp only [rx, rm, Option.isSome_none] at hc hc1 hc2
          go_wp2
          go_ret2
          exact hfin.out
        · rw [hst] at hc1
          simp only [Option.isSome_some] at hc1
          go_wp2
          go_roundw
          case rel =>
            refine ⟨k + 1, by go_num, by omega, by omega, fun j h2 h3 => ?_, rfl⟩
            by_cases e : j = k
            · rw [e, hst]; rfl
            · exact hall.out j h2 (by omega)
          case measure => simp [intOf]; omega
      · have e : k = 32 := by omega
        subst e
        have hfin : RPutPost wr r st x l (.returned (.tuple #[.int .i64 0, .int .i64 24])) wr := .inr (.inl ⟨hi, firstFree_none hall, rfl, rfl⟩)
        have hfin := hide hfin
        clear hall
        go_wp2
        go_ret2
        exact hfin.out
theorem rfree_any (w : World) (r : Nat) (st : TSt) (h0 : RefT w r st) :
    Calls Try.prog 50 #[.pointer (some ⟨r, 0, none⟩)] w fun e w' => e = .returned (.int .i64 ((32 - used st 32 : Nat) : Int)) ∧ w = w' := by
  obtain ⟨cs, hf0⟩ := h0
  go_enter Try.func50, Try.ntmps50
  go_wp2
  go_loop [3, 4] (fun n i => ∃ k : Nat, k ≤ 32 ∧ i = .int .i64 k ∧ n = .int .i64 ((k - used st k : Nat) : Int)) (fun _ i => 32 - (intOf i).toNat)
  case atStart => exact ⟨0, by omega, rfl, rfl⟩
  case round =>
    obtain ⟨k, hk, rfl, rfl⟩ := hrel
    have hu := used_le st k
    by_cases h1 : k < 32
    · obtain ⟨_, hc1, _⟩ := hf0.cells k h1
      have hs := hide (used_succ st k)
      have hb : k - used st k ≤ 32 := by omega
      rcases hst : st k with _ | ⟨x0, m0⟩
      · rw [hst] at hc1
        simp only [Option.isSome_none] at hc1
        go_wp2
        go_round
        case rel => exact ⟨k + 1, by omega, by go_num, by have := hs.out; rw [hst] at this; simp at this; rw [this]; congr 1; omega⟩
        case measure => simp [intOf]; omega
      · rw [hst] at hc1
        simp only [Option.isSome_some] at hc1
        go_wp2
        go_round
        case rel => exact ⟨k + 1, by omega, by go_num, by have := hs.out; rw [hst] at this; simp at this; rw [this]; congr 1; omega⟩
        case measure => simp [intOf]; omega
    · have e : k = 32 := by omega
      subst e
      go_wp2
      go_ret
      exact ⟨rfl, rfl⟩
end Go.Proofs.Ytcoaggghabdndaa
