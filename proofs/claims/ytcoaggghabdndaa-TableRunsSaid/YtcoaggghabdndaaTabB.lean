/- Contracts of the methods of table.Table[int]. Conditions: each contract's own premises. -/
import Derived.Test.YtcoaggghabdndaaTabA
import Derived.Test.YtcoaggghabdndaaRegion
namespace Go.Proofs.Ytcoaggghabdndaa
open Go.RowKit

/-- What number fd has. -/
def TSt.at (st : TSt) (fd : Int) : Option (Int × Bool) := if inB fd = true then st fd.toNat else none
def getV (o : Option (Int × Bool)) : Value := match o with | none => .tuple #[.int .i64 0, .int .i64 9] | some (x, _) => .tuple #[.int .i64 x, .int .i64 0]

theorem at_out' {st : TSt} {fd : Int} (h : inB fd = false) : st.at fd = none := by simp [TSt.at, h]
theorem at_in' {st : TSt} {fd : Nat} (h : fd < 32) : st.at fd = st fd := by
  have : inB (fd : Int) = true := by simp [inB]; omega
  simp [TSt.at, this]
theorem inB_nat {fd : Int} (h : inB fd = true) : ∃ n : Nat, fd = n ∧ n < 32 := by
  simp [inB] at h
  exact ⟨fd.toNat, by omega, by omega⟩

theorem get_any (w : World) (t : Nat) (st : TSt) (S : Nat → Prop) (ht : TabAt w t st S) (fd : Int) :
    Calls Try.prog 31 #[.pointer (some ⟨t, 0, none⟩), .int .i64 fd] w fun e w' => e = .returned (getV (st.at fd)) ∧ w = w' := by
  obtain ⟨p, cs, ht⟩ := ht
  cases hi : inB fd with
  | false =>
    go_enter Try.func31, Try.ntmps31
    go_wp2_with fail
    refine (at_out w t fd hi).mono ?_
    rintro e w' ⟨rfl, rfl⟩
    go_wp2
    go_ret2
    exact ⟨by rw [at_out' hi]; rfl, rfl⟩
  | true =>
    obtain ⟨n, rfl, hn⟩ := inB_nat hi
    rw [at_in' hn]
    go_enter Try.func31, Try.ntmps31
    go_wp2_with fail
    refine (at_in w t p st S cs ht n hn).mono ?_
    rintro e w' ⟨rfl, rfl⟩
    rcases hst : st n with _ | ⟨x, m⟩
    · simp only [ptrOf]
      go_wp2
      go_ret2
      exact ⟨by rw [hst]; rfl, rfl⟩
    · have hc : w.cell? ⟨p n, 0, none⟩ = some (.int .i64 x) := by rw [blk_cell (ht.hs n x m hn hst)]; rfl
      simp only [ptrOf]
      go_wp2
      go_ret2
      exact ⟨by rw [hst]; rfl, rfl⟩
theorem marked_any (w : World) (t : Nat) (st : TSt) (S : Nat → Prop) (ht : TabAt w t st S) (fd : Int) :
    Calls Try.prog 41 #[.pointer (some ⟨t, 0, none⟩), .int .i64 fd] w fun e w' => e = .returned (.bool ((st.at fd).any (·.2))) ∧ w = w' := by
  obtain ⟨p, cs, ht⟩ := ht
  cases hi : inB fd with
  | false =>
    go_enter Try.func41, Try.ntmps41
    go_wp2_with fail
    refine (at_out w t fd hi).mono ?_
    rintro e w' ⟨rfl, rfl⟩
    go_wp2
    go_ret
    exact ⟨by rw [at_out' hi]; rfl, rfl⟩
  | true =>
    obtain ⟨n, rfl, hn⟩ := inB_nat hi
    rw [at_in' hn]
    go_enter Try.func41, Try.ntmps41
    go_wp2_with fail
    refine (at_in w t p st S cs ht n hn).mono ?_
    rintro e w' ⟨rfl, rfl⟩
    rcases hst : st n with _ | ⟨x, m⟩
    · simp only [ptrOf]
      go_wp2
      go_ret
      exact ⟨by rw [hst]; rfl, rfl⟩
    · have hc : w.cell? ⟨p n, 1, none⟩ = some (.bool m) := by rw [blk_cell (ht.hs n x m hn hst)]; rfl
      simp only [ptrOf]
      go_wp2
      go_ret
      exact ⟨by rw [hst]; rfl, rfl⟩
/-- What Mark, Cut, Set leave. -/
def MarkPost (w : World) (t : Nat) (st : TSt) (S : Nat → Prop) (fd : Int) (m : Bool) (e : Ending) (w' : World) : Prop :=
  match st.at fd with
  | none => e = .returned (.int .i64 9) ∧ w = w'
  | some (x, _) => e = .returned (.int .i64 0) ∧ TabAt w' t (st.set fd.toNat (some (x, m))) S ∧ Fr S w w'
theorem mark_any (w : World) (t : Nat) (st : TSt) (S : Nat → Prop) (ht : TabAt w t st S) (fd : Int) (m : Bool) :
    Calls Try.prog 34 #[.pointer (some ⟨t, 0, none⟩), .int .i64 fd, .bool m] w (MarkPost w t st S fd m) := by
  obtain ⟨p, cs, ht⟩ := ht
  cases hi : inB fd with
  | false =>
    go_enter Try.func34, Try.ntmps34
    go_wp2_with fail
    refine (at_out w t fd hi).mono ?_
    rintro e w' ⟨rfl, rfl⟩
    go_wp2
    go_ret
    simp only [MarkPost, at_out' hi]
    exact ⟨rfl, trivial⟩
  | true =>
    obtain ⟨n, rfl, hn⟩ := inB_nat hi
    go_enter Try.func34, Try.ntmps34
    go_wp2_with fail
    refine (at_in w t p st S cs ht n hn).mono ?_
    rintro e w' ⟨rfl, rfl⟩
    rcases hst : st n with _ | ⟨x, m0⟩
    · simp only [ptrOf]
      go_wp2
      go_ret
      simp only [MarkPost, at_in' hn, hst]
      exact ⟨rfl, trivial⟩
    · have hc : w.cell? ⟨p n, 1, none⟩ = some (.bool m0) := by rw [blk_cell (ht.hs n x m0 hn hst)]; rfl
      have hf := blk_frozen (ht.hs n x m0 hn hst)
      simp only [ptrOf]
      go_wp2
      go_ret
      simp only [MarkPost, at_in' hn, hst]
      exact ⟨rfl, ⟨_, _, by simpa using ht.mark n hn x m0 m hst⟩, (Fr.refl _ _).setCell (.inl (ht.owns n hn (by simp [hst]))) _⟩
def CutPost (w : World) (t : Nat) (st : TSt) (S : Nat → Prop) (fd : Int) (e : Ending) (w' : World) : Prop :=
  e = .returned (getV (st.at fd)) ∧ TabAt w' t (st.set fd.toNat (if inB fd = true then none else st fd.toNat)) S ∧ Fr S w w'
theorem cut_any (w : World) (t : Nat) (st : TSt) (S : Nat → Prop) (ht : TabAt w t st S) (fd : Int) :
    Calls Try.prog 12 #[.pointer (some ⟨t, 0, none⟩), .int .i64 fd] w (CutPost w t st S fd) := by
  obtain ⟨p, cs, htf⟩ := id ht
  rcases hg : st.at fd with _ | ⟨x, m⟩
  · have hfin : CutPost w t st S fd (.returned (.tuple #[.int .i64 0, .int .i64 9])) w := by
      refine ⟨by rw [hg]; rfl, ⟨p, cs, htf.ext ?_⟩, Fr.refl _ _⟩
      intro i _
      by_cases e : i = fd.toNat
      · simp only [TSt.at] at hg
        by_cases hi : inB fd = true
        · simp [hi] at hg; simp [TSt.set, e, hi, hg]
        · simp [TSt.set, e, hi]
      · simp [TSt.set, e]
    go_enter Try.func12, Try.ntmps12
    go_wp2_with fail
    refine (get_any w t st S ht fd).mono ?_
    rintro e w' ⟨rfl, rfl⟩
    rw [hg]
    simp only [getV]
    go_wp2
    go_ret2
    exact hfin
  · have hi : inB fd = true := by
      by_cases hi : inB fd = true
      · exact hi
      · simp [TSt.at, hi] at hg
    obtain ⟨n, rfl, hn⟩ := inB_nat hi
    have hc : w.cell? ⟨t, n, none⟩ = some (ptrOf (st n) (p n)) := by rw [blk_cell htf.hb]; exact htf.hc n hn
    have hf := blk_frozen htf.hb
    have hfin : CutPost w t st S n (.returned (.tuple #[.int .i64 x, .int .i64 0])) (w.setCell ⟨t, n, none⟩ (.pointer none)) := by
      refine ⟨by rw [hg]; rfl, ⟨_, _, by simpa [hi] using htf.cut n hn⟩, (Fr.refl _ _).setCell (.inl htf.own) _⟩
    go_enter Try.func12, Try.ntmps12
    go_wp2_with fail
    refine (get_any w t st S ht n).mono ?_
    rintro e w' ⟨rfl, rfl⟩
    rw [hg]
    simp only [getV]
    clear ht hg
    go_wp2
    go_ret2
    exact hfin
def setV (o : Option (Int × Bool)) : Value := match o with | none => .tuple #[.int .i64 0, .bool false, .int .i64 0] | some (x, _) => .tuple #[.int .i64 x, .bool true, .int .i64 0]
def SetPost (w : World) (t : Nat) (st : TSt) (S : Nat → Prop) (fd x : Int) (e : Ending) (w' : World) : Prop :=
  (inB fd = false ∧ e = .returned (.tuple #[.int .i64 0, .bool false, .int .i64 9]) ∧ w = w') ∨
  (inB fd = true ∧ e = .returned (setV (st fd.toNat)) ∧ TabAt w' t (st.set fd.toNat (some (x, false))) S ∧ Fr S w w')
theorem set_any (w : World) (t : Nat) (st : TSt) (S : Nat → Prop) (ht : TabAt w t st S) (fd x : Int) :
    Calls Try.prog 29 #[.pointer (some ⟨t, 0, none⟩), .int .i64 fd, .int .i64 x] w (SetPost w t st S fd x) := by
  obtain ⟨p, cs, htf⟩ := ht
  cases hi : inB fd with
  | false =>
    go_enter Try.func29, Try.ntmps29
    go_wp2_with fail
    refine (in_any fd w).mono ?_
    rintro e w' ⟨rfl, rfl⟩
    rw [hi]
    go_wp2
    go_ret3
    exact .inl ⟨hi, rfl, rfl⟩
  | true =>
    obtain ⟨n, rfl, hn⟩ := inB_nat hi
    have hc : w.cell? ⟨t, n, none⟩ = some (ptrOf (st n) (p n)) := by rw [blk_cell htf.hb]; exact htf.hc n hn
    have hf := blk_frozen htf.hb
    have hbt := blk_lt htf.hb
    have hnew := htf.putNew n hn x false rfl
    have hfin : ∀ v, v = setV (st n) → SetPost w t st S n x (.returned v) ((w.alloc (.cells #[.int .i64 x, .bool false] 91 (0, 0))).setCell ⟨t, n, none⟩ (.pointer (some ⟨w.heap.size, 0, none⟩))) :=
      fun v hv => .inr ⟨hi, by rw [hv]; rfl, by simpa using hnew, ((Fr.refl _ _).alloc _).setCell (.inl htf.own) _⟩
    rw [World.setCell_alloc_past _ _ _ _ hbt] at hfin
    have hfin := hide hfin
    clear hnew
    go_enter Try.func29, Try.ntmps29
    go_wp2_with fail
    refine (in_any n w).mono ?_
    rintro e w' ⟨rfl, rfl⟩
    rw [hi]
    rcases hst : st n with _ | ⟨x0, m0⟩
    · rw [hst] at hc
      simp only [ptrOf] at hc
      go_wp2
      go_ret3
      refine hfin.out _ ?_
      rw [hst]; rfl
    · rw [hst] at hc
      simp only [ptrOf] at hc
      have hb1 := htf.hs n x0 m0 hn hst
      have hc1 : w.cell? ⟨p n, 0, none⟩ = some (.int .i64 x0) := by rw [blk_cell hb1]; rfl
      have hlt := blk_lt hb1
      have hne := htf.hne n hn (by simp [hst])
      go_wp2
      go_ret3
      refine hfin.out _ ?_
      rw [hst]; rfl
/-- The first free number from k on, of n. -/
def ff (st : TSt) (k : Nat) : Nat → Option Nat
  | 0 => none
  | n + 1 => if (st k).isSome then ff st (k + 1) n else some k
def firstFree (st : TSt) (least : Nat) : Option Nat := ff st least (32 - least)
theorem ff_skip (st : TSt) : ∀ (n k m : Nat), (∀ j, k ≤ j → j < k + n → (st j).isSome = true) → ff st k (n + m) = ff st (k + n) m
  | 0, k, m, _ => by simp
  | n + 1, k, m, h => by
    rw [show n + 1 + m = (n + m) + 1 by omega, ff, if_pos (h k (Nat.le_refl _) (by omega)), ff_skip st n (k + 1) m (fun j h1 h2 => h j (by omega) (by omega))]
    congr 1; omega
theorem firstFree_none {st : TSt} {l : Nat} (h : ∀ j, l ≤ j → j < 32 → (st j).isSome = true) : firstFree st l = none := by
  unfold firstFree
  have := ff_skip st (32 - l) l 0 (fun j h1 h2 => h j h1 (by omega))
  simpa [ff] using this
theorem firstFree_some {st : TSt} {l k : Nat} (hl : l ≤ k) (hk : k < 32) (h : ∀ j, l ≤ j → j < k → (st j).isSome = true) (hn : st k = none) : firstFree st l = some k := by
  unfold firstFree
  have := ff_skip st (k - l) l (32 - k) (fun j h1 h2 => h j h1 (by omega))
  rw [show k - l + (32 - k) = 32 - l by omega, show l + (k - l) = k by omega] at this
  rw [this, show 32 - k = (32 - k - 1) + 1 by omega, ff, if_neg (by simp [hn])]
def PutTPost (w : World) (t : Nat) (st : TSt) (S : Nat → Prop) (x least : Int) (e : Ending) (w' : World) : Prop :=
  (inB least = false ∧ e = .returned (.tuple #[.int .i64 0, .int .i64 22]) ∧ w = w') ∨
  (inB least = true ∧ firstFree st least.toNat = none ∧ e = .returned (.tuple #[.int .i64 0, .int .i64 24]) ∧ w = w') ∨
  (inB least = true ∧ ∃ k : Nat, k < 32 ∧ firstFree st least.toNat = some k ∧ e = .returned (.tuple #[.int .i64 k, .int .i64 0]) ∧ TabAt w' t (st.set k (some (x, false))) S ∧ Fr S w w')
def PutTRel (w : World) (l : Nat) (st : TSt) (i : Value) (wr : World) : Prop :=
  ∃ k : Nat, i = .int .i64 k ∧ l ≤ k ∧ k ≤ 32 ∧ (∀ j, l ≤ j → j < k → (st j).isSome = true) ∧ wr = w
theorem putT_any (w : World) (t : Nat) (st : TSt) (S : Nat → Prop) (ht : TabAt w t st S) (x least : Int) :
    Calls Try.prog 11 #[.pointer (some ⟨t, 0, none⟩), .int .i64 x, .int .i64 least] w (PutTPost w t st S x least) := by
  obtain ⟨p, cs, htf⟩ := ht
  cases hi : inB least with
  | false =>
    go_enter Try.func11, Try.ntmps11
    go_wp2_with fail
    refine (in_any least w).mono ?_
    rintro e w' ⟨rfl, rfl⟩
    rw [hi]
    go_wp2
    go_ret2
    exact .inl ⟨hi, rfl, rfl⟩
  | true =>
    obtain ⟨l, rfl, hl⟩ := inB_nat hi
    go_enter Try.func11, Try.ntmps11
    go_wp2_with fail
    refine (in_any l w).mono ?_
    rintro e w' ⟨rfl, rfl⟩
    rw [hi]
    go_wp2
    go_loopw [8] (fun i wr => PutTRel w l st i wr) (fun i _ => 32 - (intOf i).toNat)
    case atStart => exact ⟨l, rfl, Nat.le_refl _, by omega, fun j h1 h2 => by omega, rfl⟩
    case round =>
      obtain ⟨k, rfl, hk1, hk2, hall, rfl⟩ := hrel
      by_cases h1 : k < 32
      · have hc : wr.cell? ⟨t, k, none⟩ = some (ptrOf (st k) (p k)) := by rw [blk_cell htf.hb]; exact htf.hc k h1
        have hf := blk_frozen htf.hb
        have hbt := blk_lt htf.hb
        have hall := hide hall
        rcases hst : st k with _ | ⟨x0, m0⟩
        · have hnew := htf.putNew k h1 x false rfl
          have hfin : PutTPost wr t st S x l (.returned (.tuple #[.int .i64 k, .int .i64 0])) ((wr.alloc (.cells #[.int .i64 x, .bool false] 91 (0, 0))).setCell ⟨t, k, none⟩ (.pointer (some ⟨wr.heap.size, 0, none⟩))) :=
            .inr (.inr ⟨hi, k, h1, firstFree_some hk1 h1 hall.out hst, rfl, hnew, ((Fr.refl _ _).alloc _).setCell (.inl htf.own) _⟩)
          rw [World.setCell_alloc_past _ _ _ _ hbt] at hfin
          have hfin := hide hfin
          clear hnew
          rw [hst] at hc
          simp only [ptrOf] at hc
          go_wp2
          go_ret2
          exact hfin.out
        · rw [hst] at hc
          simp only [ptrOf] at hc
          go_wp2
          go_roundw
          case rel =>
            refine ⟨k + 1, by go_num, by omega, by omega, fun j h2 h3 => ?_, rfl⟩
            by_cases e : j = k
            · rw [e, hst]; rfl
            · exact hall.out j h2 (by omega)
          case measure => simp [intOf]; omega
      · have e : k = 32 := by omega
        subst e
        have hfin : PutTPost wr t st S x l (.returned (.tuple #[.int .i64 0, .int .i64 24])) wr := .inr (.inl ⟨hi, firstFree_none hall, rfl, rfl⟩)
        have hfin := hide hfin
        clear hall
        go_wp2
        go_ret2
        exact hfin.out
end Go.Proofs.Ytcoaggghabdndaa
