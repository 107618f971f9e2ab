/- Contracts of the reference's pipe. Conditions: each contract's own premises. -/
import Derived.Test.YtcoaggghabdndaaPipeD
namespace Go.Proofs.Ytcoaggghabdndaa
open Go.RowKit

/-- The reference's pipe in block q. -/
def RefP (w : World) (q size : Nat) (d : List UInt8) (r x : Nat) : Prop :=
  ∃ s : ByteArray, s.data.toList = d ∧ w.heap[q]? = some (.cells #[.int .i64 size, .int .i64 r, .int .i64 x, .string s] 57 (0, 0))
theorem RefP.frame {w w' : World} {q size : Nat} {d : List UInt8} {r x : Nat} {S : Nat → Prop} (h : RefP w q size d r x) (hf : Fr S w w') (h1 : ¬ S q) : RefP w' q size d r x :=
  let ⟨s, e, hb⟩ := h
  ⟨s, e, hf.get hb h1⟩

def RNewPost (w : World) (size : Int) (e : Ending) (w' : World) : Prop :=
  Fr (fun _ => False) w w' ∧
  ((size < 1 ∨ 65536 < size) ∧ e = .returned (.tuple #[.pointer none, .int .i64 22]) ∨
   (1 ≤ size ∧ size ≤ 65536) ∧ ∃ q, w.heap.size ≤ q ∧ e = .returned (.tuple #[.pointer (some ⟨q, 0, none⟩), .int .i64 0]) ∧ RefP w' q size.toNat [] 0 0)

set_option maxHeartbeats 400000 in
theorem rnew_any (size : Int) (w : World) : Calls Try.prog 19 #[.int .i64 size] w (RNewPost w size) := by
  by_cases h1 : size < 1
  · go_enter Try.func19, Try.ntmps19
    go_wp2
    go_ret2
    exact ⟨Fr.refl _ _, .inl ⟨.inl h1, rfl⟩⟩
  · by_cases h2 : 65536 < size
    · have h1' : 1 ≤ size := by omega
      go_enter Try.func19, Try.ntmps19
      go_wp2
      go_ret2
      exact ⟨Fr.refl _ _, .inl ⟨.inr h2, rfl⟩⟩
    · have h1' : 1 ≤ size := by omega
      go_enter Try.func19, Try.ntmps19
      go_wp2
      go_ret2
      refine ⟨(Fr.refl _ _).alloc _, .inr ⟨⟨h1', by omega⟩, w.heap.size, Nat.le_refl _, rfl, ByteArray.empty, rfl, ?_⟩⟩
      rw [show ((size.toNat : Nat) : Int) = size by omega]
      exact blk_new _ _

def REndsPost (w : World) (q size : Nat) (d : List UInt8) (r x : Nat) (v : Value) (e : Ending) (w' : World) : Prop := e = .returned v ∧ RefP w' q size d r x ∧ Fr (fun k => k = q) w w'

theorem RefP.set_w {w : World} {q size : Nat} {d : List UInt8} {r x : Nat} (h : RefP w q size d r x) (v : Int) (x' : Nat) (hv : v = x') : RefP (w.setCell ⟨q, 2, none⟩ (.int .i64 v)) q size d r x' := by
  obtain ⟨s, e, hb⟩ := h
  exact ⟨s, e, by rw [blk_set hb]; subst hv; simp⟩
theorem RefP.set_r {w : World} {q size : Nat} {d : List UInt8} {r x : Nat} (h : RefP w q size d r x) (v : Int) (r' : Nat) (hv : v = r') : RefP (w.setCell ⟨q, 1, none⟩ (.int .i64 v)) q size d r' x := by
  obtain ⟨s, e, hb⟩ := h
  exact ⟨s, e, by rw [blk_set hb]; subst hv; simp⟩
theorem RefP.set_d {w : World} {q size : Nat} {d : List UInt8} {r x : Nat} (h : RefP w q size d r x) (s : ByteArray) (d' : List UInt8) (hs : s.data.toList = d') : RefP (w.setCell ⟨q, 3, none⟩ (.string s)) q size d' r x := by
  obtain ⟨s', e, hb⟩ := h
  exact ⟨s, hs, by rw [blk_set hb]; simp⟩

set_option maxHeartbeats 400000 in
theorem ropen_any (q size : Nat) (d : List UInt8) (r x : Nat) (w : World) (h : RefP w q size d r x) (hx : x ≤ 1000000) (hr : r ≤ 1000000) (c : Bool) :
    Calls Try.prog 23 #[.pointer (some ⟨q, 0, none⟩), .bool c] w (REndsPost w q size d (if c then r else r + 1) (if c then x + 1 else x) (.tuple #[])) := by
  have hb1 : w.cell? ⟨q, 1, none⟩ = some (.int .i64 r) := by obtain ⟨s, e, hp⟩ := h; rw [blk_cell hp]; rfl
  have hb2 : w.cell? ⟨q, 2, none⟩ = some (.int .i64 x) := by obtain ⟨s, e, hp⟩ := h; rw [blk_cell hp]; rfl
  have hbf : ∀ i, w.frozen? ⟨q, i, none⟩ = false := by obtain ⟨s, e, hp⟩ := h; exact blk_frozen hp
  cases c
  · have hfin : REndsPost w q size d (r + 1) x (.tuple #[]) (.returned (.tuple #[])) (w.setCell ⟨q, 1, none⟩ (.int .i64 ((r : Int) + 1))) := ⟨rfl, h.set_r _ _ (by omega), (Fr.refl (fun k => k = q) _).setCell (.inl rfl) _⟩
    go_enter Try.func23, Try.ntmps23
    go_wp2
    go_end0
    exact hfin
  · have hfin : REndsPost w q size d r (x + 1) (.tuple #[]) (.returned (.tuple #[])) (w.setCell ⟨q, 2, none⟩ (.int .i64 ((x : Int) + 1))) := ⟨rfl, h.set_w _ _ (by omega), (Fr.refl (fun k => k = q) _).setCell (.inl rfl) _⟩
    go_enter Try.func23, Try.ntmps23
    go_wp2
    go_end0
    exact hfin

set_option maxHeartbeats 400000 in
theorem rclose_aux (q size : Nat) (d : List UInt8) (r x : Nat) (w : World) (hR : RefP w q size d r x) (hx : x ≤ 1000000) (hr : r ≤ 1000000) (c : Bool) :
    Calls Try.prog 24 #[.pointer (some ⟨q, 0, none⟩), .bool c] w (REndsPost w q size d (if c then r else r - 1) (if c then x - 1 else x) (.int .i64 (if (if c then x else r) = 0 then 9 else 0))) := by
  have hb1 : w.cell? ⟨q, 1, none⟩ = some (.int .i64 r) := by obtain ⟨s, e, hp⟩ := hR; rw [blk_cell hp]; rfl
  have hb2 : w.cell? ⟨q, 2, none⟩ = some (.int .i64 x) := by obtain ⟨s, e, hp⟩ := hR; rw [blk_cell hp]; rfl
  have hbf : ∀ i, w.frozen? ⟨q, i, none⟩ = false := by obtain ⟨s, e, hp⟩ := hR; exact blk_frozen hp
  cases c
  · by_cases h0 : r = 0
    · subst h0
      go_enter Try.func24, Try.ntmps24
      go_wp2
      go_ret
      exact ⟨rfl, hR, Fr.refl _ _⟩
    · have h1 : ((r : Int) == 0) = false := by simpa using h0
      have hfin : REndsPost w q size d (r - 1) x (.int .i64 0) (.returned (.int .i64 0)) (w.setCell ⟨q, 1, none⟩ (.int .i64 ((r : Int) - 1))) := ⟨rfl, hR.set_r _ _ (by omega), (Fr.refl (fun k => k = q) _).setCell (.inl rfl) _⟩
      have h2 : (1 : Int) ≤ (r : Int) := by omega
      show Calls _ _ _ _ (REndsPost w q size d (r - 1) x (.int .i64 (if r = 0 then 9 else 0)))
      rw [if_neg h0]
      clear h0
      go_enter Try.func24, Try.ntmps24
      go_wp2
      go_ret
      exact hfin
  · by_cases h0 : x = 0
    · subst h0
      go_enter Try.func24, Try.ntmps24
      go_wp2
      go_ret
      exact ⟨rfl, hR, Fr.refl _ _⟩
    · have h1 : ((x : Int) == 0) = false := by simpa using h0
      have hfin : REndsPost w q size d r (x - 1) (.int .i64 0) (.returned (.int .i64 0)) (w.setCell ⟨q, 2, none⟩ (.int .i64 ((x : Int) - 1))) := ⟨rfl, hR.set_w _ _ (by omega), (Fr.refl (fun k => k = q) _).setCell (.inl rfl) _⟩
      have h2 : (1 : Int) ≤ (x : Int) := by omega
      show Calls _ _ _ _ (REndsPost w q size d r (x - 1) (.int .i64 (if x = 0 then 9 else 0)))
      rw [if_neg h0]
      clear h0
      go_enter Try.func24, Try.ntmps24
      go_wp2
      go_ret
      exact hfin

theorem rclose_any (q size : Nat) (d : List UInt8) (r x : Nat) (w : World) (h : RefP w q size d r x) (hx : x ≤ 1000000) (hr : r ≤ 1000000) (c : Bool) :
    Calls Try.prog 24 #[.pointer (some ⟨q, 0, none⟩), .bool c] w (REndsPost w q size d (if c then r else r - 1) (if c then x - 1 else x) (.int .i64 (clE c r x))) := rclose_aux q size d r x w h hx hr c

set_option maxHeartbeats 400000 in
theorem rwaits_w (q size : Nat) (d : List UInt8) (r x : Nat) (w : World) (h : RefP w q size d r x) :
    Calls Try.prog 27 #[.pointer (some ⟨q, 0, none⟩), .bool true] w fun e w' => e = .returned (.bool (decide (0 < r) && decide (d.length = size))) ∧ w' = w.drew := by
  obtain ⟨s, rfl, hp⟩ := h
  rw [ba_len]
  have hb0 : w.cell? ⟨q, 0, none⟩ = some (.int .i64 size) := by rw [blk_cell hp]; rfl
  have hb1 : w.cell? ⟨q, 1, none⟩ = some (.int .i64 r) := by rw [blk_cell hp]; rfl
  have hb3 : w.cell? ⟨q, 3, none⟩ = some (.string s) := by rw [blk_cell hp]; rfl
  by_cases h1 : 0 < r
  · rw [show decide (0 < r) = true by simpa using h1]
    have h2 : (0 : Int) < (r : Int) := by omega
    go_enter Try.func27, Try.ntmps27
    go_wp2
    refine region_still (by kernel_rfl) (by kernel_rfl) ?_
    repeat go_big_quiet_step (fail)
    refine wpQuiet_nil ?_
    go_wp2
    go_ret
    exact ⟨ret_bool (by rw [cast_beq]; rfl), rfl⟩
  · have h2 : decide (0 < r) = false := by simpa using h1
    rw [h2]
    have h1' : decide ((0 : Int) < (r : Int)) = false := by simpa using h1
    clear h1
    go_enter Try.func27, Try.ntmps27
    go_wp2
    refine region_still (by kernel_rfl) (by kernel_rfl) ?_
    repeat go_big_quiet_step (fail)
    refine wpQuiet_nil ?_
    go_wp2
    go_ret
    exact ⟨rfl, rfl⟩
set_option maxHeartbeats 400000 in
theorem rwaits_r (q size : Nat) (d : List UInt8) (r x : Nat) (w : World) (h : RefP w q size d r x) :
    Calls Try.prog 27 #[.pointer (some ⟨q, 0, none⟩), .bool false] w fun e w' => e = .returned (.bool (decide (0 < x) && decide (d.length = 0))) ∧ w' = w := by
  obtain ⟨s, rfl, hp⟩ := h
  have hb2 : w.cell? ⟨q, 2, none⟩ = some (.int .i64 x) := by rw [blk_cell hp]; rfl
  have hb3 : w.cell? ⟨q, 3, none⟩ = some (.string s) := by rw [blk_cell hp]; rfl
  by_cases h1 : 0 < x
  · rw [show decide (0 < x) = true by simpa using h1]
    have h2 : (0 : Int) < (x : Int) := by omega
    go_enter Try.func27, Try.ntmps27
    go_wp2
    go_ret
    exact ⟨ret_bool (by rw [ByteArray.toList_eq]; cases hh : s.data.toList <;> simp), rfl⟩
  · have h2 : decide (0 < x) = false := by simpa using h1
    rw [h2]
    have h1' : decide ((0 : Int) < (x : Int)) = false := by simpa using h1
    clear h1
    go_enter Try.func27, Try.ntmps27
    go_wp2
    go_ret
    exact ⟨rfl, rfl⟩

def RWritePost (w : World) (q size : Nat) (d : List UInt8) (r x : Nat) (s : List UInt8) (e : Ending) (w' : World) : Prop :=
  e = .returned (.tuple #[.int .i64 (wrN size d r s : Nat), .int .i64 (wrE size d r s)]) ∧ RefP w' q size (d ++ s.take (wrN size d r s)) r x ∧ Fr (fun k => k = q) w w'

set_option maxHeartbeats 400000 in
theorem rwrite_any (q size : Nat) (d : List UInt8) (r x : Nat) (w : World) (hR : RefP w q size d r x) (s : ByteArray) (hs : s.size ≤ 9223372036854775807) (hd : d.length ≤ size) (hz : size ≤ 65536) :
    Calls Try.prog 25 #[.pointer (some ⟨q, 0, none⟩), .string s] w (RWritePost w q size d r x s.data.toList) := by
  obtain ⟨t, rfl, hp⟩ := hR
  rw [ba_len] at hd
  have hb0 : w.cell? ⟨q, 0, none⟩ = some (.int .i64 size) := by rw [blk_cell hp]; rfl
  have hb1 : w.cell? ⟨q, 1, none⟩ = some (.int .i64 r) := by rw [blk_cell hp]; rfl
  have hb3 : w.cell? ⟨q, 3, none⟩ = some (.string t) := by rw [blk_cell hp]; rfl
  have hbf := blk_frozen hp
  have hdr : RefP w.drew q size t.data.toList r x := ⟨t, rfl, hp⟩
  have hls := ba_len s
  have hlt := ba_len t
  by_cases h1 : r = 0
  · subst h1
    go_enter Try.func25, Try.ntmps25
    go_wp2
    refine region_still (by kernel_rfl) (by kernel_rfl) ?_
    repeat go_big_quiet_step (fail)
    refine wpQuiet_nil ?_
    go_wp2
    go_ret2
    exact ⟨rfl, by simpa [wrN] using hdr, (Fr.refl _ _).drew⟩
  · have h1' : ((r : Int) == 0) = false := by simpa using h1
    by_cases h2 : s.data.toList = []
    · have he := ba_empty h2
      have hfin : RWritePost w q size t.data.toList r x s.data.toList (.returned (.tuple #[.int .i64 0, .int .i64 0])) w.drew :=
        ⟨by simp [wrN, wrE, h1, h2], by rw [h2]; simpa using hdr, (Fr.refl _ _).drew⟩
      have Hfin := hide hfin
      clear hfin h2 h1 hls hlt
      go_enter Try.func25, Try.ntmps25
      go_wp2
      refine region_still (by kernel_rfl) (by kernel_rfl) ?_
      repeat go_big_quiet_step (fail)
      refine wpQuiet_nil ?_
      go_wp2
      go_ret2
      exact Hfin.out
    · have he := ba_nonempty h2
      by_cases h3 : t.size = size
      · have hfin : RWritePost w q size t.data.toList r x s.data.toList (.returned (.tuple #[.int .i64 0, .int .i64 11])) w.drew := by
          have e1 : wrN size t.data.toList r s.data.toList = 0 := by simp only [wrN, hlt, h3]; simp
          exact ⟨by rw [e1]; simp only [wrE, hlt, h3]; simp [h1, h2], by rw [e1]; simpa using hdr, (Fr.refl _ _).drew⟩
        have Hfin := hide hfin
        have h3' : (((size : Int) - (t.size : Int)) == 0) = true := by rw [h3]; simp
        clear hfin h2 h1 h3 hls hlt
        go_enter Try.func25, Try.ntmps25
        go_wp2
        refine region_still (by kernel_rfl) (by kernel_rfl) ?_
        repeat go_big_quiet_step (fail)
        refine wpQuiet_nil ?_
        go_wp2
        go_ret2
        exact Hfin.out
      · have h3' : (((size : Int) - (t.size : Int)) == 0) = false := by rw [beq_eq_false_iff_ne]; omega
        have hfin : ∀ w1 w2 : World, ∀ v : Int, ∀ u : ByteArray, Fr (fun k => k = q) w w1 → w1.heap[q]? = w.heap[q]? → v = (min (size - t.size) s.size : Nat) → u.data.toList = t.data.toList ++ s.data.toList.take (min (size - t.size) s.size) → w2 = w1.setCell ⟨q, 3, none⟩ (.string u) → RWritePost w q size t.data.toList r x s.data.toList (.returned (.tuple #[.int .i64 v, .int .i64 0])) w2 := by
          intro w1 w2 v u hf hq hv hu hw2
          have e1 : wrN size t.data.toList r s.data.toList = min (size - t.size) s.size := by simp only [wrN, hlt, hls, if_neg h1]; exact Nat.min_comm _ _
          have e2 : wrE size t.data.toList r s.data.toList = 0 := by simp only [wrE, hlt, if_neg h1]; rw [if_neg (fun hh => h3 hh.2)]
          refine ⟨by rw [e1, e2, hv], ?_, ?_⟩
          · rw [e1, hw2]
            exact RefP.set_d ⟨t, rfl, by rw [hq]; exact hp⟩ u _ hu
          · rw [hw2]; exact hf.setCell (.inl rfl) _
        have Hfin := hide hfin
        clear hfin h2 h1 h3 hls hlt
        go_enter Try.func25, Try.ntmps25
        go_wp2
        refine region_still (by kernel_rfl) (by kernel_rfl) ?_
        repeat go_big_quiet_step (fail)
        refine wpQuiet_nil ?_
        go_wp2
        all_goals
          refine region_mix [0] [1, 2, 3, 4, 5, 6, 7, 8] 9 (by kernel_rfl) (by kernel_rfl) (fun _ _ d _ _ h => by cases d <;> exact h) ?_
          simp only [List.map_cons, List.map_nil, List.getD_cons_zero, List.getD_cons_succ, List.drop_succ_cons, List.drop_zero]
          repeat go_big_quiet_step (fail)
          refine wpQuiet_nil ?_
          repeat go_big_quiet_step (fail)
          refine wpQuiet_nil ?_
          go_wp2
          go_ret2
          refine Hfin.out w.drew.drew _ _ _ ((Fr.refl _ _).drew.drew) rfl (by show (_ : Int) = _; omega) ?_ rfl
          have hls := ba_len s
          rw [ba_append]
          congr 1
          first
            | (rw [List.take_of_length_le (by omega)]; done)
            | (rw [ba_extract, List.drop_zero]; congr 1; omega)

def RReadPost (w : World) (q size : Nat) (d : List UInt8) (r x : Nat) (n : Int) (e : Ending) (w' : World) : Prop :=
  ∃ s : ByteArray, s.data.toList = rdS d x n ∧ e = .returned (.tuple #[.string s, .int .i64 (rdE d x n)]) ∧ RefP w' q size (d.drop (rdS d x n).length) r x ∧ Fr (fun k => k = q) w w'

set_option maxHeartbeats 400000 in
theorem rread_any (q size : Nat) (d : List UInt8) (r x : Nat) (w : World) (hR : RefP w q size d r x) (n : Int) (hn : n ≤ 9223372036854775807) (hd : d.length ≤ 65536) :
    Calls Try.prog 26 #[.pointer (some ⟨q, 0, none⟩), .int .i64 n] w (RReadPost w q size d r x n) := by
  obtain ⟨t, rfl, hp⟩ := hR
  have hR : RefP w q size t.data.toList r x := ⟨t, rfl, hp⟩
  rw [ba_len] at hd
  have hb2 : w.cell? ⟨q, 2, none⟩ = some (.int .i64 x) := by rw [blk_cell hp]; rfl
  have hb3 : w.cell? ⟨q, 3, none⟩ = some (.string t) := by rw [blk_cell hp]; rfl
  have hbf := blk_frozen hp
  by_cases h1 : n < 0
  · have hfin : RReadPost w q size t.data.toList r x n (.returned (.tuple #[.string ⟨#[]⟩, .int .i64 22])) w := ⟨⟨#[]⟩, by simp [rdS, h1], by simp [rdE, h1], by simpa [rdS, h1] using hR, Fr.refl _ _⟩
    go_enter Try.func26, Try.ntmps26
    go_wp2
    go_ret2
    exact hfin
  · have h1' : 0 ≤ n := by omega
    by_cases h2 : n = 0
    · subst h2
      have hfin : RReadPost w q size t.data.toList r x 0 (.returned (.tuple #[.string ⟨#[]⟩, .int .i64 0])) w := ⟨⟨#[]⟩, by simp [rdS], by simp [rdE], by simpa [rdS] using hR, Fr.refl _ _⟩
      go_enter Try.func26, Try.ntmps26
      go_wp2
      go_ret2
      exact hfin
    · have h2' : (n == 0) = false := by simpa using h2
      have h3 : 1 ≤ n := by omega
      by_cases h4 : t.data.toList = [] ∧ 0 < x
      · have he := ba_empty h4.1
        have h5 := h4.2
        have hfin : RReadPost w q size t.data.toList r x n (.returned (.tuple #[.string ⟨#[]⟩, .int .i64 11])) w := by
          have e1 : rdS t.data.toList x n = [] := by unfold rdS; rw [if_neg h1, if_pos ⟨by omega, h4⟩]
          have e2 : rdE t.data.toList x n = 11 := by unfold rdE; rw [if_neg h1, if_pos ⟨by omega, h4⟩]
          exact ⟨⟨#[]⟩, by rw [e1], by rw [e2], by rw [e1]; simpa using hR, Fr.refl _ _⟩
        have Hfin := hide hfin
        have h5' : (0 : Int) < (x : Int) := by omega
        clear hfin h4 h2
        go_enter Try.func26, Try.ntmps26
        go_wp2
        go_ret2
        exact Hfin.out
      · have e1 : rdS t.data.toList x n = t.data.toList.take n.toNat := by unfold rdS; rw [if_neg h1, if_neg (fun hh => h4 hh.2)]
        have e2 : rdE t.data.toList x n = 0 := by unfold rdE; rw [if_neg h1, if_neg (fun hh => h4 hh.2)]
        have hfin : ∀ (s u : ByteArray) (w2 : World), s.data.toList = t.data.toList.take n.toNat → u.data.toList = t.data.toList.drop n.toNat → w2 = w.setCell ⟨q, 3, none⟩ (.string u) → RReadPost w q size t.data.toList r x n (.returned (.tuple #[.string s, .int .i64 0])) w2 := by
          intro s u w2 hs hu hw2
          refine ⟨s, by rw [e1, hs], by rw [e2], ?_, by rw [hw2]; exact (Fr.refl (fun k => k = q) _).setCell (.inl rfl) _⟩
          rw [e1, hw2]
          refine hR.set_d u _ ?_
          rw [hu, List.length_take]
          rcases Nat.le_total n.toNat t.data.toList.length with hle | hle
          · rw [Nat.min_eq_left hle]
          · rw [Nat.min_eq_right hle, List.drop_length, List.drop_of_length_le hle]
        have Hfin := hide hfin
        clear hfin e1 e2 h2
        have fin2 : ∀ (m : Nat), (m : Int) = n ∨ (m = t.size ∧ (t.size : Int) ≤ n) → (t.extract 0 m).data.toList = t.data.toList.take n.toNat ∧ (t.extract m t.size).data.toList = t.data.toList.drop n.toNat := by
          intro m hm
          have hls := ba_len t
          rw [ba_extract, ba_extract, List.drop_zero, Nat.sub_zero]
          rcases hm with hm | ⟨hm, hm2⟩
          · have : m = n.toNat := by omega
            subst this
            exact ⟨rfl, List.take_of_length_le (by rw [List.length_drop]; omega)⟩
          · subst hm
            exact ⟨by rw [List.take_of_length_le (by omega), List.take_of_length_le (by omega)], by rw [List.take_of_length_le (by rw [List.length_drop]; omega), List.drop_of_length_le (by omega), List.drop_of_length_le (by omega)]⟩
        have Fin2 := hide fin2
        clear fin2
        by_cases he0 : t.data.toList = []
        · have he := ba_empty he0
          have h5 : decide (0 < x) = false := by simpa using fun hh => h4 ⟨he0, hh⟩
          have ht0 : t.size = 0 := by rw [← ba_len, he0]; rfl
          clear h4 he0
          go_enter Try.func26, Try.ntmps26
          go_wp2
          all_goals
            go_ret2
            have hls := ba_len t
            refine Hfin.out _ _ _ ?_ ?_ rfl
            · first
                | exact (Fin2.out _ (.inl (by omega))).1
                | exact (Fin2.out _ (.inr ⟨by omega, by omega⟩)).1
                | (rw [List.take_of_length_le (by omega)]; done)
                | (rw [List.length_eq_zero_iff.1 (hls.trans ht0)]; simp; done)
            · first
                | exact (Fin2.out _ (.inl (by omega))).2
                | exact (Fin2.out _ (.inr ⟨by omega, by omega⟩)).2
                | (rw [List.drop_of_length_le (by omega)]; simp; done)
                | (rw [List.length_eq_zero_iff.1 (hls.trans ht0)]; simp; done)
        · have he := ba_nonempty he0
          clear h4 he0
          go_enter Try.func26, Try.ntmps26
          go_wp2
          all_goals
            go_ret2
            have hls := ba_len t
            refine Hfin.out _ _ _ ?_ ?_ rfl
            · first
                | exact (Fin2.out _ (.inl (by omega))).1
                | exact (Fin2.out _ (.inr ⟨by omega, by omega⟩)).1
                | (rw [List.take_of_length_le (by omega)]; done)
                | (rw [List.length_eq_zero_iff.1 (hls.trans ht0)]; simp; done)
            · first
                | exact (Fin2.out _ (.inl (by omega))).2
                | exact (Fin2.out _ (.inr ⟨by omega, by omega⟩)).2
                | (rw [List.drop_of_length_le (by omega)]; simp; done)
                | (rw [List.length_eq_zero_iff.1 (hls.trans ht0)]; simp; done)
end Go.Proofs.Ytcoaggghabdndaa
