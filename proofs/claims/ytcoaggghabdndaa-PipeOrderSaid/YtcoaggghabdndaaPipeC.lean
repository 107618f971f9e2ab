/- Contracts of the methods of pipe.Pipe: New, Open, Close, Ends, Len, Waits. Conditions: each contract's own premises. -/
import Derived.Test.YtcoaggghabdndaaPipeB
namespace Go.Proofs.Ytcoaggghabdndaa
open Go.RowKit

/-- A pipe with this state. -/
def PipeAt (w : World) (b lb size : Nat) (d : List UInt8) (r x : Nat) : Prop := ∃ fm cs, PipeF w b lb size fm d r x cs
theorem PipeAt.frame {w w' : World} {b lb size : Nat} {d : List UInt8} {r x : Nat} {S : Nat → Prop} (h : PipeAt w b lb size d r x) (hf : Fr S w w') (h1 : ¬ S b) (h2 : ¬ S lb) : PipeAt w' b lb size d r x :=
  let ⟨fm, cs, hp⟩ := h
  ⟨fm, cs, hp.frame hf h1 h2⟩
theorem PipeAt.ends {w : World} {b lb size : Nat} {d : List UInt8} {r x : Nat} (h : PipeAt w b lb size d r x) (r' x' : Nat) :
    PipeAt ((w.setCell ⟨b, 3, none⟩ (.int .i64 r')).setCell ⟨b, 4, none⟩ (.int .i64 x')) b lb size d r' x' := by
  obtain ⟨fm, cs, hp⟩ := h
  refine ⟨fm, cs, ?_, blk_set_other (blk_set_other hp.hl _ _ hp.hne.symm) _ _ hp.hne.symm, hp.hne, hp.hcs, hp.h0, hp.hs, hp.hfm, hp.hd, hp.hc⟩
  rw [blk_set (blk_set hp.hb _ _)]; simp

def NewPost (w : World) (size : Int) (e : Ending) (w' : World) : Prop :=
  Fr (fun _ => False) w w' ∧
  ((size < 1 ∨ 65536 < size) ∧ e = .returned (.tuple #[.pointer none, .int .i64 22]) ∨
   (1 ≤ size ∧ size ≤ 65536) ∧ ∃ b lb, w.heap.size ≤ b ∧ w.heap.size ≤ lb ∧ e = .returned (.tuple #[.pointer (some ⟨b, 0, none⟩), .int .i64 0]) ∧ PipeAt w' b lb size.toNat [] 0 0)

set_option maxHeartbeats 400000 in
theorem pnew_any (size : Int) (w : World) : Calls Try.prog 14 #[.int .i64 size] w (NewPost w size) := by
  obtain ⟨i0, hi, hz0, hz1, hz2⟩ := info_parts Try.info5
  by_cases h1 : size < 1
  · go_enter Try.func14, Try.ntmps14
    go_wp2
    go_ret2
    exact ⟨Fr.refl _ _, .inl ⟨.inl h1, rfl⟩⟩
  · by_cases h2 : 65536 < size
    · have h1' : 1 ≤ size := by omega
      go_enter Try.func14, Try.ntmps14
      go_wp2
      go_ret2
      exact ⟨Fr.refl _ _, .inl ⟨.inr h2, rfl⟩⟩
    · obtain ⟨n, rfl⟩ : ∃ n : Nat, size = n := ⟨size.toNat, by omega⟩
      have hmk := fun w => run_make (P := Try.prog) w 92 5 i0 (.int .u8 0) Try.underlying92 hi hz0 .i64 .i64 (n : Int) (n : Int) (by omega) (by omega) (by rw [hz2]; omega) (by omega)
      have h1' : 1 ≤ (n : Int) := by omega
      go_enter Try.func14, Try.ntmps14
      go_wp2
      go_ret2
      refine ⟨((Fr.refl _ _).alloc _).alloc _, .inr ⟨⟨h1', by omega⟩, w.heap.size + 1, w.heap.size, by omega, by omega, rfl, 0, madeCells #[.int .u8 0] n, ?_⟩⟩
      rw [Int.toNat_natCast]
      refine ⟨blk_new' _ _ _ (by simp), ?_, by omega, by simp [size_madeCells], by omega, by omega, by omega, by simp, by simp⟩
      refine blk_alloc ?_ _
      have := blk_new w (.cells (madeCells #[.int .u8 0] n) 5)
      simpa [hz1] using this

/-- What holds of the world behind a call that hands back nothing. -/
def EndsPost (w : World) (b lb size : Nat) (d : List UInt8) (r x : Nat) (v : Value) (e : Ending) (w' : World) : Prop := e = .returned v ∧ PipeAt w' b lb size d r x ∧ Fr (fun k => k = b) w w'

theorem PipeAt.end_w {w : World} {b lb size : Nat} {d : List UInt8} {r x : Nat} (h : PipeAt w b lb size d r x) (v : Int) (x' : Nat) (hv : v = x') : PipeAt (w.setCell ⟨b, 4, none⟩ (.int .i64 v)) b lb size d r x' := by
  obtain ⟨fm, cs, hp⟩ := h
  refine ⟨fm, cs, ?_, blk_set_other hp.hl _ _ hp.hne.symm, hp.hne, hp.hcs, hp.h0, hp.hs, hp.hfm, hp.hd, hp.hc⟩
  rw [blk_set hp.hb]; subst hv; simp
theorem PipeAt.end_r {w : World} {b lb size : Nat} {d : List UInt8} {r x : Nat} (h : PipeAt w b lb size d r x) (v : Int) (r' : Nat) (hv : v = r') : PipeAt (w.setCell ⟨b, 3, none⟩ (.int .i64 v)) b lb size d r' x := by
  obtain ⟨fm, cs, hp⟩ := h
  refine ⟨fm, cs, ?_, blk_set_other hp.hl _ _ hp.hne.symm, hp.hne, hp.hcs, hp.h0, hp.hs, hp.hfm, hp.hd, hp.hc⟩
  rw [blk_set hp.hb]; subst hv; simp

set_option maxHeartbeats 400000 in
theorem popen_w (b lb size : Nat) (d : List UInt8) (r x : Nat) (w : World) (h : PipeAt w b lb size d r x) (hx : x ≤ 1000000) :
    Calls Try.prog 15 #[.pointer (some ⟨b, 0, none⟩), .bool true] w (EndsPost w b lb size d r (x + 1) (.tuple #[])) := by
  have hb4 : w.cell? ⟨b, 4, none⟩ = some (.int .i64 x) := by obtain ⟨fm, cs, hp⟩ := h; rw [blk_cell hp.hb]; rfl
  have hbf : ∀ i, w.frozen? ⟨b, i, none⟩ = false := by obtain ⟨fm, cs, hp⟩ := h; exact blk_frozen hp.hb
  go_enter Try.func15, Try.ntmps15
  go_wp2_with (go_at_call 44; refine (pend_w _ _).mono ?_; rintro e w' ⟨rfl, rfl⟩)
  go_end0
  exact ⟨rfl, h.end_w _ _ (by omega), (Fr.refl (fun k => k = b) _).setCell (.inl rfl) _⟩
set_option maxHeartbeats 400000 in
theorem popen_r (b lb size : Nat) (d : List UInt8) (r x : Nat) (w : World) (h : PipeAt w b lb size d r x) (hx : r ≤ 1000000) :
    Calls Try.prog 15 #[.pointer (some ⟨b, 0, none⟩), .bool false] w (EndsPost w b lb size d (r + 1) x (.tuple #[])) := by
  have hb4 : w.cell? ⟨b, 3, none⟩ = some (.int .i64 r) := by obtain ⟨fm, cs, hp⟩ := h; rw [blk_cell hp.hb]; rfl
  have hbf : ∀ i, w.frozen? ⟨b, i, none⟩ = false := by obtain ⟨fm, cs, hp⟩ := h; exact blk_frozen hp.hb
  go_enter Try.func15, Try.ntmps15
  go_wp2_with (go_at_call 44; refine (pend_r _ _).mono ?_; rintro e w' ⟨rfl, rfl⟩)
  go_end0
  exact ⟨rfl, h.end_r _ _ (by omega), (Fr.refl (fun k => k = b) _).setCell (.inl rfl) _⟩
/-- Open, whichever end. -/
theorem popen_any (b lb size : Nat) (d : List UInt8) (r x : Nat) (w : World) (h : PipeAt w b lb size d r x) (hx : x ≤ 1000000) (hr : r ≤ 1000000) (c : Bool) :
    Calls Try.prog 15 #[.pointer (some ⟨b, 0, none⟩), .bool c] w (EndsPost w b lb size d (if c then r else r + 1) (if c then x + 1 else x) (.tuple #[])) := by
  cases c
  · exact popen_r b lb size d r x w h hr
  · exact popen_w b lb size d r x w h hx

set_option maxHeartbeats 400000 in
theorem pclose_w (b lb size : Nat) (d : List UInt8) (r x : Nat) (w : World) (h : PipeAt w b lb size d r x) (hx : x ≤ 1000000) :
    Calls Try.prog 21 #[.pointer (some ⟨b, 0, none⟩), .bool true] w (EndsPost w b lb size d r (x - 1) (.int .i64 (if x = 0 then 9 else 0))) := by
  have hb4 : w.cell? ⟨b, 4, none⟩ = some (.int .i64 x) := by obtain ⟨fm, cs, hp⟩ := h; rw [blk_cell hp.hb]; rfl
  have hbf : ∀ i, w.frozen? ⟨b, i, none⟩ = false := by obtain ⟨fm, cs, hp⟩ := h; exact blk_frozen hp.hb
  by_cases h0 : x = 0
  · subst h0
    go_enter Try.func21, Try.ntmps21
    go_wp2_with (go_at_call 44; refine (pend_w _ _).mono ?_; rintro e w' ⟨rfl, rfl⟩)
    go_ret
    exact ⟨rfl, h, Fr.refl _ _⟩
  · have h1 : ((x : Int) == 0) = false := by simpa using h0
    rw [if_neg h0]
    have H0 := hide h0
    clear h0
    go_enter Try.func21, Try.ntmps21
    go_wp2_with (go_at_call 44; refine (pend_w _ _).mono ?_; rintro e w' ⟨rfl, rfl⟩)
    go_ret
    exact ⟨rfl, h.end_w _ _ (by have := H0.out; omega), (Fr.refl (fun k => k = b) _).setCell (.inl rfl) _⟩
set_option maxHeartbeats 400000 in
theorem pclose_r (b lb size : Nat) (d : List UInt8) (r x : Nat) (w : World) (h : PipeAt w b lb size d r x) (hx : r ≤ 1000000) :
    Calls Try.prog 21 #[.pointer (some ⟨b, 0, none⟩), .bool false] w (EndsPost w b lb size d (r - 1) x (.int .i64 (if r = 0 then 9 else 0))) := by
  have hb4 : w.cell? ⟨b, 3, none⟩ = some (.int .i64 r) := by obtain ⟨fm, cs, hp⟩ := h; rw [blk_cell hp.hb]; rfl
  have hbf : ∀ i, w.frozen? ⟨b, i, none⟩ = false := by obtain ⟨fm, cs, hp⟩ := h; exact blk_frozen hp.hb
  by_cases h0 : r = 0
  · subst h0
    go_enter Try.func21, Try.ntmps21
    go_wp2_with (go_at_call 44; refine (pend_r _ _).mono ?_; rintro e w' ⟨rfl, rfl⟩)
    go_ret
    exact ⟨rfl, h, Fr.refl _ _⟩
  · have h1 : ((r : Int) == 0) = false := by simpa using h0
    rw [if_neg h0]
    have H0 := hide h0
    clear h0
    go_enter Try.func21, Try.ntmps21
    go_wp2_with (go_at_call 44; refine (pend_r _ _).mono ?_; rintro e w' ⟨rfl, rfl⟩)
    go_ret
    exact ⟨rfl, h.end_r _ _ (by have := H0.out; omega), (Fr.refl (fun k => k = b) _).setCell (.inl rfl) _⟩
/-- What Close answers. -/
def clE (c : Bool) (r x : Nat) : Int := if (if c then x else r) = 0 then 9 else 0
theorem pclose_any (b lb size : Nat) (d : List UInt8) (r x : Nat) (w : World) (h : PipeAt w b lb size d r x) (hx : x ≤ 1000000) (hr : r ≤ 1000000) (c : Bool) :
    Calls Try.prog 21 #[.pointer (some ⟨b, 0, none⟩), .bool c] w (EndsPost w b lb size d (if c then r else r - 1) (if c then x - 1 else x) (.int .i64 (clE c r x))) := by
  cases c
  · exact pclose_r b lb size d r x w h hr
  · exact pclose_w b lb size d r x w h hx

set_option maxHeartbeats 400000 in
theorem pends_any (b lb size : Nat) (d : List UInt8) (r x : Nat) (w : World) (h : PipeAt w b lb size d r x) :
    Calls Try.prog 20 #[.pointer (some ⟨b, 0, none⟩)] w fun e w' => e = .returned (.tuple #[.int .i64 r, .int .i64 x]) ∧ w' = w.drew := by
  have hb3 : w.cell? ⟨b, 3, none⟩ = some (.int .i64 r) := by obtain ⟨fm, cs, hp⟩ := h; rw [blk_cell hp.hb]; rfl
  have hb4 : w.cell? ⟨b, 4, none⟩ = some (.int .i64 x) := by obtain ⟨fm, cs, hp⟩ := h; rw [blk_cell hp.hb]; rfl
  go_enter Try.func20, Try.ntmps20
  go_wp2
  refine region_still (by kernel_rfl) (by kernel_rfl) ?_
  repeat go_big_quiet_step (fail)
  refine wpQuiet_nil ?_
  go_wp2
  go_ret2
  exact ⟨rfl, rfl⟩
set_option maxHeartbeats 400000 in
theorem plen_any (b lb size : Nat) (d : List UInt8) (r x : Nat) (w : World) (h : PipeAt w b lb size d r x) :
    Calls Try.prog 17 #[.pointer (some ⟨b, 0, none⟩)] w fun e w' => e = .returned (.int .i64 d.length) ∧ w' = w := by
  have hb2 : w.cell? ⟨b, 2, none⟩ = some (.int .i64 d.length) := by obtain ⟨fm, cs, hp⟩ := h; rw [blk_cell hp.hb]; rfl
  go_enter Try.func17, Try.ntmps17
  go_wp2
  go_ret
  exact ⟨rfl, rfl⟩
set_option maxHeartbeats 400000 in
theorem pwaits_w (b lb size : Nat) (d : List UInt8) (r x : Nat) (w : World) (h : PipeAt w b lb size d r x) :
    Calls Try.prog 22 #[.pointer (some ⟨b, 0, none⟩), .bool true] w fun e w' => e = .returned (.bool (decide (0 < r) && decide (d.length = size))) ∧ w' = w.drew := by
  have hb0 : w.cell? ⟨b, 0, none⟩ = some (.slice (some ⟨lb, 0, none⟩) size size) := by obtain ⟨fm, cs, hp⟩ := h; rw [blk_cell hp.hb]; rfl
  have hb2 : w.cell? ⟨b, 2, none⟩ = some (.int .i64 d.length) := by obtain ⟨fm, cs, hp⟩ := h; rw [blk_cell hp.hb]; rfl
  have hb3 : w.cell? ⟨b, 3, none⟩ = some (.int .i64 r) := by obtain ⟨fm, cs, hp⟩ := h; rw [blk_cell hp.hb]; rfl
  by_cases h1 : 0 < r
  · rw [show decide (0 < r) = true by simpa using h1]
    have h2 : (0 : Int) < (r : Int) := by omega
    go_enter Try.func22, Try.ntmps22
    go_wp2
    refine region_still (by kernel_rfl) (by kernel_rfl) ?_
    repeat go_big_quiet_step (fail)
    refine wpQuiet_nil ?_
    go_wp2
    go_ret
    exact ⟨ret_bool (by rw [cast_beq]; rfl), rfl⟩
  · have h2 : decide (0 < r) = false := by simpa using h1
    rw [h2]
    have h1' : decide ((0 : Int) < (r : Int)) = false := by simpa using h1
    clear h1
    go_enter Try.func22, Try.ntmps22
    go_wp2
    refine region_still (by kernel_rfl) (by kernel_rfl) ?_
    repeat go_big_quiet_step (fail)
    refine wpQuiet_nil ?_
    go_wp2
    go_ret
    exact ⟨rfl, rfl⟩
set_option maxHeartbeats 400000 in
theorem pwaits_r (b lb size : Nat) (d : List UInt8) (r x : Nat) (w : World) (h : PipeAt w b lb size d r x) :
    Calls Try.prog 22 #[.pointer (some ⟨b, 0, none⟩), .bool false] w fun e w' => e = .returned (.bool (decide (0 < x) && decide (d.length = 0))) ∧ w' = w := by
  have hb2 : w.cell? ⟨b, 2, none⟩ = some (.int .i64 d.length) := by obtain ⟨fm, cs, hp⟩ := h; rw [blk_cell hp.hb]; rfl
  have hb4 : w.cell? ⟨b, 4, none⟩ = some (.int .i64 x) := by obtain ⟨fm, cs, hp⟩ := h; rw [blk_cell hp.hb]; rfl
  by_cases h1 : 0 < x
  · rw [show decide (0 < x) = true by simpa using h1]
    have h2 : (0 : Int) < (x : Int) := by omega
    go_enter Try.func22, Try.ntmps22
    go_wp2
    go_ret
    exact ⟨ret_bool (by have := cast_beq d.length 0; simpa using this), rfl⟩
  · have h2 : decide (0 < x) = false := by simpa using h1
    rw [h2]
    have h1' : decide ((0 : Int) < (x : Int)) = false := by simpa using h1
    clear h1
    go_enter Try.func22, Try.ntmps22
    go_wp2
    go_ret
    exact ⟨rfl, rfl⟩
end Go.Proofs.Ytcoaggghabdndaa
