/- Contract of ring.take. Conditions: the contract's own premises. -/
import Derived.Test.YtdnbfhcbcdodmaaGreatDoorKerF
import Derived.Test.YtdnbfhcbcdodmaaGreatDoorStrs
import Derived.Lib.ConvBytes
import Derived.Laws.BytesArg
import Derived.Test.YtdnbfhcbcdodmaaGreatDoorKerAsk
namespace Go.Proofs.YtdnbfhcbcdodmaaGreatDoor
open Go.RowKit

def TakeRel (w : World) (b lb size fm : Nat) (d : List UInt8) (r x : Nat) (n : Int) (v : Value) (wr : World) : Prop :=
  ∃ k : Nat, (k : Int) ≤ n ∧ k ≤ d.length ∧ wr.ownsRow w.heap.size 5 1 v k (bytesV (d.take k)) ∧ (∃ cs', PipeF wr b lb size ((fm + k) % size) (d.drop k) r x cs') ∧ Fr (fun k => k = b) w wr

def TakePost (w : World) (b lb size : Nat) (d : List UInt8) (r x : Nat) (n : Int) (e : Ending) (w' : World) : Prop :=
  ∃ v, e = .returned v ∧ w'.ownsRow w.heap.size 5 1 v (d.take n.toNat).length (bytesV (d.take n.toNat)) ∧ (∃ fm' cs', PipeF w' b lb size fm' (d.drop n.toNat) r x cs') ∧ Fr (fun k => k = b) w w'

def lenOfV : Value → Nat | .slice _ n _ => n | _ => 0

set_option maxHeartbeats 400000 in
theorem take_any (b lb size fm : Nat) (d : List UInt8) (r x : Nat) (w : World) (cs : Array Value) (h : PipeF w b lb size fm d r x cs) (n : Int) (hn0 : 0 ≤ n) (hn1 : n ≤ 9223372036854775807) :
    Calls Tryz.prog 120 #[.pointer (some ⟨b, 0, none⟩), .int .i64 n] w (TakePost w b lb size d r x n) := by
  obtain ⟨i0, hi, hz0, hz1, hz2⟩ := info_parts Tryz.info5
  go_enter Tryz.func120, Tryz.ntmps120
  go_wp2
  go_loopw [5] (fun v wr => TakeRel w b lb size fm d r x n v wr) (fun v _ => d.length - lenOfV v)
  case atStart => exact ⟨0, by simpa using hn0, Nat.zero_le _, by simpa [bytesV] using World.ownsRow_nil _ _ _ _, ⟨cs, by simpa [Nat.mod_eq_of_lt h.hfm] using h⟩, Fr.refl _ _⟩
  case round =>
    obtain ⟨k, hk1, hk2, hown, ⟨cs', hp⟩, hfr⟩ := hrel
    have hv : ∃ a cap, u5 = .slice a k cap := by
      rcases hown.2 with ⟨h1, h2⟩ | ⟨g, cap, cur, h1, _⟩
      · exact ⟨none, 0, by rw [h1, h2]⟩
      · exact ⟨_, _, h1⟩
    obtain ⟨va, vcap, rfl⟩ := hv
    have hb0 : wr.cell? ⟨b, 0, none⟩ = some (.slice (some ⟨lb, 0, none⟩) size size) := by rw [blk_cell hp.hb]; rfl
    have hb1 : wr.cell? ⟨b, 1, none⟩ = some (.int .i64 ((fm + k) % size : Nat)) := by rw [blk_cell hp.hb]; rfl
    have hb2 : wr.cell? ⟨b, 2, none⟩ = some (.int .i64 ((d.length : Int) - (k : Int))) := by
      rw [blk_cell hp.hb]; simp; omega
    have hbf := blk_frozen hp.hb
    have hfm := hp.hfm
    have hsz := hp.hs
    have hpos := hp.h0
    have hne1 := hp.hne
    have hne2 := hp.hne.symm
    have hdl := h.hd
    by_cases h1 : (k : Int) < n
    · by_cases h2 : k < d.length
      · have hdr : d.drop k = d[k] :: d.drop (k + 1) := List.drop_eq_getElem_cons h2
        have hp2 := hp
        rw [hdr] at hp2
        have hfc := hp2.first
        have Hdr := hide hdr
        have Htk := hide (List.take_succ_eq_append_getElem h2)
        clear hdr
        have hm0 : (0 : Int) ≤ (((fm + k) % size : Nat) : Int) := by omega
        have hm1 : (((fm + k) % size : Nat) : Int) < (size : Int) := by have := Nat.mod_lt (fm + k) hpos; omega
        generalize hfk : (fm + k) % size = fk at *
        have Hfk := hide hfk
        clear hfk
        go_wp2
        refine region_mix [0] [1, 2, 3, 4, 5, 6, 7, 8, 9, 10] 11 (by kernel_rfl) (by kernel_rfl) (fun _ _ d _ _ h => by cases d <;> exact h) ?_
        simp only [List.map_cons, List.map_nil, List.getD_cons_zero, List.getD_cons_succ, List.drop_succ_cons, List.drop_zero]
        repeat go_big_quiet_step (fail)
        refine wpQuiet_nil ?_
        repeat go_big_quiet_step (fail)
        refine wpQuiet_nil ?_
        go_wp2_with (at_builtin; refine wpList_append_own _ rfl _ _ 118 rfl w.heap.size 5 i0 (.int .u8 0) 1 1 Tryz.underlying118 hi hz0 hz1 hz2 rfl (by decide) _ _ _ rfl (hown.drew.alloc _) ⟨wr.heap.size, 0, none⟩ 1 1 [.int .u8 (d[k].toNat : Nat)] rfl rfl ?c1 ?c2 ?c3 ?c4 ?c5 ?_)
        case c1 => exact cell_one_new _ _ _
        case c2 => intro u hu; simp at hu; subst hu; rfl
        case c3 => unfold maxLen; omega
        case c4 => omega
        case c5 => have := hfr.size; simp; omega
        intro v' w1 hown' hgrow _
        have hnb : ¬ (Value.slice va k vcap).ownBlock = some b := fun e => by have := (hown.lt _ e).1; have := blk_lt h.hb; omega
        have hnl : ¬ (Value.slice va k vcap).ownBlock = some lb := fun e => by have := (hown.lt _ e).1; have := blk_lt h.hl; omega
        have hf1 : Fr (fun q => (Value.slice va k vcap).ownBlock = some q) wr w1 := ((Fr.refl _ _).drew.alloc _).trans (Fr.of_grown hgrow)
        have hp1 := hp2.frame hf1 hnb hnl
        have hfr1 : Fr (fun q => q = b) w w1 := hfr.trans' hf1 (fun q hq e => by have := (hown.lt _ e).1; omega)
        clear hb0 hb1 hb2 hbf hgrow hf1 hnb hnl hfc hp2 hown
        have hb0 : w1.cell? ⟨b, 0, none⟩ = some (.slice (some ⟨lb, 0, none⟩) size size) := by rw [blk_cell hp1.hb]; rfl
        have hb1 : w1.cell? ⟨b, 1, none⟩ = some (.int .i64 fk) := by rw [blk_cell hp1.hb]; rfl
        have hb2 : w1.cell? ⟨b, 2, none⟩ = some (.int .i64 ((d.length : Int) - (k : Int))) := by
          rw [blk_cell hp1.hb]; simp; omega
        have hbf := blk_frozen hp1.hb
        go_wp2
        refine region_mix [0] [1, 2, 3, 4, 5, 6, 7, 8, 9, 10, 11] 12 (by kernel_rfl) (by kernel_rfl) (fun _ _ d _ _ h => by cases d <;> exact h) ?_
        simp only [List.map_cons, List.map_nil, List.getD_cons_zero, List.getD_cons_succ, List.drop_succ_cons, List.drop_zero]
        repeat go_big_quiet_step (fail)
        refine wpQuiet_nil ?_
        repeat go_big_quiet_step (fail)
        refine wpQuiet_nil ?_
        go_wp2
        go_roundw
        have hbw := blk_lt h.hb
        case rel =>
          have e1 : ((fk : Int) + 1) % (size : Int) = (((fk + 1) % size : Nat) : Int) := by rw [Int.natCast_emod]; rfl
          have e2 : (fm + (k + 1)) % size = (fk + 1) % size := by rw [← mod_step, Hfk.out]
          have hpp := hp1.pop (((fk : Int) + 1) % (size : Int)) ((d.length : Int) - (k : Int) - 1) e1 (by simp; omega)
          rw [← bytesV_snoc, ← Htk.out] at hown'
          refine ⟨k + 1, by omega, by omega, ?_, ⟨cs', by rw [e2]; exact hpp.frame ((Fr.refl (fun _ => False) _).drew) (by simp) (by simp)⟩, ?_⟩
          · exact (ownsRow_setCell_below (ownsRow_setCell_below hown' hbw _) hbw _).drew
          · exact ((hfr1.setCell (.inl rfl) _).setCell (.inl rfl) _).drew
        case measure =>
          have : lenOfV v' = k + 1 := by
            rcases hown'.2 with ⟨h1, h2⟩ | ⟨g, cap, cur, h1, _⟩
            · omega
            · rw [h1]; rfl
          rw [this]; simp [lenOfV]; omega
      · have e1 : k = d.length := by omega
        have e2 : d.take n.toNat = d.take k := by rw [List.take_of_length_le (by omega), List.take_of_length_le (by omega)]
        have e3 : d.drop n.toNat = d.drop k := by rw [List.drop_of_length_le (by omega), List.drop_of_length_le (by omega)]
        have e4 : (d.take n.toNat).length = k := by simp; omega
        have hfin : TakePost w b lb size d r x n (.returned (.slice va k vcap)) wr := ⟨_, rfl, by rw [e4, e2]; exact hown, ⟨_, _, by rw [e3]; exact hp⟩, hfr⟩
        clear e1 e2 e3 e4
        go_wp2
        go_ret
        exact hfin
    · have e1 : k = n.toNat := by omega
      have hfin : TakePost w b lb size d r x n (.returned (.slice va k vcap)) wr := ⟨_, rfl, by rw [← e1, List.length_take, Nat.min_eq_left hk2]; exact hown, ⟨_, _, by rw [← e1]; exact hp⟩, hfr⟩
      clear e1
      go_wp2
      go_ret
      exact hfin
end Go.Proofs.YtdnbfhcbcdodmaaGreatDoor

/- Contracts of the methods of pipe.Pipe: New, Open, Close, Ends, Len, Waits. Conditions: each contract's own premises. -/
namespace Go.Proofs.YtdnbfhcbcdodmaaGreatDoor
open Go.RowKit

/-- A pipe with this state. -/
def PipeAt (w : World) (b lb size : Nat) (d : List UInt8) (r x : Nat) : Prop := ∃ fm cs, PipeF w b lb size fm d r x cs
theorem PipeAt.frame {w w' : World} {b lb size : Nat} {d : List UInt8} {r x : Nat} {S : Nat → Prop} (h : PipeAt w b lb size d r x) (hf : Fr S w w') (h1 : ¬ S b) (h2 : ¬ S lb) : PipeAt w' b lb size d r x :=
  let ⟨fm, cs, hp⟩ := h
  ⟨fm, cs, hp.frame hf h1 h2⟩
theorem PipeAt.ends {w : World} {b lb size : Nat} {d : List UInt8} {r x : Nat} (h : PipeAt w b lb size d r x) (r' x' : Nat) :
    PipeAt ((w.setCell ⟨b, 3, none⟩ (.int .i64 r')).setCell ⟨b, 4, none⟩ (.int .i64 x')) b lb size d r' x' := by
  obtain ⟨fm, cs, hp⟩ := h
  refine ⟨fm, cs, ?_, blk_set_other (blk_set_other hp.hl _ _ hp.hne.symm) _ _ hp.hne.symm, hp.hne, hp.hcs, hp.h0, hp.hs, hp.hfm, hp.hd, hp.hc⟩
  rw [blk_set (blk_set hp.hb _ _)]; simp

def PipeNewPost (w : World) (size : Int) (e : Ending) (w' : World) : Prop :=
  Fr (fun _ => False) w w' ∧
  ((size < 1 ∨ 65536 < size) ∧ e = .returned (.tuple #[.pointer none, .int .i64 22]) ∨
   (1 ≤ size ∧ size ≤ 65536) ∧ ∃ b lb, w.heap.size ≤ b ∧ w.heap.size ≤ lb ∧ e = .returned (.tuple #[.pointer (some ⟨b, 0, none⟩), .int .i64 0]) ∧ PipeAt w' b lb size.toNat [] 0 0)

set_option maxHeartbeats 400000 in
theorem pnew_any (size : Int) (w : World) : Calls Tryz.prog 89 #[.int .i64 size] w (PipeNewPost w size) := by
  obtain ⟨i0, hi, hz0, hz1, hz2⟩ := info_parts Tryz.info5
  by_cases h1 : size < 1
  · go_enter Tryz.func89, Tryz.ntmps89
    go_wp2
    go_ret2
    exact ⟨Fr.refl _ _, .inl ⟨.inl h1, rfl⟩⟩
  · by_cases h2 : 65536 < size
    · have h1' : 1 ≤ size := by omega
      go_enter Tryz.func89, Tryz.ntmps89
      go_wp2
      go_ret2
      exact ⟨Fr.refl _ _, .inl ⟨.inr h2, rfl⟩⟩
    · obtain ⟨n, rfl⟩ : ∃ n : Nat, size = n := ⟨size.toNat, by omega⟩
      have hmk := fun w => run_make (P := Tryz.prog) w 118 5 i0 (.int .u8 0) Tryz.underlying118 hi hz0 .i64 .i64 (n : Int) (n : Int) (by omega) (by omega) (by rw [hz2]; omega) (by omega)
      have h1' : 1 ≤ (n : Int) := by omega
      go_enter Tryz.func89, Tryz.ntmps89
      go_wp2
      go_ret2
      refine ⟨((Fr.refl _ _).alloc _).alloc _, .inr ⟨⟨h1', by omega⟩, w.heap.size + 1, w.heap.size, by omega, by omega, rfl, 0, madeCells #[.int .u8 0] n, ?_⟩⟩
      rw [Int.toNat_natCast]
      refine ⟨blk_new' _ _ _ (by simp), ?_, by omega, by simp [size_madeCells], by omega, by omega, by omega, by simp, by simp⟩
      refine blk_alloc ?_ _
      have := blk_new w (.cells (madeCells #[.int .u8 0] n) 5)
      simpa [hz1] using this

/-- What holds of the world behind a call that hands back nothing. -/
def EndsPost (w : World) (b lb size : Nat) (d : List UInt8) (r x : Nat) (v : Value) (e : Ending) (w' : World) : Prop := e = .returned v ∧ PipeAt w' b lb size d r x ∧ Fr (fun k => k = b) w w'

theorem PipeAt.end_w {w : World} {b lb size : Nat} {d : List UInt8} {r x : Nat} (h : PipeAt w b lb size d r x) (v : Int) (x' : Nat) (hv : v = x') : PipeAt (w.setCell ⟨b, 4, none⟩ (.int .i64 v)) b lb size d r x' := by
  obtain ⟨fm, cs, hp⟩ := h
  refine ⟨fm, cs, ?_, blk_set_other hp.hl _ _ hp.hne.symm, hp.hne, hp.hcs, hp.h0, hp.hs, hp.hfm, hp.hd, hp.hc⟩
  rw [blk_set hp.hb]; subst hv; simp
theorem PipeAt.end_r {w : World} {b lb size : Nat} {d : List UInt8} {r x : Nat} (h : PipeAt w b lb size d r x) (v : Int) (r' : Nat) (hv : v = r') : PipeAt (w.setCell ⟨b, 3, none⟩ (.int .i64 v)) b lb size d r' x := by
  obtain ⟨fm, cs, hp⟩ := h
  refine ⟨fm, cs, ?_, blk_set_other hp.hl _ _ hp.hne.symm, hp.hne, hp.hcs, hp.h0, hp.hs, hp.hfm, hp.hd, hp.hc⟩
  rw [blk_set hp.hb]; subst hv; simp

set_option maxHeartbeats 400000 in
theorem popen_w (b lb size : Nat) (d : List UInt8) (r x : Nat) (w : World) (h : PipeAt w b lb size d r x) (hx : x ≤ 1000000) :
    Calls Tryz.prog 91 #[.pointer (some ⟨b, 0, none⟩), .bool true] w (EndsPost w b lb size d r (x + 1) (.tuple #[])) := by
  have hb4 : w.cell? ⟨b, 4, none⟩ = some (.int .i64 x) := by obtain ⟨fm, cs, hp⟩ := h; rw [blk_cell hp.hb]; rfl
  have hbf : ∀ i, w.frozen? ⟨b, i, none⟩ = false := by obtain ⟨fm, cs, hp⟩ := h; exact blk_frozen hp.hb
  go_enter Tryz.func91, Tryz.ntmps91
  go_wp2_with (go_at_call 124; refine (pend_w _ _).mono ?_; rintro e w' ⟨rfl, rfl⟩)
  go_end0
  exact ⟨rfl, h.end_w _ _ (by omega), (Fr.refl (fun k => k = b) _).setCell (.inl rfl) _⟩
set_option maxHeartbeats 400000 in
theorem popen_r (b lb size : Nat) (d : List UInt8) (r x : Nat) (w : World) (h : PipeAt w b lb size d r x) (hx : r ≤ 1000000) :
    Calls Tryz.prog 91 #[.pointer (some ⟨b, 0, none⟩), .bool false] w (EndsPost w b lb size d (r + 1) x (.tuple #[])) := by
  have hb4 : w.cell? ⟨b, 3, none⟩ = some (.int .i64 r) := by obtain ⟨fm, cs, hp⟩ := h; rw [blk_cell hp.hb]; rfl
  have hbf : ∀ i, w.frozen? ⟨b, i, none⟩ = false := by obtain ⟨fm, cs, hp⟩ := h; exact blk_frozen hp.hb
  go_enter Tryz.func91, Tryz.ntmps91
  go_wp2_with (go_at_call 124; refine (pend_r _ _).mono ?_; rintro e w' ⟨rfl, rfl⟩)
  go_end0
  exact ⟨rfl, h.end_r _ _ (by omega), (Fr.refl (fun k => k = b) _).setCell (.inl rfl) _⟩
set_option maxHeartbeats 400000 in
theorem pends_any (b lb size : Nat) (d : List UInt8) (r x : Nat) (w : World) (h : PipeAt w b lb size d r x) :
    Calls Tryz.prog 59 #[.pointer (some ⟨b, 0, none⟩)] w fun e w' => e = .returned (.tuple #[.int .i64 r, .int .i64 x]) ∧ w' = w.drew := by
  have hb3 : w.cell? ⟨b, 3, none⟩ = some (.int .i64 r) := by obtain ⟨fm, cs, hp⟩ := h; rw [blk_cell hp.hb]; rfl
  have hb4 : w.cell? ⟨b, 4, none⟩ = some (.int .i64 x) := by obtain ⟨fm, cs, hp⟩ := h; rw [blk_cell hp.hb]; rfl
  go_enter Tryz.func59, Tryz.ntmps59
  go_wp2
  refine region_still (by kernel_rfl) (by kernel_rfl) ?_
  repeat go_big_quiet_step (fail)
  refine wpQuiet_nil ?_
  go_wp2
  go_ret2
  exact ⟨rfl, rfl⟩
set_option maxHeartbeats 400000 in
theorem plen_any (b lb size : Nat) (d : List UInt8) (r x : Nat) (w : World) (h : PipeAt w b lb size d r x) :
    Calls Tryz.prog 60 #[.pointer (some ⟨b, 0, none⟩)] w fun e w' => e = .returned (.int .i64 d.length) ∧ w' = w := by
  have hb2 : w.cell? ⟨b, 2, none⟩ = some (.int .i64 d.length) := by obtain ⟨fm, cs, hp⟩ := h; rw [blk_cell hp.hb]; rfl
  go_enter Tryz.func60, Tryz.ntmps60
  go_wp2
  go_ret
  exact ⟨rfl, rfl⟩
end Go.Proofs.YtdnbfhcbcdodmaaGreatDoor

/- Contracts of pipe.Pipe's Write and Read. Conditions: each contract's own premises. -/
namespace Go.Proofs.YtdnbfhcbcdodmaaGreatDoor
open Go.RowKit

/-- What Write answers. -/
def wrN (size : Nat) (d : List UInt8) (r : Nat) (s : List UInt8) : Nat := if r = 0 then 0 else min s.length (size - d.length)
def wrE (size : Nat) (d : List UInt8) (r : Nat) (s : List UInt8) : Int := if r = 0 then 32 else if s ≠ [] ∧ d.length = size then 11 else 0
def WritePost (w : World) (b lb size : Nat) (d : List UInt8) (r x : Nat) (s : List UInt8) (e : Ending) (w' : World) : Prop :=
  e = .returned (.tuple #[.int .i64 (wrN size d r s : Nat), .int .i64 (wrE size d r s)]) ∧ PipeAt w' b lb size (d ++ s.take (wrN size d r s)) r x ∧ Fr (fun k => k = b ∨ k = lb) w w'

theorem pfr_bytes (w : World) (e : TypeId) (s : ByteArray) : Fr (fun _ => False) w (Lib.bytesWorld w e s) :=
  ⟨rfl, rfl, rfl, by rw [Lib.bytesWorld_size]; omega, fun k hk _ => Lib.bytesWorld_at_old w e s k hk⟩

set_option maxHeartbeats 400000 in
theorem pwrite_any (b lb size : Nat) (d : List UInt8) (r x : Nat) (w : World) (h : PipeAt w b lb size d r x) (s : ByteArray) (hs : s.size ≤ 9223372036854775807) :
    Calls Tryz.prog 80 #[.pointer (some ⟨b, 0, none⟩), .string s] w (WritePost w b lb size d r x s.data.toList) := by
  have hb0 : w.cell? ⟨b, 0, none⟩ = some (.slice (some ⟨lb, 0, none⟩) size size) := by obtain ⟨fm, cs, hp⟩ := h; rw [blk_cell hp.hb]; rfl
  have hb2 : w.cell? ⟨b, 2, none⟩ = some (.int .i64 d.length) := by obtain ⟨fm, cs, hp⟩ := h; rw [blk_cell hp.hb]; rfl
  have hb3 : w.cell? ⟨b, 3, none⟩ = some (.int .i64 r) := by obtain ⟨fm, cs, hp⟩ := h; rw [blk_cell hp.hb]; rfl
  by_cases h1 : r = 0
  · subst h1
    go_enter Tryz.func80, Tryz.ntmps80
    go_wp2
    go_ret2
    exact ⟨rfl, by simpa [wrN] using h, Fr.refl _ _⟩
  · have h1' : ((r : Int) == 0) = false := by simpa using h1
    have H1 := hide h1
    clear h1
    have hcv := fun w => Lib.run_convert_string_bytes (P := Tryz.prog) w 9 118 5 s Tryz.underlying9 Tryz.underlying118 Tryz.underlying5
    -- the call of put
    have hput : ∀ W : World, Fr (fun _ => False) w W → Calls Tryz.prog 122 #[.pointer (some ⟨b, 0, none⟩), .slice (some ⟨W.heap.size, 0, none⟩) s.size (grownCap W s.size 0 5)] (Lib.bytesWorld W 5 s)
        fun e w' => e = .returned (.int .i64 (min s.data.toList.length (size - d.length) : Nat)) ∧ PipeAt w' b lb size (d ++ s.data.toList.take (size - d.length)) r x ∧ Fr (fun k => k = b ∨ k = lb) w w' := by
      intro W hW
      obtain ⟨fm, cs, hp⟩ := h
      have hbl := blk_lt hp.hb
      have hll := blk_lt hp.hl
      have hsz := hW.size
      have hl : s.size = s.data.toList.length := (ba_len s).symm
      have := put_any b lb size fm d s.data.toList r x (Lib.bytesWorld W 5 s) cs ((hp.frame hW (by simp) (by simp)).frame (pfr_bytes _ _ _) (by simp) (by simp)) W.heap.size (grownCap W s.size 0 5) _ _
        (Lib.bytesWorld_at_new W 5 s) (by
          intro i hi
          rw [← hl] at hi
          have := Lib.bytesWorld_cell W 5 s i hi
          rwa [blk_cell (Lib.bytesWorld_at_new W 5 s)] at this) (by omega) (by omega) (by omega)
      rw [← hl] at this
      refine this.mono fun e w' ⟨h1, ⟨cs', h2⟩, h3⟩ => ⟨by rw [h1, ← hl], ⟨_, _, h2⟩, ?_⟩
      exact (hW.mono (fun _ _ hf => hf.elim)).trans (((pfr_bytes W 5 s).mono (fun _ _ hf => hf.elim)).trans h3)
    have Hput := hide hput
    clear hput
    by_cases h2 : s.data.toList = []
    · have he := ba_empty h2
      have hfin : ∀ e w', (e = .returned (.tuple #[.int .i64 (min s.data.toList.length (size - d.length) : Nat), .int .i64 0]) ∧ PipeAt w' b lb size (d ++ s.data.toList.take (size - d.length)) r x ∧ Fr (fun k => k = b ∨ k = lb) w w') → WritePost w b lb size d r x s.data.toList e w' := by
        intro e w' ⟨h3, h4, h5⟩
        rw [h2] at h3 h4 ⊢
        exact ⟨by rw [h3]; simp [wrN, wrE, H1.out], by simpa using h4, h5⟩
      have Hfin := hide hfin
      clear hfin h2
      go_enter Tryz.func80, Tryz.ntmps80
      go_wp2
      refine region_still (by kernel_rfl) (by kernel_rfl) ?_
      repeat go_big_quiet_step (fail)
      refine wpQuiet_nil ?_
      go_wp2_with (go_at_call 122; refine (Hput.out w.drew ((Fr.refl _ _).drew)).mono ?_; rintro e w' ⟨rfl, hw2⟩)
      go_ret2
      exact Hfin.out _ _ ⟨rfl, hw2⟩
    · have he := ba_nonempty h2
      by_cases h3 : d.length = size
      · have h3' : ((d.length : Int) == (size : Int)) = true := by rw [cast_beq]; simpa using h3
        have hfin : WritePost w b lb size d r x s.data.toList (.returned (.tuple #[.int .i64 0, .int .i64 11])) w.drew := by
          refine ⟨?_, ?_, (Fr.refl _ _).drew⟩
          · simp [wrN, wrE, H1.out, h2, h3]
          · have : wrN size d r s.data.toList = 0 := by simp [wrN, h3]
            rw [this]; simpa using h.frame ((Fr.refl (fun _ => False) _).drew) (by simp) (by simp)
        have Hfin := hide hfin
        clear hfin h2 h3
        go_enter Tryz.func80, Tryz.ntmps80
        go_wp2
        refine region_still (by kernel_rfl) (by kernel_rfl) ?_
        repeat go_big_quiet_step (fail)
        refine wpQuiet_nil ?_
        go_wp2
        go_ret2
        exact Hfin.out
      · have h3' : ((d.length : Int) == (size : Int)) = false := by rw [cast_beq]; simpa using h3
        have hfin : ∀ e w', (e = .returned (.tuple #[.int .i64 (min s.data.toList.length (size - d.length) : Nat), .int .i64 0]) ∧ PipeAt w' b lb size (d ++ s.data.toList.take (size - d.length)) r x ∧ Fr (fun k => k = b ∨ k = lb) w w') → WritePost w b lb size d r x s.data.toList e w' := by
          intro e w' ⟨h4, h5, h6⟩
          have e1 : wrN size d r s.data.toList = min s.data.toList.length (size - d.length) := by simp [wrN, H1.out]
          have e2 : wrE size d r s.data.toList = 0 := by simp [wrE, H1.out, h3]
          refine ⟨by rw [e1, e2, h4], ?_, h6⟩
          rw [e1]
          have : s.data.toList.take (min s.data.toList.length (size - d.length)) = s.data.toList.take (size - d.length) := by
            rw [← List.take_take]; exact List.take_of_length_le (List.length_take_le' _ _)
          rw [this]; exact h5
        have Hfin := hide hfin
        clear hfin h2 h3
        go_enter Tryz.func80, Tryz.ntmps80
        go_wp2
        refine region_still (by kernel_rfl) (by kernel_rfl) ?_
        repeat go_big_quiet_step (fail)
        refine wpQuiet_nil ?_
        go_wp2_with (go_at_call 122; refine (Hput.out w.drew ((Fr.refl _ _).drew)).mono ?_; rintro e w' ⟨rfl, hw2⟩)
        go_ret2
        exact Hfin.out _ _ ⟨rfl, hw2⟩

/-- A row of bytes, as a string. -/
theorem conv_own {P : Program} {w : World} {base : Nat} {v : Value} {l : List UInt8} (src dst e : TypeId) (hown : w.ownsRow base e 1 v l.length (bytesV l))
    (hs : P.underlying src = some (.slice e)) (he : P.underlying e = some (.int .u8)) (hd : P.underlying dst = some .string) :
    (convert src dst v).run P w = .ok (.string ⟨l.toArray⟩) w := by
  rcases hown.2 with ⟨h1, h2⟩ | ⟨g, cap, cur, h1, _, h3, _, _, _, h7⟩
  · have : l = [] := List.length_eq_zero_iff.1 h2
    subst this
    rw [h1]
    exact run_convert_bytes_nil w src e hs he 0 0 dst hd
  · rw [h1]
    have := run_convert_bytes_arg (P := P) w src e hs he g 0 l.length cap (l.map fun c => ((c.toNat : Nat) : Int)) (by simp) (by
      intro i hi
      rw [Nat.zero_add, blk_cell h3]
      have h8 := congrArg (fun q : List Value => q[i]?) h7
      simp only [Nat.mul_one, bytesV, List.getElem?_take, hi, if_true, List.getElem?_map] at h8
      rw [← Array.getElem?_toList, h8]
      simp [hi]) dst hd
    rw [this]
    have e1 : strOfNums (l.map fun c => ((c.toNat : Nat) : Int)) = ⟨l.toArray⟩ := by simp [strOfNums, Function.comp_def]
    rw [e1]

/-- What Read answers. -/
def rdS (d : List UInt8) (x : Nat) (n : Int) : List UInt8 := if n < 0 then [] else if 0 < n ∧ d = [] ∧ 0 < x then [] else d.take n.toNat
def rdE (d : List UInt8) (x : Nat) (n : Int) : Int := if n < 0 then 22 else if 0 < n ∧ d = [] ∧ 0 < x then 11 else 0
def ReadPost (w : World) (b lb size : Nat) (d : List UInt8) (r x : Nat) (n : Int) (e : Ending) (w' : World) : Prop :=
  e = .returned (.tuple #[.string ⟨(rdS d x n).toArray⟩, .int .i64 (rdE d x n)]) ∧ PipeAt w' b lb size (d.drop (rdS d x n).length) r x ∧ Fr (fun k => k = b) w w'

set_option maxHeartbeats 400000 in
theorem pread_any (b lb size : Nat) (d : List UInt8) (r x : Nat) (w : World) (h : PipeAt w b lb size d r x) (n : Int) (hn : n ≤ 9223372036854775807) :
    Calls Tryz.prog 76 #[.pointer (some ⟨b, 0, none⟩), .int .i64 n] w (ReadPost w b lb size d r x n) := by
  have hb2 : w.cell? ⟨b, 2, none⟩ = some (.int .i64 d.length) := by obtain ⟨fm, cs, hp⟩ := h; rw [blk_cell hp.hb]; rfl
  have hb4 : w.cell? ⟨b, 4, none⟩ = some (.int .i64 x) := by obtain ⟨fm, cs, hp⟩ := h; rw [blk_cell hp.hb]; rfl
  by_cases h1 : n < 0
  · have hfin : ReadPost w b lb size d r x n (.returned (.tuple #[.string ⟨#[]⟩, .int .i64 22])) w := ⟨by simp [rdS, rdE, h1], by simpa [rdS, h1] using h, Fr.refl _ _⟩
    go_enter Tryz.func76, Tryz.ntmps76
    go_wp2
    go_ret2
    exact hfin
  · have h1' : 0 ≤ n := by omega
    have htake : Calls Tryz.prog 120 #[.pointer (some ⟨b, 0, none⟩), .int .i64 n] w (TakePost w b lb size d r x n) := by
      obtain ⟨fm, cs, hp⟩ := h
      exact take_any b lb size fm d r x w cs hp n h1' hn
    have Htake := hide htake
    clear htake
    have hgo : ∀ v w', w'.ownsRow w.heap.size 5 1 v (d.take n.toNat).length (bytesV (d.take n.toNat)) → (convert 118 9 v).run Tryz.prog w' = .ok (.string ⟨(d.take n.toNat).toArray⟩) w' :=
      fun v w' h => conv_own _ _ _ h Tryz.underlying118 Tryz.underlying5 Tryz.underlying9
    have Hgo := hide hgo
    clear hgo
    by_cases h3 : 0 < n
    · have h3' : decide ((0 : Int) < n) = true := by simpa using h3
      by_cases h2 : d = []
      · by_cases h4 : 0 < x
        · have h4' : (0 : Int) < (x : Int) := by omega
          have hfin : ReadPost w b lb size d r x n (.returned (.tuple #[.string ⟨#[]⟩, .int .i64 11])) w := ⟨by simp [rdS, rdE, h1, h2, h3, h4], by simpa [rdS, h1, h2, h3, h4] using h, Fr.refl _ _⟩
          have Hfin := hide hfin
          have hl0 : ((d.length : Int) == 0) = true := by simp [h2]
          clear hfin h2
          go_enter Tryz.func76, Tryz.ntmps76
          go_wp2
          go_ret2
          exact Hfin.out
        · have h4' : decide (0 < x) = false := by simpa using h4
          have hfin : ∀ v w', TakePost w b lb size d r x n (.returned v) w' → ∃ s, (convert 118 9 v).run Tryz.prog w' = .ok (.string s) w' ∧ ReadPost w b lb size d r x n (.returned (.tuple #[.string s, .int .i64 0])) w' := by
            intro v w' ⟨v', hv, hown, ⟨fm', cs', hp⟩, hf⟩
            injection hv with hv
            subst hv
            have e1 : rdS d x n = d.take n.toNat := by simp [rdS, h1, h4]
            have e2 : rdE d x n = 0 := by simp [rdE, h1, h4]
            refine ⟨_, Hgo.out _ _ hown, by rw [e1, e2], ?_, hf⟩
            rw [e1, List.length_take]
            have e3 : d.drop (min n.toNat d.length) = d.drop n.toNat := by
              rcases Nat.le_total n.toNat d.length with hle | hle
              · rw [Nat.min_eq_left hle]
              · rw [Nat.min_eq_right hle, List.drop_length, List.drop_of_length_le hle]
            rw [e3]
            exact ⟨fm', cs', hp⟩
          have Hfin := hide hfin
          clear hfin
          have hl0 : ((d.length : Int) == 0) = true := by simp [h2]
          clear h2
          go_enter Tryz.func76, Tryz.ntmps76
          go_wp2_with (go_at_call 120; refine Htake.out.mono ?_; intro e w' hw2; obtain ⟨v, rfl, hw3⟩ := hw2; obtain ⟨sv, hcv, hrp⟩ := Hfin.out v w' ⟨v, rfl, hw3⟩; have Hrp := hide hrp; clear hrp hw3)
          go_ret2
          exact Hrp.out
      · have hl0 : ((d.length : Int) == 0) = false := by simpa using h2
        have hfin : ∀ v w', TakePost w b lb size d r x n (.returned v) w' → ∃ s, (convert 118 9 v).run Tryz.prog w' = .ok (.string s) w' ∧ ReadPost w b lb size d r x n (.returned (.tuple #[.string s, .int .i64 0])) w' := by
          intro v w' ⟨v', hv, hown, ⟨fm', cs', hp⟩, hf⟩
          injection hv with hv
          subst hv
          have e1 : rdS d x n = d.take n.toNat := by simp [rdS, h1, h2]
          have e2 : rdE d x n = 0 := by simp [rdE, h1, h2]
          refine ⟨_, Hgo.out _ _ hown, by rw [e1, e2], ?_, hf⟩
          rw [e1, List.length_take]
          have e3 : d.drop (min n.toNat d.length) = d.drop n.toNat := by
            rcases Nat.le_total n.toNat d.length with hle | hle
            · rw [Nat.min_eq_left hle]
            · rw [Nat.min_eq_right hle, List.drop_length, List.drop_of_length_le hle]
          rw [e3]
          exact ⟨fm', cs', hp⟩
        have Hfin := hide hfin
        clear hfin
        clear h2
        go_enter Tryz.func76, Tryz.ntmps76
        go_wp2_with (go_at_call 120; refine Htake.out.mono ?_; intro e w' hw2; obtain ⟨v, rfl, hw3⟩ := hw2; obtain ⟨sv, hcv, hrp⟩ := Hfin.out v w' ⟨v, rfl, hw3⟩; have Hrp := hide hrp; clear hrp hw3)
        go_ret2
        exact Hrp.out
    · have h3' : decide ((0 : Int) < n) = false := by simpa using h3
      have hfin : ∀ v w', TakePost w b lb size d r x n (.returned v) w' → ∃ s, (convert 118 9 v).run Tryz.prog w' = .ok (.string s) w' ∧ ReadPost w b lb size d r x n (.returned (.tuple #[.string s, .int .i64 0])) w' := by
        intro v w' ⟨v', hv, hown, ⟨fm', cs', hp⟩, hf⟩
        injection hv with hv
        subst hv
        have e1 : rdS d x n = d.take n.toNat := by simp [rdS, h1, h3]
        have e2 : rdE d x n = 0 := by simp [rdE, h1, h3]
        refine ⟨_, Hgo.out _ _ hown, by rw [e1, e2], ?_, hf⟩
        rw [e1, List.length_take]
        have e3 : d.drop (min n.toNat d.length) = d.drop n.toNat := by
          rcases Nat.le_total n.toNat d.length with hle | hle
          · rw [Nat.min_eq_left hle]
          · rw [Nat.min_eq_right hle, List.drop_length, List.drop_of_length_le hle]
        rw [e3]
        exact ⟨fm', cs', hp⟩
      have Hfin := hide hfin
      clear hfin
      clear h3
      go_enter Tryz.func76, Tryz.ntmps76
      go_wp2_with (go_at_call 120; refine Htake.out.mono ?_; intro e w' hw2; obtain ⟨v, rfl, hw3⟩ := hw2; obtain ⟨sv, hcv, hrp⟩ := Hfin.out v w' ⟨v, rfl, hw3⟩; have Hrp := hide hrp; clear hrp hw3)
      go_ret2
      exact Hrp.out
end Go.Proofs.YtdnbfhcbcdodmaaGreatDoor

/- gate.asked.read. Conditions: the contract's own premises. -/
namespace Go.Proofs.YtdnbfhcbcdodmaaGreatDoor
open Go.RowKit

attribute [local go_sem] Oper.semAt_some

def resV (q : ResQ) : ResV := ⟨q.n, q.m, q.s, .slice none 0 0, q.st, q.err⟩
/-- Behind a call of a process: does it wait, the answer, the kernel. -/
def KaskPost (w : World) (k : Nat) (K : KQ) (L : KLay) (i a : Nat) (c : SysQ) (R : Bool × ResQ × KQ) (e : Ending) (w' : World) : Prop :=
  e = .returned (.bool R.1) ∧ ∃ L', KF w' k R.2.2 L' ∧ LExt K R.2.2 L L' ∧ Fr (fun b => L.o b ≠ none ∨ b = a) w w' ∧ (∀ b, L'.o b ≠ none → L.o b ≠ none ∨ w.heap.size ≤ b) ∧ ∃ r, AskAt w' a k (L.qb i) c r ∧ (R.1 = false → r = resV R.2.1)
theorem ask_err {w : World} {a k q : Nat} {c : SysQ} {r : ResV} (h : AskAt w a k q c r) (x : Int) : AskAt (w.setCell ⟨a, 17, none⟩ (.int .i64 x)) a k q c { r with err := x } := by
  unfold AskAt at h ⊢
  rw [blk_set h]
  rfl
theorem ask_s {w : World} {a k q : Nat} {c : SysQ} {r : ResV} (h : AskAt w a k q c r) (x : ByteArray) : AskAt (w.setCell ⟨a, 10, none⟩ (.string x)) a k q c { r with s := x } := by
  unfold AskAt at h ⊢
  rw [blk_set h]
  rfl
theorem KF.ask {w : World} {k : Nat} {K : KQ} {L : KLay} (h : KF w k K L) {a : Nat} (ha : L.o a = none) (j : Nat) (v : Value) : KF (w.setCell ⟨a, j, none⟩ v) k K L :=
  h.still ((Fr.refl (fun b => b = a) w).setCell (p := ⟨a, j, none⟩) (.inl rfl) v) fun b t e e2 => by rw [e2, ha] at e; cases e
theorem fr_ask {L : KLay} (w : World) (a j : Nat) (v : Value) : Fr (fun b => L.o b ≠ none ∨ b = a) w (w.setCell ⟨a, j, none⟩ v) := (Fr.refl (fun b => L.o b ≠ none ∨ b = a) w).setCell (p := ⟨a, j, none⟩) (.inl (.inr rfl)) v
theorem setP_same (K : KQ) (n : Nat) : K.setP n { K.pipe n with data := (K.pipe n).data.drop ([] : List UInt8).length } = K := by
  unfold KQ.setP
  have : (fun j => if j = n then { K.pipe n with data := (K.pipe n).data.drop ([] : List UInt8).length } else K.pipe j) = K.pipe := by
    funext j
    by_cases e : j = n
    · rw [if_pos e, e]; rfl
    · rw [if_neg e]
  rw [this]
theorem drop_take (d : List UInt8) (n : Nat) : d.drop (d.take n).length = d.drop n := by
  rw [List.length_take]
  by_cases h : n ≤ d.length
  · rw [Nat.min_eq_left h]
  · rw [Nat.min_eq_right (by omega), List.drop_length, List.drop_of_length_le (by omega)]
theorem ask_ne {L : KLay} {a b : Nat} {t : Nat × Nat} (ha : L.o a = none) (e : L.o b = some t) : b ≠ a := fun e2 => by rw [e2, ha] at e; cases e
set_option maxRecDepth 100000 in
set_option maxHeartbeats 1000000 in
theorem aread_pip (w : World) (k : Nat) (K : KQ) (L : KLay) (h : KF w k K L) (N : Nat) (hok : KOk K N) (_hN : N ≤ 1000000) (i : Nat) (h1 : 1 ≤ i) (h2 : i ≤ K.qn) (a : Nat) (c : SysQ) (hc : -9223372036854775808 ≤ c.b ∧ c.b ≤ 9223372036854775807) (ha : AskAt w a k (L.qb i) c noResV) (hao : L.o a = none) (j : Nat) (hf : fdQ K i c.a = some j) (hr : (K.desc j).reads = true) (hb : 0 ≤ c.b) (hk : (K.desc j).kind = 3) : Calls Tryz.prog 44 #[ptrAt a] w (KaskPost w k K L i a c (readQ K i c.a c.b)) := by
  obtain ⟨j1, j2⟩ := fdQ_ok hok.fds h1 h2 hf
  have hdo := hok.desc j j1 j2
  have c3 : w.cell? ⟨a, 3, none⟩ = some (.int .i64 c.a) := by rw [blk_cell ha]; rfl
  have c4 : w.cell? ⟨a, 4, none⟩ = some (.int .i64 c.b) := by rw [blk_cell ha]; rfl
  have hds := hide (adesc_any w k K L h i h1 h2 a c noResV ha c.a)
  rw [hf] at hds
  have A1 := ask_err ha 0
  have F1 := h.ask hao 17 (.int .i64 0)
  have hfr1 := fr_ask (L := L) w a 17 (.int .i64 0)
  obtain ⟨w1, hw1⟩ : ∃ w1, w1 = w.setCell ⟨a, 17, none⟩ (.int .i64 0) := ⟨_, rfl⟩
  have hds' : Calls Tryz.prog 74 #[ptrAt a, .int .i64 c.a] w fun e w' => e = .returned (.pointer (some ⟨L.db j, 0, none⟩)) ∧ w' = w1 := by rw [hw1]; exact hds.out
  have hds := hide hds'
  rw [← hw1] at A1 F1 hfr1
  have hD1 := F1.hd j j1 j2
  have hrd := hide (dreads_any w1 (L.db j) L j (K.desc j) hD1 hdo.kind hdo.flg)
  have a4 : w1.cell? ⟨a, 4, none⟩ = some (.int .i64 c.b) := by rw [blk_cell A1]; rfl
  have a0 : w1.cell? ⟨a, 0, none⟩ = some (.pointer (some ⟨k, 0, none⟩)) := by rw [blk_cell A1]; rfl
  have a17 : w1.cell? ⟨a, 17, none⟩ = some (.int .i64 0) := by rw [blk_cell A1]; rfl
  have z17 : w1.frozen? ⟨a, 17, none⟩ = false := blk_frozen A1 _
  have d0 : w1.cell? ⟨L.db j, 0, none⟩ = some (.int .i64 (K.desc j).kind) := by rw [blk_cell hD1]; rfl
  clear hw1 hds'
  rw [hr] at hrd
  have hb' : ¬ c.b < 0 := by omega
  obtain ⟨p1, p2⟩ := hdo.pip (.inl hk)
  obtain ⟨fm, cs, hP⟩ := F1.hp _ p1 p2
  have hread := pread_any (L.pb (K.desc j).n) (L.lb (K.desc j).n) 64 _ _ _ w1 ⟨fm, cs, hP⟩ c.b hc.2
  unfold ReadPost at hread
  have hpa : L.pb (K.desc j).n ≠ a := ask_ne hao (h.op _ p1 p2).1
  have d5 : w1.cell? ⟨L.db j, 5, none⟩ = some (.pointer (some ⟨L.pb (K.desc j).n, 0, none⟩)) := by
    rw [blk_cell hD1]
    show some (pipeV L (K.desc j)) = _
    unfold pipeV
    rw [if_pos (.inl hk)]
    rfl
  rw [hk] at d0
  by_cases hw : 0 < c.b ∧ (K.pipe (K.desc j).n).data = [] ∧ 0 < (K.pipe (K.desc j).n).x
  · have hq : readQ K i c.a c.b = (true, noRes, K) := by
      unfold readQ
      rw [hf]
      simp only
      rw [if_neg (by rw [hr]; simp), if_neg hb', if_neg (by rw [hk]; decide), if_neg (by rw [hk]; decide), if_neg (by rw [hk]; decide), if_pos hw]
    rw [hq]
    have hre : rdE (K.pipe (K.desc j).n).data (K.pipe (K.desc j).n).x c.b = 11 := by unfold rdE; rw [if_neg hb', if_pos hw]
    have hrs : rdS (K.pipe (K.desc j).n).data (K.pipe (K.desc j).n).x c.b = [] := by unfold rdS; rw [if_neg hb', if_pos hw]
    rw [hre, hrs] at hread
    have hread := hide hread
    obtain ⟨rs, hrse⟩ : ∃ rs : ByteArray, rs = ⟨(([] : List UInt8)).toArray⟩ := ⟨_, rfl⟩
    rw [← hrse] at hread
    have Hpost := hide (show ∀ w2, Fr (fun q => q = L.pb (K.desc j).n) w1 w2 → PipeAt w2 (L.pb (K.desc j).n) (L.lb (K.desc j).n) 64 ((K.pipe (K.desc j).n).data.drop (([] : List UInt8)).length) (K.pipe (K.desc j).n).r (K.pipe (K.desc j).n).x →
        (AskAt w2 a k (L.qb i) c { noResV with err := 0 } ∧ KaskPost w k K L i a c (true, noRes, K) (.returned (.bool true)) ((w2.setCell ⟨a, 10, none⟩ (.string rs)).setCell ⟨a, 17, none⟩ (.int .i64 11))) from fun w2 hf hA => by
      obtain ⟨fm2, cs2, hA⟩ := hA
      have A2 : AskAt w2 a k (L.qb i) c { noResV with err := 0 } := hf.get A1 (Ne.symm hpa)
      have F2 := F1.pipeU p1 p2 (p := { K.pipe (K.desc j).n with data := (K.pipe (K.desc j).n).data.drop (([] : List UInt8)).length }) (hf.mono fun b _ e => .inl e) hA rfl
      have F4 := (F2.ask hao 10 (.string rs)).ask hao 17 (.int .i64 11)
      refine ⟨A2, rfl, L, ?_, ⟨rfl, Nat.le_refl _, Nat.le_refl _, Nat.le_refl _, fun _ _ _ => rfl, fun _ _ _ => rfl, fun _ _ _ => rfl, fun _ _ _ => rfl, fun _ _ e => e⟩, ((hfr1.trans (hf.mono fun b _ e => .inl (by rw [e, (h.op _ p1 p2).1]; simp))).trans (fr_ask (L := L) w2 a 10 _)).trans (fr_ask (L := L) _ a 17 _), fun _ e => .inl e, _, ask_err (ask_s A2 rs) 11, ?_⟩
      · rw [show K = K.setP (K.desc j).n { K.pipe (K.desc j).n with data := (K.pipe (K.desc j).n).data.drop ([] : List UInt8).length } from (setP_same K _).symm]; exact F4
      · exact fun e => (by cases e))
    clear h ha hq A1 F1 hfr1 hD1 hdo hok hf hP p1 p2 hre hrs hw hrse
    unfold ptrAt at *
    go_enter Tryz.func44, Tryz.ntmps44
    go_wp2_with fail
    refine hds.out.mono ?_
    rintro e w2 ⟨rfl, rfl⟩
    go_wp2_with fail
    refine hrd.out.mono ?_
    rintro e w2 ⟨rfl, rfl⟩
    go_wp2_with fail
    refine hread.out.mono ?_
    rintro e w3 ⟨rfl, hA, hf3⟩
    obtain ⟨A3, hp⟩ := Hpost.out w3 hf3 hA
    have t10 : w3.cell? ⟨a, 10, none⟩ = some (.string noBy) := by rw [blk_cell A3]; rfl
    have z10 : w3.frozen? ⟨a, 10, none⟩ = false := blk_frozen A3 _
    have t17 : (w3.setCell ⟨a, 10, none⟩ (.string rs)).cell? ⟨a, 17, none⟩ = some (.int .i64 0) := by rw [blk_cell (ask_s A3 rs)]; rfl
    have z17 : (w3.setCell ⟨a, 10, none⟩ (.string rs)).frozen? ⟨a, 17, none⟩ = false := blk_frozen (ask_s A3 rs) _
    have e17 : ((w3.setCell ⟨a, 10, none⟩ (.string rs)).setCell ⟨a, 17, none⟩ (.int .i64 11)).cell? ⟨a, 17, none⟩ = some (.int .i64 11) := by rw [blk_cell (ask_err (ask_s A3 rs) 11)]; rfl
    have hfin := hide hp
    clear hA hf3 A3 hp Hpost a17
    go_wp2_with fail
    go_ret
    exact hfin.out
  · have hq : readQ K i c.a c.b = (false, { noRes with s := ⟨((K.pipe (K.desc j).n).data.take c.b.toNat).toArray⟩ }, K.setP (K.desc j).n (takeP (K.pipe (K.desc j).n) c.b.toNat)) := by
      unfold readQ
      rw [hf]
      simp only
      rw [if_neg (by rw [hr]; simp), if_neg hb', if_neg (by rw [hk]; decide), if_neg (by rw [hk]; decide), if_neg (by rw [hk]; decide), if_neg hw]
    rw [hq]
    have hre : rdE (K.pipe (K.desc j).n).data (K.pipe (K.desc j).n).x c.b = 0 := by unfold rdE; rw [if_neg hb', if_neg hw]
    have hrs : rdS (K.pipe (K.desc j).n).data (K.pipe (K.desc j).n).x c.b = (K.pipe (K.desc j).n).data.take c.b.toNat := by unfold rdS; rw [if_neg hb', if_neg hw]
    rw [hre, hrs] at hread
    have hread := hide hread
    obtain ⟨rs, hrse⟩ : ∃ rs : ByteArray, rs = ⟨((K.pipe (K.desc j).n).data.take c.b.toNat).toArray⟩ := ⟨_, rfl⟩
    rw [← hrse] at hread
    have Hpost := hide (show ∀ w2, Fr (fun q => q = L.pb (K.desc j).n) w1 w2 → PipeAt w2 (L.pb (K.desc j).n) (L.lb (K.desc j).n) 64 ((K.pipe (K.desc j).n).data.drop ((K.pipe (K.desc j).n).data.take c.b.toNat).length) (K.pipe (K.desc j).n).r (K.pipe (K.desc j).n).x →
        (AskAt w2 a k (L.qb i) c { noResV with err := 0 } ∧ KaskPost w k K L i a c (false, { noRes with s := ⟨((K.pipe (K.desc j).n).data.take c.b.toNat).toArray⟩ }, K.setP (K.desc j).n (takeP (K.pipe (K.desc j).n) c.b.toNat)) (.returned (.bool false)) ((w2.setCell ⟨a, 10, none⟩ (.string rs)).setCell ⟨a, 17, none⟩ (.int .i64 0))) from fun w2 hf hA => by
      obtain ⟨fm2, cs2, hA⟩ := hA
      have A2 : AskAt w2 a k (L.qb i) c { noResV with err := 0 } := hf.get A1 (Ne.symm hpa)
      have F2 := F1.pipeU p1 p2 (p := { K.pipe (K.desc j).n with data := (K.pipe (K.desc j).n).data.drop ((K.pipe (K.desc j).n).data.take c.b.toNat).length }) (hf.mono fun b _ e => .inl e) hA rfl
      have F4 := (F2.ask hao 10 (.string rs)).ask hao 17 (.int .i64 0)
      refine ⟨A2, rfl, L, ?_, ⟨rfl, Nat.le_refl _, Nat.le_refl _, Nat.le_refl _, fun _ _ _ => rfl, fun _ _ _ => rfl, fun _ _ _ => rfl, fun _ _ _ => rfl, fun _ _ e => e⟩, ((hfr1.trans (hf.mono fun b _ e => .inl (by rw [e, (h.op _ p1 p2).1]; simp))).trans (fr_ask (L := L) w2 a 10 _)).trans (fr_ask (L := L) _ a 17 _), fun _ e => .inl e, _, ask_err (ask_s A2 rs) 0, ?_⟩
      · rw [drop_take] at F4; exact F4
      · exact fun _ => by rw [hrse]; rfl)
    clear h ha hq A1 F1 hfr1 hD1 hdo hok hf hP p1 p2 hre hrs hw hrse
    unfold ptrAt at *
    go_enter Tryz.func44, Tryz.ntmps44
    go_wp2_with fail
    refine hds.out.mono ?_
    rintro e w2 ⟨rfl, rfl⟩
    go_wp2_with fail
    refine hrd.out.mono ?_
    rintro e w2 ⟨rfl, rfl⟩
    go_wp2_with fail
    refine hread.out.mono ?_
    rintro e w3 ⟨rfl, hA, hf3⟩
    obtain ⟨A3, hp⟩ := Hpost.out w3 hf3 hA
    have t10 : w3.cell? ⟨a, 10, none⟩ = some (.string noBy) := by rw [blk_cell A3]; rfl
    have z10 : w3.frozen? ⟨a, 10, none⟩ = false := blk_frozen A3 _
    have t17 : (w3.setCell ⟨a, 10, none⟩ (.string rs)).cell? ⟨a, 17, none⟩ = some (.int .i64 0) := by rw [blk_cell (ask_s A3 rs)]; rfl
    have z17 : (w3.setCell ⟨a, 10, none⟩ (.string rs)).frozen? ⟨a, 17, none⟩ = false := blk_frozen (ask_s A3 rs) _
    have e17 : ((w3.setCell ⟨a, 10, none⟩ (.string rs)).setCell ⟨a, 17, none⟩ (.int .i64 0)).cell? ⟨a, 17, none⟩ = some (.int .i64 0) := by rw [blk_cell (ask_err (ask_s A3 rs) 0)]; rfl
    have hfin := hide hp
    clear hA hf3 A3 hp Hpost a17
    go_wp2_with fail
    go_ret
    exact hfin.out
end Go.Proofs.YtdnbfhcbcdodmaaGreatDoor
