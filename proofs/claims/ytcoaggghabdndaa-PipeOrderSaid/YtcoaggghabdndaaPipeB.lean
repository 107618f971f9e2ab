/- Contract of ring.take. Conditions: the contract's own premises. -/
import Derived.Test.YtcoaggghabdndaaPipeA
import Derived.Test.YtcoaggghabdndaaRegion
namespace Go.Proofs.Ytcoaggghabdndaa
open Go.RowKit

def TakeRel (w : World) (b lb size fm : Nat) (d : List UInt8) (r x : Nat) (n : Int) (v : Value) (wr : World) : Prop :=
  ∃ k : Nat, (k : Int) ≤ n ∧ k ≤ d.length ∧ wr.ownsRow w.heap.size 5 1 v k (bytesV (d.take k)) ∧ (∃ cs', PipeF wr b lb size ((fm + k) % size) (d.drop k) r x cs') ∧ Fr (fun k => k = b) w wr

def TakePost (w : World) (b lb size : Nat) (d : List UInt8) (r x : Nat) (n : Int) (e : Ending) (w' : World) : Prop :=
  ∃ v, e = .returned v ∧ w'.ownsRow w.heap.size 5 1 v (d.take n.toNat).length (bytesV (d.take n.toNat)) ∧ (∃ fm' cs', PipeF w' b lb size fm' (d.drop n.toNat) r x cs') ∧ Fr (fun k => k = b) w w'

def lenOfV : Value → Nat | .slice _ n _ => n | _ => 0

set_option maxHeartbeats 400000 in
theorem take_any (b lb size fm : Nat) (d : List UInt8) (r x : Nat) (w : World) (cs : Array Value) (h : PipeF w b lb size fm d r x cs) (n : Int) (hn0 : 0 ≤ n) (hn1 : n ≤ 9223372036854775807) :
    Calls Try.prog 46 #[.pointer (some ⟨b, 0, none⟩), .int .i64 n] w (TakePost w b lb size d r x n) := by
  obtain ⟨i0, hi, hz0, hz1, hz2⟩ := info_parts Try.info5
  go_enter Try.func46, Try.ntmps46
  go_wp2
  go_loopw [5] (fun v wr => TakeRel w b lb size fm d r x n v wr) (fun v _ => d.length - lenOfV v)
  case atStart => exact ⟨0, by simpa using hn0, Nat.zero_le _, by simpa [bytesV] using World.ownsRow_nil _ _ _ _, ⟨cs, by simpa [Nat.mod_eq_of_lt h.hfm] using h⟩, Fr.refl _ _⟩
  case round =>
    obtain ⟨k, hk1, hk2, hown, ⟨cs', hp⟩, hfr⟩ := hrel
    have hv : ∃ a cap, u5 = .slice a k cap := by
      rcases hown.2 with ⟨h1, h2⟩ | ⟨g, cap, cur, h1, _⟩
      · exact ⟨none, 0, by rw [h1, h2]⟩
      · exact ⟨_, _, h1⟩
    obtain ⟨va, vcap, rfl⟩ := hv
    have hb0 : wr.cell? ⟨b, 0, none⟩ = some (.slice (some ⟨lb, 0, none⟩) size size) := by rw [blk_cell hp.hb]; rfl
    have hb1 : wr.cell? ⟨b, 1, none⟩ = some (.int .i64 ((fm + k) % size : Nat)) := by rw [blk_cell hp.hb]; rfl
    have hb2 : wr.cell? ⟨b, 2, none⟩ = some (.int .i64 ((d.length : Int) - (k : Int))) := by
      rw [blk_cell hp.hb]; simp; omega
    have hbf := blk_frozen hp.hb
    have hfm := hp.hfm
    have hsz := hp.hs
    have hpos := hp.h0
    have hne1 := hp.hne
    have hne2 := hp.hne.symm
    have hdl := h.hd
    by_cases h1 : (k : Int) < n
    · by_cases h2 : k < d.length
      · have hdr : d.drop k = d[k] :: d.drop (k + 1) := List.drop_eq_getElem_cons h2
        have hp2 := hp
        rw [hdr] at hp2
        have hfc := hp2.first
        have Hdr := hide hdr
        have Htk := hide (List.take_succ_eq_append_getElem h2)
        clear hdr
        have hm0 : (0 : Int) ≤ (((fm + k) % size : Nat) : Int) := by omega
        have hm1 : (((fm + k) % size : Nat) : Int) < (size : Int) := by have := Nat.mod_lt (fm + k) hpos; omega
        generalize hfk : (fm + k) % size = fk at *
        have Hfk := hide hfk
        clear hfk
        go_wp2
        refine region_mix [0] [1, 2, 3, 4, 5, 6, 7, 8, 9, 10] 11 (by kernel_rfl) (by kernel_rfl) (fun _ _ d _ _ h => by cases d <;> exact h) ?_
        simp only [List.map_cons, List.map_nil, List.getD_cons_zero, List.getD_cons_succ, List.drop_succ_cons, List.drop_zero]
        repeat go_big_quiet_step (fail)
        refine wpQuiet_nil ?_
        repeat go_big_quiet_step (fail)
        refine wpQuiet_nil ?_
        go_wp2_with (at_builtin; refine wpList_append_own _ rfl _ _ 92 rfl w.heap.size 5 i0 (.int .u8 0) 1 1 Try.underlying92 hi hz0 hz1 hz2 rfl (by decide) _ _ _ rfl (hown.drew.alloc _) ⟨wr.heap.size, 0, none⟩ 1 1 [.int .u8 (d[k].toNat : Nat)] rfl rfl ?c1 ?c2 ?c3 ?c4 ?c5 ?_)
        case c1 => exact cell_one_new _ _ _
        case c2 => intro u hu; simp at hu; subst hu; rfl
        case c3 => unfold maxLen; omega
        case c4 => omega
        case c5 => have := hfr.size; simp; omega
        intro v' w1 hown' hgrow _
        have hnb : ¬ (Value.slice va k vcap).ownBlock = some b := fun e => by have := (hown.lt _ e).1; have := blk_lt h.hb; omega
        have hnl : ¬ (Value.slice va k vcap).ownBlock = some lb := fun e => by have := (hown.lt _ e).1; have := blk_lt h.hl; omega
        have hf1 : Fr (fun q => (Value.slice va k vcap).ownBlock = some q) wr w1 := ((Fr.refl _ _).drew.alloc _).trans (Fr.of_grown hgrow)
        have hp1 := hp2.frame hf1 hnb hnl
        have hfr1 : Fr (fun q => q = b) w w1 := hfr.trans' hf1 (fun q hq e => by have := (hown.lt _ e).1; omega)
        clear hb0 hb1 hb2 hbf hgrow hf1 hnb hnl hfc hp2 hown
        have hb0 : w1.cell? ⟨b, 0, none⟩ = some (.slice (some ⟨lb, 0, none⟩) size size) := by rw [blk_cell hp1.hb]; rfl
        have hb1 : w1.cell? ⟨b, 1, none⟩ = some (.int .i64 fk) := by rw [blk_cell hp1.hb]; rfl
        have hb2 : w1.cell? ⟨b, 2, none⟩ = some (.int .i64 ((d.length : Int) - (k : Int))) := by
          rw [blk_cell hp1.hb]; simp; omega
        have hbf := blk_frozen hp1.hb
        go_wp2
        refine region_mix [0] [1, 2, 3, 4, 5, 6, 7, 8, 9, 10, 11] 12 (by kernel_rfl) (by kernel_rfl) (fun _ _ d _ _ h => by cases d <;> exact h) ?_
        simp only [List.map_cons, List.map_nil, List.getD_cons_zero, List.getD_cons_succ, List.drop_succ_cons, List.drop_zero]
        repeat go_big_quiet_step (fail)
        refine wpQuiet_nil ?_
        repeat go_big_quiet_step (fail)
        refine wpQuiet_nil ?_
        go_wp2
        go_roundw
        have hbw := blk_lt h.hb
        case rel =>
          have e1 : ((fk : Int) + 1) % (size : Int) = (((fk + 1) % size : Nat) : Int) := by rw [Int.natCast_emod]; rfl
          have e2 : (fm + (k + 1)) % size = (fk + 1) % size := by rw [← mod_step, Hfk.out]
          have hpp := hp1.pop (((fk : Int) + 1) % (size : Int)) ((d.length : Int) - (k : Int) - 1) e1 (by simp; omega)
          rw [← bytesV_snoc, ← Htk.out] at hown'
          refine ⟨k + 1, by omega, by omega, ?_, ⟨cs', by rw [e2]; exact hpp.frame ((Fr.refl (fun _ => False) _).drew) (by simp) (by simp)⟩, ?_⟩
          · exact (ownsRow_setCell_below (ownsRow_setCell_below hown' hbw _) hbw _).drew
          · exact ((hfr1.setCell (.inl rfl) _).setCell (.inl rfl) _).drew
        case measure =>
          have : lenOfV v' = k + 1 := by
            rcases hown'.2 with ⟨h1, h2⟩ | ⟨g, cap, cur, h1, _⟩
            · omega
            · rw [h1]; rfl
          rw [this]; simp [lenOfV]; omega
      · have e1 : k = d.length := by omega
        have e2 : d.take n.toNat = d.take k := by rw [List.take_of_length_le (by omega), List.take_of_length_le (by omega)]
        have e3 : d.drop n.toNat = d.drop k := by rw [List.drop_of_length_le (by omega), List.drop_of_length_le (by omega)]
        have e4 : (d.take n.toNat).length = k := by simp; omega
        have hfin : TakePost w b lb size d r x n (.returned (.slice va k vcap)) wr := ⟨_, rfl, by rw [e4, e2]; exact hown, ⟨_, _, by rw [e3]; exact hp⟩, hfr⟩
        clear e1 e2 e3 e4
        go_wp2
        go_ret
        exact hfin
    · have e1 : k = n.toNat := by omega
      have hfin : TakePost w b lb size d r x n (.returned (.slice va k vcap)) wr := ⟨_, rfl, by rw [← e1, List.length_take, Nat.min_eq_left hk2]; exact hown, ⟨_, _, by rw [← e1]; exact hp⟩, hfr⟩
      clear e1
      go_wp2
      go_ret
      exact hfin
end Go.Proofs.Ytcoaggghabdndaa
