/- Contracts of the methods of pipe.Pipe. Conditions: each contract's own premises. -/
import Derived.Test.YtcoaggghabdndaaProg
import Derived.Test.YtcoaggghabdndaaBase
import Derived.Deep.QuietTactic
import Derived.BigQuiet
import Derived.StillTailTactics
namespace Go.Proofs.Ytcoaggghabdndaa
open Go.RowKit

/-- A pipe lies in block b, its bytes in block lb; fm: where the first byte is. -/
structure PipeF (w : World) (b lb size fm : Nat) (d : List UInt8) (r x : Nat) (cs : Array Value) : Prop where
  hb : w.heap[b]? = some (.cells #[.slice (some ⟨lb, 0, none⟩) size size, .int .i64 fm, .int .i64 d.length, .int .i64 r, .int .i64 x] 96 (0, 0))
  hl : w.heap[lb]? = some (.cells cs 5 (0, 0))
  hne : b ≠ lb
  hcs : cs.size = size
  h0 : 0 < size
  hs : size ≤ 65536
  hfm : fm < size
  hd : d.length ≤ size
  hc : ∀ i, i < d.length → cs[(fm + i) % size]? = some (.int .u8 ((d.getD i 0).toNat : Nat))

theorem pend_w (b : Nat) (w : World) : Calls Try.prog 44 #[.pointer (some ⟨b, 0, none⟩), .bool true] w fun e w' => e = .returned (.pointer (some ⟨b, 4, none⟩)) ∧ w = w' := by
  go_enter Try.func44, Try.ntmps44
  go_wp2
  go_ret
  exact ⟨rfl, rfl⟩
theorem pend_r (b : Nat) (w : World) : Calls Try.prog 44 #[.pointer (some ⟨b, 0, none⟩), .bool false] w fun e w' => e = .returned (.pointer (some ⟨b, 3, none⟩)) ∧ w = w' := by
  go_enter Try.func44, Try.ntmps44
  go_wp2
  go_ret
  exact ⟨rfl, rfl⟩


theorem mod_ne {size fm i j : Nat} (hj : j < i) (hi : i < size) : (fm + j) % size ≠ (fm + i) % size := by
  intro h
  have h1 := Nat.div_add_mod (fm + j) size
  have h2 := Nat.div_add_mod (fm + i) size
  rw [h] at h1
  have h3 : size * ((fm + i) / size) + j = size * ((fm + j) / size) + i := by omega
  have hsz : 0 < size := by omega
  have h4 : (size * ((fm + i) / size) + j) % size = j := by rw [Nat.mul_add_mod, Nat.mod_eq_of_lt (by omega)]
  have h5 : (size * ((fm + j) / size) + i) % size = i := by rw [Nat.mul_add_mod, Nat.mod_eq_of_lt (by omega)]
  rw [h3, h5] at h4
  omega
/-- One byte more. -/
theorem PipeF.push {w : World} {b lb size fm : Nat} {d : List UInt8} {r x : Nat} {cs : Array Value} (h : PipeF w b lb size fm d r x cs) (n : Nat) (hroom : d.length < size) (c : UInt8) (v : Int) (hv : v = ((d.length + 1 : Nat) : Int)) :
    PipeF (((w.drewN n).setCell ⟨lb, (fm + d.length) % size, none⟩ (.int .u8 (c.toNat : Nat))).setCell ⟨b, 2, none⟩ (.int .i64 v)) b lb size fm (d ++ [c]) r x
      (cs.setIfInBounds ((fm + d.length) % size) (.int .u8 (c.toNat : Nat))) where
  hb := by
    rw [blk_set (blk_set_other (blk_drewN h.hb n) ⟨lb, _, none⟩ _ h.hne)]
    subst hv
    simp
  hl := by
    exact blk_set_other (blk_set (blk_drewN h.hl n) _ _) _ _ h.hne.symm
  hne := h.hne
  hcs := by simp [h.hcs]
  h0 := h.h0
  hs := h.hs
  hfm := h.hfm
  hd := by simp; omega
  hc := by
    intro i hi
    simp at hi
    have hm : (fm + d.length) % size < cs.size := by rw [h.hcs]; exact Nat.mod_lt _ h.h0
    by_cases e : i = d.length
    · subst e
      simp [hm]
    · have hlt : i < d.length := by omega
      rw [Array.getElem?_setIfInBounds_ne (mod_ne hlt hroom).symm, h.hc i hlt]
      simp [List.getElem?_append_left hlt]

/-- What 'put' does. -/
def PutPost (w : World) (b lb size fm : Nat) (d l : List UInt8) (r x : Nat) (e : Ending) (w' : World) : Prop :=
  e = .returned (.int .i64 (min l.length (size - d.length) : Nat)) ∧ (∃ cs', PipeF w' b lb size fm (d ++ l.take (size - d.length)) r x cs') ∧ Fr (fun k => k = b ∨ k = lb) w w'

def PutRel (w : World) (b lb size fm : Nat) (d l : List UInt8) (r x : Nat) (i : Value) (wr : World) : Prop :=
  ∃ k : Nat, k ≤ l.length ∧ d.length + k ≤ size ∧ i = .int .i64 k ∧ (∃ cs', PipeF wr b lb size fm (d ++ l.take k) r x cs') ∧ Fr (fun k => k = b ∨ k = lb) w wr

set_option maxHeartbeats 400000 in
theorem put_any (b lb size fm : Nat) (d l : List UInt8) (r x : Nat) (w : World) (cs : Array Value) (h : PipeF w b lb size fm d r x cs)
    (sb cap : Nat) (sc : Array Value) (f : Nat × Nat) (hs : w.heap[sb]? = some (.cells sc 5 f)) (hsc : ∀ i, i < l.length → sc[i]? = some (.int .u8 ((l.getD i 0).toNat : Nat))) (hll : l.length ≤ 9223372036854775807)
    (hsb : sb ≠ b) (hsl : sb ≠ lb) :
    Calls Try.prog 45 #[.pointer (some ⟨b, 0, none⟩), .slice (some ⟨sb, 0, none⟩) l.length cap] w (PutPost w b lb size fm d l r x) := by
  go_enter Try.func45, Try.ntmps45
  go_wp2
  go_loopw [5] (fun i wr => PutRel w b lb size fm d l r x i wr) (fun i _ => l.length - (intOf i).toNat)
  case atStart => exact ⟨0, Nat.zero_le _, h.hd, rfl, ⟨cs, by simpa using h⟩, Fr.refl _ _⟩
  case round =>
    obtain ⟨k, hk1, hk2, rfl, ⟨cs', hp⟩, hfr⟩ := hrel
    have hb0 : wr.cell? ⟨b, 0, none⟩ = some (.slice (some ⟨lb, 0, none⟩) size size) := by rw [blk_cell hp.hb]; rfl
    have hb1 : wr.cell? ⟨b, 1, none⟩ = some (.int .i64 fm) := by rw [blk_cell hp.hb]; rfl
    have hb2 : wr.cell? ⟨b, 2, none⟩ = some (.int .i64 ((d.length : Int) + (k : Int))) := by
      rw [blk_cell hp.hb]; simp; omega
    have hbf := blk_frozen hp.hb
    have hlf := blk_frozen hp.hl
    have hfm := hp.hfm
    have hsz := hp.hs
    have hpos := hp.h0
    have hn1 := hp.hne
    have hn2 := hp.hne.symm
    by_cases h1 : k < l.length
    · by_cases h2 : d.length + k < size
      · have hlk : wr.cell? ⟨sb, k, none⟩ = some (.int .u8 ((l.getD k 0).toNat : Nat)) := by
          rw [blk_cell (hfr.get hs (by simp [hsb, hsl]))]; exact hsc k h1
        obtain ⟨old, hold⟩ : ∃ v, wr.cell? ⟨lb, (fm + (d.length + k)) % size, none⟩ = some v := by
          have : (fm + (d.length + k)) % size < cs'.size := by rw [hp.hcs]; exact Nat.mod_lt _ hpos
          exact ⟨_, by rw [blk_cell hp.hl]; exact Array.getElem?_eq_getElem this⟩
        have hm0 : (0 : Int) ≤ ((fm : Int) + ((d.length : Int) + (k : Int))) % (size : Int) := Int.emod_nonneg _ (by omega)
        have hm1 : ((fm : Int) + ((d.length : Int) + (k : Int))) % (size : Int) < (size : Int) := Int.emod_lt_of_pos _ (by omega)
        have hmn := emod3 fm d.length k size
        go_wp2
        go_quiet (fail)
        go_wp2
        refine region_tail 24 (by kernel_rfl) (by kernel_rfl) ?_
        simp only [List.take_succ_cons, List.take_zero, List.drop_succ_cons, List.drop_zero]
        repeat go_big_quiet_step (fail)
        refine wpQuiet_nil ?_
        go_wp2
        go_roundw
        case rel =>
          have hst := hp.push (nq + 1) (by simp; omega) l[k] ((d.length : Int) + (k : Int) + 1) (by simp; omega)
          have e1 : fm + (d ++ l.take k).length = fm + (d.length + k) := by simp; omega
          rw [e1] at hst
          exact ⟨k + 1, by omega, by omega, by go_num, ⟨_, by rw [List.take_succ_eq_append_getElem h1, ← List.append_assoc]; exact hst⟩, ((hfr.drewN _).setCell (.inl (.inr rfl)) _).setCell (.inl (.inl rfl)) _⟩
        case measure => simp [intOf]; omega
      · go_wp2
        go_quiet (fail)
        go_wp2
        go_ret
        have e1 : k = size - d.length := by omega
        exact ⟨ret_int (by omega), ⟨_, by subst e1; exact ⟨hp.hb, hp.hl, hp.hne, hp.hcs, hp.h0, hp.hs, hp.hfm, hp.hd, hp.hc⟩⟩, hfr.drewN _⟩
    · go_wp2
      go_quiet (fail)
      go_wp2
      go_ret
      have e1 : l.take (size - d.length) = l.take k := by rw [List.take_of_length_le (by omega), List.take_of_length_le (by omega)]
      exact ⟨ret_int (by omega), ⟨_, by rw [e1]; exact ⟨hp.hb, hp.hl, hp.hne, hp.hcs, hp.h0, hp.hs, hp.hfm, hp.hd, hp.hc⟩⟩, hfr.drewN _⟩

theorem mod_step (fm k size : Nat) : ((fm + k) % size + 1) % size = (fm + (k + 1)) % size := by rw [Nat.mod_add_mod, Nat.add_assoc]
theorem PipeF.first {w : World} {b lb size fm : Nat} {c : UInt8} {d : List UInt8} {r x : Nat} {cs : Array Value} (h : PipeF w b lb size fm (c :: d) r x cs) : w.cell? ⟨lb, fm, none⟩ = some (.int .u8 (c.toNat : Nat)) := by
  have := h.hc 0 (by simp)
  rw [Nat.add_zero, Nat.mod_eq_of_lt h.hfm] at this
  rw [blk_cell h.hl]; simpa using this
/-- One byte less. -/
theorem PipeF.pop {w : World} {b lb size fm : Nat} {c : UInt8} {d : List UInt8} {r x : Nat} {cs : Array Value} (h : PipeF w b lb size fm (c :: d) r x cs) (v1 v2 : Int) (h1 : v1 = (((fm + 1) % size : Nat) : Int)) (h2 : v2 = (d.length : Int)) :
    PipeF ((w.setCell ⟨b, 1, none⟩ (.int .i64 v1)).setCell ⟨b, 2, none⟩ (.int .i64 v2)) b lb size ((fm + 1) % size) d r x cs where
  hb := by rw [blk_set (blk_set h.hb _ _)]; subst h1 h2; simp
  hl := blk_set_other (blk_set_other h.hl _ _ h.hne.symm) _ _ h.hne.symm
  hne := h.hne
  hcs := h.hcs
  h0 := h.h0
  hs := h.hs
  hfm := Nat.mod_lt _ h.h0
  hd := by have := h.hd; simp at this; omega
  hc := by
    intro i hi
    have := h.hc (i + 1) (by simp; omega)
    rw [Nat.mod_add_mod, Nat.add_assoc, Nat.add_comm 1 i, this]; simp
theorem PipeF.frame {w w' : World} {b lb size fm : Nat} {d : List UInt8} {r x : Nat} {cs : Array Value} {S : Nat → Prop} (h : PipeF w b lb size fm d r x cs) (hf : Fr S w w') (h1 : ¬ S b) (h2 : ¬ S lb) : PipeF w' b lb size fm d r x cs :=
  ⟨hf.get h.hb h1, hf.get h.hl h2, h.hne, h.hcs, h.h0, h.hs, h.hfm, h.hd, h.hc⟩

def bytesV (l : List UInt8) : List Value := l.map fun c => .int .u8 (c.toNat : Nat)
theorem bytesV_snoc (l : List UInt8) (c : UInt8) : bytesV (l ++ [c]) = bytesV l ++ [.int .u8 (c.toNat : Nat)] := by simp [bytesV]

theorem Try.info5 : (Try.prog.info? 5).map (fun i => (i.zero, i.size, i.bytes)) = some (some (.int .u8 0), 1, 1) := by kernel_rfl
end Go.Proofs.Ytcoaggghabdndaa
