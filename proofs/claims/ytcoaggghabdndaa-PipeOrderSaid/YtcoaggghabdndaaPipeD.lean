/- Contracts of pipe.Pipe's Write and Read. Conditions: each contract's own premises. -/
import Derived.Test.YtcoaggghabdndaaPipeC
import Derived.Lib.ConvBytes
import Derived.Laws.BytesArg
namespace Go.Proofs.Ytcoaggghabdndaa
open Go.RowKit

/-- What Write answers. -/
def wrN (size : Nat) (d : List UInt8) (r : Nat) (s : List UInt8) : Nat := if r = 0 then 0 else min s.length (size - d.length)
def wrE (size : Nat) (d : List UInt8) (r : Nat) (s : List UInt8) : Int := if r = 0 then 32 else if s ≠ [] ∧ d.length = size then 11 else 0
def WritePost (w : World) (b lb size : Nat) (d : List UInt8) (r x : Nat) (s : List UInt8) (e : Ending) (w' : World) : Prop :=
  e = .returned (.tuple #[.int .i64 (wrN size d r s : Nat), .int .i64 (wrE size d r s)]) ∧ PipeAt w' b lb size (d ++ s.take (wrN size d r s)) r x ∧ Fr (fun k => k = b ∨ k = lb) w w'

theorem fr_bytes (w : World) (e : TypeId) (s : ByteArray) : Fr (fun _ => False) w (Lib.bytesWorld w e s) :=
  ⟨rfl, rfl, rfl, by rw [Lib.bytesWorld_size]; omega, fun k hk _ => Lib.bytesWorld_at_old w e s k hk⟩

set_option maxHeartbeats 400000 in
theorem pwrite_any (b lb size : Nat) (d : List UInt8) (r x : Nat) (w : World) (h : PipeAt w b lb size d r x) (s : ByteArray) (hs : s.size ≤ 9223372036854775807) :
    Calls Try.prog 16 #[.pointer (some ⟨b, 0, none⟩), .string s] w (WritePost w b lb size d r x s.data.toList) := by
  have hb0 : w.cell? ⟨b, 0, none⟩ = some (.slice (some ⟨lb, 0, none⟩) size size) := by obtain ⟨fm, cs, hp⟩ := h; rw [blk_cell hp.hb]; rfl
  have hb2 : w.cell? ⟨b, 2, none⟩ = some (.int .i64 d.length) := by obtain ⟨fm, cs, hp⟩ := h; rw [blk_cell hp.hb]; rfl
  have hb3 : w.cell? ⟨b, 3, none⟩ = some (.int .i64 r) := by obtain ⟨fm, cs, hp⟩ := h; rw [blk_cell hp.hb]; rfl
  by_cases h1 : r = 0
  · subst h1
    go_enter Try.func16, Try.ntmps16
    go_wp2
    go_ret2
    exact ⟨rfl, by simpa [wrN] using h, Fr.refl _ _⟩
  · have h1' : ((r : Int) == 0) = false := by simpa using h1
    have H1 := hide h1
    clear h1
    have hcv := fun w => Lib.run_convert_string_bytes (P := Try.prog) w 9 92 5 s Try.underlying9 Try.underlying92 Try.underlying5
    -- the call of put
    have hput : ∀ W : World, Fr (fun _ => False) w W → Calls Try.prog 45 #[.pointer (some ⟨b, 0, none⟩), .slice (some ⟨W.heap.size, 0, none⟩) s.size (grownCap W s.size 0 5)] (Lib.bytesWorld W 5 s)
        fun e w' => e = .returned (.int .i64 (min s.data.toList.length (size - d.length) : Nat)) ∧ PipeAt w' b lb size (d ++ s.data.toList.take (size - d.length)) r x ∧ Fr (fun k => k = b ∨ k = lb) w w' := by
      intro W hW
      obtain ⟨fm, cs, hp⟩ := h
      have hbl := blk_lt hp.hb
      have hll := blk_lt hp.hl
      have hsz := hW.size
      have hl : s.size = s.data.toList.length := (ba_len s).symm
      have := put_any b lb size fm d s.data.toList r x (Lib.bytesWorld W 5 s) cs ((hp.frame hW (by simp) (by simp)).frame (fr_bytes _ _ _) (by simp) (by simp)) W.heap.size (grownCap W s.size 0 5) _ _
        (Lib.bytesWorld_at_new W 5 s) (by
          intro i hi
          rw [← hl] at hi
          have := Lib.bytesWorld_cell W 5 s i hi
          rwa [blk_cell (Lib.bytesWorld_at_new W 5 s)] at this) (by omega) (by omega) (by omega)
      rw [← hl] at this
      refine this.mono fun e w' ⟨h1, ⟨cs', h2⟩, h3⟩ => ⟨by rw [h1, ← hl], ⟨_, _, h2⟩, ?_⟩
      exact (hW.mono (fun _ _ hf => hf.elim)).trans (((fr_bytes W 5 s).mono (fun _ _ hf => hf.elim)).trans h3)
    have Hput := hide hput
    clear hput
    by_cases h2 : s.data.toList = []
    · have he := ba_empty h2
      have hfin : ∀ e w', (e = .returned (.tuple #[.int .i64 (min s.data.toList.length (size - d.length) : Nat), .int .i64 0]) ∧ PipeAt w' b lb size (d ++ s.data.toList.take (size - d.length)) r x ∧ Fr (fun k => k = b ∨ k = lb) w w') → WritePost w b lb size d r x s.data.toList e w' := by
        intro e w' ⟨h3, h4, h5⟩
        rw [h2] at h3 h4 ⊢
        exact ⟨by rw [h3]; simp [wrN, wrE, H1.out], by simpa using h4, h5⟩
      have Hfin := hide hfin
      clear hfin h2
      go_enter Try.func16, Try.ntmps16
      go_wp2
      refine region_still (by kernel_rfl) (by kernel_rfl) ?_
      repeat go_big_quiet_step (fail)
      refine wpQuiet_nil ?_
      go_wp2_with (go_at_call 45; refine (Hput.out w.drew ((Fr.refl _ _).drew)).mono ?_; rintro e w' ⟨rfl, hw2⟩)
      go_ret2
      exact Hfin.out _ _ ⟨rfl, hw2⟩
    · have he := ba_nonempty h2
      by_cases h3 : d.length = size
      · have h3' : ((d.length : Int) == (size : Int)) = true := by rw [cast_beq]; simpa using h3
        have hfin : WritePost w b lb size d r x s.data.toList (.returned (.tuple #[.int .i64 0, .int .i64 11])) w.drew := by
          refine ⟨?_, ?_, (Fr.refl _ _).drew⟩
          · simp [wrN, wrE, H1.out, h2, h3]
          · have : wrN size d r s.data.toList = 0 := by simp [wrN, h3]
            rw [this]; simpa using h.frame ((Fr.refl (fun _ => False) _).drew) (by simp) (by simp)
        have Hfin := hide hfin
        clear hfin h2 h3
        go_enter Try.func16, Try.ntmps16
        go_wp2
        refine region_still (by kernel_rfl) (by kernel_rfl) ?_
        repeat go_big_quiet_step (fail)
        refine wpQuiet_nil ?_
        go_wp2
        go_ret2
        exact Hfin.out
      · have h3' : ((d.length : Int) == (size : Int)) = false := by rw [cast_beq]; simpa using h3
        have hfin : ∀ e w', (e = .returned (.tuple #[.int .i64 (min s.data.toList.length (size - d.length) : Nat), .int .i64 0]) ∧ PipeAt w' b lb size (d ++ s.data.toList.take (size - d.length)) r x ∧ Fr (fun k => k = b ∨ k = lb) w w') → WritePost w b lb size d r x s.data.toList e w' := by
          intro e w' ⟨h4, h5, h6⟩
          have e1 : wrN size d r s.data.toList = min s.data.toList.length (size - d.length) := by simp [wrN, H1.out]
          have e2 : wrE size d r s.data.toList = 0 := by simp [wrE, H1.out, h3]
          refine ⟨by rw [e1, e2, h4], ?_, h6⟩
          rw [e1]
          have : s.data.toList.take (min s.data.toList.length (size - d.length)) = s.data.toList.take (size - d.length) := by
            rw [← List.take_take]; exact List.take_of_length_le (List.length_take_le' _ _)
          rw [this]; exact h5
        have Hfin := hide hfin
        clear hfin h2 h3
        go_enter Try.func16, Try.ntmps16
        go_wp2
        refine region_still (by kernel_rfl) (by kernel_rfl) ?_
        repeat go_big_quiet_step (fail)
        refine wpQuiet_nil ?_
        go_wp2_with (go_at_call 45; refine (Hput.out w.drew ((Fr.refl _ _).drew)).mono ?_; rintro e w' ⟨rfl, hw2⟩)
        go_ret2
        exact Hfin.out _ _ ⟨rfl, hw2⟩

/-- A row of bytes, as a string. -/
theorem conv_own {P : Program} {w : World} {base : Nat} {v : Value} {l : List UInt8} (src dst e : TypeId) (hown : w.ownsRow base e 1 v l.length (bytesV l))
    (hs : P.underlying src = some (.slice e)) (he : P.underlying e = some (.int .u8)) (hd : P.underlying dst = some .string) :
    (convert src dst v).run P w = .ok (.string ⟨l.toArray⟩) w := by
  rcases hown.2 with ⟨h1, h2⟩ | ⟨g, cap, cur, h1, _, h3, _, _, _, h7⟩
  · have : l = [] := List.length_eq_zero_iff.1 h2
    subst this
    rw [h1]
    exact run_convert_bytes_nil w src e hs he 0 0 dst hd
  · rw [h1]
    have := run_convert_bytes_arg (P := P) w src e hs he g 0 l.length cap (l.map fun c => ((c.toNat : Nat) : Int)) (by simp) (by
      intro i hi
      rw [Nat.zero_add, blk_cell h3]
      have h8 := congrArg (fun q : List Value => q[i]?) h7
      simp only [Nat.mul_one, bytesV, List.getElem?_take, hi, if_true, List.getElem?_map] at h8
      rw [← Array.getElem?_toList, h8]
      simp [hi]) dst hd
    rw [this]
    have e1 : strOfNums (l.map fun c => ((c.toNat : Nat) : Int)) = ⟨l.toArray⟩ := by simp [strOfNums, Function.comp_def]
    rw [e1]

/-- What Read answers. -/
def rdS (d : List UInt8) (x : Nat) (n : Int) : List UInt8 := if n < 0 then [] else if 0 < n ∧ d = [] ∧ 0 < x then [] else d.take n.toNat
def rdE (d : List UInt8) (x : Nat) (n : Int) : Int := if n < 0 then 22 else if 0 < n ∧ d = [] ∧ 0 < x then 11 else 0
def ReadPost (w : World) (b lb size : Nat) (d : List UInt8) (r x : Nat) (n : Int) (e : Ending) (w' : World) : Prop :=
  e = .returned (.tuple #[.string ⟨(rdS d x n).toArray⟩, .int .i64 (rdE d x n)]) ∧ PipeAt w' b lb size (d.drop (rdS d x n).length) r x ∧ Fr (fun k => k = b) w w'

set_option maxHeartbeats 400000 in
theorem pread_any (b lb size : Nat) (d : List UInt8) (r x : Nat) (w : World) (h : PipeAt w b lb size d r x) (n : Int) (hn : n ≤ 9223372036854775807) :
    Calls Try.prog 18 #[.pointer (some ⟨b, 0, none⟩), .int .i64 n] w (ReadPost w b lb size d r x n) := by
  have hb2 : w.cell? ⟨b, 2, none⟩ = some (.int .i64 d.length) := by obtain ⟨fm, cs, hp⟩ := h; rw [blk_cell hp.hb]; rfl
  have hb4 : w.cell? ⟨b, 4, none⟩ = some (.int .i64 x) := by obtain ⟨fm, cs, hp⟩ := h; rw [blk_cell hp.hb]; rfl
  by_cases h1 : n < 0
  · have hfin : ReadPost w b lb size d r x n (.returned (.tuple #[.string ⟨#[]⟩, .int .i64 22])) w := ⟨by simp [rdS, rdE, h1], by simpa [rdS, h1] using h, Fr.refl _ _⟩
    go_enter Try.func18, Try.ntmps18
    go_wp2
    go_ret2
    exact hfin
  · have h1' : 0 ≤ n := by omega
    have htake : Calls Try.prog 46 #[.pointer (some ⟨b, 0, none⟩), .int .i64 n] w (TakePost w b lb size d r x n) := by
      obtain ⟨fm, cs, hp⟩ := h
      exact take_any b lb size fm d r x w cs hp n h1' hn
    have Htake := hide htake
    clear htake
    have hgo : ∀ v w', w'.ownsRow w.heap.size 5 1 v (d.take n.toNat).length (bytesV (d.take n.toNat)) → (convert 92 9 v).run Try.prog w' = .ok (.string ⟨(d.take n.toNat).toArray⟩) w' :=
      fun v w' h => conv_own _ _ _ h Try.underlying92 Try.underlying5 Try.underlying9
    have Hgo := hide hgo
    clear hgo
    by_cases h3 : 0 < n
    · have h3' : decide ((0 : Int) < n) = true := by simpa using h3
      by_cases h2 : d = []
      · by_cases h4 : 0 < x
        · have h4' : (0 : Int) < (x : Int) := by omega
          have hfin : ReadPost w b lb size d r x n (.returned (.tuple #[.string ⟨#[]⟩, .int .i64 11])) w := ⟨by simp [rdS, rdE, h1, h2, h3, h4], by simpa [rdS, h1, h2, h3, h4] using h, Fr.refl _ _⟩
          have Hfin := hide hfin
          have hl0 : ((d.length : Int) == 0) = true := by simp [h2]
          clear hfin h2
          go_enter Try.func18, Try.ntmps18
          go_wp2
          go_ret2
          exact Hfin.out
        · have h4' : decide (0 < x) = false := by simpa using h4
          have hfin : ∀ v w', TakePost w b lb size d r x n (.returned v) w' → ∃ s, (convert 92 9 v).run Try.prog w' = .ok (.string s) w' ∧ ReadPost w b lb size d r x n (.returned (.tuple #[.string s, .int .i64 0])) w' := by
            intro v w' ⟨v', hv, hown, ⟨fm', cs', hp⟩, hf⟩
            injection hv with hv
            subst hv
            have e1 : rdS d x n = d.take n.toNat := by simp [rdS, h1, h4]
            have e2 : rdE d x n = 0 := by simp [rdE, h1, h4]
            refine ⟨_, Hgo.out _ _ hown, by rw [e1, e2], ?_, hf⟩
            rw [e1, List.length_take]
            have e3 : d.drop (min n.toNat d.length) = d.drop n.toNat := by
              rcases Nat.le_total n.toNat d.length with hle | hle
              · rw [Nat.min_eq_left hle]
              · rw [Nat.min_eq_right hle, List.drop_length, List.drop_of_length_le hle]
            rw [e3]
            exact ⟨fm', cs', hp⟩
          have Hfin := hide hfin
          clear hfin
          have hl0 : ((d.length : Int) == 0) = true := by simp [h2]
          clear h2
          go_enter Try.func18, Try.ntmps18
          go_wp2_with (go_at_call 46; refine Htake.out.mono ?_; intro e w' hw2; obtain ⟨v, rfl, hw3⟩ := hw2; obtain ⟨sv, hcv, hrp⟩ := Hfin.out v w' ⟨v, rfl, hw3⟩; have Hrp := hide hrp; clear hrp hw3)
          go_ret2
          exact Hrp.out
      · have hl0 : ((d.length : Int) == 0) = false := by simpa using h2
        have hfin : ∀ v w', TakePost w b lb size d r x n (.returned v) w' → ∃ s, (convert 92 9 v).run Try.prog w' = .ok (.string s) w' ∧ ReadPost w b lb size d r x n (.returned (.tuple #[.string s, .int .i64 0])) w' := by
          intro v w' ⟨v', hv, hown, ⟨fm', cs', hp⟩, hf⟩
          injection hv with hv
          subst hv
          have e1 : rdS d x n = d.take n.toNat := by simp [rdS, h1, h2]
          have e2 : rdE d x n = 0 := by simp [rdE, h1, h2]
          refine ⟨_, Hgo.out _ _ hown, by rw [e1, e2], ?_, hf⟩
          rw [e1, List.length_take]
          have e3 : d.drop (min n.toNat d.length) = d.drop n.toNat := by
            rcases Nat.le_total n.toNat d.length with hle | hle
            · rw [Nat.min_eq_left hle]
            · rw [Nat.min_eq_right hle, List.drop_length, List.drop_of_length_le hle]
          rw [e3]
          exact ⟨fm', cs', hp⟩
        have Hfin := hide hfin
        clear hfin
        clear h2
        go_enter Try.func18, Try.ntmps18
        go_wp2_with (go_at_call 46; refine Htake.out.mono ?_; intro e w' hw2; obtain ⟨v, rfl, hw3⟩ := hw2; obtain ⟨sv, hcv, hrp⟩ := Hfin.out v w' ⟨v, rfl, hw3⟩; have Hrp := hide hrp; clear hrp hw3)
        go_ret2
        exact Hrp.out
    · have h3' : decide ((0 : Int) < n) = false := by simpa using h3
      have hfin : ∀ v w', TakePost w b lb size d r x n (.returned v) w' → ∃ s, (convert 92 9 v).run Try.prog w' = .ok (.string s) w' ∧ ReadPost w b lb size d r x n (.returned (.tuple #[.string s, .int .i64 0])) w' := by
        intro v w' ⟨v', hv, hown, ⟨fm', cs', hp⟩, hf⟩
        injection hv with hv
        subst hv
        have e1 : rdS d x n = d.take n.toNat := by simp [rdS, h1, h3]
        have e2 : rdE d x n = 0 := by simp [rdE, h1, h3]
        refine ⟨_, Hgo.out _ _ hown, by rw [e1, e2], ?_, hf⟩
        rw [e1, List.length_take]
        have e3 : d.drop (min n.toNat d.length) = d.drop n.toNat := by
          rcases Nat.le_total n.toNat d.length with hle | hle
          · rw [Nat.min_eq_left hle]
          · rw [Nat.min_eq_right hle, List.drop_length, List.drop_of_length_le hle]
        rw [e3]
        exact ⟨fm', cs', hp⟩
      have Hfin := hide hfin
      clear hfin
      clear h3
      go_enter Try.func18, Try.ntmps18
      go_wp2_with (go_at_call 46; refine Htake.out.mono ?_; intro e w' hw2; obtain ⟨v, rfl, hw3⟩ := hw2; obtain ⟨sv, hcv, hrp⟩ := Hfin.out v w' ⟨v, rfl, hw3⟩; have Hrp := hide hrp; clear hrp hw3)
      go_ret2
      exact Hrp.out
end Go.Proofs.Ytcoaggghabdndaa
