/- files.FS.Create, Mkdir, New. Conditions: the contracts' own premises. -/
import Derived.Test.YthikjdpnlahkfaaDoorFilesR
namespace Go.Proofs.YthikjdpnlahkfaaDoor
open Go.RowKit

/-- So it answers, and so it leaves the tree. -/
def MutX (f : Nat) (σ' : FSt) (S : Nat → Prop) (v : Value) (w : World) (e : Ending) (w' : World) : Prop := e = .returned v ∧ (∃ p', FilesAt w' f σ' S p') ∧ Fr S w w'
theorem MutPost.x {f : Nat} {σ' : FSt} {S : Nat → Prop} {p : Nat → Nat} {v : Value} {w : World} {e : Ending} {w' : World} (h : MutPost f σ' S p v w e w') : MutX f σ' S v w e w' := ⟨h.1, ⟨p, h.2.1⟩, h.2.2⟩
theorem link_free_some (σ : FSt) (n : Nd) (a : Nat) (nm : List UInt8) (k : Nat) : ((linkS (σ.add n) a nm k).nd σ.free).isSome = true := by
  unfold linkS entS
  cases h : (σ.add n).nd a with
  | none => simp only; rw [FSt.add_same]; rfl
  | some x =>
    simp only
    rw [FSt.nd_put (by rw [h]; rfl)]
    split
    · rfl
    · rw [FSt.add_same]; rfl
theorem makeR_zero {σ : FSt} {dir : Int} {s : List UInt8} {d : Bool} {m : Int} (h : (makeR σ dir s d m).1 = 0) : addE σ dir s d = 0 ∧ makeR σ dir s d m = (0, addS σ dir s d m) := by
  unfold makeR at h ⊢
  by_cases e : addE σ dir s d ≠ 0
  · rw [if_pos e] at h; exact absurd h e
  · rw [if_neg e]; exact ⟨by simpa using e, rfl⟩
theorem makeR_err {σ : FSt} {dir : Int} {s : List UInt8} {d : Bool} {m : Int} (h : (makeR σ dir s d m).1 ≠ 0) : addE σ dir s d ≠ 0 := by
  unfold makeR at h
  by_cases e : addE σ dir s d ≠ 0
  · exact e
  · rw [if_neg e] at h; exact absurd rfl h
set_option maxRecDepth 100000 in
set_option maxHeartbeats 1000000 in
theorem Create_any (w : World) (f : Nat) (σ : FSt) (S : Nat → Prop) (p : Nat → Nat) (h : FilesAt w f σ S p) (hml : Ml w) (hcap : CapB σ) (dir : Int) (hd : -9223372036854775808 ≤ dir ∧ dir ≤ 9223372036854775807) (s : ByteArray) (hs : s.size ≤ 9223372036854775807) (m : Int) (hm : -9223372036854775808 ≤ m ∧ m ≤ 9223372036854775807) :
    Calls Tryd.prog 11 #[.pointer (some ⟨f, 0, none⟩), .int .i64 dir, .string s, .int .i64 m] w (MutX f (createR σ dir s.data.toList m).2.2 S (.tuple #[.int .i64 (createR σ dir s.data.toList m).1, .int .i64 (createR σ dir s.data.toList m).2.1]) w) := by
  obtain ⟨w1, hw1⟩ : ∃ w1, w1 = w.alloc (.cells #[.int .i64 0, .int .i64 1, .int .i64 m, .int .i64 0, .int .i64 0, .slice none 0 0, .map none, .pointer none] 73 (0, 0)) := ⟨_, rfl⟩
  have hf1 : Fr (fun _ => False) w w1 := by rw [hw1]; exact (Fr.refl _ _).alloc _
  have hb1 : w1.heap[w.heap.size]? = some (.cells #[.int .i64 0, .int .i64 1, .int .i64 m, .int .i64 0, .int .i64 0, .slice none 0 0, .map none, .pointer none] 73 (0, 0)) := by rw [hw1]; exact blk_new _ _
  have hup : S w.heap.size := by obtain ⟨_, _, _, _, hF⟩ := h; exact hF.up _ (Nat.le_refl _)
  have hadd := fadd_any w1 f σ (fun k => S k ∧ k ≠ w.heap.size) p (by rw [hw1]; exact h.aside _) (hml.frame hf1 (fun e => e)) dir hd s hs w.heap.size false m (.map none) ⟨hb1, (fun e => by cases e), fun _ => rfl⟩ (fun e => e.2 rfl) (fun mb e => by cases e) hcap hm
  have hmono : ∀ k, NewS (fun k => S k ∧ k ≠ w.heap.size) w.heap.size (.map none) k → S k := fun k hk => by
    rcases hk with hk | rfl | hk
    · exact hk.1
    · exact hup
    · cases hk
  have Hadd := hide hadd
  have Hmono := hide hmono
  clear hadd hmono
  have hnm : (createR σ dir s.data.toList m).2 = makeR σ dir s.data.toList false m := rfl
  by_cases hE : (makeR σ dir s.data.toList false m).1 = 0
  · obtain ⟨h0, h9⟩ := makeR_zero hE
    have e1 : createR σ dir s.data.toList m = ((σ.free : Int), 0, addS σ dir s.data.toList false m) := by unfold createR; rw [if_neg (by simp [h0]), h9]
    rw [e1]
    unfold MakePost at Hadd
    rw [h9] at Hadd
    clear h0 h9 e1 hE hnm
    subst hw1
    go_enter Tryd.func11, Tryd.ntmps11
    go_wp2_with fail
    refine Hadd.out.mono ?_
    rintro e w2 ⟨rfl, ⟨p', hA, hp⟩, hfr⟩
    have hp := hp trivial
    obtain ⟨n2, hn2⟩ := Option.isSome_iff_exists.1 (link_free_some σ (newNd false m (aheadE σ dir s.data.toList).2.1) (aheadE σ dir s.data.toList).2.1 (aheadE σ dir s.data.toList).2.2 σ.free)
    obtain ⟨dvn, evn, pvn, hN⟩ := hA.node hn2
    rw [hp] at hN
    have c0 : w2.cell? ⟨w.heap.size, 0, none⟩ = some (.int .i64 σ.free) := by rw [blk_cell hN.hb]; rfl
    have hres := hide (show MutX f (addS σ dir s.data.toList false m) S (.tuple #[.int .i64 (σ.free : Int), .int .i64 0]) w (.returned (.tuple #[.int .i64 (σ.free : Int), .int .i64 0])) w2 from ⟨rfl, ⟨p', hA.mono Hmono.out⟩, (hf1.mono (fun _ _ e => e.elim)).trans (hfr.mono (fun k _ hk => Hmono.out k hk))⟩)
    clear hA hp hN hfr Hadd Hmono hn2
    go_wp2_with fail
    go_returns
    exact hres.out
  · have h0 := makeR_err hE
    have e1 : createR σ dir s.data.toList m = (0, makeR σ dir s.data.toList false m) := by unfold createR; rw [if_pos h0]
    rw [e1]
    have Hadd2 := Hadd
    unfold MakePost at Hadd2
    obtain ⟨E, σ', hq⟩ : ∃ E σ', makeR σ dir s.data.toList false m = (E, σ') := ⟨_, _, rfl⟩
    rw [hq] at Hadd2 hE ⊢
    clear h0 e1 hnm Hadd hq
    subst hw1
    go_enter Tryd.func11, Tryd.ntmps11
    go_wp2_with fail
    refine Hadd2.out.mono ?_
    rintro e w2 ⟨rfl, ⟨p', hA, hp⟩, hfr⟩
    have hres := hide (show MutX f σ' S (.tuple #[.int .i64 0, .int .i64 E]) w (.returned (.tuple #[.int .i64 0, .int .i64 E])) w2 from ⟨rfl, ⟨p', hA.mono Hmono.out⟩, (hf1.mono (fun _ _ e => e.elim)).trans (hfr.mono (fun k _ hk => Hmono.out k hk))⟩)
    clear hA hp hfr Hadd2 Hmono
    go_wp2_with fail
    go_returns
    exact hres.out
set_option maxRecDepth 100000 in
set_option maxHeartbeats 1000000 in
theorem Mkdir_any (w : World) (f : Nat) (σ : FSt) (S : Nat → Prop) (p : Nat → Nat) (h : FilesAt w f σ S p) (hml : Ml w) (hcap : CapB σ) (dir : Int) (hd : -9223372036854775808 ≤ dir ∧ dir ≤ 9223372036854775807) (s : ByteArray) (hs : s.size ≤ 9223372036854775807) (m : Int) (hm : -9223372036854775808 ≤ m ∧ m ≤ 9223372036854775807) :
    Calls Tryd.prog 31 #[.pointer (some ⟨f, 0, none⟩), .int .i64 dir, .string s, .int .i64 m] w (MutX f (makeR σ dir s.data.toList true m).2 S (.int .i64 (makeR σ dir s.data.toList true m).1) w) := by
  have hmm := @run_makeMap Tryd.prog
  obtain ⟨w0, hw0⟩ : ∃ w0, w0 = w.alloc (.map #[] 0) := ⟨_, rfl⟩
  have hz0 : w0.heap.size = w.heap.size + 1 := by rw [hw0]; simp
  obtain ⟨w1, hw1⟩ : ∃ w1, w1 = w0.alloc (.cells #[.int .i64 0, .int .i64 2, .int .i64 m, .int .i64 0, .int .i64 0, .slice none 0 0, .map (some w.heap.size), .pointer none] 73 (0, 0)) := ⟨_, rfl⟩
  have hf0 : Fr (fun _ => False) w w0 := by rw [hw0]; exact (Fr.refl _ _).alloc _
  have hf01 : Fr (fun _ => False) w0 w1 := by rw [hw1]; exact (Fr.refl _ _).alloc _
  have hf1 := hf0.trans hf01
  have hb1 : w1.heap[w.heap.size + 1]? = some (.cells #[.int .i64 0, .int .i64 2, .int .i64 m, .int .i64 0, .int .i64 0, .slice none 0 0, .map (some w.heap.size), .pointer none] 73 (0, 0)) := by rw [hw1, ← hz0]; exact blk_new _ _
  have hm1 : SMapAt Tryd.prog 9 w1 w.heap.size [] := by
    have : SMapAt Tryd.prog 9 w0 w.heap.size [] := by rw [hw0]; exact SMapAt.made w
    exact this.frame hf01 (fun e => e)
  have hup : S w.heap.size ∧ S (w.heap.size + 1) := by obtain ⟨_, _, _, _, hF⟩ := h; exact ⟨hF.up _ (Nat.le_refl _), hF.up _ (Nat.le_succ _)⟩
  have hA0 : FilesAt w0 f σ (fun k => S k ∧ k ≠ w.heap.size) p := by rw [hw0]; exact h.aside _
  have hA1 : FilesAt w1 f σ (fun k => (S k ∧ k ≠ w.heap.size) ∧ k ≠ w.heap.size + 1) p := by rw [hw1, ← hz0]; exact hA0.aside _
  have hadd := fadd_any w1 f σ _ p hA1 (hml.frame hf1 (fun e => e)) dir hd s hs (w.heap.size + 1) true m (.map (some w.heap.size)) ⟨hb1, fun _ => ⟨_, rfl, hm1⟩, fun e => by cases e⟩ (fun e => e.2 rfl) (fun mb e => by cases e; exact fun e => e.1.2 rfl) hcap hm
  have hmono : ∀ k, NewS (fun k => (S k ∧ k ≠ w.heap.size) ∧ k ≠ w.heap.size + 1) (w.heap.size + 1) (.map (some w.heap.size)) k → S k := fun k hk => by
    rcases hk with hk | rfl | hk
    · exact hk.1.1
    · exact hup.2
    · cases hk; exact hup.1
  have hres := hide (show ∀ (e : Ending) w2, MakePost f σ (fun k => (S k ∧ k ≠ w.heap.size) ∧ k ≠ w.heap.size + 1) (w.heap.size + 1) (.map (some w.heap.size)) dir s.data.toList true m w1 e w2 → MutX f (makeR σ dir s.data.toList true m).2 S (.int .i64 (makeR σ dir s.data.toList true m).1) w e w2 from fun e w2 ⟨h1, ⟨p', hA, _⟩, hfr⟩ =>
    ⟨h1, ⟨p', hA.mono hmono⟩, (hf1.mono (fun _ _ e => e.elim)).trans (hfr.mono (fun k _ hk => hmono k hk))⟩)
  have Hadd := hide hadd
  clear hadd hmono hA0 hA1 hm1 hb1
  subst hw1
  subst hw0
  rw [hz0] at *
  clear hz0
  go_enter Tryd.func31, Tryd.ntmps31
  go_wp2_with fail
  refine Hadd.out.mono ?_
  rintro e w2 hq
  have h9 := hres.out _ _ hq
  obtain ⟨rfl, _⟩ := hq
  have H9 := hide h9
  clear h9 hres Hadd
  go_wp2_with fail
  go_ret
  exact H9.out
end Go.Proofs.YthikjdpnlahkfaaDoor
