/- files.FS.walk, Walk. Conditions: the contract's own premises. -/
import Derived.Test.YthikjdpnlahkfaaDoorFilesD
namespace Go.Proofs.YthikjdpnlahkfaaDoor
open Go.RowKit

theorem FilesF.aside {w : World} {f : Nat} {σ : FSt} {S : Nat → Prop} {p : Nat → Nat} {dv ev pv : Nat → Value} {lv : Value} (h : FilesF w f σ S p dv ev pv lv) (o : Obj) : FilesF (w.alloc o) f σ (fun k => S k ∧ k ≠ w.heap.size) p dv ev pv lv := by
  have h' := h.frame ((Fr.refl (fun _ => False) _).alloc o) (fun _ _ _ e => e)
  have nl : ∀ i, (σ.nd i).isSome = true → ∃ n, NodeF w p (p i) i n (dv i) (ev i) (pv i) := fun i hi => by
    obtain ⟨n, hn⟩ := Option.isSome_iff_exists.1 hi
    exact ⟨n, h.nd i n hn⟩
  exact ⟨h'.hb, h'.hl, h'.nd, h.inj, h.injd, h.inje, ⟨h.own, by have := blk_lt h.hb; omega⟩, fun g e => ⟨h.ownl g e, by have := (h.hl.lt g e).2; omega⟩,
    fun i hi => ⟨h.ownn i hi, by obtain ⟨n, hn⟩ := nl i hi; have := blk_lt hn.hb; omega⟩, fun i g hi e => ⟨h.ownd i g hi e, by obtain ⟨n, hn⟩ := nl i hi; have := hn.data.lt e; omega⟩,
    fun i m hi e => ⟨h.owne i m hi e, by obtain ⟨n, hn⟩ := nl i hi; have := hn.map_lt e; omega⟩, fun k hk => ⟨h.up k (by simp at hk; omega), by simp at hk; omega⟩, h.live⟩
theorem FilesAt.aside {w : World} {f : Nat} {σ : FSt} {S : Nat → Prop} {p : Nat → Nat} (h : FilesAt w f σ S p) (o : Obj) : FilesAt (w.alloc o) f σ (fun k => S k ∧ k ≠ w.heap.size) p := by
  obtain ⟨_, _, _, _, h⟩ := h
  exact ⟨_, _, _, _, h.aside o⟩
def WalkPost (σ : FSt) (p : Nat → Nat) (dir : Int) (s : List UInt8) (w : World) (e : Ending) (w' : World) : Prop :=
  ∃ a, e = .returned (.tuple #[.pointer a, .int .i64 (walkE σ dir s).1]) ∧ Fr (fun _ => False) w w' ∧ ((walkE σ dir s).1 = 0 → a = some ⟨p (walkE σ dir s).2, 0, none⟩ ∧ (σ.nd (walkE σ dir s).2).isSome = true)
set_option maxRecDepth 100000 in
set_option maxHeartbeats 4000000 in
theorem fwalk_any (w : World) (f : Nat) (σ : FSt) (S : Nat → Prop) (p : Nat → Nat) (h : FilesAt w f σ S p) (hml : Ml w) (dir : Int) (hd : -9223372036854775808 ≤ dir ∧ dir ≤ 9223372036854775807) (s : ByteArray) (hs : s.size ≤ 9223372036854775807) :
    Calls Tryd.prog 44 #[.pointer (some ⟨f, 0, none⟩), .int .i64 dir, .string s] w (WalkPost σ p dir s.data.toList w) := by
  have hst := start_any w f σ S p h hml dir hd s hs
  have hdef : walkE σ dir s.data.toList = if (startE σ dir s.data.toList).1 ≠ 0 then startE σ dir s.data.toList
    else if (overS σ (piecesS s.data.toList) (startE σ dir s.data.toList).2).1 ≠ 0 then overS σ (piecesS s.data.toList) (startE σ dir s.data.toList).2
    else if slashS s.data.toList = true ∧ ((σ.nd (overS σ (piecesS s.data.toList) (startE σ dir s.data.toList).2).2).elim false (·.d)) = false then (20, 0)
    else overS σ (piecesS s.data.toList) (startE σ dir s.data.toList).2 := rfl
  have hfin := hide (show ∀ (E : Int) (A : Nat) a w', walkE σ dir s.data.toList = (E, A) → Fr (fun _ => False) w w' → (E = 0 → a = some ⟨p A, 0, none⟩ ∧ (σ.nd A).isSome = true) → WalkPost σ p dir s.data.toList w (.returned (.tuple #[.pointer a, .int .i64 E])) w' from fun E A a w' h1 h2 h3 => by
    unfold WalkPost
    rw [h1]
    exact ⟨a, rfl, h2, h3⟩)
  unfold StartPost at hst
  generalize startE σ dir s.data.toList = q at *
  obtain ⟨E, a0⟩ := q
  simp only at hst hdef
  have Hdef := hide hdef
  have hst := hide hst
  clear hdef
  go_enter Tryd.func44, Tryd.ntmps44
  go_wp2_with fail
  refine hst.out.mono ?_
  rintro e w1 ⟨atv, pv, sl, rfl, hf1, hok, hno⟩
  clear hst
  by_cases hE : E = 0
  · subst hE
    obtain ⟨rfl, rfl, ha0, l, hl, hlp, hl1, hl2⟩ := hok rfl
    obtain ⟨la, lc, rfl⟩ := hl.form
    clear hno hok
    have hdef2 : walkE σ dir s.data.toList = if (overS σ (piecesS s.data.toList) a0).1 ≠ 0 then overS σ (piecesS s.data.toList) a0
      else if slashS s.data.toList = true ∧ ((σ.nd (overS σ (piecesS s.data.toList) a0).2).elim false (·.d)) = false then (20, 0)
      else overS σ (piecesS s.data.toList) a0 := by rw [Hdef.out, if_neg (by simp)]
    have Hdef2 := hide hdef2
    clear hdef2 Hdef
    have h1 := h.frame hf1 (fun _ _ _ e => e)
    have h2 := h1.aside (.cells #[.pointer (some ⟨p a0, 0, none⟩), .slice la l.length lc, .bool (slashS s.data.toList)] 106 (0, 0))
    have hb2 := blk_new w1 (.cells #[.pointer (some ⟨p a0, 0, none⟩), .slice la l.length lc, .bool (slashS s.data.toList)] 106 (0, 0))
    have hl9 := (hl.mono (S' := fun k => k ≠ w1.heap.size) (fun k hk _ => Nat.ne_of_lt hk)).frame ((Fr.refl (fun _ => False) _).alloc (.cells #[.pointer (some ⟨p a0, 0, none⟩), .slice la l.length lc, .bool (slashS s.data.toList)] 106 (0, 0))) (fun _ _ _ e => e)
    have hov := over_any _ f σ _ p h2 w1.heap.size a0 l (.slice la l.length lc) (slashS s.data.toList) _ hl9 (fun e => e rfl) (fun e => e.2 rfl) hb2 ha0 l.length (Nat.le_refl _) hl1 hl2
    rw [List.take_of_length_le (by simp), hlp] at hov
    have hf2 : Fr (fun _ => False) w (w1.alloc (.cells #[.pointer (some ⟨p a0, 0, none⟩), .slice la l.length lc, .bool (slashS s.data.toList)] 106 (0, 0))) := hf1.alloc _
    have hsz : w.heap.size ≤ w1.heap.size := hf1.size
    have c1 : (w1.alloc (.cells #[.pointer (some ⟨p a0, 0, none⟩), .slice la l.length lc, .bool (slashS s.data.toList)] 106 (0, 0))).cell? ⟨w1.heap.size, 1, none⟩ = some (.slice la l.length lc) := by rw [blk_cell hb2]; rfl
    unfold OverPost at hov
    generalize overS σ (piecesS s.data.toList) a0 = q2 at *
    obtain ⟨E2, a2⟩ := q2
    simp only at hov Hdef2
    have Hov := hide hov
    clear hov hl hl9 hlp
    go_wp2_with fail
    refine Hov.out.mono ?_
    rintro e w3 ⟨rfl, ha3, hw3, hf3⟩
    have hfr3 : Fr (fun _ => False) w w3 := hf2.trans' hf3 (fun i hi e => by omega)
    have c0 : w3.cell? ⟨w1.heap.size, 0, none⟩ = some (.pointer (some ⟨p a2, 0, none⟩)) := by rw [blk_cell hw3]; rfl
    have c2 : w3.cell? ⟨w1.heap.size, 2, none⟩ = some (.bool (slashS s.data.toList)) := by rw [blk_cell hw3]; rfl
    by_cases hE2 : E2 = 0
    · subst hE2
      have hA3 := h.frame hfr3 (fun _ _ _ e => e)
      obtain ⟨n, hn⟩ := Option.isSome_iff_exists.1 ha3
      obtain ⟨dvn, evn, pvn, hnd⟩ := hA3.node hn
      have hdir := dir_any w3 p (p a2) a2 n dvn evn pvn hnd
      cases hs9 : slashS s.data.toList with
      | false =>
        have hres := hide (hfin.out 0 a2 (some ⟨p a2, 0, none⟩) w3 (by rw [Hdef2.out, if_neg (by simp), if_neg (by simp [hs9])]) hfr3 (fun _ => ⟨rfl, ha3⟩))
        rw [hs9] at c2
        clear hdir
        go_wp2_with fail
        go_returns
        exact hres.out
      | true =>
        cases hdn : n.d with
        | true =>
          have hres := hide (hfin.out 0 a2 (some ⟨p a2, 0, none⟩) w3 (by rw [Hdef2.out, if_neg (by simp), if_neg (by simp [hn, hdn])]) hfr3 (fun _ => ⟨rfl, ha3⟩))
          rw [hs9] at c2
          rw [hdn] at hdir
          go_wp2_with fail
          refine hdir.mono ?_
          rintro e w4 ⟨rfl, rfl⟩
          clear hdir
          go_wp2_with fail
          go_returns
          exact hres.out
        | false =>
          have hres := hide (hfin.out 20 0 (some ⟨p a2, 0, none⟩) w3 (by rw [Hdef2.out, if_neg (by simp), if_pos (by simp [hn, hdn, hs9])]) hfr3 (fun e => by cases e))
          rw [hs9] at c2
          rw [hdn] at hdir
          go_wp2_with fail
          refine hdir.mono ?_
          rintro e w4 ⟨rfl, rfl⟩
          clear hdir
          go_wp2_with fail
          go_returns
          exact hres.out
    · have hres := hide (hfin.out E2 a2 (some ⟨p a2, 0, none⟩) w3 (by rw [Hdef2.out, if_pos hE2]) hfr3 (fun e => absurd e hE2))
      clear Hdef2
      go_wp2_with fail
      go_returns
      exact hres.out
  · obtain ⟨rfl, rfl, rfl⟩ := hno hE
    have hres := hide (hfin.out E a0 none (w1.alloc (.cells #[.pointer none, .slice none 0 0, .bool false] 106 (0, 0))) (by rw [Hdef.out, if_pos hE]) (hf1.alloc _) (fun e => absurd e hE))
    clear Hdef hok hno
    go_wp2_with fail
    go_returns
    exact hres.out
end Go.Proofs.YthikjdpnlahkfaaDoor
