/- Contracts of the methods of table.Table[int] that walk no other. Conditions: each contract's own premises. -/
import Derived.Test.YtcoaggghabdndaaProg
import Derived.Test.YtcoaggghabdndaaBase
import Derived.Deep.QuietTactic
import Derived.BigQuiet
import Derived.StillTailTactics
namespace Go.Proofs.Ytcoaggghabdndaa
open Go.RowKit

def TSt : Type := Nat → Option (Int × Bool)
def ptrOf (o : Option (Int × Bool)) (b : Nat) : Value := match o with | none => .pointer none | some _ => .pointer (some ⟨b, 0, none⟩)

/-- A table lies in block t, what number i has in block p i; S: its own blocks, and all that are new. -/
structure TabF (w : World) (t : Nat) (p : Nat → Nat) (st : TSt) (S : Nat → Prop) (cs : Array Value) : Prop where
  hb : w.heap[t]? = some (.cells cs 89 (0, 0))
  hcs : cs.size = 32
  hc : ∀ i, i < 32 → cs[i]? = some (ptrOf (st i) (p i))
  hs : ∀ i x m, i < 32 → st i = some (x, m) → w.heap[p i]? = some (.cells #[.int .i64 x, .bool m] 91 (0, 0))
  inj : ∀ i j, i < 32 → j < 32 → (st i).isSome = true → (st j).isSome = true → p i = p j → i = j
  hne : ∀ i, i < 32 → (st i).isSome = true → p i ≠ t
  own : S t
  owns : ∀ i, i < 32 → (st i).isSome = true → S (p i)
  up : ∀ k, w.heap.size ≤ k → S k

def TabAt (w : World) (t : Nat) (st : TSt) (S : Nat → Prop) : Prop := ∃ p cs, TabF w t p st S cs
def inB (fd : Int) : Bool := decide (0 ≤ fd) && decide (fd < 32)
def TSt.set (st : TSt) (fd : Nat) (o : Option (Int × Bool)) : TSt := fun i => if i = fd then o else st i

theorem TabF.frame {w w' : World} {t : Nat} {p : Nat → Nat} {st : TSt} {S S' : Nat → Prop} {cs : Array Value} (h : TabF w t p st S cs) (hf : Fr S' w w') (hd : ∀ k, k < w.heap.size → S k → ¬ S' k) : TabF w' t p st S cs where
  hb := hf.get h.hb (hd _ (blk_lt h.hb) h.own)
  hcs := h.hcs
  hc := h.hc
  hs i x m hi e := hf.get (h.hs i x m hi e) (hd _ (blk_lt (h.hs i x m hi e)) (h.owns i hi (by simp [e])))
  inj := h.inj
  hne := h.hne
  own := h.own
  owns := h.owns
  up k hk := h.up k (Nat.le_trans hf.size hk)
theorem TabAt.frame {w w' : World} {t : Nat} {st : TSt} {S S' : Nat → Prop} (h : TabAt w t st S) (hf : Fr S' w w') (hd : ∀ k, k < w.heap.size → S k → ¬ S' k) : TabAt w' t st S := by
  obtain ⟨p, cs, h⟩ := h
  exact ⟨p, cs, h.frame hf hd⟩
theorem TabF.ext {w : World} {t : Nat} {p : Nat → Nat} {st st' : TSt} {S : Nat → Prop} {cs : Array Value} (h : TabF w t p st S cs) (he : ∀ i, i < 32 → st' i = st i) : TabF w t p st' S cs where
  hb := h.hb
  hcs := h.hcs
  hc i hi := by rw [he i hi]; exact h.hc i hi
  hs i x m hi e := h.hs i x m hi (by rw [← he i hi]; exact e)
  inj i j hi hj a b := h.inj i j hi hj (by rw [← he i hi]; exact a) (by rw [← he j hj]; exact b)
  hne i hi a := h.hne i hi (by rw [← he i hi]; exact a)
  own := h.own
  owns i hi a := h.owns i hi (by rw [← he i hi]; exact a)
  up := h.up

/-- A number is free. -/
theorem TabF.cut {w : World} {t : Nat} {p : Nat → Nat} {st : TSt} {S : Nat → Prop} {cs : Array Value} (h : TabF w t p st S cs) (fd : Nat) (hfd : fd < 32) : TabF (w.setCell ⟨t, fd, none⟩ (.pointer none)) t p (st.set fd none) S (cs.setIfInBounds fd (.pointer none)) where
  hb := blk_set h.hb _ _
  hcs := by simp [h.hcs]
  hc i hi := by
    by_cases e : i = fd
    · subst e; simp [TSt.set, h.hcs, hi, ptrOf]
    · rw [Array.getElem?_setIfInBounds_ne (Ne.symm e), h.hc i hi]; simp [TSt.set, e]
  hs i x m hi e := by
    by_cases e1 : i = fd
    · simp [TSt.set, e1] at e
    · have e2 : st i = some (x, m) := by simpa [TSt.set, e1] using e
      exact blk_set_other (h.hs i x m hi e2) _ _ (h.hne i hi (by simp [e2]))
  inj i j hi hj a b := h.inj i j hi hj (by by_cases e : i = fd <;> simp_all [TSt.set]) (by by_cases e : j = fd <;> simp_all [TSt.set])
  hne i hi a := h.hne i hi (by by_cases e : i = fd <;> simp_all [TSt.set])
  own := h.own
  owns i hi a := h.owns i hi (by by_cases e : i = fd <;> simp_all [TSt.set])
  up k hk := h.up k (by simpa using hk)
/-- A number has a new thing. -/
theorem TabF.put {w : World} {t : Nat} {p : Nat → Nat} {st : TSt} {S : Nat → Prop} {cs : Array Value} (h : TabF w t p st S cs) (fd : Nat) (hfd : fd < 32) (b : Nat) (hS : S b) (hbt : b ≠ t) (hp : ∀ i, i < 32 → i ≠ fd → (st i).isSome = true → p i ≠ b) (x : Int) (m : Bool) (hx : w.heap[b]? = some (.cells #[.int .i64 x, .bool m] 91 (0, 0))) :
    TabF (w.setCell ⟨t, fd, none⟩ (.pointer (some ⟨b, 0, none⟩))) t (fun i => if i = fd then b else p i) (st.set fd (some (x, m))) S (cs.setIfInBounds fd (.pointer (some ⟨b, 0, none⟩))) where
  hb := blk_set h.hb _ _
  hcs := by simp [h.hcs]
  hc i hi := by
    by_cases e : i = fd
    · subst e; simp [TSt.set, h.hcs, hi, ptrOf]
    · rw [Array.getElem?_setIfInBounds_ne (Ne.symm e), h.hc i hi]; simp [TSt.set, e]
  hs i y n hi e := by
    by_cases e1 : i = fd
    · simp [TSt.set, e1] at e
      obtain ⟨rfl, rfl⟩ := e
      rw [if_pos e1]
      exact blk_set_other hx _ _ hbt
    · have e2 : st i = some (y, n) := by simpa [TSt.set, e1] using e
      rw [if_neg e1]
      exact blk_set_other (h.hs i y n hi e2) _ _ (h.hne i hi (by simp [e2]))
  inj i j hi hj a c e := by
    by_cases e1 : i = fd <;> by_cases e2 : j = fd <;> simp only [e1, e2, if_true, if_false, TSt.set] at a c e ⊢
    · exact absurd e.symm (hp j hj e2 c)
    · exact absurd e (hp i hi e1 a)
    · exact h.inj i j hi hj a c e
  hne i hi a := by
    by_cases e1 : i = fd
    · rw [if_pos e1]; exact hbt
    · rw [if_neg e1]; exact h.hne i hi (by simpa [TSt.set, e1] using a)
  own := h.own
  owns i hi a := by
    by_cases e1 : i = fd
    · rw [if_pos e1]; exact hS
    · rw [if_neg e1]; exact h.owns i hi (by simpa [TSt.set, e1] using a)
  up k hk := h.up k (by simpa using hk)
/-- A new thing in a block of its own. -/
theorem TabF.putNew {w w1 : World} {t : Nat} {p : Nat → Nat} {st : TSt} {S : Nat → Prop} {cs : Array Value} (h : TabF w t p st S cs) (fd : Nat) (hfd : fd < 32) (x : Int) (m : Bool)
    (hw : w1 = w.alloc (.cells #[.int .i64 x, .bool m] 91 (0, 0))) : TabAt (w1.setCell ⟨t, fd, none⟩ (.pointer (some ⟨w.heap.size, 0, none⟩))) t (st.set fd (some (x, m))) S := by
  subst hw
  have h1 := h.frame ((Fr.refl (fun _ => False) w).alloc (.cells #[.int .i64 x, .bool m] 91 (0, 0))) (fun _ _ _ e => e)
  refine ⟨_, _, h1.put fd hfd w.heap.size (h.up _ (Nat.le_refl _)) (by have := blk_lt h.hb; omega) ?_ x m (blk_new _ _)⟩
  intro i hi _ hsome e
  obtain ⟨⟨y, n⟩, hy⟩ := Option.isSome_iff_exists.1 hsome
  have := blk_lt (h.hs i y n hi hy)
  omega
/-- What a number has is marked. -/
theorem TabF.mark {w : World} {t : Nat} {p : Nat → Nat} {st : TSt} {S : Nat → Prop} {cs : Array Value} (h : TabF w t p st S cs) (fd : Nat) (hfd : fd < 32) (x : Int) (m0 m : Bool) (hst : st fd = some (x, m0)) :
    TabF (w.setCell ⟨p fd, 1, none⟩ (.bool m)) t p (st.set fd (some (x, m))) S cs where
  hb := blk_set_other h.hb _ _ (h.hne fd hfd (by simp [hst])).symm
  hcs := h.hcs
  hc i hi := by
    by_cases e : i = fd
    · subst e; rw [h.hc i hi]; simp [TSt.set, hst, ptrOf]
    · rw [h.hc i hi]; simp [TSt.set, e]
  hs i y n hi e := by
    by_cases e1 : i = fd
    · simp [TSt.set, e1] at e
      obtain ⟨rfl, rfl⟩ := e
      rw [e1, blk_set (h.hs fd x m0 hfd hst)]; simp
    · have e2 : st i = some (y, n) := by simpa [TSt.set, e1] using e
      exact blk_set_other (h.hs i y n hi e2) _ _ (fun e3 => e1 (h.inj i fd hi hfd (by simp [e2]) (by simp [hst]) e3))
  inj i j hi hj a b := h.inj i j hi hj (by by_cases e : i = fd <;> simp_all [TSt.set]) (by by_cases e : j = fd <;> simp_all [TSt.set])
  hne i hi a := h.hne i hi (by by_cases e : i = fd <;> simp_all [TSt.set])
  own := h.own
  owns i hi a := h.owns i hi (by by_cases e : i = fd <;> simp_all [TSt.set])
  up k hk := h.up k (by simpa using hk)

theorem in_any (fd : Int) (w : World) : Calls Try.prog 43 #[.int .i64 fd] w fun e w' => e = .returned (.bool (inB fd)) ∧ w = w' := by
  go_enter Try.func43, Try.ntmps43
  by_cases h1 : 0 ≤ fd
  · by_cases h2 : fd < 32
    · go_wp2
      go_ret
      exact ⟨by simp [inB, h1, h2], rfl⟩
    · go_wp2
      go_ret
      exact ⟨by simp [inB, h1, h2], rfl⟩
  · go_wp2
    go_ret
    exact ⟨by simp [inB]; omega, rfl⟩
theorem new_any (w : World) : Calls Try.prog 10 #[] w fun e w' => e = .returned (.pointer (some ⟨w.heap.size, 0, none⟩)) ∧ w' = w.alloc (.cells (Array.replicate 32 (.pointer none)) 89 (0, 0)) := by
  go_enter Try.func10, Try.ntmps10
  go_wp2
  go_ret
  exact ⟨rfl, rfl⟩
theorem TabF.new (w : World) (S : Nat → Prop) (hS : ∀ k, w.heap.size ≤ k → S k) (w' : World) (hw : w' = w.alloc (.cells (Array.replicate 32 (.pointer none)) 89 (0, 0))) : TabAt w' w.heap.size (fun _ => none) S := by
  subst hw
  exact ⟨fun _ => 0, _, blk_new _ _, by simp, fun i hi => by simp [hi, ptrOf], by simp, by simp, by simp, hS _ (Nat.le_refl _), by simp, fun k hk => hS k (by simp at hk; omega)⟩
theorem at_in (w : World) (t : Nat) (p : Nat → Nat) (st : TSt) (S : Nat → Prop) (cs : Array Value) (h : TabF w t p st S cs) (fd : Nat) (hfd : fd < 32) :
    Calls Try.prog 48 #[.pointer (some ⟨t, 0, none⟩), .int .i64 fd] w fun e w' => e = .returned (ptrOf (st fd) (p fd)) ∧ w = w' := by
  have hc : w.cell? ⟨t, fd, none⟩ = some (ptrOf (st fd) (p fd)) := by rw [blk_cell h.hb]; exact h.hc fd hfd
  go_enter Try.func48, Try.ntmps48
  go_wp2_with fail
  refine (in_any fd w).mono ?_
  rintro e w' ⟨rfl, rfl⟩
  have hi : inB fd = true := by simp [inB]; omega
  rw [hi]
  go_wp2
  go_ret
  exact ⟨rfl, rfl⟩
theorem at_out (w : World) (t : Nat) (fd : Int) (hi : inB fd = false) :
    Calls Try.prog 48 #[.pointer (some ⟨t, 0, none⟩), .int .i64 fd] w fun e w' => e = .returned (.pointer none) ∧ w = w' := by
  go_enter Try.func48, Try.ntmps48
  go_wp2_with fail
  refine (in_any fd w).mono ?_
  rintro e w' ⟨rfl, rfl⟩
  rw [hi]
  go_wp2
  go_ret
  exact ⟨rfl, rfl⟩
theorem at_nil (w : World) (fd : Int) :
    Calls Try.prog 48 #[.pointer none, .int .i64 fd] w fun e w' => e = .returned (.pointer none) ∧ w = w' := by
  go_enter Try.func48, Try.ntmps48
  go_wp2
  go_ret
  exact ⟨rfl, rfl⟩
end Go.Proofs.Ytcoaggghabdndaa
