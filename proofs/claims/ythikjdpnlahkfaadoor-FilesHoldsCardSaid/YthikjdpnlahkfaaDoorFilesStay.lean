/- The tree of files as plain data: what is held stays. No program in sight; no condition. -/
import Derived.Test.YthikjdpnlahkfaaDoorFilesAskL
namespace Go.Proofs.YthikjdpnlahkfaaDoor
open Go.RowKit

/-- A file that is held is there behind it, with its bytes. -/
def Stay (i : Nat) (σ τ : FSt) : Prop := ∀ n, σ.nd i = some n → n.holds ≠ 0 → ∃ m, τ.nd i = some m ∧ m.d = n.d ∧ m.holds = n.holds ∧ m.data = n.data
theorem Stay.refl (i : Nat) (σ : FSt) : Stay i σ σ := fun n h _ => ⟨n, h, rfl, rfl, rfl⟩
theorem Stay.trans {i : Nat} {σ τ υ : FSt} (h : Stay i σ τ) (k : Stay i τ υ) : Stay i σ υ := fun n hn h0 => by
  obtain ⟨m, a1, a2, a3, a4⟩ := h n hn h0
  obtain ⟨q, b1, b2, b3, b4⟩ := k m a1 (by omega)
  exact ⟨q, b1, b2.trans a2, b3.trans a3, b4.trans a4⟩
theorem Stay.put {i a : Nat} {σ : FSt} {n : Nd} {x : Option Nd} (ha : σ.nd a = some n) (h : a = i → n.holds ≠ 0 → ∃ m, x = some m ∧ m.d = n.d ∧ m.holds = n.holds ∧ m.data = n.data) : Stay i σ (σ.put a x) := fun q hq h0 => by
  rw [put_nd ha]
  by_cases e : i = a
  · rw [e, ha] at hq
    cases hq
    obtain ⟨m, rfl, h1⟩ := h e.symm h0
    exact ⟨m, by rw [if_pos e], h1⟩
  · rw [if_neg e]
    exact ⟨q, hq, rfl, rfl, rfl⟩
theorem Stay.rel {i a : Nat} {σ : FSt} {g : Nd → Nd} (hg : ∀ n, (g n).d = n.d ∧ (g n).holds = n.holds ∧ (g n).data = n.data) : Stay i σ (relS σ a g) := by
  cases ha : σ.nd a with
  | none => unfold relS; rw [ha]; exact .refl _ _
  | some n => rw [relS_some ha]; exact .put ha fun _ _ => ⟨_, rfl, hg n⟩
theorem Stay.ent {i a : Nat} {σ : FSt} (f : KA Nat → KA Nat) : Stay i σ (entS σ a f) := by
  cases ha : σ.nd a with
  | none => unfold entS; rw [ha]; exact .refl _ _
  | some n => rw [entS_some ha]; exact .put ha fun _ _ => ⟨_, rfl, rfl, rfl, rfl⟩
theorem Stay.let_ {i a : Nat} {σ : FSt} : Stay i σ (letS σ a) := by
  unfold letS
  cases ha : σ.nd a with
  | none => exact .refl _ _
  | some n =>
    simp only
    split
    · rename_i h
      exact .put ha fun _ h0 => absurd h.2 h0
    · exact .refl _ _
theorem Stay.add {i : Nat} {σ : FSt} (n : Nd) : Stay i σ (σ.add n) := fun q hq _ => ⟨q, by rw [FSt.add_other (by rw [hq]; rfl)]; exact hq, rfl, rfl, rfl⟩
theorem Stay.cut {i a : Nat} {σ : FSt} {nm : List UInt8} : Stay i σ (cutS σ a nm) := Stay.ent (kdel nm)
theorem Stay.link {i a k : Nat} {σ : FSt} {nm : List UInt8} : Stay i σ (linkS σ a nm k) := Stay.ent (kput nm k)
theorem Stay.gone {i a : Nat} {σ : FSt} {nm : List UInt8} : Stay i σ (goneS σ a nm) := by
  unfold goneS
  cases lookS σ a nm with
  | none => exact .refl _ _
  | some k =>
    have h1 : Stay i σ (cutS σ a nm) := Stay.cut
    have h2 : Stay i (cutS σ a nm) (relS (cutS σ a nm) k less) := Stay.rel fun _ => ⟨rfl, rfl, rfl⟩
    exact (h1.trans h2).trans .let_
theorem Stay.carry {i a b k : Nat} {σ : FSt} {x y : List UInt8} : Stay i σ (carryS σ a x b y k) := by
  have h1 : Stay i σ (cutS σ a x) := Stay.cut
  have h2 : Stay i (cutS σ a x) (linkS (cutS σ a x) b y k) := Stay.link
  refine (h1.trans h2).trans ?_
  unfold carryS parS
  split
  · exact Stay.rel fun _ => ⟨rfl, rfl, rfl⟩
  · exact .refl _ _
theorem Stay.ask {i : Nat} {σ : FSt} {c : CallQ} (h : ¬ (c.n = i ∧ (c.what = 8 ∨ c.what = 9 ∨ c.what = 13 ∨ c.what = 14))) : Stay i σ (askS σ c) := by
  have far : ∀ {n : Nd} {x : Option Nd} {k : Nat}, (c.what = 8 ∨ c.what = 9 ∨ c.what = 13 ∨ c.what = 14) → c.n = k → σ.nd k = some n → Stay i σ (σ.put k x) := fun {n x k} h1 h2 h3 =>
    .put h3 fun e => absurd ⟨by rw [h2, e], h1⟩ h
  have mk : ∀ (d : Bool), Stay i σ (makeR σ c.n c.p d c.m).2 := fun d => by
    unfold makeR
    split
    · exact .refl _ _
    · unfold addS
      have h1 : Stay i σ (σ.add (newNd d c.m (aheadE σ c.n c.p).2.1)) := Stay.add _
      exact h1.trans .link
  unfold askS
  split
  · exact mk false
  split
  · exact mk true
  split
  · unfold unlinkR
    split
    · exact .refl _ _
    · exact .gone
  split
  · unfold rmdirR
    split
    · exact .refl _ _
    · exact .gone
  split
  · unfold linkR
    split
    · exact .refl _ _
    · unfold linkT
      have h1 : Stay i σ (relS σ (walkE σ c.n c.p).2 more) := Stay.rel fun _ => ⟨rfl, rfl, rfl⟩
      exact h1.trans .link
  split
  · unfold renR
    split
    · exact .refl _ _
    · unfold moveS
      simp only
      split
      · exact .refl _ _
      · split
        · exact .carry
        · split
          · exact .refl _ _
          · exact Stay.gone.trans .carry
  split
  · rename_i e
    unfold writeR
    cases hn : σ.ndI c.n with
    | none => exact .refl _ _
    | some n =>
      obtain ⟨k, hk, hkn⟩ := ndI_some hn
      simp only [hk, Int.toNat_natCast]
      split
      · exact .refl _ _
      split
      · exact .refl _ _
      split
      · exact .refl _ _
      split
      · exact .refl _ _
      split
      · have e9 : ∀ x y : Option Nd, (σ.put k x).put k y = σ.put k y := fun x y => by unfold FSt.put; rw [List.set_set]
        unfold overS' sizeS
        rw [e9]
        exact far (.inl e) hk hkn
      · exact .refl _ _
  split
  · rename_i e
    unfold truncR
    cases hn : σ.ndI c.n with
    | none => exact .refl _ _
    | some n =>
      obtain ⟨k, hk, hkn⟩ := ndI_some hn
      simp only [hk, Int.toNat_natCast]
      split
      · exact .refl _ _
      split
      · exact .refl _ _
      split
      · exact .refl _ _
      split
      · exact far (.inr (.inl e)) hk hkn
      · exact .refl _ _
  split
  · unfold chmodR
    cases hn : σ.ndI c.n with
    | none => exact .refl _ _
    | some n =>
      obtain ⟨k, hk, hkn⟩ := ndI_some hn
      simp only [hk, Int.toNat_natCast]
      exact .put hkn fun _ _ => ⟨_, rfl, rfl, rfl, rfl⟩
  split
  · rename_i e
    unfold holdR
    cases hn : σ.ndI c.n with
    | none => exact .refl _ _
    | some n =>
      obtain ⟨k, hk, hkn⟩ := ndI_some hn
      simp only [hk, Int.toNat_natCast]
      exact far (.inr (.inr (.inl e))) hk hkn
  split
  · rename_i e
    unfold dropR
    cases hn : σ.ndI c.n with
    | none => exact .refl _ _
    | some n =>
      obtain ⟨k, hk, hkn⟩ := ndI_some hn
      simp only [hk, Int.toNat_natCast]
      split
      · exact .refl _ _
      · exact (far (.inr (.inr (.inr e))) hk hkn).trans .let_
  · exact .refl _ _
end Go.Proofs.YthikjdpnlahkfaaDoor
