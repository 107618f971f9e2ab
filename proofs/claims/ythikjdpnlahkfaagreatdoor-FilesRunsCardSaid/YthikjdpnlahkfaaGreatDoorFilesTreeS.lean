/- The tree of files as plain data: all entries. No program in sight; no condition. -/
import Derived.Test.YthikjdpnlahkfaaGreatDoorFilesPath
namespace Go.Proofs.YthikjdpnlahkfaaGreatDoor
open Go.RowKit

/-- An entry of the tree, as it is told. -/
structure EntQ where
  path : List UInt8
  kind : Int
  mode : Int
  data : List UInt8
def kindN (n : Nd) : Int := if n.d then 2 else 1
def entQ (P nm : List UInt8) (n : Nd) : EntQ := ⟨P ++ nm, kindN n, n.mode, n.data⟩
/-- What one entry and all that is below it are told as. -/
def entL (σ : FSt) (deeper : List UInt8 → Nat → List EntQ) (P : List UInt8) (q : List UInt8 × Nat) : List EntQ :=
  match σ.nd q.2 with
  | none => []
  | some m => entQ P q.1 m :: (if m.d then deeper (P ++ q.1 ++ [slashB]) q.2 else [])
def treeF (σ : FSt) : Nat → List UInt8 → Nat → List EntQ
  | 0, _, _ => []
  | fuel + 1, P, i => match σ.nd i with | none => [] | some n => (n.ents.map (entL σ (treeF σ fuel) P)).flatten
def treeL (σ : FSt) : List EntQ := treeF σ 101 [] 1
theorem treeF_succ {σ : FSt} {i : Nat} {n : Nd} (h : σ.nd i = some n) (fuel : Nat) (P : List UInt8) : treeF σ (fuel + 1) P i = (n.ents.map (entL σ (treeF σ fuel) P)).flatten := by
  show (match σ.nd i with | none => [] | some n => (n.ents.map (entL σ (treeF σ fuel) P)).flatten) = _
  rw [h]
theorem entL_file {σ : FSt} {g : List UInt8 → Nat → List EntQ} {P nm : List UInt8} {k : Nat} {m : Nd} (h : σ.nd k = some m) (hd : m.d = false) : entL σ g P (nm, k) = [entQ P nm m] := by
  unfold entL
  simp only [h, hd]
  rfl
theorem entL_dir {σ : FSt} {g : List UInt8 → Nat → List EntQ} {P nm : List UInt8} {k : Nat} {m : Nd} (h : σ.nd k = some m) (hd : m.d = true) : entL σ g P (nm, k) = entQ P nm m :: g (P ++ nm ++ [slashB]) k := by
  unfold entL
  simp only [h, hd]
  rfl
/-- The directory above is the one in which it stands. -/
theorem Inv.par_of {σ : FSt} (h : Inv σ 0) {a k : Nat} {n m : Nd} {nm : List UInt8} (ha : σ.nd a = some n) (hk : kget nm n.ents = some k) (hm : σ.nd k = some m) (hd : m.d = true) : k ≠ 1 ∧ m.links ≠ 0 ∧ m.par = a := by
  have h1 := refs_pos ha hk
  have hk1 : k ≠ 1 := fun e => by
    have := h.root
    rw [e] at h1
    omega
  have h2 := h.cnt k m hm hk1
  rw [if_neg (nd_pos hm)] at h2
  have hl : m.links ≠ 0 := by omega
  obtain ⟨q, nm', b1, b2, b3⟩ := h.up k m hm hd hl hk1 (nd_pos hm)
  exact ⟨hk1, hl, (refs_unique (h.links_le hm hd hk1) b1 ha (h.srt _ q b1) b3 hk).1⟩
/-- What stands in a directory is one deeper. -/
theorem Inv.deeper {σ : FSt} (h : Inv σ 0) {a k d : Nat} {n m : Nd} {nm : List UInt8} (hdep : Dep σ 0 1 a d) (ha : σ.nd a = some n) (hk : kget nm n.ents = some k) (hm : σ.nd k = some m) (hd : m.d = true) : Dep σ 0 1 k (d + 1) := by
  obtain ⟨h1, h2, h3⟩ := h.par_of ha hk hm hd
  exact .up h1 (nd_pos hm) hm hd h2 (h3 ▸ hdep)
theorem kget_of_mem {α : Type} {L : KA α} (h : KSorted L) {q : List UInt8 × α} (hq : q ∈ L) : kget q.1 L = some q.2 := by
  induction L with
  | nil => cases hq
  | cons y r ih =>
    obtain ⟨h1, h2⟩ := List.pairwise_cons.1 h
    rw [kget_cons]
    rcases List.mem_cons.1 hq with rfl | hq
    · rw [if_pos (by simp)]
    · have h3 := h1 q hq
      rw [if_neg, ih h2 hq]
      intro e
      rw [beq_iff_eq.1 e, WideAt.bytes_irrefl] at h3
      cases h3
/-- What changes nothing below tells the same. -/
theorem treeF_same {σ τ : FSt} (h : ∀ i n, σ.nd i = some n → ∃ m, τ.nd i = some m ∧ m.d = n.d ∧ m.mode = n.mode ∧ m.data = n.data ∧ m.ents = n.ents) (hL : Live σ) : ∀ (fuel : Nat) (P : List UInt8) (i : Nat), (σ.nd i).isSome = true → treeF τ fuel P i = treeF σ fuel P i
  | 0, _, _, _ => rfl
  | fuel + 1, P, i, hi => by
    obtain ⟨n, hn⟩ := Option.isSome_iff_exists.1 hi
    obtain ⟨m, hm, a1, a2, a3, a4⟩ := h i n hn
    rw [treeF_succ hn, treeF_succ hm, a4]
    congr 1
    refine List.map_congr_left fun q hq => ?_
    have hs := hL.ents i n hn q hq
    obtain ⟨x, hx⟩ := Option.isSome_iff_exists.1 hs
    obtain ⟨y, hy, b1, b2, b3, b4⟩ := h q.2 x hx
    unfold entL
    rw [hx, hy]
    simp only [entQ, kindN, b1, b2, b3, treeF_same h hL fuel _ q.2 hs]
end Go.Proofs.YthikjdpnlahkfaaGreatDoor
