/- The tree of files as plain data: an entry more, an inode more. No program in sight; no condition. -/
import Derived.Test.YthikjdpnlahkfaaDoorFilesO
namespace Go.Proofs.YthikjdpnlahkfaaDoor
open Go.RowKit

def openS (σ : FSt) (a : Nat) (nm : List UInt8) : Int := match σ.nd a with | none => 2 | some n => openE n nm
/-- The entry of that name in an inode. -/
def lookS (σ : FSt) (a : Nat) (nm : List UInt8) : Option Nat := match σ.nd a with | none => none | some n => kget nm n.ents
def entS (σ : FSt) (a : Nat) (f : KA Nat → KA Nat) : FSt := match σ.nd a with | none => σ | some n => σ.put a (some { n with ents := f n.ents })
def linkS (σ : FSt) (a : Nat) (nm : List UInt8) (k : Nat) : FSt := entS σ a (kput nm k)
def cutS (σ : FSt) (a : Nat) (nm : List UInt8) : FSt := entS σ a (kdel nm)
def newNd (d : Bool) (m : Int) (a : Nat) : Nd := ⟨d, modeN m, 1, 0, [], [], a⟩
def addE (σ : FSt) (dir : Int) (s : List UInt8) (d : Bool) : Int :=
  if (aheadE σ dir s).1 ≠ 0 then (aheadE σ dir s).1
  else if slashS s = true ∧ d = false then 21
  else if openS σ (aheadE σ dir s).2.1 (aheadE σ dir s).2.2 ≠ 0 then openS σ (aheadE σ dir s).2.1 (aheadE σ dir s).2.2
  else if 100 ≤ σ.cnt then 23 else 0
def addS (σ : FSt) (dir : Int) (s : List UInt8) (d : Bool) (m : Int) : FSt := linkS (σ.add (newNd d m (aheadE σ dir s).2.1)) (aheadE σ dir s).2.1 (aheadE σ dir s).2.2 σ.free
def makeR (σ : FSt) (dir : Int) (s : List UInt8) (d : Bool) (m : Int) : Int × FSt := if addE σ dir s d ≠ 0 then (addE σ dir s d, σ) else (0, addS σ dir s d m)
def createR (σ : FSt) (dir : Int) (s : List UInt8) (m : Int) : Int × Int × FSt := (if addE σ dir s false ≠ 0 then 0 else (σ.free : Int), makeR σ dir s false m)
/-- No count is great. -/
def Caps (σ : FSt) (k : Nat) : Prop := ∀ i n, σ.nd i = some n → n.links ≤ k ∧ n.holds ≤ k ∧ n.ents.length ≤ k
def CapB (σ : FSt) : Prop := Caps σ 4611686018427387903
theorem FSt.add_same (σ : FSt) (n : Nd) : (σ.add n).nd σ.free = some n := by rw [FSt.nd_add, if_pos rfl]
theorem FSt.add_other {σ : FSt} {i : Nat} (h : (σ.nd i).isSome = true) (n : Nd) : (σ.add n).nd i = σ.nd i := by
  rw [FSt.nd_add, if_neg]
  rintro rfl
  rw [FSt.nd_free] at h
  cases h
theorem entS_some {σ : FSt} {a : Nat} {n : Nd} (h : σ.nd a = some n) (f : KA Nat → KA Nat) : entS σ a f = σ.put a (some { n with ents := f n.ents }) := by unfold entS; rw [h]
theorem Live.ent {σ : FSt} (h : Live σ) {a : Nat} {n : Nd} (hn : σ.nd a = some n) (f : KA Nat → KA Nat) (he : ∀ q ∈ f n.ents, (σ.nd q.2).isSome = true ∧ q.1.length ≤ 32) : Live (entS σ a f) := by
  rw [entS_some hn]
  refine h.put hn rfl (fun e => ?_) (fun q hq => (he q hq).1) (h.par a n hn) ?_ (fun q hq => (he q hq).2)
  · obtain ⟨r, h1, _, h2⟩ := h.root
    subst e
    rw [hn] at h1
    cases h1
    exact h2
  · have h1 := FSt.byts_put hn (some { n with ents := f n.ents })
    have h2 := h.byts
    simp only [ndLen] at h1
    omega
theorem Live.link {σ : FSt} (h : Live σ) {a k : Nat} {n : Nd} (hn : σ.nd a = some n) {nm : List UInt8} (hnm : nm.length ≤ 32) (hk : (σ.nd k).isSome = true) : Live (linkS σ a nm k) :=
  h.ent hn _ fun q hq => by
    rcases kput_mem hq with rfl | hq
    · exact ⟨hk, hnm⟩
    · exact ⟨h.ents a n hn q hq, h.names a n hn q hq⟩
theorem Live.cut {σ : FSt} (h : Live σ) {a : Nat} {n : Nd} (hn : σ.nd a = some n) (nm : List UInt8) : Live (cutS σ a nm) :=
  h.ent hn _ fun q hq => ⟨h.ents a n hn q (List.mem_filter.1 hq).1, h.names a n hn q (List.mem_filter.1 hq).1⟩
end Go.Proofs.YthikjdpnlahkfaaDoor
