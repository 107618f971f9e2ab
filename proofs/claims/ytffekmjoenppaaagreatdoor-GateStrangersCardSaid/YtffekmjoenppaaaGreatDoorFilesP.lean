/- files.FS.file, size. Conditions: the contracts' own premises. -/
import Derived.Test.YtffekmjoenppaaaGreatDoorFilesK
import Derived.Laws.IdiomStrings
import Derived.Lib.BufferWrite
namespace Go.Proofs.YtffekmjoenppaaaGreatDoor
open Go.RowKit

def fileE (σ : FSt) (i : Int) : Int := match σ.ndI i with | none => 9 | some n => if n.d then 21 else 0
def resize (l : List UInt8) (k : Nat) : List UInt8 := if k ≤ l.length then l.take k else l ++ List.replicate (k - l.length) 0
def sizeS (σ : FSt) (i : Nat) (n : Nd) (k : Nat) : FSt := σ.put i (some { n with data := resize n.data k })
end Go.Proofs.YtffekmjoenppaaaGreatDoor

/- files.FS.Read, Bytes. Conditions: the contracts' own premises. -/
namespace Go.Proofs.YtffekmjoenppaaaGreatDoor
open Go.RowKit

def readE (σ : FSt) (i at' n : Int) : Int := if fileE σ i ≠ 0 then fileE σ i else if at' < 0 ∨ n < 0 then 22 else 0
def dataI (σ : FSt) (i : Int) : List UInt8 := match σ.ndI i with | none => [] | some n => n.data
def readB (σ : FSt) (i at' n : Int) : List UInt8 := if readE σ i at' n ≠ 0 then [] else ((dataI σ i).drop at'.toNat).take n.toNat
end Go.Proofs.YtffekmjoenppaaaGreatDoor

/- files.FS.Truncate, Write, Bytes. Conditions: the contracts' own premises. -/
namespace Go.Proofs.YtffekmjoenppaaaGreatDoor
open Go.RowKit

/-- So it answers, and so it leaves. -/
def MutPost (f : Nat) (σ' : FSt) (S : Nat → Prop) (p : Nat → Nat) (v : Value) (w : World) (e : Ending) (w' : World) : Prop := e = .returned v ∧ FilesAt w' f σ' S p ∧ Fr S w w'
theorem MutPost.still {f : Nat} {σ : FSt} {S : Nat → Prop} {p : Nat → Nat} {v : Value} {w w' : World} (h : FilesAt w f σ S p) (hf : Fr (fun _ => False) w w') : MutPost f σ S p v w (.returned v) w' := ⟨rfl, h.frame hf (fun _ _ _ e => e), hf.mono (fun _ _ e => e.elim)⟩
theorem ndI_nat {σ : FSt} {k : Nat} {n : Nd} (h : σ.nd k = some n) : σ.ndI (k : Int) = some n := by
  unfold FSt.ndI
  obtain ⟨h0, _⟩ := FSt.nd_lt (show (σ.nd k).isSome = true by rw [h]; rfl)
  rw [if_pos (by omega)]
  simpa using h
def fits (σ : FSt) (n : Nd) (m : Nat) : Prop := σ.byts + m ≤ 65536 + n.data.length
instance (σ : FSt) (n : Nd) (m : Nat) : Decidable (fits σ n m) := by unfold fits; infer_instance
def overwrite (l : List UInt8) (a : Nat) (s : List UInt8) : List UInt8 := l.take a ++ s ++ l.drop (a + s.length)
theorem overwrite_length {l : List UInt8} {a : Nat} {s : List UInt8} (h : a + s.length ≤ l.length) : (overwrite l a s).length = l.length := by
  unfold overwrite
  simp
  omega
/-- Written over. -/
def overS' (σ : FSt) (i : Nat) (n : Nd) (a : Nat) (s : List UInt8) : FSt := σ.put i (some { n with data := overwrite n.data a s })
theorem DataV.over {w : World} {g cap : Nat} {l s : List UInt8} {a : Nat} (h : DataV w (.slice (some ⟨g, 0, none⟩) l.length cap) l) (hl : a + s.length ≤ l.length) :
    ∃ cur, w.heap[g]? = some (.cells cur 5 (0, 0)) ∧ l.length ≤ cap ∧ cap ≤ cur.size ∧ DataV (w.setRow g (cur.toList.take a ++ byteV s ++ cur.toList.drop (a + s.length)).toArray) (.slice (some ⟨g, 0, none⟩) l.length cap) (overwrite l a s) := by
  rcases h with ⟨e, _⟩ | ⟨g', cap', cur, e, hg, hc1, hc2, hcur⟩
  · cases e
  · cases e
    refine ⟨cur, hg, hc1, hc2, .inr ⟨g, cap, _, by rw [overwrite_length hl], setRow_heap w g cur _ _ _ hg, by rw [overwrite_length hl]; exact hc1, ?_, ?_⟩⟩
    · simp [byteV]; omega
    · rw [overwrite_length hl]
      have e0 : cur.toList = cur.toList.take l.length ++ cur.toList.drop l.length := (List.take_append_drop _ _).symm
      have e1 : cur.toList.take a = (l.take a).map fun c => Value.int .u8 c.toNat := by
        rw [List.map_take, ← hcur, List.take_take, Nat.min_eq_left (by omega)]
      have e2 : (cur.toList.drop (a + s.length)).take (l.length - (a + s.length)) = (l.drop (a + s.length)).map fun c => Value.int .u8 c.toNat := by
        rw [List.map_drop, ← hcur, List.drop_take]
      unfold overwrite
      rw [List.map_append, List.map_append, ← e1, ← e2]
      have h3 : (cur.toList.take a).length = a := by simp; omega
      rw [List.take_append, List.take_of_length_le (by simp [byteV, h3]; omega)]
      congr 1
      simp [byteV, h3]
def writeR (σ : FSt) (i a : Int) (s : List UInt8) : Int × Int × FSt :=
  match σ.ndI i with
  | none => (0, 9, σ)
  | some nd =>
    if nd.d then (0, 21, σ) else if a < 0 then (0, 22, σ) else if 65536 < a ∨ 65536 < s.length then (0, 28, σ) else if s = [] then (0, 0, σ)
    else if fits σ nd (max nd.data.length (a.toNat + s.length)) then (((s.length : Nat) : Int), 0, overS' (sizeS σ i.toNat nd (max nd.data.length (a.toNat + s.length))) i.toNat { nd with data := resize nd.data (max nd.data.length (a.toNat + s.length)) } a.toNat s)
    else (0, 28, σ)
end Go.Proofs.YtffekmjoenppaaaGreatDoor

/- The tree of files as plain data: an entry more, an inode more. No program in sight; no condition. -/
namespace Go.Proofs.YtffekmjoenppaaaGreatDoor
open Go.RowKit

def openS (σ : FSt) (a : Nat) (nm : List UInt8) : Int := match σ.nd a with | none => 2 | some n => openE n nm
/-- The entry of that name in an inode. -/
def lookS (σ : FSt) (a : Nat) (nm : List UInt8) : Option Nat := match σ.nd a with | none => none | some n => kget nm n.ents
def entS (σ : FSt) (a : Nat) (f : KA Nat → KA Nat) : FSt := match σ.nd a with | none => σ | some n => σ.put a (some { n with ents := f n.ents })
def linkS (σ : FSt) (a : Nat) (nm : List UInt8) (k : Nat) : FSt := entS σ a (kput nm k)
def cutS (σ : FSt) (a : Nat) (nm : List UInt8) : FSt := entS σ a (kdel nm)
def newNd (d : Bool) (m : Int) (a : Nat) : Nd := ⟨d, modeN m, 1, 0, [], [], a⟩
def addE (σ : FSt) (dir : Int) (s : List UInt8) (d : Bool) : Int :=
  if (aheadE σ dir s).1 ≠ 0 then (aheadE σ dir s).1
  else if slashS s = true ∧ d = false then 21
  else if openS σ (aheadE σ dir s).2.1 (aheadE σ dir s).2.2 ≠ 0 then openS σ (aheadE σ dir s).2.1 (aheadE σ dir s).2.2
  else if 100 ≤ σ.cnt then 23 else 0
def addS (σ : FSt) (dir : Int) (s : List UInt8) (d : Bool) (m : Int) : FSt := linkS (σ.add (newNd d m (aheadE σ dir s).2.1)) (aheadE σ dir s).2.1 (aheadE σ dir s).2.2 σ.free
def makeR (σ : FSt) (dir : Int) (s : List UInt8) (d : Bool) (m : Int) : Int × FSt := if addE σ dir s d ≠ 0 then (addE σ dir s d, σ) else (0, addS σ dir s d m)
/-- No count is great. -/
def Caps (σ : FSt) (k : Nat) : Prop := ∀ i n, σ.nd i = some n → n.links ≤ k ∧ n.holds ≤ k ∧ n.ents.length ≤ k
def CapB (σ : FSt) : Prop := Caps σ 1000000000000
theorem FSt.add_same (σ : FSt) (n : Nd) : (σ.add n).nd σ.free = some n := by rw [FSt.nd_add, if_pos rfl]
theorem FSt.add_other {σ : FSt} {i : Nat} (h : (σ.nd i).isSome = true) (n : Nd) : (σ.add n).nd i = σ.nd i := by
  rw [FSt.nd_add, if_neg]
  rintro rfl
  rw [FSt.nd_free] at h
  cases h
theorem entS_some {σ : FSt} {a : Nat} {n : Nd} (h : σ.nd a = some n) (f : KA Nat → KA Nat) : entS σ a f = σ.put a (some { n with ents := f n.ents }) := by unfold entS; rw [h]
theorem Live.ent {σ : FSt} (h : Live σ) {a : Nat} {n : Nd} (hn : σ.nd a = some n) (f : KA Nat → KA Nat) (he : ∀ q ∈ f n.ents, (σ.nd q.2).isSome = true ∧ q.1.length ≤ 32) : Live (entS σ a f) := by
  rw [entS_some hn]
  refine h.put hn rfl (fun e => ?_) (fun q hq => (he q hq).1) (h.par a n hn) ?_ (fun q hq => (he q hq).2)
  · obtain ⟨r, h1, _, h2⟩ := h.root
    subst e
    rw [hn] at h1
    cases h1
    exact h2
  · have h1 := FSt.byts_put hn (some { n with ents := f n.ents })
    have h2 := h.byts
    simp only [ndLen] at h1
    omega
theorem Live.link {σ : FSt} (h : Live σ) {a k : Nat} {n : Nd} (hn : σ.nd a = some n) {nm : List UInt8} (hnm : nm.length ≤ 32) (hk : (σ.nd k).isSome = true) : Live (linkS σ a nm k) :=
  h.ent hn _ fun q hq => by
    rcases kput_mem hq with rfl | hq
    · exact ⟨hk, hnm⟩
    · exact ⟨h.ents a n hn q hq, h.names a n hn q hq⟩
theorem Live.cut {σ : FSt} (h : Live σ) {a : Nat} {n : Nd} (hn : σ.nd a = some n) (nm : List UInt8) : Live (cutS σ a nm) :=
  h.ent hn _ fun q hq => ⟨h.ents a n hn q (List.mem_filter.1 hq).1, h.names a n hn q (List.mem_filter.1 hq).1⟩
end Go.Proofs.YtffekmjoenppaaaGreatDoor
