/- The tree of files as plain data, keyed by inode numbers: what each call answers and leaves. No program in sight; no condition. -/
import Derived.Test.YthikjdpnlahkfaaDoorSMap
namespace Go.Proofs.YthikjdpnlahkfaaDoor
open Go.RowKit

/-- An inode. -/
structure Nd where
  d : Bool
  mode : Nat
  links : Nat
  holds : Nat
  data : List UInt8
  ents : KA Nat
  par : Nat
/-- Slots: number i + 1 stands at place i. -/
abbrev FSt := List (Option Nd)
def FSt.nd (σ : FSt) (i : Nat) : Option Nd := if i = 0 then none else (σ[i - 1]?).join
def FSt.ndI (σ : FSt) (i : Int) : Option Nd := if 1 ≤ i then σ.nd i.toNat else none
def FSt.put (σ : FSt) (i : Nat) (n : Option Nd) : FSt := σ.set (i - 1) n
def FSt.cnt (σ : FSt) : Nat := (σ.filter (·.isSome)).length
def ndLen : Option Nd → Nat | none => 0 | some n => n.data.length
def FSt.byts (σ : FSt) : Nat := (σ.map ndLen).sum
/-- The least free number. -/
def FSt.free (σ : FSt) : Nat := σ.findIdx (·.isNone) + 1
def FSt.add (σ : FSt) (n : Nd) : FSt := if σ.findIdx (·.isNone) < σ.length then σ.set (σ.findIdx (·.isNone)) (some n) else σ ++ [some n]

def mayN (m : Nat) (want : Nat) : Bool := Nat.land (m / 64) want == want
def hereE (n : Nd) : Int := if n.d = false then 20 else if mayN n.mode 1 = false then 13 else 0
def dot : List UInt8 := [46]
def dots : List UInt8 := [46, 46]
def slashB : UInt8 := 47
def leadE (a : Nat) (o : Option Nat) : Int × Nat := match o with | none => (2, a) | some k => (0, k)
/-- One piece: an error, or where it leads. -/
def stepE (n : Nd) (at' : Nat) (p : List UInt8) : Int × Nat :=
  if hereE n ≠ 0 then (hereE n, at')
  else if p = dot then (0, at')
  else if p = dots then (if n.links = 0 then (2, at') else (0, n.par))
  else if 32 < p.length then (36, at')
  else leadE at' (kget p n.ents)
def stepS (σ : FSt) (at' : Nat) (p : List UInt8) : Int × Nat := match σ.nd at' with | none => (20, at') | some n => stepE n at' p
def overS (σ : FSt) : List (List UInt8) → Nat → Int × Nat
  | [], a => (0, a)
  | p :: r, a => if (stepS σ a p).1 ≠ 0 then stepS σ a p else overS σ r (stepS σ a p).2
/-- The pieces between the slashes, empty ones left out. -/
def splitS : List UInt8 → List (List UInt8)
  | [] => [[]]
  | c :: r => if c = slashB then [] :: splitS r else match splitS r with | [] => [[c]] | p :: q => (c :: p) :: q
def piecesS (s : List UInt8) : List (List UInt8) := (splitS s).filter fun p => !p.isEmpty
def slashS (s : List UInt8) : Bool := s.getLast? == some slashB
/-- Where a path begins. -/
def startE (σ : FSt) (dir : Int) (s : List UInt8) : Int × Nat :=
  match σ.ndI dir with
  | none => (9, 0)
  | some n => if n.d = false then (9, 0) else if s = [] then (2, 0) else if 256 < s.length then (36, 0) else (0, if s.head? = some slashB then 1 else dir.toNat)
def walkE (σ : FSt) (dir : Int) (s : List UInt8) : Int × Nat :=
  if (startE σ dir s).1 ≠ 0 then startE σ dir s
  else if (overS σ (piecesS s) (startE σ dir s).2).1 ≠ 0 then overS σ (piecesS s) (startE σ dir s).2
  else if slashS s = true ∧ ((σ.nd (overS σ (piecesS s) (startE σ dir s).2).2).elim false (·.d)) = false then (20, 0)
  else overS σ (piecesS s) (startE σ dir s).2
def hereS (σ : FSt) (a : Nat) : Int := match σ.nd a with | none => 20 | some n => hereE n
/-- Up to the last piece. -/
def aheadE (σ : FSt) (dir : Int) (s : List UInt8) : Int × Nat × List UInt8 :=
  let l := piecesS s
  if (startE σ dir s).1 ≠ 0 then ((startE σ dir s).1, 0, [])
  else if (overS σ l.dropLast (startE σ dir s).2).1 ≠ 0 then ((overS σ l.dropLast (startE σ dir s).2).1, 0, [])
  else if hereS σ (overS σ l.dropLast (startE σ dir s).2).2 ≠ 0 then (hereS σ (overS σ l.dropLast (startE σ dir s).2).2, 0, [])
  else match l.getLast? with
    | none => (22, 0, [])
    | some p => if p = dot ∨ p = dots then (22, 0, []) else if 32 < p.length then (36, 0, []) else (0, (overS σ l.dropLast (startE σ dir s).2).2, p)
end Go.Proofs.YthikjdpnlahkfaaDoor
