/- A map with string keys, by a sorted list of what it holds: look-up, store, delete, length, sorted keys. Conditions: keys no longer than what a string can be. -/
import Derived.Test.YtdnbfhcbcdodmaaGreatDoorStrs
import Derived.Maps.Own
import Derived.Maps.OwnOps
import Derived.Maps.OwnSet
import Derived.Maps.Views
import Derived.Sort.KeysCollected
import Derived.Deep.CutBlock
import Derived.Deep.DeepCutAuto
import Derived.Test.YtdnbfhcbcdodmaaGreatDoorShelf
import Derived.Test.YtdnbfhcbcdodmaaGreatDoorProg
import Derived.Test.YtdnbfhcbcdodmaaGreatDoorRows
import Derived.ProofKit
import Derived.OpenShut
import Derived.ShutString
import Derived.ChangeOld
import Derived.Deep.Slices
import Derived.Deep.Fields
import Derived.ChangeSame
import Derived.SizedLaws
import Derived.SliceStrings
import Derived.HandedShaped
import Derived.LaidMore
import Derived.Lay
import Derived.Stop.Joined
import Derived.Shelf.Vars
import Derived.JoinedCond
import Derived.Lib.AppendZerosOnto
import Derived.Laws.CopyRow
namespace Go.Proofs.YtdnbfhcbcdodmaaGreatDoor
open Go.RowKit Go.Maps

abbrev KA (α : Type) := List (List UInt8 × α)
abbrev KL := KA Value
section
variable {α : Type}
def rV (v : Value) : Option (DataW Value × List MemPlace) := some (.held v, [])
def dOf (L : KL) : DataW Value := .map (L.map fun p => (.string p.1, .held p.2))
def kins (x : List UInt8 × α) : KA α → KA α
  | [] => [x]
  | y :: r => if bytesBefore x.1 y.1 then x :: y :: r else y :: kins x r
def kdel (s : List UInt8) (L : KA α) : KA α := L.filter fun p => !(p.1 == s)
def kput (s : List UInt8) (v : α) (L : KA α) : KA α := kins (s, v) (kdel s L)
def kget (s : List UInt8) (L : KA α) : Option α := (L.find? fun p => p.1 == s).map (·.2)

theorem dinsert_cons (x y : Lit × DataW Value) (r : List (Lit × DataW Value)) : DataW.insert x (y :: r) = if x.1.before y.1 = true then x :: y :: r else y :: DataW.insert x r := rfl
theorem kins_cons (x y : List UInt8 × α) (r : KA α) : kins x (y :: r) = if bytesBefore x.1 y.1 = true then x :: y :: r else y :: kins x r := rfl
end
theorem dOf_insert (x : List UInt8 × Value) : ∀ L : KL, DataW.insert (.string x.1, .held x.2) (L.map fun p => (Lit.string p.1, DataW.held p.2)) = (kins x L).map fun p => (Lit.string p.1, DataW.held p.2)
  | [] => rfl
  | y :: r => by
    rw [List.map_cons, dinsert_cons, kins_cons]
    by_cases h : bytesBefore x.1 y.1 = true
    · rw [if_pos h, if_pos (show (Lit.string x.1).before (Lit.string y.1) = true from h)]; rfl
    · rw [if_neg h, if_neg (show ¬ (Lit.string x.1).before (Lit.string y.1) = true from h), dOf_insert x r]; rfl
theorem dOf_filter (s : List UInt8) : ∀ L : KL, ((L.map fun p => (Lit.string p.1, (DataW.held p.2 : DataW Value))).filter fun p => !p.1.sameKey (.string s)) = (kdel s L).map fun p => (Lit.string p.1, DataW.held p.2)
  | [] => rfl
  | y :: r => by
    simp only [kdel, List.map_cons, List.filter_cons, Lit.sameKey]
    have ih := dOf_filter s r
    simp only [kdel, Lit.sameKey] at ih
    by_cases h : (!(y.1 == s)) = true
    · rw [if_pos h, if_pos h, ih]; rfl
    · rw [if_neg h, if_neg h, ih]
theorem dOf_put (s : List UInt8) (v : Value) (L : KL) : (dOf L).put (.string s) (.held v) = dOf (kput s v L) := by
  show DataW.map (DataW.insert _ _) = _
  rw [dOf_filter, dOf_insert (s, v)]; rfl
theorem dOf_del (s : List UInt8) (L : KL) : (dOf L).del (.string s) = dOf (kdel s L) := by
  show DataW.map _ = _
  rw [dOf_filter]; rfl
theorem dOf_find (s : List UInt8) : ∀ L : KL, (L.map fun p => (Lit.string p.1, (DataW.held p.2 : DataW Value))).find? (fun p => p.1.sameKey (.string s)) = (L.find? fun p => p.1 == s).map fun p => (Lit.string p.1, DataW.held p.2)
  | [] => rfl
  | y :: r => by
    have ih := dOf_find s r
    rw [List.map_cons, List.find?_cons, List.find?_cons]
    show (match (y.1 == s) with | true => some (Lit.string y.1, (DataW.held y.2 : DataW Value)) | false => _) = _
    cases h : y.1 == s
    · exact ih
    · rfl
theorem dOf_at (s : List UInt8) (L : KL) (z : DataW Value) : (dOf L).atKey (.string s) z = match kget s L with | some v => .held v | none => z := by
  unfold dOf DataW.atKey
  simp only [dOf_find]
  unfold kget
  cases L.find? (fun p => p.1 == s) <;> rfl
theorem dOf_size (L : KL) : Maps.size (dOf L) = L.length := by simp [dOf, Maps.size]
theorem dOf_keys (L : KL) : Go.strKeys (dOf L) = L.map (·.1) := by
  simp [dOf, Go.strKeys, Go.strOf, Function.comp_def]

/-- The keys stand in order, each once. -/
def KSorted {α : Type} (L : KA α) : Prop := L.Pairwise fun a b => bytesBefore a.1 b.1 = true
/-- Block b is a map that holds just what L says. -/
structure SMapAt (P : Program) (k : TypeId) (w : World) (b : Nat) (L : KL) : Prop where
  own : w.ownsMap P k rV b L.length (dOf L)
  sorted : KSorted L
theorem ownsMap_tight {P : Program} {k : TypeId} {w : World} {b n : Nat} {L : KL} (h : w.ownsMap P k rV b n (dOf L)) : w.ownsMap P k rV b L.length (dOf L) := by
  obtain ⟨es, clock, hb, F, hs, hD⟩ := h
  refine ⟨es, clock, hb, F, ?_, hD⟩
  have e1 : Maps.size (dOf L) = es.size := by rw [hD]; simp [Maps.size, length_sorted]
  rw [dOf_size] at e1
  omega
theorem SMapAt.frame {P : Program} {k : TypeId} {w w' : World} {b : Nat} {L : KL} {S : Nat → Prop} (h : SMapAt P k w b L) (hf : Fr S w w') (hn : ¬ S b) : SMapAt P k w' b L := by
  obtain ⟨⟨es, clock, hb, F, hs, hD⟩, h2⟩ := h
  exact ⟨⟨es, clock, hf.get hb hn, F, hs, hD⟩, h2⟩
theorem SMapAt.lt {P : Program} {k : TypeId} {w : World} {b : Nat} {L : KL} (h : SMapAt P k w b L) : b < w.heap.size := h.own.lt
theorem SMapAt.made {P : Program} {k : TypeId} (w : World) : SMapAt P k (w.alloc (.map #[] 0)) w.heap.size [] := ⟨World.ownsMap_made w P k rV, List.Pairwise.nil⟩

section
variable {α β : Type}
theorem kget_cons (s : List UInt8) (y : List UInt8 × α) (r : KA α) : kget s (y :: r) = if (y.1 == s) = true then some y.2 else kget s r := by
  unfold kget
  rw [List.find?_cons]
  cases h : y.1 == s
  · rw [if_neg (by simp)]
  · rw [if_pos rfl]; rfl
theorem kget_mem {s : List UInt8} {v : α} : ∀ {L : KA α}, kget s L = some v → (s, v) ∈ L
  | y :: r, h => by
    rw [kget_cons] at h
    by_cases e : (y.1 == s) = true
    · rw [if_pos e] at h
      have e1 := beq_iff_eq.1 e
      cases h
      rw [← e1]; exact List.mem_cons_self
    · rw [if_neg e] at h
      exact List.mem_cons_of_mem _ (kget_mem h)
theorem kget_none {s : List UInt8} : ∀ {L : KA α}, kget s L = none → ∀ p ∈ L, p.1 ≠ s
  | y :: r, h, p, hp => by
    rw [kget_cons] at h
    by_cases e : (y.1 == s) = true
    · rw [if_pos e] at h; cases h
    · rw [if_neg e] at h
      rcases List.mem_cons.1 hp with rfl | hp
      · intro e1; exact e (beq_iff_eq.2 e1)
      · exact kget_none h p hp
theorem kget_kdel_other {s t : List UInt8} (hne : t ≠ s) : ∀ L : KA α, kget t (kdel s L) = kget t L
  | [] => rfl
  | y :: r => by
    have ih := kget_kdel_other hne r
    unfold kdel at ih ⊢
    rw [List.filter_cons]
    by_cases e : (!(y.1 == s)) = true
    · rw [if_pos e, kget_cons, kget_cons, ih]
    · rw [if_neg e, ih, kget_cons, if_neg]
      intro e2
      have e1 : y.1 = s := by simpa using e
      exact hne ((beq_iff_eq.1 e2).symm.trans e1)
theorem kget_kins_same (s : List UInt8) (v : α) : ∀ {L : KA α}, (∀ p ∈ L, p.1 ≠ s) → kget s (kins (s, v) L) = some v
  | [], _ => by rw [kins, kget_cons, if_pos (by simp)]
  | y :: r, h => by
    rw [kins_cons]
    by_cases e : bytesBefore s y.1 = true
    · rw [if_pos e, kget_cons, if_pos (by simp)]
    · rw [if_neg e, kget_cons, if_neg (by simpa using h y List.mem_cons_self), kget_kins_same s v (fun p hp => h p (List.mem_cons_of_mem _ hp))]
theorem kget_kins_other {s t : List UInt8} (hne : t ≠ s) (v : α) : ∀ L : KA α, kget t (kins (s, v) L) = kget t L
  | [] => by rw [kins, kget_cons, if_neg (by simpa using hne.symm)]
  | y :: r => by
    rw [kins_cons]
    by_cases e : bytesBefore s y.1 = true
    · rw [if_pos e, kget_cons, if_neg (by simpa using hne.symm)]
    · rw [if_neg e, kget_cons, kget_cons, kget_kins_other hne v r]
theorem kget_kput_same (s : List UInt8) (v : α) (L : KA α) : kget s (kput s v L) = some v :=
  kget_kins_same s v fun p hp => by have := (List.mem_filter.1 hp).2; simpa using this
theorem kget_kput_other {s t : List UInt8} (hne : t ≠ s) (v : α) (L : KA α) : kget t (kput s v L) = kget t L := by
  unfold kput
  rw [kget_kins_other hne, kget_kdel_other hne]
theorem kins_mem {x p : List UInt8 × α} : ∀ {L : KA α}, p ∈ kins x L ↔ p = x ∨ p ∈ L
  | [] => by simp [kins]
  | y :: r => by
    rw [kins_cons]
    by_cases e : bytesBefore x.1 y.1 = true
    · rw [if_pos e]; simp
    · rw [if_neg e]
      simp only [List.mem_cons, kins_mem (L := r)]
      constructor <;> rintro (h | h | h) <;> simp [h]
theorem KSorted.kdel {L : KA α} (h : KSorted L) (s : List UInt8) : KSorted (kdel s L) := List.Pairwise.filter _ h
theorem KSorted.kins {x : List UInt8 × α} : ∀ {L : KA α}, KSorted L → (∀ p ∈ L, p.1 ≠ x.1) → KSorted (kins x L)
  | [], _, _ => List.pairwise_singleton _ _
  | y :: r, h, hn => by
    obtain ⟨h1, h2⟩ := List.pairwise_cons.1 h
    rw [kins_cons]
    by_cases e : bytesBefore x.1 y.1 = true
    · rw [if_pos e]
      refine List.pairwise_cons.2 ⟨fun p hp => ?_, h⟩
      rcases List.mem_cons.1 hp with rfl | hp
      · exact e
      · exact WideShapes.bytes_trans _ _ _ e (h1 p hp)
    · rw [if_neg e]
      refine List.pairwise_cons.2 ⟨fun p hp => ?_, KSorted.kins h2 (fun p hp => hn p (List.mem_cons_of_mem _ hp))⟩
      rcases kins_mem.1 hp with rfl | hp
      · rcases WideAt.bytes_total _ _ (hn y List.mem_cons_self) with h3 | h3
        · exact h3
        · exact absurd h3 e
      · exact h1 p hp
theorem kput_mem {s : List UInt8} {v : α} {p : List UInt8 × α} {L : KA α} (h : p ∈ kput s v L) : p = (s, v) ∨ p ∈ L := (kins_mem.1 h).imp id fun h => (List.mem_filter.1 h).1
theorem KSorted.kput {L : KA α} (h : KSorted L) (s : List UInt8) (v : α) : KSorted (kput s v L) :=
  (h.kdel s).kins fun p hp => by have := (List.mem_filter.1 hp).2; simpa using this
theorem kdel_same {s : List UInt8} {L : KA α} (h : kget s L = none) : kdel s L = L := by
  unfold kdel
  rw [List.filter_eq_self]
  intro p hp
  have := kget_none h p hp
  simpa using this
/-- Another kind of thing behind each key. -/
def kmap (f : List UInt8 → α → β) (L : KA α) : KA β := L.map fun p => (p.1, f p.1 p.2)
theorem kget_kmap (f : List UInt8 → α → β) (s : List UInt8) : ∀ L : KA α, kget s (kmap f L) = (kget s L).map (f s)
  | [] => rfl
  | y :: r => by
    have ih := kget_kmap f s r
    show kget s ((y.1, f y.1 y.2) :: kmap f r) = _
    rw [kget_cons, kget_cons, ih]
    by_cases e : (y.1 == s) = true
    · rw [if_pos e, if_pos e, ← beq_iff_eq.1 e]; rfl
    · rw [if_neg e, if_neg e]
theorem kmap_length (f : List UInt8 → α → β) (L : KA α) : (kmap f L).length = L.length := by simp [kmap]
theorem kmap_keys (f : List UInt8 → α → β) (L : KA α) : (kmap f L).map (·.1) = L.map (·.1) := by simp [kmap]
end

theorem before_lt : ∀ {a b : List UInt8}, bytesBefore a b = true → a < b
  | [], [], h => by simp [bytesBefore] at h
  | [], _ :: _, _ => List.nil_lt_cons _ _
  | _ :: _, [], h => by simp [bytesBefore] at h
  | x :: r, y :: s, h => by
    rw [List.cons_lt_cons_iff]
    simp only [bytesBefore, Bool.or_eq_true, Bool.and_eq_true, decide_eq_true_eq, beq_iff_eq] at h
    exact h.imp id fun h => ⟨h.1, before_lt h.2⟩
theorem sorted_keys {α : Type} {L : KA α} (h : KSorted L) {ss : List (List UInt8)} (hp : ss.Perm (L.map (·.1))) : ss.mergeSort (fun x y => decide (x ≤ y)) = L.map (·.1) := by
  have e1 : ss.mergeSort leB = (L.map (·.1)).mergeSort leB := mergeSort_of_perm hp
  refine e1.trans (List.mergeSort_of_pairwise ?_)
  rw [List.pairwise_map]
  exact h.imp fun h1 => by simp only [leB, decide_eq_true_eq]; exact List.le_of_lt (before_lt h1)
section
variable {P : Program} {k t e : TypeId} {w : World} {b : Nat} {L : KL}
theorem SMapAt.look (h : SMapAt P k w b L) (c : Bool) (hk : P.underlying k = some .string) (ht : P.underlying t = some (.map k e)) {z : Value} (hz : (zeroValue e).run P w = .ok z w) (s : ByteArray) (hs : s.size ≤ maxLen) :
    (Instr.lookup t (.map (some b)) (.string s) c).run P w = .ok (if c then .tuple #[(kget s.data.toList L).getD z, .bool (kget s.data.toList L).isSome] else (kget s.data.toList L).getD z) w := by
  obtain ⟨es, clock, hb, F, _, hD⟩ := h.own
  rcases Maps.fit_look c (string_keyed hk) ht hz hb F (WideMaps.keyOf_string_mk hk hs) with ⟨hrun, _, hat⟩ | ⟨e0, y, _, _, hrun, hR, hat, _⟩
  · rw [← hD] at hat
    have hn : kget s.data.toList L = none := by
      cases hg : kget s.data.toList L with
      | none => rfl
      | some v => have := hat .nil; rw [dOf_at, hg] at this; cases this
    rw [hrun, hn]; rfl
  · rw [← hD] at hat
    cases hR
    have hn : kget s.data.toList L = some e0.val := by
      have := hat .nil
      rw [dOf_at] at this
      cases hg : kget s.data.toList L with
      | none => rw [hg] at this; cases this
      | some v => rw [hg] at this; cases this; rfl
    rw [hrun, hn]; rfl
theorem SMapAt.len (h : SMapAt P k w b L) (ht : P.underlying t = some (.map k e)) (ty : TypeId) : (Builtin.len_ #[t] ty #[.map (some b)]).run P w = .ok (.int .i64 L.length) w := by
  rw [h.own.len ht, dOf_size]
theorem SMapAt.update (h : SMapAt P k w b L) (hk : P.underlying k = some .string) (ht : P.underlying t = some (.map k e)) (hn : L.length < maxLen) (s : ByteArray) (hs : s.size ≤ maxLen) (v : Value) :
    ∃ w', (Instr.mapUpdate t (.map (some b)) (.string s) v).run P w = .ok () w' ∧ SMapAt P k w' b (kput s.data.toList v L) ∧ Fr (fun q => q = b) w w' := by
  obtain ⟨w', h1, h2, h3⟩ := h.own.update (string_keyed hk) ht hn (WideMaps.keyOf_string_mk hk hs) (show rV v = some (.held v, []) from rfl)
  rw [dOf_put] at h2
  exact ⟨w', h1, ⟨ownsMap_tight h2, h.sorted.kput _ _⟩, (Fr.of_grown h3).mono (fun _ _ e => by cases e; rfl)⟩
theorem SMapAt.delete (h : SMapAt P k w b L) (hk : P.underlying k = some .string) (ht : P.underlying t = some (.map k e)) (s : ByteArray) (hs : s.size ≤ maxLen) (ty : TypeId) :
    ∃ w', (Builtin.delete_ #[t, k] ty #[.map (some b), .string s]).run P w = .ok (.tuple #[]) w' ∧ SMapAt P k w' b (kdel s.data.toList L) ∧ Fr (fun q => q = b) w w' := by
  obtain ⟨w', h1, h2, h3⟩ := h.own.drop (string_keyed hk) ht (WideMaps.keyOf_string_mk hk hs) ty
  rw [dOf_del] at h2
  obtain ⟨es, clock, es', clock', hb, rfl⟩ := h3
  exact ⟨_, h1, ⟨ownsMap_tight h2, h.sorted.kdel _⟩, ⟨rfl, rfl, rfl, by simp [ChangeMaps.setBlock], fun i _ hi => ChangeMaps.heap_setBlock_other hb _ (fun e => hi e)⟩⟩
end
end Go.Proofs.YtdnbfhcbcdodmaaGreatDoor

/- The tree of files as plain data, keyed by inode numbers: what each call answers and leaves. No program in sight; no condition. -/
namespace Go.Proofs.YtdnbfhcbcdodmaaGreatDoor
open Go.RowKit

/-- An inode. -/
structure Nd where
  d : Bool
  mode : Nat
  links : Nat
  holds : Nat
  data : List UInt8
  ents : KA Nat
  par : Nat
/-- Slots: number i + 1 stands at place i. -/
abbrev FSt := List (Option Nd)
def FSt.nd (σ : FSt) (i : Nat) : Option Nd := if i = 0 then none else (σ[i - 1]?).join
def FSt.ndI (σ : FSt) (i : Int) : Option Nd := if 1 ≤ i then σ.nd i.toNat else none
def FSt.put (σ : FSt) (i : Nat) (n : Option Nd) : FSt := σ.set (i - 1) n
def FSt.cnt (σ : FSt) : Nat := (σ.filter (·.isSome)).length
def ndLen : Option Nd → Nat | none => 0 | some n => n.data.length
def FSt.byts (σ : FSt) : Nat := (σ.map ndLen).sum
/-- The least free number. -/
def FSt.free (σ : FSt) : Nat := σ.findIdx (·.isNone) + 1
def FSt.add (σ : FSt) (n : Nd) : FSt := if σ.findIdx (·.isNone) < σ.length then σ.set (σ.findIdx (·.isNone)) (some n) else σ ++ [some n]

def mayN (m : Nat) (want : Nat) : Bool := Nat.land (m / 64) want == want
def hereE (n : Nd) : Int := if n.d = false then 20 else if mayN n.mode 1 = false then 13 else 0
def dot : List UInt8 := [46]
def dots : List UInt8 := [46, 46]
def slashB : UInt8 := 47
def leadE (a : Nat) (o : Option Nat) : Int × Nat := match o with | none => (2, a) | some k => (0, k)
/-- One piece: an error, or where it leads. -/
def stepE (n : Nd) (at' : Nat) (p : List UInt8) : Int × Nat :=
  if hereE n ≠ 0 then (hereE n, at')
  else if p = dot then (0, at')
  else if p = dots then (if n.links = 0 then (2, at') else (0, n.par))
  else if 32 < p.length then (36, at')
  else leadE at' (kget p n.ents)
def stepS (σ : FSt) (at' : Nat) (p : List UInt8) : Int × Nat := match σ.nd at' with | none => (20, at') | some n => stepE n at' p
def overS (σ : FSt) : List (List UInt8) → Nat → Int × Nat
  | [], a => (0, a)
  | p :: r, a => if (stepS σ a p).1 ≠ 0 then stepS σ a p else overS σ r (stepS σ a p).2
/-- The pieces between the slashes, empty ones left out. -/
def splitS : List UInt8 → List (List UInt8)
  | [] => [[]]
  | c :: r => if c = slashB then [] :: splitS r else match splitS r with | [] => [[c]] | p :: q => (c :: p) :: q
def piecesS (s : List UInt8) : List (List UInt8) := (splitS s).filter fun p => !p.isEmpty
def slashS (s : List UInt8) : Bool := s.getLast? == some slashB
/-- Where a path begins. -/
def startE (σ : FSt) (dir : Int) (s : List UInt8) : Int × Nat :=
  match σ.ndI dir with
  | none => (9, 0)
  | some n => if n.d = false then (9, 0) else if s = [] then (2, 0) else if 256 < s.length then (36, 0) else (0, if s.head? = some slashB then 1 else dir.toNat)
def walkE (σ : FSt) (dir : Int) (s : List UInt8) : Int × Nat :=
  if (startE σ dir s).1 ≠ 0 then startE σ dir s
  else if (overS σ (piecesS s) (startE σ dir s).2).1 ≠ 0 then overS σ (piecesS s) (startE σ dir s).2
  else if slashS s = true ∧ ((σ.nd (overS σ (piecesS s) (startE σ dir s).2).2).elim false (·.d)) = false then (20, 0)
  else overS σ (piecesS s) (startE σ dir s).2
def hereS (σ : FSt) (a : Nat) : Int := match σ.nd a with | none => 20 | some n => hereE n
/-- Up to the last piece. -/
def aheadE (σ : FSt) (dir : Int) (s : List UInt8) : Int × Nat × List UInt8 :=
  let l := piecesS s
  if (startE σ dir s).1 ≠ 0 then ((startE σ dir s).1, 0, [])
  else if (overS σ l.dropLast (startE σ dir s).2).1 ≠ 0 then ((overS σ l.dropLast (startE σ dir s).2).1, 0, [])
  else if hereS σ (overS σ l.dropLast (startE σ dir s).2).2 ≠ 0 then (hereS σ (overS σ l.dropLast (startE σ dir s).2).2, 0, [])
  else match l.getLast? with
    | none => (22, 0, [])
    | some p => if p = dot ∨ p = dots then (22, 0, []) else if 32 < p.length then (36, 0, []) else (0, (overS σ l.dropLast (startE σ dir s).2).2, p)
end Go.Proofs.YtdnbfhcbcdodmaaGreatDoor

/- The tree of files in memory: what lies where; files.node.dir, may, slots.get, FS.get. Conditions: each contract's own premises. -/
namespace Go.Proofs.YtdnbfhcbcdodmaaGreatDoor
open Go.RowKit

/-- A file's bytes: a slice at the head of a row of bytes; its capacity may be less than the row's. -/
def DataV (w : World) (v : Value) (l : List UInt8) : Prop :=
  (v = .slice none 0 0 ∧ l = []) ∨ ∃ g cap cur, v = .slice (some ⟨g, 0, none⟩) l.length cap ∧ w.heap[g]? = some (.cells cur 5 (0, 0)) ∧ l.length ≤ cap ∧ cap ≤ cur.size ∧ cur.toList.take l.length = l.map fun c => .int .u8 c.toNat
structure NodeF (w : World) (p : Nat → Nat) (b i : Nat) (n : Nd) (dv ev pv : Value) : Prop where
  hb : w.heap[b]? = some (.cells #[.int .i64 i, .int .i64 (if n.d then 2 else 1), .int .i64 n.mode, .int .i64 n.links, .int .i64 n.holds, dv, ev, pv] 120 (0, 0))
  data : DataV w dv n.data
  dir : n.d = true → n.data = [] ∧ ∃ m, ev = .map (some m) ∧ SMapAt Tryz.prog 9 w m (kmap (fun _ k => .pointer (some ⟨p k, 0, none⟩)) n.ents)
  file : n.d = false → ev = .map none ∧ n.ents = []
  par : n.d = true → 0 < n.links → pv = .pointer (some ⟨p n.par, 0, none⟩)
  ptr : ∃ a, pv = .pointer a
  md : n.mode < 512
def ptrOf (o : Option Nd) (b : Nat) : Value := match o with | none => .pointer none | some _ => .pointer (some ⟨b, 0, none⟩)
def slotV (p : Nat → Nat) (σ : FSt) : List Value := σ.mapIdx fun k o => ptrOf o (p (k + 1))
/-- Whatever is named is there. -/
structure Live (σ : FSt) : Prop where
  root : ∃ n, σ.nd 1 = some n ∧ n.d = true ∧ n.links = 1
  ents : ∀ i n, σ.nd i = some n → ∀ q ∈ n.ents, (σ.nd q.2).isSome = true
  par : ∀ i n, σ.nd i = some n → n.d = true → 0 < n.links → (σ.nd n.par).isSome = true
  cnt : σ.cnt ≤ 100
  len : σ.length ≤ 100
  byts : σ.byts ≤ 65536
  names : ∀ i n, σ.nd i = some n → ∀ q ∈ n.ents, q.1.length ≤ 32
structure FilesF (w : World) (f : Nat) (σ : FSt) (S : Nat → Prop) (p : Nat → Nat) (dv ev pv : Nat → Value) (lv : Value) : Prop where
  hb : w.heap[f]? = some (.cells #[lv, .int .i64 σ.cnt, .pointer (some ⟨p 1, 0, none⟩), .int .i64 σ.byts] 113 (0, 0))
  hl : w.ownsRow 0 111 1 lv σ.length (slotV p σ)
  nd : ∀ i n, σ.nd i = some n → NodeF w p (p i) i n (dv i) (ev i) (pv i)
  inj : ∀ i j, (σ.nd i).isSome = true → (σ.nd j).isSome = true → p i = p j → i = j
  injd : ∀ i j g, (σ.nd i).isSome = true → (σ.nd j).isSome = true → (dv i).ownBlock = some g → (dv j).ownBlock = some g → i = j
  inje : ∀ i j m, (σ.nd i).isSome = true → (σ.nd j).isSome = true → ev i = .map (some m) → ev j = .map (some m) → i = j
  own : S f
  ownl : ∀ g, lv.ownBlock = some g → S g
  ownn : ∀ i, (σ.nd i).isSome = true → S (p i)
  ownd : ∀ i g, (σ.nd i).isSome = true → (dv i).ownBlock = some g → S g
  owne : ∀ i m, (σ.nd i).isSome = true → ev i = .map (some m) → S m
  up : ∀ k, w.heap.size ≤ k → S k
  live : Live σ
def FilesAt (w : World) (f : Nat) (σ : FSt) (S : Nat → Prop) (p : Nat → Nat) : Prop := ∃ dv ev pv lv, FilesF w f σ S p dv ev pv lv

theorem DataV.frame {w w' : World} {T : Nat → Prop} {v : Value} {l : List UInt8} (h : DataV w v l) (hf : Fr T w w') (hd : ∀ g, v.ownBlock = some g → ¬ T g) : DataV w' v l := by
  rcases h with h | ⟨g, cap, cur, rfl, hg, rest⟩
  · exact .inl h
  · exact .inr ⟨g, cap, cur, rfl, hf.get hg (hd g rfl), rest⟩
theorem DataV.lt {w : World} {v : Value} {l : List UInt8} (h : DataV w v l) {g : Nat} (hg : v.ownBlock = some g) : g < w.heap.size := by
  rcases h with ⟨rfl, _⟩ | ⟨g', cap, cur, rfl, hb, _⟩
  · cases hg
  · have : g' = g := by simpa [Value.ownBlock] using hg
    exact this ▸ blk_lt hb
theorem NodeF.frame {w w' : World} {T : Nat → Prop} {p : Nat → Nat} {b i : Nat} {n : Nd} {dv ev pv : Value} (h : NodeF w p b i n dv ev pv) (hf : Fr T w w') (hb : ¬ T b) (hd : ∀ g, dv.ownBlock = some g → ¬ T g) (he : ∀ m, ev = .map (some m) → ¬ T m) : NodeF w' p b i n dv ev pv where
  hb := hf.get h.hb hb
  data := h.data.frame hf hd
  dir hn := by
    obtain ⟨h0, m, h1, h2⟩ := h.dir hn
    exact ⟨h0, m, h1, h2.frame hf (he m h1)⟩
  file := h.file
  par := h.par
  ptr := h.ptr
  md := h.md
theorem NodeF.map_lt {w : World} {p : Nat → Nat} {b i : Nat} {n : Nd} {dv ev pv : Value} (h : NodeF w p b i n dv ev pv) {m : Nat} (he : ev = .map (some m)) : m < w.heap.size := by
  cases hn : n.d with
  | true =>
    obtain ⟨_, m', h1, h2⟩ := h.dir hn
    rw [he] at h1
    cases h1
    exact h2.lt
  | false =>
    have := (h.file hn).1
    rw [he] at this
    cases this
theorem FilesF.frame {w w' : World} {T : Nat → Prop} {f : Nat} {σ : FSt} {S : Nat → Prop} {p : Nat → Nat} {dv ev pv : Nat → Value} {lv : Value} (h : FilesF w f σ S p dv ev pv lv) (hf : Fr T w w') (hd : ∀ k, k < w.heap.size → S k → ¬ T k) : FilesF w' f σ S p dv ev pv lv where
  hb := hf.get h.hb (hd _ (blk_lt h.hb) h.own)
  hl := own_frame h.hl hf (fun g e => hd _ (h.hl.lt g e).2 (h.ownl g e))
  nd i n hn := by
    have hs : (σ.nd i).isSome = true := by rw [hn]; rfl
    have h1 := h.nd i n hn
    exact h1.frame hf (hd _ (blk_lt h1.hb) (h.ownn i hs)) (fun g e => hd _ (h1.data.lt e) (h.ownd i g hs e)) (fun m e => hd _ (h1.map_lt e) (h.owne i m hs e))
  inj := h.inj
  injd := h.injd
  inje := h.inje
  own := h.own
  ownl := h.ownl
  ownn := h.ownn
  ownd := h.ownd
  owne := h.owne
  up k hk := h.up k (Nat.le_trans hf.size hk)
  live := h.live
theorem FilesAt.frame {w w' : World} {T : Nat → Prop} {f : Nat} {σ : FSt} {S : Nat → Prop} {p : Nat → Nat} (h : FilesAt w f σ S p) (hf : Fr T w w') (hd : ∀ k, k < w.heap.size → S k → ¬ T k) : FilesAt w' f σ S p := by
  obtain ⟨_, _, _, _, h⟩ := h
  exact ⟨_, _, _, _, h.frame hf hd⟩
theorem FilesAt.live {w : World} {f : Nat} {σ : FSt} {S : Nat → Prop} {p : Nat → Nat} (h : FilesAt w f σ S p) : Live σ := by
  obtain ⟨_, _, _, _, h⟩ := h
  exact FilesF.live h
/-- An inode's block as it stands. -/
theorem FilesAt.node {w : World} {f : Nat} {σ : FSt} {S : Nat → Prop} {p : Nat → Nat} (h : FilesAt w f σ S p) {i : Nat} {n : Nd} (hn : σ.nd i = some n) : ∃ dv ev pv, NodeF w p (p i) i n dv ev pv := by
  obtain ⟨dv, ev, pv, _, h⟩ := h
  exact ⟨_, _, _, h.nd i n hn⟩
theorem dir_any (w : World) (p : Nat → Nat) (b i : Nat) (n : Nd) (dv ev pv : Value) (h : NodeF w p b i n dv ev pv) : Calls Tryz.prog 99 #[.pointer (some ⟨b, 0, none⟩)] w fun e w' => e = .returned (.bool n.d) ∧ w = w' := by
  have c1 : w.cell? ⟨b, 1, none⟩ = some (.int .i64 (if n.d then 2 else 1)) := by rw [blk_cell h.hb]; rfl
  cases hd : n.d <;> rw [hd] at c1 <;> simp only [if_true, if_false, Bool.false_eq_true] at c1
  all_goals
    go_enter Tryz.func99, Tryz.ntmps99
    go_wp2
    go_ret
    exact ⟨rfl, rfl⟩
def ptrI (σ : FSt) (p : Nat → Nat) (i : Int) : Value := match σ.ndI i with | none => .pointer none | some _ => .pointer (some ⟨p i.toNat, 0, none⟩)
theorem slot_at {p : Nat → Nat} {σ : FSt} {k : Nat} (hk : k < σ.length) : (slotV p σ)[k]? = some (ptrI σ p ((k : Int) + 1)) := by
  unfold slotV ptrI FSt.ndI FSt.nd
  rw [List.getElem?_mapIdx, List.getElem?_eq_getElem hk]
  have h1 : ((k : Int) + 1).toNat = k + 1 := by omega
  rw [if_pos (by omega), h1, if_neg (by omega)]
  simp only [Nat.add_sub_cancel, List.getElem?_eq_getElem hk, Option.join_some, Option.map_some]
  cases σ[k] <;> rfl
set_option maxRecDepth 100000 in
theorem sget_any (w : World) (f : Nat) (σ : FSt) (S : Nat → Prop) (p : Nat → Nat) (h : FilesAt w f σ S p) (i : Int) (hi : -9223372036854775808 ≤ i ∧ i ≤ 9223372036854775807) :
    Calls Tryz.prog 72 #[.pointer (some ⟨f, 0, none⟩), .int .i64 i] w fun e w' => e = .returned (ptrI σ p i) ∧ w = w' := by
  obtain ⟨dv, ev, pv, lv, hf⟩ := h
  have hlen := hf.live.len
  by_cases h1 : i < 1
  · have e0 : ptrI σ p i = .pointer none := by unfold ptrI FSt.ndI; rw [if_neg (by omega)]
    rw [e0]
    go_enter Tryz.func72, Tryz.ntmps72
    go_wp2
    go_ret
    exact ⟨rfl, rfl⟩
  obtain ⟨la, lc, rfl⟩ := own_form hf.hl
  have c0 : w.cell? ⟨f, 0, none⟩ = some (.slice la σ.length lc) := by rw [blk_cell hf.hb]; rfl
  by_cases h2 : (σ.length : Int) < i
  · have e0 : ptrI σ p i = .pointer none := by
      unfold ptrI FSt.ndI FSt.nd
      rw [if_pos (by omega), if_neg (by omega), List.getElem?_eq_none (by omega)]
      rfl
    rw [e0]
    go_enter Tryz.func72, Tryz.ntmps72
    go_wp2
    go_ret
    exact ⟨rfl, rfl⟩
  obtain ⟨k, rfl⟩ : ∃ k : Nat, i = (k : Int) + 1 := ⟨(i - 1).toNat, by omega⟩
  obtain ⟨g, rfl, _, _, hc⟩ := own_cells hf.hl (by omega)
  have ck := hc k _ (slot_at (by omega))
  obtain ⟨a, ha⟩ : ∃ a, ptrI σ p ((k : Int) + 1) = .pointer a := by unfold ptrI; split <;> exact ⟨_, rfl⟩
  rw [ha] at ck ⊢
  have hk1 : (0 : Int) ≤ (k : Int) := by omega
  have hk2 : (k : Int) < (σ.length : Int) := by omega
  clear hc ha
  go_enter Tryz.func72, Tryz.ntmps72
  go_wp2
  go_ret
  exact ⟨rfl, rfl⟩
theorem fget_any (w : World) (f : Nat) (σ : FSt) (S : Nat → Prop) (p : Nat → Nat) (h : FilesAt w f σ S p) (i : Int) (hi : -9223372036854775808 ≤ i ∧ i ≤ 9223372036854775807) :
    Calls Tryz.prog 41 #[.pointer (some ⟨f, 0, none⟩), .int .i64 i] w fun e w' => e = .returned (ptrI σ p i) ∧ w = w' := by
  have hg := sget_any w f σ S p h i hi
  obtain ⟨a, ha⟩ : ∃ a, ptrI σ p i = .pointer a := by unfold ptrI; split <;> exact ⟨_, rfl⟩
  rw [ha] at hg ⊢
  clear ha
  go_enter Tryz.func41, Tryz.ntmps41
  go_wp2_with fail
  refine hg.mono ?_
  rintro e w' ⟨rfl, rfl⟩
  clear hg
  go_wp2_with fail
  go_ret
  exact ⟨rfl, rfl⟩
end Go.Proofs.YtdnbfhcbcdodmaaGreatDoor

/- files.way.over. Conditions: the contract's own premises. -/
namespace Go.Proofs.YtdnbfhcbcdodmaaGreatDoor
open Go.RowKit

/-- Where a step leads is there. -/
theorem Live.step {σ : FSt} (h : Live σ) {a : Nat} (ha : (σ.nd a).isSome = true) (q : List UInt8) : (σ.nd (stepS σ a q).2).isSome = true := by
  unfold stepS
  cases hn : σ.nd a with
  | none => rw [hn] at ha; cases ha
  | some n =>
    simp only
    unfold stepE
    split
    · simp only; rw [hn]; rfl
    · split
      · simp only; rw [hn]; rfl
      · split
        · split
          · simp only; rw [hn]; rfl
          · rename_i h1 _ _ h2
            refine h.par a n hn ?_ (by omega)
            unfold hereE at h1
            cases hd : n.d with
            | true => rfl
            | false => rw [hd] at h1; simp at h1
        · split
          · simp only; rw [hn]; rfl
          · cases hk : kget q n.ents with
            | none => simp only [leadE]; rw [hn]; rfl
            | some k => exact h.ents a n hn _ (kget_mem hk)
end Go.Proofs.YtdnbfhcbcdodmaaGreatDoor

/- files.FS.start: where a path begins, and its pieces. Conditions: the contract's own premises. -/
namespace Go.Proofs.YtdnbfhcbcdodmaaGreatDoor
open Go.RowKit

/-- The library's own variable holds some number. -/
def Ml (w : World) : Prop := ∃ m, w.cell? ⟨Tryz.laysSplit_ren.g 1, 0, none⟩ = some (.int .i64 m)
theorem Ml.frame {w w' : World} {T : Nat → Prop} (h : Ml w) (hf : Fr T w w') (hT : ¬ T (Tryz.laysSplit_ren.g 1)) : Ml w' := by
  obtain ⟨m, hm⟩ := h
  exact ⟨m, (World.cell?_of_block (a := ⟨Tryz.laysSplit_ren.g 1, 0, none⟩) (hf.block _ (World.block_lt_of_cell? _ _ hm) hT)).trans hm⟩
end Go.Proofs.YtdnbfhcbcdodmaaGreatDoor

/- What a lifting proof wants of a program whose rows list variables: the wrap that hands on the world's shape and the reach beside what is laid; the library's own variable. No condition. -/
namespace Go.Proofs.YtdnbfhcbcdodmaaGreatDoor
open Go.ChangeShapes Go.WideShapes Go.ChangeAt Go.RowKit Go.Deep

theorem own : ownKnob Tryz.prog.godebug = none := by kernel_rfl
theorem laidOut : laidOutB Tryz.prog = true := by kernel_rfl
section
variable {H : Type} {enc : TypeId × Value → H}
end
theorem ml_of_shaped {W : World} (h : W.ShapedOpen Tryz.prog) : Ml W :=
  cell_of_shapedOpen_int (t := 3) (zero := #[.int .i64 0]) h (of_decide_eq_true (by kernel_rfl)) (by kernel_rfl) rfl (by kernel_rfl) (by kernel_rfl) Tryz.underlying3
end Go.Proofs.YtdnbfhcbcdodmaaGreatDoor

/- The wrap of a statement that bears a condition of its own: what is laid, the reach and the world's shape, all handed on, and the condition. No condition. -/
namespace Go.Proofs.YtdnbfhcbcdodmaaGreatDoor
open Go.ChangeShapes Go.WideShapes Go.ChangeAt Go.RowKit Go.Deep

section
variable {H : Type} {enc : TypeId × Value → H}
/-- The specification with a condition. -/
def onlyIf (s : ChangeSpec) (k : (H : Type) → List (DataW H) → Bool) : OpenSpec := { OpenSpec.ofChange s with cond := some k }
def condB (enc : TypeId × Value → H) (P : Program) (f : Func) (s : ChangeSpec) (k : (H : Type) → List (DataW H) → Bool) (conds : List PathCond) (apart : Bool) (w : World) (args : Array Value) (fuel : Nat) : Bool :=
  match DataW.whole enc P w f.params.toList s.vars apart args.toList fuel with
  | some x => conds.all (PathCond.test P ⟨f.params.toList, x.1, s.plain.varTypes P, x.2.1⟩) && k H (x.1 ++ x.2.1)
  | none => false
theorem pre_of_condB {P : Program} {f : Func} {s : ChangeSpec} {k : (H : Type) → List (DataW H) → Bool} {conds : List PathCond} {apart : Bool} {w : World} {args : Array Value} {fuel : Nat} (h : condB enc P f s k conds apart w args fuel = true) :
    (onlyIf s k).pre enc P f conds apart w args := by
  unfold condB at h
  split at h
  case h_1 x hx =>
    rw [Bool.and_eq_true] at h
    exact (OpenSpec.pre_some (s := onlyIf s k) rfl conds apart _ _).2 ⟨x.1, x.2.1, x.2.2, DataW.Whole_of_whole hx, h.1, h.2⟩
  case h_2 => cases h
theorem witness_upto {C : Checked} {os : Os} {f : FuncId} {fn : Func} {s : ChangeSpec} {k : (H : Type) → List (DataW H) → Bool} {conds : List PathCond} {apart : Bool} {X : World → Array Value → Prop} (modest : Bool) (w0 : World) (args : Array Value) (fuel : Nat) (hos : w0.os = os)
    (hsh : (w0.forCall (fun _ _ => 0) ⟨#[], args, []⟩).Shaped C.prog)
    (hok : Input.okWideB C.prog (w0.forCall (fun _ _ => 0) ⟨#[], args, []⟩) f ⟨#[], args, []⟩ = true)
    (hpre : condB enc C.prog fn s k conds apart (w0.forCall (fun _ _ => 0) ⟨#[], args, []⟩).memory args fuel = true)
    (hsz : s.sizedB enc C.prog fn apart (w0.forCall (fun _ _ => 0) ⟨#[], args, []⟩).memory args fuel = true)
    (hx : X (w0.forCall (fun _ _ => 0) ⟨#[], args, []⟩).memory args) :
    ∃ (w : World) (tape : Tape) (i : Input), w.os = os ∧ (w.forCall tape i).Shaped C.prog ∧ i.vars = [] ∧ Input.okWide C.prog (w.forCall tape i) .any w.heap.size f i ∧
      (((onlyIf s k).pre enc C.prog fn conds apart (w.forCall tape i).memory i.args ∧ X (w.forCall tape i).memory i.args) ∧ sizedMet enc C.prog fn (onlyIf s k) apart (w.forCall tape i).memory i.args) ∧ ({ modest := modest } : Assume).holds C.prog (lone (Frame.enter C.prog f i.args .normal) [] (w.forCall tape i)) :=
  ⟨w0, fun _ _ => 0, ⟨#[], args, []⟩, hos, hsh, (Input.okWide_of_okWideB (base := 0) hok).1, (Input.okWide_of_okWideB hok).2, ⟨⟨pre_of_condB hpre, hx⟩, sizedMet_of_sizedB hsz⟩, by
    simp only [Assume.holds]
    exact ⟨by simp, by simp, fun _ => Modest.zero, by simp, by simp⟩⟩
theorem returns_laid_upto {a : Assume} {C : Checked} {os : Os} {f : FuncId} {fn : Func} {s : ChangeSpec} {k : (H : Type) → List (DataW H) → Bool} {conds : List PathCond} {apart fresh handsOn again : Bool} {X : World → Array Value → Prop}
    (hX : ∀ (w w' : World) (args : Array Value), w.heap = w'.heap → X w args → X w' args)
    (own : ownKnob C.prog.godebug = none) (started : os.Started) (noInit : C.prog.inits.idxOf? f = none) (hfn : C.prog.funcs[f]? = some fn)
    (witness : ∃ (w : World) (tape : Tape) (i : Input), w.os = os ∧ (w.forCall tape i).Shaped C.prog ∧ i.vars = [] ∧ Input.okWide C.prog (w.forCall tape i) .any w.heap.size f i ∧
      (((onlyIf s k).pre enc C.prog fn conds apart (w.forCall tape i).memory i.args ∧ X (w.forCall tape i).memory i.args) ∧ sizedMet enc C.prog fn (onlyIf s k) apart (w.forCall tape i).memory i.args) ∧ a.holds C.prog (lone (Frame.enter C.prog f i.args .normal) [] (w.forCall tape i)))
    (contract : ∀ (W : World) (base : Nat) (args : Array Value) (ds gs : List (DataW H)) (before : List MemPlace),
      (∀ (j : Nat) t v, fn.params[j]? = some t → args[j]? = some v → Value.okWide C.prog W .any base t v) →
      DataW.Whole enc C.prog fn.params.toList s.vars apart W args.toList ds gs before →
      (DataW.weightsEach C.prog (fn.params.toList ++ s.plain.varTypes C.prog) (ds ++ gs)).all (· ≤ reachBytes) = true →
      W.ShapedOpen C.prog → X W args →
      Calls C.prog f args W fun e W' => ∃ v, e = .returned v ∧ s.post enc C.prog fn apart fresh handsOn again W args v W') :
    ReturnsInHanded a C os f .any (fun w args => ((onlyIf s k).pre enc C.prog fn conds apart w args ∧ X w args) ∧ sizedMet enc C.prog fn (onlyIf s k) apart w args) (s.post enc C.prog fn apart fresh handsOn again) := by
  refine returnsInHanded_of_calls own started noInit witness ?_
  intro w tape i _ hsh _ hok hpre hholds
  obtain ⟨_, _, _, fn', hfn', _, _, _, _, hval⟩ := hok
  have e : fn' = fn := Option.some.inj (hfn'.symm.trans hfn)
  subst e
  obtain ⟨⟨hp, hx⟩, hz⟩ := hpre
  obtain ⟨ds, gs, before, hw, _, _⟩ := (OpenSpec.pre_some (s := onlyIf s k) rfl conds apart _ _).1 hp
  have hw' := DataW.Whole.of_heap (w' := w.forCall tape i) (by rfl) hw
  have hz' : sizedMet enc C.prog fn' (OpenSpec.ofChange s) apart (w.forCall tape i).memory i.args := hz
  refine (contract (w.forCall tape i) w.heap.size i.args ds gs before hval hw' (hz'.weights hw) hsh (hX _ _ _ (by rfl) hx)).mono fun e W' ⟨v, he, hp⟩ => ?_
  subst he
  exact ChangeSpec.post_blind hp
end
end Go.Proofs.YtdnbfhcbcdodmaaGreatDoor

/- files.place.node, open. Conditions: the contract's own premises. -/
namespace Go.Proofs.YtdnbfhcbcdodmaaGreatDoor
open Go.RowKit

def nodePtr (p : Nat → Nat) (o : Option Nat) : Value := match o with | none => .pointer none | some k => .pointer (some ⟨p k, 0, none⟩)
theorem Hlook {w : World} {p : Nat → Nat} {b i : Nat} {n : Nd} {dv ev pv : Value} (h : NodeF w p b i n dv ev pv) (hd : n.d = true) : ∃ m, ev = .map (some m) ∧ ∀ nm : ByteArray, nm.size ≤ maxLen → ∀ w', Fr (fun _ => False) w w' → (Instr.lookup 117 (.map (some m)) (.string nm) false).run Tryz.prog w' = .ok (nodePtr p (kget nm.data.toList n.ents)) w' := by
  obtain ⟨-, mb, hev, hmp⟩ := h.dir hd
  refine ⟨mb, hev, fun nm hn w' hf => ?_⟩
  have := (hmp.frame hf (fun e => e)).look (t := 117) (e := 111) false Tryz.underlying9 Tryz.underlying117 (show (zeroValue 111).run Tryz.prog w' = .ok (.pointer none) w' by kernel_rfl) nm hn
  rw [if_neg (by simp), kget_kmap] at this
  rw [this]
  cases kget nm.data.toList n.ents <;> rfl
def openE (n : Nd) (s : List UInt8) : Int := if (kget s n.ents).isSome = true then 17 else if n.links = 0 then 2 else if mayN n.mode 2 = false then 13 else 0
end Go.Proofs.YtdnbfhcbcdodmaaGreatDoor

/- A file's bytes: more zeros behind them, fewer of them, some of them written over. Conditions: the laws' own premises. -/
namespace Go.Proofs.YtdnbfhcbcdodmaaGreatDoor
open Go.RowKit

def byteV (l : List UInt8) : List Value := l.map fun c => .int .u8 c.toNat
theorem Fr.setRow (w : World) (g : Nat) (c : Array Value) : Fr (fun k => some g = some k) w (w.setRow g c) :=
  ⟨rfl, rfl, rfl, by simp, fun i _ hn => setRow_other w g i c (fun e => hn (by rw [e]))⟩
theorem DataV.form {w : World} {v : Value} {l : List UInt8} (h : DataV w v l) : ∃ a cap, v = .slice a l.length cap := by
  rcases h with ⟨rfl, rfl⟩ | ⟨g, cap, cur, rfl, _⟩
  · exact ⟨_, _, rfl⟩
  · exact ⟨_, _, rfl⟩
end Go.Proofs.YtdnbfhcbcdodmaaGreatDoor

/- files.slots.add: a thing more. Conditions: the contract's own premises. -/
namespace Go.Proofs.YtdnbfhcbcdodmaaGreatDoor
open Go.RowKit

def encP (o : Option Nat) : Value := match o with | none => .pointer none | some b => .pointer (some ⟨b, 0, none⟩)
def freeI (l : List (Option Nat)) : Nat := l.findIdx (·.isNone)
theorem freeI_le (l : List (Option Nat)) : freeI l ≤ l.length := List.findIdx_le_length
theorem freeI_some {l : List (Option Nat)} {k : Nat} (hk : k < freeI l) : ∃ b, l[k]'(Nat.lt_of_lt_of_le hk (freeI_le l)) = some b := by
  have := List.not_of_lt_findIdx (p := fun o : Option Nat => o.isNone) hk
  exact Option.isSome_iff_exists.1 (by simpa using this)
theorem freeI_none {l : List (Option Nat)} (h : freeI l < l.length) : l[freeI l] = none := by
  have : (l[freeI l]).isNone = true := List.findIdx_getElem (w := h)
  simpa using this
def idxV (l : List (Option Nat)) : Int := if freeI l < l.length then (freeI l : Int) else -1
theorem eql_nil' {P : Program} (t : TypeId) (w : World) (p : Option Addr) (h : P.underlying t = some (.pointer (P.pointee t))) : (binOp .eql t (.pointer none) (.pointer p)).run P w = .ok (.bool p.isNone) w := by
  have h1 : ∀ d, (Op.equalIn (d + 1) t (.pointer none) (.pointer p)).run P w = .ok p.isNone w := fun d => by
    cases p <;> simp [Op.equalIn, run_underlying h]
  have h2 : (Op.equal t (.pointer none) (.pointer p)).run P w = .ok p.isNone w := h1 9999
  simp only [binOp]
  simp [h2]
theorem eql_nil (a : Option Addr) (w : World) : (binOp .eql 111 (.pointer none) (.pointer a)).run Tryz.prog w = .ok (.bool a.isNone) w := eql_nil' _ w a (by kernel_rfl)
set_option maxRecDepth 100000 in
theorem idx_any (w : World) (a : Option Addr) (cap : Nat) (l : List (Option Nat)) (hc : l.length = 0 ∨ ∃ g, a = some ⟨g, 0, none⟩ ∧ ∀ k u, (l.map encP)[k]? = some u → w.cell? ⟨g, k, none⟩ = some u) (hl : l.length ≤ 1000) :
    Calls Tryz.prog 71 #[.slice a l.length cap, .pointer none] w fun e w' => e = .returned (.int .i64 (idxV l)) ∧ w' = w := by
  have Hc := hide hc
  clear hc
  go_enter Tryz.func71, Tryz.ntmps71
  go_wp2
  go_loop [8] (fun i => ∃ k : Nat, k ≤ freeI l ∧ i = .int .i64 k) (fun i => l.length - (intOf i).toNat)
  case atStart => exact ⟨0, Nat.zero_le _, rfl⟩
  case round =>
    obtain ⟨k, hk, rfl⟩ := hrel
    have hfl := freeI_le l
    by_cases hlt : k < l.length
    · obtain ⟨g, rfl, hcells⟩ := Hc.out.resolve_left (by omega)
      have ck := hcells k (encP l[k]) (by simp [hlt])
      have Hhk := hide hk
      have hkI : (k : Int) < (l.length : Int) := by omega
      have hk0 : (0 : Int) ≤ (k : Int) := by omega
      clear hcells Hc
      rcases Nat.lt_or_ge k (freeI l) with hlt2 | hge
      · obtain ⟨b, hb⟩ := freeI_some hlt2
        rw [hb] at ck
        simp only [encP] at ck
        have he := eql_nil (some ⟨b, 0, none⟩) w
        clear hb hk
        go_wp2
        refine ⟨⟨k + 1, hlt2, by go_num⟩, ?_⟩
        simp [intOf]
        omega
      · have hkf : k = freeI l := by omega
        have hb : l[k] = none := by
          subst hkf
          exact freeI_none hlt
        rw [hb] at ck
        simp only [encP] at ck
        have he := eql_nil none w
        have hres : (k : Int) = idxV l := by unfold idxV; rw [if_pos (by omega), hkf]
        have Hres := hide hres
        clear hb hk hkf hres
        go_wp2
        go_ret
        exact ⟨ret_int Hres.out, rfl⟩
    · have hres : (-1 : Int) = idxV l := by unfold idxV; rw [if_neg (by omega)]
      have Hres := hide hres
      have hkI : ¬ (k : Int) < (l.length : Int) := by omega
      clear hres
      go_wp2
      go_ret
      exact ⟨ret_int Hres.out, rfl⟩
def addI (l : List (Option Nat)) (nb : Nat) : List (Option Nat) := if freeI l < l.length then l.set (freeI l) (some nb) else l ++ [some nb]
def AddPost (w : World) (f nb : Nat) (lv : Value) (cnt : Nat) (rv bv : Value) (l : List (Option Nat)) (e : Ending) (w' : World) : Prop :=
  e = .returned (.int .i64 ((freeI l : Int) + 1)) ∧ ∃ lv', w'.heap[f]? = some (.cells #[lv', .int .i64 ((cnt : Int) + 1), rv, bv] 113 (0, 0)) ∧ w'.ownsRow 0 111 1 lv' (addI l nb).length ((addI l nb).map encP) ∧
    Fr (fun k => k = f ∨ lv.ownBlock = some k) w w' ∧ (lv'.ownBlock = lv.ownBlock ∨ lv'.ownBlock = some (w.heap.size + 1))
set_option maxRecDepth 100000 in
set_option maxHeartbeats 1000000 in
theorem sadd_any (w : World) (f nb : Nat) (lv : Value) (cnt : Nat) (rv bv : Value) (l : List (Option Nat)) (hb : w.heap[f]? = some (.cells #[lv, .int .i64 cnt, rv, bv] 113 (0, 0)))
    (hl : w.ownsRow 0 111 1 lv l.length (l.map encP)) (hcnt : cnt ≤ 1000) (hll : l.length ≤ 1000) :
    Calls Tryz.prog 40 #[.pointer (some ⟨f, 0, none⟩), .pointer (some ⟨nb, 0, none⟩)] w (AddPost w f nb lv cnt rv bv l) := by
  obtain ⟨la, lc, rfl⟩ := own_form hl
  have hlf : ∀ g, (Value.slice la l.length lc).ownBlock = some g → g ≠ f := fun g e => by
    rcases hl.2 with ⟨h1, _⟩ | ⟨g', cap', cur, h1, _, hg, _⟩
    · rw [h1] at e; cases e
    · rw [h1] at e
      have e' : g' = g := by simpa [Value.ownBlock] using e
      subst e'
      intro e2
      subst e2
      rw [hg] at hb
      simp at hb
  obtain ⟨w1, hw1⟩ : ∃ w1, w1 = w.setCell ⟨f, 1, none⟩ (.int .i64 ((cnt : Int) + 1)) := ⟨_, rfl⟩
  have hb1 : w1.heap[f]? = some (.cells #[.slice la l.length lc, .int .i64 ((cnt : Int) + 1), rv, bv] 113 (0, 0)) := by rw [hw1, blk_set hb]; rfl
  have hf1 : Fr (fun k => k = f) w w1 := by rw [hw1]; exact frSet _ _ _ _
  have hl1 := own_frame hl hf1 hlf
  have c1 : w.cell? ⟨f, 1, none⟩ = some (.int .i64 cnt) := by rw [blk_cell hb]; rfl
  have z1 := blk_frozen hb 1
  have c0 : w1.cell? ⟨f, 0, none⟩ = some (.slice la l.length lc) := by rw [blk_cell hb1]; rfl
  have hidx := idx_any w1 la lc l (by
    rcases Nat.eq_zero_or_pos l.length with h | h
    · exact .inl h
    · obtain ⟨g, h1, _, _, h2⟩ := own_cells hl1 h
      exact .inr ⟨g, h1, h2⟩) hll
  have hsz1 : w1.heap.size = w.heap.size := by rw [hw1]; simp [World.setCell]
  obtain ⟨i0, hinf, hz0, hz1, hz2⟩ : ∃ i0, Tryz.prog.info? 111 = some i0 ∧ i0.zero = some (.pointer none) ∧ i0.size = 1 ∧ i0.bytes = 8 := by
    have h : (Tryz.prog.info? 111).map (fun i => (i.zero, i.size, i.bytes)) = some (some (.pointer none), 1, 8) := by kernel_rfl
    cases hq : Tryz.prog.info? 111 with
    | none => rw [hq] at h; cases h
    | some i => rw [hq] at h; simp at h; exact ⟨i, rfl, h.1, h.2.1, h.2.2⟩
  by_cases hfree : freeI l < l.length
  · obtain ⟨g, rfl, _, hgl, _⟩ := own_cells hl1 (by omega)
    obtain ⟨hst, _⟩ := hl1.stored (freeI l) (.pointer (some ⟨nb, 0, none⟩))
    have hgf := hlf g rfl
    have cg : w1.cell? ⟨g, freeI l, none⟩ = some (.pointer none) := by rw [hl1.cellAt (freeI l) (by omega)]; simp [hfree, freeI_none hfree, encP]
    have zg := hl1.frozenAt (freeI l)
    have hres := hide (show AddPost w f nb (.slice (some ⟨g, 0, none⟩) l.length lc) cnt rv bv l (.returned (.int .i64 ((freeI l : Int) + 1))) (w1.setCell ⟨g, freeI l, none⟩ (.pointer (some ⟨nb, 0, none⟩))) from by
      refine ⟨rfl, _, blk_set_other hb1 _ _ (Ne.symm hgf), ?_, (hf1.mono (fun _ _ e => .inl e)).trans' (frSet _ _ _ _) (fun k _ e => .inr (by rw [e]; rfl)), .inl rfl⟩
      unfold addI
      rw [if_pos hfree, List.length_set, List.map_set]
      exact hst)
    rw [show idxV l = (freeI l : Int) by unfold idxV; rw [if_pos hfree]] at hidx
    have hk0 : (0 : Int) ≤ (freeI l : Int) := by omega
    have hk1 : (freeI l : Int) < (l.length : Int) := by omega
    clear hst hl hl1
    generalize freeI l = q at *
    subst hw1
    go_enter Tryz.func40, Tryz.ntmps40
    go_wp2_with fail
    refine hidx.mono ?_
    rintro e w' ⟨rfl, rfl⟩
    clear hidx
    go_wp2_with fail
    go_ret
    exact hres.out
  · have hfe : freeI l = l.length := by have := freeI_le l; omega
    rw [show idxV l = -1 by unfold idxV; rw [if_neg hfree]] at hidx
    obtain ⟨w2, hw2⟩ : ∃ w2, w2 = w1.alloc (.cells #[.pointer (some ⟨nb, 0, none⟩)] 111) := ⟨_, rfl⟩
    have hb2 : w2.heap[w1.heap.size]? = some (.cells #[.pointer (some ⟨nb, 0, none⟩)] 111 (0, 0)) := by rw [hw2]; exact blk_new _ _
    have hl2 : w2.ownsRow 0 111 1 (.slice la l.length lc) l.length (l.map encP) := by rw [hw2]; exact hl1.alloc _
    have hbf2 : w2.heap[f]? = some (.cells #[.slice la l.length lc, .int .i64 ((cnt : Int) + 1), rv, bv] 113 (0, 0)) := by rw [hw2]; exact blk_alloc hb1 _
    have hsz2 : w2.heap.size = w.heap.size + 1 := by rw [hw2]; simp [hsz1]
    have hf2 : Fr (fun k => k = f) w w2 := by rw [hw2]; exact hf1.alloc _
    have hfin := hide (show ∀ v5 w5, w5.ownsRow 0 111 1 v5 (l.length + 1) (l.map encP ++ [.pointer (some ⟨nb, 0, none⟩)]) → Fr (fun k => (Value.slice la l.length lc).ownBlock = some k) w2 w5 → (v5.ownBlock = (Value.slice la l.length lc).ownBlock ∨ v5.ownBlock = some w2.heap.size) →
        AddPost w f nb (.slice la l.length lc) cnt rv bv l (.returned (.int .i64 ((l.length : Int) + 1))) (w5.setCell ⟨f, 0, none⟩ v5) from fun v5 w5 h1 h2 h3 => by
      have hb5 := h2.get hbf2 (fun e => hlf f e rfl)
      have hlt := blk_lt hb1
      have hv5 : ∀ g, v5.ownBlock = some g → g ≠ f := fun g e => by
        rcases h3 with h3 | h3
        · exact hlf g (h3 ▸ e)
        · rw [h3] at e; cases e; omega
      refine ⟨by rw [hfe], v5, by rw [blk_set hb5]; rfl, ?_, ((hf2.mono (fun _ _ e => .inl e)).trans' h2 (fun k _ e => .inr e)).trans' (frSet _ _ _ _) (fun k _ e => .inl e), ?_⟩
      · unfold addI
        rw [if_neg hfree, List.length_append, List.map_append]
        exact own_frame h1 (frSet _ _ _ _) hv5
      · rcases h3 with h3 | h3
        · exact .inl h3
        · exact .inr (by rw [h3, hsz2]))
    clear hfe
    have Hl2 := hide hl2
    obtain ⟨n, hn⟩ : ∃ n, n = l.length := ⟨_, rfl⟩
    have Hn := hide hn
    clear hl hl1 hl2
    subst hw2
    subst hw1
    go_enter Tryz.func40, Tryz.ntmps40
    go_wp2_with fail
    refine hidx.mono ?_
    rintro e w' ⟨rfl, rfl⟩
    clear hidx
    go_wp2_with (at_builtin; refine wpList_append_src rfl _ _ 108 rfl 0 111 i0 _ 1 8 (by kernel_rfl) hinf hz0 hz1 hz2 rfl (by decide) _ _ _ rfl Hl2.out _ 1 1 [.pointer (some ⟨nb, 0, none⟩)] rfl ?qc1 ?qc2 ?qc3 ?qc4 ?qc5 ?qc6 ?_)
    case qc1 => rfl
    case qc2 =>
      refine .inr ⟨_, rfl, fun j u hj => ?_⟩
      rw [Addr.add_lit, Nat.zero_add]
      cases j with
      | zero => cases hj; rw [← hsz1, blk_cell hb2]; rfl
      | succ j => simp at hj
    case qc3 => intro u hu; simp at hu; rw [hu]; rfl
    case qc4 => unfold maxLen; omega
    case qc5 => omega
    case qc6 => exact Nat.zero_le _
    intro v5 w5 hown hfr hat
    have hb5 := hfr.get hbf2 (fun e => hlf f e rfl)
    have c50 : w5.cell? ⟨f, 0, none⟩ = some (.slice la l.length lc) := by rw [blk_cell hb5]; rfl
    have z5 := blk_frozen hb5
    have hfin5 := hide (hfin.out v5 w5 hown hfr (hat.imp id (fun e => e.trans (by rw [hsz2]))))
    obtain ⟨a5, c5, rfl⟩ := own_form hown
    clear hfin hown hfr hat
    go_wp2_with fail
    go_ret
    exact hfin5.out
end Go.Proofs.YtdnbfhcbcdodmaaGreatDoor

/- The tree of files as plain data: what put and add do to numbers, counts and bytes; when what is named stays there. No program in sight; no condition. -/
namespace Go.Proofs.YtdnbfhcbcdodmaaGreatDoor
open Go.RowKit

def modeN (m : Int) : Nat := (m % 512).toNat
theorem FSt.nd_lt {σ : FSt} {i : Nat} (h : (σ.nd i).isSome = true) : 0 < i ∧ i ≤ σ.length := by
  unfold FSt.nd at h
  split at h
  · cases h
  · rename_i h0
    refine ⟨by omega, ?_⟩
    by_cases hi : i - 1 < σ.length
    · omega
    · rw [List.getElem?_eq_none (by omega)] at h; cases h
theorem FSt.nd_at {σ : FSt} {i : Nat} (h0 : 0 < i) (hi : i - 1 < σ.length) : σ.nd i = σ[i - 1] := by
  unfold FSt.nd
  rw [if_neg (by omega), List.getElem?_eq_getElem hi]
  rfl
theorem FSt.nd_put {σ : FSt} {i : Nat} (h : (σ.nd i).isSome = true) (x : Option Nd) (j : Nat) : (σ.put i x).nd j = if j = i then x else σ.nd j := by
  obtain ⟨h0, hl⟩ := FSt.nd_lt h
  unfold FSt.put FSt.nd
  by_cases hj : j = 0
  · rw [if_pos hj, if_neg (by omega), if_pos hj]
  · rw [if_neg hj, if_neg hj, List.getElem?_set]
    by_cases e : j = i
    · rw [if_pos e, if_pos (by omega), if_pos (by omega)]; rfl
    · rw [if_neg e, if_neg (by omega)]
theorem FSt.put_length (σ : FSt) (i : Nat) (x : Option Nd) : (σ.put i x).length = σ.length := by unfold FSt.put; exact List.length_set
theorem FSt.nd_free (σ : FSt) : σ.nd σ.free = none := by
  unfold FSt.nd FSt.free
  rw [if_neg (by omega), Nat.add_sub_cancel]
  by_cases h : σ.findIdx (·.isNone) < σ.length
  · rw [List.getElem?_eq_getElem h]
    have : (σ[σ.findIdx (·.isNone)]).isNone = true := List.findIdx_getElem (w := h)
    simpa using this
  · rw [List.getElem?_eq_none (by omega)]; rfl
theorem FSt.nd_add (σ : FSt) (n : Nd) (j : Nat) : (σ.add n).nd j = if j = σ.free then some n else σ.nd j := by
  have hle : σ.findIdx (·.isNone) ≤ σ.length := List.findIdx_le_length
  unfold FSt.add FSt.nd FSt.free
  by_cases hj : j = 0
  · rw [if_pos hj, if_neg (by omega), if_pos hj]
  · rw [if_neg hj, if_neg hj]
    split
    · rename_i h
      rw [List.getElem?_set]
      by_cases e : j = σ.findIdx (·.isNone) + 1
      · rw [if_pos e, if_pos (by omega), if_pos (by omega)]; rfl
      · rw [if_neg e, if_neg (by omega)]
    · rename_i h
      by_cases e : j = σ.findIdx (·.isNone) + 1
      · rw [if_pos e, List.getElem?_append_right (by omega), show j - 1 - σ.length = 0 by omega]; rfl
      · rw [if_neg e]
        by_cases h2 : j - 1 < σ.length
        · rw [List.getElem?_append_left h2]
        · rw [List.getElem?_eq_none (by simp; omega), List.getElem?_eq_none (by omega)]
theorem sum_set {α : Type} (g : α → Nat) : ∀ (l : List α) (i : Nat) (hi : i < l.length) (x : α), ((l.set i x).map g).sum + g l[i] = (l.map g).sum + g x
  | [], i, hi, x => by simp at hi
  | a :: l, 0, hi, x => by simp; omega
  | a :: l, i + 1, hi, x => by
    have ih := sum_set g l i (by simpa using hi) x
    simp only [List.set_cons_succ, List.map_cons, List.sum_cons, List.getElem_cons_succ]
    omega
def one (o : Option Nd) : Nat := if o.isSome then 1 else 0
theorem FSt.cnt_sum (σ : FSt) : σ.cnt = (σ.map one).sum := by
  unfold FSt.cnt
  induction σ with
  | nil => rfl
  | cons a l ih =>
    rw [List.filter_cons]
    cases h : a.isSome <;> simp [one, h, ih] <;> omega
theorem FSt.cnt_put {σ : FSt} {i : Nat} (h : (σ.nd i).isSome = true) (x : Option Nd) : (σ.put i x).cnt + 1 = σ.cnt + one x := by
  obtain ⟨h0, hl⟩ := FSt.nd_lt h
  rw [FSt.cnt_sum, FSt.cnt_sum]
  have := sum_set one σ (i - 1) (by omega) x
  rw [FSt.nd_at h0 (by omega)] at h
  rw [show one σ[i - 1] = 1 by unfold one; rw [h]; rfl] at this
  exact this
theorem FSt.byts_put {σ : FSt} {i : Nat} {n : Nd} (h : σ.nd i = some n) (x : Option Nd) : (σ.put i x).byts + n.data.length = σ.byts + ndLen x := by
  obtain ⟨h0, hl⟩ := FSt.nd_lt (by rw [h]; rfl)
  have := sum_set ndLen σ (i - 1) (by omega) x
  rw [FSt.nd_at h0 (by omega)] at h
  rw [h] at this
  exact this
theorem FSt.cnt_add (σ : FSt) (n : Nd) : (σ.add n).cnt = σ.cnt + 1 := by
  rw [FSt.cnt_sum, FSt.cnt_sum]
  unfold FSt.add
  split
  · rename_i h
    have h2 := sum_set one σ _ h (some n)
    have h3 : (σ[σ.findIdx (·.isNone)]).isNone = true := List.findIdx_getElem (w := h)
    have h4 : σ[σ.findIdx (·.isNone)] = none := by simpa using h3
    rw [h4] at h2
    simpa [one] using h2
  · simp [one]
theorem FSt.byts_add (σ : FSt) (n : Nd) : (σ.add n).byts = σ.byts + n.data.length := by
  unfold FSt.byts FSt.add
  split
  · rename_i h
    have h2 := sum_set ndLen σ _ h (some n)
    have h3 : (σ[σ.findIdx (·.isNone)]).isNone = true := List.findIdx_getElem (w := h)
    have h4 : σ[σ.findIdx (·.isNone)] = none := by simpa using h3
    rw [h4] at h2
    simpa [ndLen] using h2
  · simp [ndLen]
theorem FSt.add_length {σ : FSt} (n : Nd) (h : σ.cnt < 100) (hl : σ.length ≤ 100) : (σ.add n).length ≤ 100 := by
  unfold FSt.add
  split
  · rw [List.length_set]; exact hl
  · rename_i h2
    have h3 : σ.cnt = σ.length := by
      unfold FSt.cnt
      congr 1
      rw [List.filter_eq_self]
      intro a ha
      have := List.findIdx_eq_length.1 (Nat.le_antisymm List.findIdx_le_length (by omega) : σ.findIdx (·.isNone) = σ.length) a ha
      simpa using this
    simp
    omega
theorem byts_nd {σ : FSt} {i : Nat} {n : Nd} (h : σ.nd i = some n) : n.data.length ≤ σ.byts := by
  have := FSt.byts_put h none
  simp [ndLen] at this
  omega
/-- A changed inode. -/
theorem Live.put {σ : FSt} (h : Live σ) {i : Nat} {n n' : Nd} (hn : σ.nd i = some n) (hd : n'.d = n.d) (h1 : i = 1 → n'.links = 1) (he : ∀ q ∈ n'.ents, (σ.nd q.2).isSome = true)
    (hp : n'.d = true → 0 < n'.links → (σ.nd n'.par).isSome = true) (hb : (σ.put i (some n')).byts ≤ 65536) (hnm : ∀ q ∈ n'.ents, q.1.length ≤ 32) : Live (σ.put i (some n')) := by
  have hs : (σ.nd i).isSome = true := by rw [hn]; rfl
  have hnd := FSt.nd_put hs (some n')
  have sm : ∀ k, (σ.nd k).isSome = true → ((σ.put i (some n')).nd k).isSome = true := fun k hk => by
    rw [hnd]; split
    · rfl
    · exact hk
  have cs : ∀ j m, (σ.put i (some n')).nd j = some m → (j = i ∧ m = n') ∨ σ.nd j = some m := fun j m hj => by
    rw [hnd] at hj
    split at hj
    · rename_i e; cases hj; exact .inl ⟨e, rfl⟩
    · exact .inr hj
  refine ⟨?_, ?_, ?_, ?_, by rw [FSt.put_length]; exact h.len, hb, ?_⟩
  · obtain ⟨r, hr, hr2, hr3⟩ := h.root
    by_cases e : i = 1
    · refine ⟨n', by rw [hnd, if_pos e.symm], ?_, h1 e⟩
      subst e; rw [hn] at hr; cases hr; rw [hd]; exact hr2
    · exact ⟨r, by rw [hnd, if_neg (fun e2 => e e2.symm)]; exact hr, hr2, hr3⟩
  · intro j m hj q hq
    rcases cs j m hj with ⟨_, rfl⟩ | hj
    · exact sm _ (he q hq)
    · exact sm _ (h.ents j m hj q hq)
  · intro j m hj hd2 hl
    rcases cs j m hj with ⟨_, rfl⟩ | hj
    · exact sm _ (hp hd2 hl)
    · exact sm _ (h.par j m hj hd2 hl)
  · have := FSt.cnt_put hs (some n'); have h9 := h.cnt; simp [one] at this; omega
  · intro j m hj
    rcases cs j m hj with ⟨_, rfl⟩ | hj
    · exact hnm
    · exact h.names j m hj
/-- An inode more. -/
theorem Live.add {σ : FSt} (h : Live σ) {n : Nd} (he : n.ents = []) (hdt : n.data = []) (hp : (σ.nd n.par).isSome = true) (hc : σ.cnt < 100) : Live (σ.add n) := by
  have hnd := FSt.nd_add σ n
  have sm : ∀ k, (σ.nd k).isSome = true → ((σ.add n).nd k).isSome = true := fun k hk => by
    rw [hnd]; split
    · rfl
    · exact hk
  have cs : ∀ j m, (σ.add n).nd j = some m → m = n ∨ σ.nd j = some m := fun j m hj => by
    rw [hnd] at hj
    split at hj
    · cases hj; exact .inl rfl
    · exact .inr hj
  refine ⟨?_, ?_, ?_, by rw [FSt.cnt_add]; omega, FSt.add_length n hc h.len, by rw [FSt.byts_add, hdt]; exact h.byts, ?_⟩
  · obtain ⟨r, hr, hr2⟩ := h.root
    refine ⟨r, ?_, hr2⟩
    rw [hnd, if_neg]
    · exact hr
    · intro e; rw [e, FSt.nd_free] at hr; cases hr
  · intro j m hj q hq
    rcases cs j m hj with rfl | hj
    · rw [he] at hq; cases hq
    · exact sm _ (h.ents j m hj q hq)
  · intro j m hj hd hl
    rcases cs j m hj with rfl | hj
    · exact sm _ hp
    · exact sm _ (h.par j m hj hd hl)
  · intro j m hj
    rcases cs j m hj with rfl | hj
    · rw [he]; exact fun q hq => by cases hq
    · exact h.names j m hj
end Go.Proofs.YtdnbfhcbcdodmaaGreatDoor
