/- A map with string keys, by a sorted list of what it holds: look-up, store, delete, length, sorted keys. Conditions: keys no longer than what a string can be. -/
import Derived.Test.YtlhmmiolnbgloaaGreatDoorSizedLift
import Derived.Maps.Own
import Derived.Maps.OwnOps
import Derived.Maps.OwnSet
import Derived.Maps.Views
import Derived.Sort.KeysCollected
namespace Go.Proofs.YtlhmmiolnbgloaaGreatDoor
open Go.RowKit Go.Maps

abbrev KA (α : Type) := List (List UInt8 × α)
abbrev KL := KA Value
section
variable {α : Type}
def rV (v : Value) : Option (DataW Value × List MemPlace) := some (.held v, [])
def dOf (L : KL) : DataW Value := .map (L.map fun p => (.string p.1, .held p.2))
def kins (x : List UInt8 × α) : KA α → KA α
  | [] => [x]
  | y :: r => if bytesBefore x.1 y.1 then x :: y :: r else y :: kins x r
def kdel (s : List UInt8) (L : KA α) : KA α := L.filter fun p => !(p.1 == s)
def kput (s : List UInt8) (v : α) (L : KA α) : KA α := kins (s, v) (kdel s L)
def kget (s : List UInt8) (L : KA α) : Option α := (L.find? fun p => p.1 == s).map (·.2)

theorem dinsert_cons (x y : Lit × DataW Value) (r : List (Lit × DataW Value)) : DataW.insert x (y :: r) = if x.1.before y.1 = true then x :: y :: r else y :: DataW.insert x r := rfl
theorem kins_cons (x y : List UInt8 × α) (r : KA α) : kins x (y :: r) = if bytesBefore x.1 y.1 = true then x :: y :: r else y :: kins x r := rfl
end
theorem dOf_insert (x : List UInt8 × Value) : ∀ L : KL, DataW.insert (.string x.1, .held x.2) (L.map fun p => (Lit.string p.1, DataW.held p.2)) = (kins x L).map fun p => (Lit.string p.1, DataW.held p.2)
  | [] => rfl
  | y :: r => by
    rw [List.map_cons, dinsert_cons, kins_cons]
    by_cases h : bytesBefore x.1 y.1 = true
    · rw [if_pos h, if_pos (show (Lit.string x.1).before (Lit.string y.1) = true from h)]; rfl
    · rw [if_neg h, if_neg (show ¬ (Lit.string x.1).before (Lit.string y.1) = true from h), dOf_insert x r]; rfl
theorem dOf_filter (s : List UInt8) : ∀ L : KL, ((L.map fun p => (Lit.string p.1, (DataW.held p.2 : DataW Value))).filter fun p => !p.1.sameKey (.string s)) = (kdel s L).map fun p => (Lit.string p.1, DataW.held p.2)
  | [] => rfl
  | y :: r => by
    simp only [kdel, List.map_cons, List.filter_cons, Lit.sameKey]
    have ih := dOf_filter s r
    simp only [kdel, Lit.sameKey] at ih
    by_cases h : (!(y.1 == s)) = true
    · rw [if_pos h, if_pos h, ih]; rfl
    · rw [if_neg h, if_neg h, ih]
theorem dOf_put (s : List UInt8) (v : Value) (L : KL) : (dOf L).put (.string s) (.held v) = dOf (kput s v L) := by
  show DataW.map (DataW.insert _ _) = _
  rw [dOf_filter, dOf_insert (s, v)]; rfl
theorem dOf_del (s : List UInt8) (L : KL) : (dOf L).del (.string s) = dOf (kdel s L) := by
  show DataW.map _ = _
  rw [dOf_filter]; rfl
theorem dOf_find (s : List UInt8) : ∀ L : KL, (L.map fun p => (Lit.string p.1, (DataW.held p.2 : DataW Value))).find? (fun p => p.1.sameKey (.string s)) = (L.find? fun p => p.1 == s).map fun p => (Lit.string p.1, DataW.held p.2)
  | [] => rfl
  | y :: r => by
    have ih := dOf_find s r
    rw [List.map_cons, List.find?_cons, List.find?_cons]
    show (match (y.1 == s) with | true => some (Lit.string y.1, (DataW.held y.2 : DataW Value)) | false => _) = _
    cases h : y.1 == s
    · exact ih
    · rfl
theorem dOf_at (s : List UInt8) (L : KL) (z : DataW Value) : (dOf L).atKey (.string s) z = match kget s L with | some v => .held v | none => z := by
  unfold dOf DataW.atKey
  simp only [dOf_find]
  unfold kget
  cases L.find? (fun p => p.1 == s) <;> rfl
theorem dOf_size (L : KL) : Maps.size (dOf L) = L.length := by simp [dOf, Maps.size]
theorem dOf_keys (L : KL) : Go.strKeys (dOf L) = L.map (·.1) := by
  simp [dOf, Go.strKeys, Go.strOf, Function.comp_def]

/-- The keys stand in order, each once. -/
def KSorted {α : Type} (L : KA α) : Prop := L.Pairwise fun a b => bytesBefore a.1 b.1 = true
/-- Block b is a map that holds just what L says. -/
structure SMapAt (P : Program) (k : TypeId) (w : World) (b : Nat) (L : KL) : Prop where
  own : w.ownsMap P k rV b L.length (dOf L)
  sorted : KSorted L
theorem ownsMap_tight {P : Program} {k : TypeId} {w : World} {b n : Nat} {L : KL} (h : w.ownsMap P k rV b n (dOf L)) : w.ownsMap P k rV b L.length (dOf L) := by
  obtain ⟨es, clock, hb, F, hs, hD⟩ := h
  refine ⟨es, clock, hb, F, ?_, hD⟩
  have e1 : Maps.size (dOf L) = es.size := by rw [hD]; simp [Maps.size, length_sorted]
  rw [dOf_size] at e1
  omega
theorem SMapAt.frame {P : Program} {k : TypeId} {w w' : World} {b : Nat} {L : KL} {S : Nat → Prop} (h : SMapAt P k w b L) (hf : Fr S w w') (hn : ¬ S b) : SMapAt P k w' b L := by
  obtain ⟨⟨es, clock, hb, F, hs, hD⟩, h2⟩ := h
  exact ⟨⟨es, clock, hf.get hb hn, F, hs, hD⟩, h2⟩
theorem SMapAt.lt {P : Program} {k : TypeId} {w : World} {b : Nat} {L : KL} (h : SMapAt P k w b L) : b < w.heap.size := h.own.lt
theorem SMapAt.made {P : Program} {k : TypeId} (w : World) : SMapAt P k (w.alloc (.map #[] 0)) w.heap.size [] := ⟨World.ownsMap_made w P k rV, List.Pairwise.nil⟩

section
variable {α β : Type}
theorem kget_nil (s : List UInt8) : kget s ([] : KA α) = none := rfl
theorem kget_cons (s : List UInt8) (y : List UInt8 × α) (r : KA α) : kget s (y :: r) = if (y.1 == s) = true then some y.2 else kget s r := by
  unfold kget
  rw [List.find?_cons]
  cases h : y.1 == s
  · rw [if_neg (by simp)]
  · rw [if_pos rfl]; rfl
theorem kget_mem {s : List UInt8} {v : α} : ∀ {L : KA α}, kget s L = some v → (s, v) ∈ L
  | y :: r, h => by
    rw [kget_cons] at h
    by_cases e : (y.1 == s) = true
    · rw [if_pos e] at h
      have e1 := beq_iff_eq.1 e
      cases h
      rw [← e1]; exact List.mem_cons_self
    · rw [if_neg e] at h
      exact List.mem_cons_of_mem _ (kget_mem h)
theorem kget_none {s : List UInt8} : ∀ {L : KA α}, kget s L = none → ∀ p ∈ L, p.1 ≠ s
  | y :: r, h, p, hp => by
    rw [kget_cons] at h
    by_cases e : (y.1 == s) = true
    · rw [if_pos e] at h; cases h
    · rw [if_neg e] at h
      rcases List.mem_cons.1 hp with rfl | hp
      · intro e1; exact e (beq_iff_eq.2 e1)
      · exact kget_none h p hp
theorem kget_of_none {s : List UInt8} {L : KA α} (h : ∀ p ∈ L, p.1 ≠ s) : kget s L = none := by
  cases hg : kget s L with
  | none => rfl
  | some v => exact absurd rfl (h _ (kget_mem hg))
theorem kget_kdel_same (s : List UInt8) (L : KA α) : kget s (kdel s L) = none :=
  kget_of_none fun p hp => by have := (List.mem_filter.1 hp).2; simpa using this
theorem kget_kdel_other {s t : List UInt8} (hne : t ≠ s) : ∀ L : KA α, kget t (kdel s L) = kget t L
  | [] => rfl
  | y :: r => by
    have ih := kget_kdel_other hne r
    unfold kdel at ih ⊢
    rw [List.filter_cons]
    by_cases e : (!(y.1 == s)) = true
    · rw [if_pos e, kget_cons, kget_cons, ih]
    · rw [if_neg e, ih, kget_cons, if_neg]
      intro e2
      have e1 : y.1 = s := by simpa using e
      exact hne ((beq_iff_eq.1 e2).symm.trans e1)
theorem kget_kins_same (s : List UInt8) (v : α) : ∀ {L : KA α}, (∀ p ∈ L, p.1 ≠ s) → kget s (kins (s, v) L) = some v
  | [], _ => by rw [kins, kget_cons, if_pos (by simp)]
  | y :: r, h => by
    rw [kins_cons]
    by_cases e : bytesBefore s y.1 = true
    · rw [if_pos e, kget_cons, if_pos (by simp)]
    · rw [if_neg e, kget_cons, if_neg (by simpa using h y List.mem_cons_self), kget_kins_same s v (fun p hp => h p (List.mem_cons_of_mem _ hp))]
theorem kget_kins_other {s t : List UInt8} (hne : t ≠ s) (v : α) : ∀ L : KA α, kget t (kins (s, v) L) = kget t L
  | [] => by rw [kins, kget_cons, if_neg (by simpa using hne.symm)]
  | y :: r => by
    rw [kins_cons]
    by_cases e : bytesBefore s y.1 = true
    · rw [if_pos e, kget_cons, if_neg (by simpa using hne.symm)]
    · rw [if_neg e, kget_cons, kget_cons, kget_kins_other hne v r]
theorem kget_kput_same (s : List UInt8) (v : α) (L : KA α) : kget s (kput s v L) = some v :=
  kget_kins_same s v fun p hp => by have := (List.mem_filter.1 hp).2; simpa using this
theorem kget_kput_other {s t : List UInt8} (hne : t ≠ s) (v : α) (L : KA α) : kget t (kput s v L) = kget t L := by
  unfold kput
  rw [kget_kins_other hne, kget_kdel_other hne]
theorem kins_mem {x p : List UInt8 × α} : ∀ {L : KA α}, p ∈ kins x L ↔ p = x ∨ p ∈ L
  | [] => by simp [kins]
  | y :: r => by
    rw [kins_cons]
    by_cases e : bytesBefore x.1 y.1 = true
    · rw [if_pos e]; simp
    · rw [if_neg e]
      simp only [List.mem_cons, kins_mem (L := r)]
      constructor <;> rintro (h | h | h) <;> simp [h]
theorem kins_length (x : List UInt8 × α) : ∀ L : KA α, (kins x L).length = L.length + 1
  | [] => rfl
  | y :: r => by
    rw [kins_cons]
    by_cases e : bytesBefore x.1 y.1 = true
    · rw [if_pos e]; simp
    · rw [if_neg e]; simp [kins_length x r]
theorem KSorted.kdel {L : KA α} (h : KSorted L) (s : List UInt8) : KSorted (kdel s L) := List.Pairwise.filter _ h
theorem KSorted.kins {x : List UInt8 × α} : ∀ {L : KA α}, KSorted L → (∀ p ∈ L, p.1 ≠ x.1) → KSorted (kins x L)
  | [], _, _ => List.pairwise_singleton _ _
  | y :: r, h, hn => by
    obtain ⟨h1, h2⟩ := List.pairwise_cons.1 h
    rw [kins_cons]
    by_cases e : bytesBefore x.1 y.1 = true
    · rw [if_pos e]
      refine List.pairwise_cons.2 ⟨fun p hp => ?_, h⟩
      rcases List.mem_cons.1 hp with rfl | hp
      · exact e
      · exact WideShapes.bytes_trans _ _ _ e (h1 p hp)
    · rw [if_neg e]
      refine List.pairwise_cons.2 ⟨fun p hp => ?_, KSorted.kins h2 (fun p hp => hn p (List.mem_cons_of_mem _ hp))⟩
      rcases kins_mem.1 hp with rfl | hp
      · rcases WideAt.bytes_total _ _ (hn y List.mem_cons_self) with h3 | h3
        · exact h3
        · exact absurd h3 e
      · exact h1 p hp
theorem kput_mem {s : List UInt8} {v : α} {p : List UInt8 × α} {L : KA α} (h : p ∈ kput s v L) : p = (s, v) ∨ p ∈ L := (kins_mem.1 h).imp id fun h => (List.mem_filter.1 h).1
theorem KSorted.kput {L : KA α} (h : KSorted L) (s : List UInt8) (v : α) : KSorted (kput s v L) :=
  (h.kdel s).kins fun p hp => by have := (List.mem_filter.1 hp).2; simpa using this
theorem kdel_same {s : List UInt8} {L : KA α} (h : kget s L = none) : kdel s L = L := by
  unfold kdel
  rw [List.filter_eq_self]
  intro p hp
  have := kget_none h p hp
  simpa using this
theorem kdel_length {s : List UInt8} : ∀ {L : KA α}, KSorted L → (kdel s L).length + (if (kget s L).isSome then 1 else 0) = L.length
  | [], _ => rfl
  | y :: r, h => by
    obtain ⟨h1, h2⟩ := List.pairwise_cons.1 h
    have ih := kdel_length (s := s) h2
    rw [kget_cons]
    unfold Go.Proofs.YtlhmmiolnbgloaaGreatDoor.kdel at ih ⊢
    rw [List.filter_cons]
    by_cases e : (y.1 == s) = true
    · have hn : kget s r = none := kget_of_none fun p hp e1 => by
        have := h1 p hp
        rw [beq_iff_eq.1 e, e1, WideAt.bytes_irrefl] at this
        cases this
      rw [hn] at ih
      rw [if_pos e, if_neg (by simp [e])]
      simp only [Option.isSome_none, Bool.false_eq_true, if_false, Option.isSome_some, if_true, List.length_cons] at ih ⊢
      omega
    · rw [if_neg e, if_pos (by simp [e])]
      simp only [List.length_cons]
      omega
theorem kput_length {s : List UInt8} {v : α} {L : KA α} (h : KSorted L) : (kput s v L).length = if (kget s L).isSome then L.length else L.length + 1 := by
  have := kdel_length (s := s) h
  unfold kput
  rw [kins_length]
  split <;> rename_i e <;> simp only [e] at this <;> simp at this <;> omega

/-- Another kind of thing behind each key. -/
def kmap (f : List UInt8 → α → β) (L : KA α) : KA β := L.map fun p => (p.1, f p.1 p.2)
theorem kget_kmap (f : List UInt8 → α → β) (s : List UInt8) : ∀ L : KA α, kget s (kmap f L) = (kget s L).map (f s)
  | [] => rfl
  | y :: r => by
    have ih := kget_kmap f s r
    show kget s ((y.1, f y.1 y.2) :: kmap f r) = _
    rw [kget_cons, kget_cons, ih]
    by_cases e : (y.1 == s) = true
    · rw [if_pos e, if_pos e, ← beq_iff_eq.1 e]; rfl
    · rw [if_neg e, if_neg e]
theorem kdel_kmap (f : List UInt8 → α → β) (s : List UInt8) (L : KA α) : kdel s (kmap f L) = kmap f (kdel s L) := by
  unfold kdel kmap
  rw [List.filter_map]; rfl
theorem kins_kmap (f : List UInt8 → α → β) (s : List UInt8) (v : α) : ∀ L : KA α, kins (s, f s v) (kmap f L) = kmap f (kins (s, v) L)
  | [] => rfl
  | y :: r => by
    have ih := kins_kmap f s v r
    show kins (s, f s v) ((y.1, f y.1 y.2) :: kmap f r) = _
    rw [kins_cons, kins_cons, ih]
    by_cases e : bytesBefore s y.1 = true
    · rw [if_pos e, if_pos e]; rfl
    · rw [if_neg e, if_neg e]; rfl
theorem kput_kmap (f : List UInt8 → α → β) (s : List UInt8) (v : α) (L : KA α) : kput s (f s v) (kmap f L) = kmap f (kput s v L) := by
  unfold kput
  rw [kdel_kmap, kins_kmap]
theorem kmap_length (f : List UInt8 → α → β) (L : KA α) : (kmap f L).length = L.length := by simp [kmap]
theorem kmap_keys (f : List UInt8 → α → β) (L : KA α) : (kmap f L).map (·.1) = L.map (·.1) := by simp [kmap]
end

theorem before_lt : ∀ {a b : List UInt8}, bytesBefore a b = true → a < b
  | [], [], h => by simp [bytesBefore] at h
  | [], _ :: _, _ => List.nil_lt_cons _ _
  | _ :: _, [], h => by simp [bytesBefore] at h
  | x :: r, y :: s, h => by
    rw [List.cons_lt_cons_iff]
    simp only [bytesBefore, Bool.or_eq_true, Bool.and_eq_true, decide_eq_true_eq, beq_iff_eq] at h
    exact h.imp id fun h => ⟨h.1, before_lt h.2⟩
theorem sorted_keys {α : Type} {L : KA α} (h : KSorted L) {ss : List (List UInt8)} (hp : ss.Perm (L.map (·.1))) : ss.mergeSort (fun x y => decide (x ≤ y)) = L.map (·.1) := by
  have e1 : ss.mergeSort leB = (L.map (·.1)).mergeSort leB := mergeSort_of_perm hp
  refine e1.trans (List.mergeSort_of_pairwise ?_)
  rw [List.pairwise_map]
  exact h.imp fun h1 => by simp only [leB, decide_eq_true_eq]; exact List.le_of_lt (before_lt h1)
section
variable {P : Program} {k t e : TypeId} {w : World} {b : Nat} {L : KL}
theorem SMapAt.look (h : SMapAt P k w b L) (c : Bool) (hk : P.underlying k = some .string) (ht : P.underlying t = some (.map k e)) {z : Value} (hz : (zeroValue e).run P w = .ok z w) (s : ByteArray) (hs : s.size ≤ maxLen) :
    (Instr.lookup t (.map (some b)) (.string s) c).run P w = .ok (if c then .tuple #[(kget s.data.toList L).getD z, .bool (kget s.data.toList L).isSome] else (kget s.data.toList L).getD z) w := by
  obtain ⟨es, clock, hb, F, _, hD⟩ := h.own
  rcases Maps.fit_look c (string_keyed hk) ht hz hb F (WideMaps.keyOf_string_mk hk hs) with ⟨hrun, _, hat⟩ | ⟨e0, y, _, _, hrun, hR, hat, _⟩
  · rw [← hD] at hat
    have hn : kget s.data.toList L = none := by
      cases hg : kget s.data.toList L with
      | none => rfl
      | some v => have := hat .nil; rw [dOf_at, hg] at this; cases this
    rw [hrun, hn]; rfl
  · rw [← hD] at hat
    cases hR
    have hn : kget s.data.toList L = some e0.val := by
      have := hat .nil
      rw [dOf_at] at this
      cases hg : kget s.data.toList L with
      | none => rw [hg] at this; cases this
      | some v => rw [hg] at this; cases this; rfl
    rw [hrun, hn]; rfl
theorem SMapAt.keys_le (h : SMapAt P k w b L) (hk : P.underlying k = some .string) : ∀ p ∈ L, p.1.length ≤ maxLen := fun p hp => strKeys_le h.own hk p.1 (by rw [dOf_keys]; exact List.mem_map_of_mem hp)
theorem SMapAt.len (h : SMapAt P k w b L) (ht : P.underlying t = some (.map k e)) (ty : TypeId) : (Builtin.len_ #[t] ty #[.map (some b)]).run P w = .ok (.int .i64 L.length) w := by
  rw [h.own.len ht, dOf_size]
theorem SMapAt.update (h : SMapAt P k w b L) (hk : P.underlying k = some .string) (ht : P.underlying t = some (.map k e)) (hn : L.length < maxLen) (s : ByteArray) (hs : s.size ≤ maxLen) (v : Value) :
    ∃ w', (Instr.mapUpdate t (.map (some b)) (.string s) v).run P w = .ok () w' ∧ SMapAt P k w' b (kput s.data.toList v L) ∧ Fr (fun q => q = b) w w' := by
  obtain ⟨w', h1, h2, h3⟩ := h.own.update (string_keyed hk) ht hn (WideMaps.keyOf_string_mk hk hs) (show rV v = some (.held v, []) from rfl)
  rw [dOf_put] at h2
  exact ⟨w', h1, ⟨ownsMap_tight h2, h.sorted.kput _ _⟩, (Fr.of_grown h3).mono (fun _ _ e => by cases e; rfl)⟩
theorem SMapAt.delete (h : SMapAt P k w b L) (hk : P.underlying k = some .string) (ht : P.underlying t = some (.map k e)) (s : ByteArray) (hs : s.size ≤ maxLen) (ty : TypeId) :
    ∃ w', (Builtin.delete_ #[t, k] ty #[.map (some b), .string s]).run P w = .ok (.tuple #[]) w' ∧ SMapAt P k w' b (kdel s.data.toList L) ∧ Fr (fun q => q = b) w w' := by
  obtain ⟨w', h1, h2, h3⟩ := h.own.drop (string_keyed hk) ht (WideMaps.keyOf_string_mk hk hs) ty
  rw [dOf_del] at h2
  obtain ⟨es, clock, es', clock', hb, rfl⟩ := h3
  exact ⟨_, h1, ⟨ownsMap_tight h2, h.sorted.kdel _⟩, ⟨rfl, rfl, rfl, by simp [ChangeMaps.setBlock], fun i _ hi => ChangeMaps.heap_setBlock_other hb _ (fun e => hi e)⟩⟩
end
end Go.Proofs.YtlhmmiolnbgloaaGreatDoor

/- The tree of files as plain data, keyed by inode numbers: what each call answers and leaves. No program in sight; no condition. -/
namespace Go.Proofs.YtlhmmiolnbgloaaGreatDoor
open Go.RowKit

/-- An inode. -/
structure Nd where
  d : Bool
  mode : Nat
  links : Nat
  holds : Nat
  data : List UInt8
  ents : KA Nat
  par : Nat
/-- Slots: number i + 1 stands at place i. -/
abbrev FSt := List (Option Nd)
def FSt.nd (σ : FSt) (i : Nat) : Option Nd := if i = 0 then none else (σ[i - 1]?).join
def FSt.ndI (σ : FSt) (i : Int) : Option Nd := if 1 ≤ i then σ.nd i.toNat else none
def FSt.put (σ : FSt) (i : Nat) (n : Option Nd) : FSt := σ.set (i - 1) n
def FSt.cnt (σ : FSt) : Nat := (σ.filter (·.isSome)).length
def ndLen : Option Nd → Nat | none => 0 | some n => n.data.length
def FSt.byts (σ : FSt) : Nat := (σ.map ndLen).sum
/-- The least free number. -/
def FSt.free (σ : FSt) : Nat := σ.findIdx (·.isNone) + 1
def FSt.add (σ : FSt) (n : Nd) : FSt := if σ.findIdx (·.isNone) < σ.length then σ.set (σ.findIdx (·.isNone)) (some n) else σ ++ [some n]

def mayN (m : Nat) (want : Nat) : Bool := Nat.land (m / 64) want == want
def hereE (n : Nd) : Int := if n.d = false then 20 else if mayN n.mode 1 = false then 13 else 0
def dot : List UInt8 := [46]
def dots : List UInt8 := [46, 46]
def slashB : UInt8 := 47
def leadE (a : Nat) (o : Option Nat) : Int × Nat := match o with | none => (2, a) | some k => (0, k)
/-- One piece: an error, or where it leads. -/
def stepE (n : Nd) (at' : Nat) (p : List UInt8) : Int × Nat :=
  if hereE n ≠ 0 then (hereE n, at')
  else if p = dot then (0, at')
  else if p = dots then (if n.links = 0 then (2, at') else (0, n.par))
  else if 32 < p.length then (36, at')
  else leadE at' (kget p n.ents)
def stepS (σ : FSt) (at' : Nat) (p : List UInt8) : Int × Nat := match σ.nd at' with | none => (20, at') | some n => stepE n at' p
def overS (σ : FSt) : List (List UInt8) → Nat → Int × Nat
  | [], a => (0, a)
  | p :: r, a => if (stepS σ a p).1 ≠ 0 then stepS σ a p else overS σ r (stepS σ a p).2
/-- The pieces between the slashes, empty ones left out. -/
def splitS : List UInt8 → List (List UInt8)
  | [] => [[]]
  | c :: r => if c = slashB then [] :: splitS r else match splitS r with | [] => [[c]] | p :: q => (c :: p) :: q
def piecesS (s : List UInt8) : List (List UInt8) := (splitS s).filter fun p => !p.isEmpty
def slashS (s : List UInt8) : Bool := s.getLast? == some slashB
/-- Where a path begins. -/
def startE (σ : FSt) (dir : Int) (s : List UInt8) : Int × Nat :=
  match σ.ndI dir with
  | none => (9, 0)
  | some n => if n.d = false then (9, 0) else if s = [] then (2, 0) else if 256 < s.length then (36, 0) else (0, if s.head? = some slashB then 1 else dir.toNat)
def walkE (σ : FSt) (dir : Int) (s : List UInt8) : Int × Nat :=
  if (startE σ dir s).1 ≠ 0 then startE σ dir s
  else if (overS σ (piecesS s) (startE σ dir s).2).1 ≠ 0 then overS σ (piecesS s) (startE σ dir s).2
  else if slashS s = true ∧ ((σ.nd (overS σ (piecesS s) (startE σ dir s).2).2).elim false (·.d)) = false then (20, 0)
  else overS σ (piecesS s) (startE σ dir s).2
def hereS (σ : FSt) (a : Nat) : Int := match σ.nd a with | none => 20 | some n => hereE n
/-- Up to the last piece. -/
def aheadE (σ : FSt) (dir : Int) (s : List UInt8) : Int × Nat × List UInt8 :=
  let l := piecesS s
  if (startE σ dir s).1 ≠ 0 then ((startE σ dir s).1, 0, [])
  else if (overS σ l.dropLast (startE σ dir s).2).1 ≠ 0 then ((overS σ l.dropLast (startE σ dir s).2).1, 0, [])
  else if hereS σ (overS σ l.dropLast (startE σ dir s).2).2 ≠ 0 then (hereS σ (overS σ l.dropLast (startE σ dir s).2).2, 0, [])
  else match l.getLast? with
    | none => (22, 0, [])
    | some p => if p = dot ∨ p = dots then (22, 0, []) else if 32 < p.length then (36, 0, []) else (0, (overS σ l.dropLast (startE σ dir s).2).2, p)
end Go.Proofs.YtlhmmiolnbgloaaGreatDoor
