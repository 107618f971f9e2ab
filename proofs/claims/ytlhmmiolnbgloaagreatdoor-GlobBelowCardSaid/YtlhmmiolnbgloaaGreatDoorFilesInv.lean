/- The tree of files as plain data: how often an inode is named; that the directories are a tree. No program in sight; no condition. -/
import Derived.Test.YtlhmmiolnbgloaaGreatDoorFilesQ
namespace Go.Proofs.YtlhmmiolnbgloaaGreatDoor
open Go.RowKit

def entN (i : Nat) (L : KA Nat) : Nat := (L.filter fun q => q.2 == i).length
def refN (i : Nat) (o : Option Nd) : Nat := match o with | none => 0 | some n => entN i n.ents
/-- How many entries name it. -/
def refs (σ : FSt) (i : Nat) : Nat := (σ.map (refN i)).sum
theorem refs_put {σ : FSt} {a : Nat} {n : Nd} (h : σ.nd a = some n) (x : Option Nd) (i : Nat) : refs (σ.put a x) i + entN i n.ents = refs σ i + refN i x := by
  obtain ⟨h0, hl⟩ := FSt.nd_lt (by rw [h]; rfl)
  have := sum_set (refN i) σ (a - 1) (by omega) x
  rw [FSt.nd_at h0 (by omega)] at h
  rw [h] at this
  exact this
theorem refs_add (σ : FSt) (n : Nd) (i : Nat) : refs (σ.add n) i = refs σ i + entN i n.ents := by
  unfold refs FSt.add
  split
  · rename_i h
    have h2 := sum_set (refN i) σ _ h (some n)
    have h3 : (σ[σ.findIdx (·.isNone)]).isNone = true := List.findIdx_getElem (w := h)
    have h4 : σ[σ.findIdx (·.isNone)] = none := by simpa using h3
    rw [h4] at h2
    simpa [refN] using h2
  · simp [refN]
theorem entN_nil (i : Nat) : entN i [] = 0 := rfl
theorem entN_cons (i : Nat) (q : List UInt8 × Nat) (L : KA Nat) : entN i (q :: L) = entN i L + (if q.2 = i then 1 else 0) := by
  unfold entN
  rw [List.filter_cons]
  by_cases e : q.2 = i
  · rw [if_pos (by simpa using e), if_pos e]; rfl
  · rw [if_neg (by simpa using e), if_neg e]; rfl
theorem entN_kins (i : Nat) (x : List UInt8 × Nat) : ∀ L : KA Nat, entN i (kins x L) = entN i L + (if x.2 = i then 1 else 0)
  | [] => by show entN i [x] = _; rw [entN_cons]
  | y :: r => by
    rw [kins_cons]
    split
    · rw [entN_cons]
    · rw [entN_cons, entN_kins i x r, entN_cons]; omega
theorem entN_kdel (i : Nat) {s : List UInt8} {k : Nat} : ∀ {L : KA Nat}, KSorted L → kget s L = some k → entN i (kdel s L) + (if k = i then 1 else 0) = entN i L
  | [], _, h => by cases h
  | y :: r, hs, h => by
    have hs' := List.pairwise_cons.1 hs
    rw [kget_cons] at h
    by_cases e : (y.1 == s) = true
    · rw [if_pos e] at h
      cases h
      have hr : kdel s (y :: r) = r := by
        unfold kdel
        rw [List.filter_cons, if_neg (by simp [e]), List.filter_eq_self]
        intro q hq
        have h1 := hs'.1 q hq
        have h2 : y.1 = s := by simpa using e
        simp only [Bool.not_eq_true', beq_eq_false_iff_ne]
        rintro h3
        rw [h2, ← h3] at h1
        exact absurd (before_lt h1) (List.lt_irrefl _)
      rw [hr, entN_cons]
    · rw [if_neg e] at h
      have ih := entN_kdel i hs'.2 h
      have hr : kdel s (y :: r) = y :: kdel s r := by
        unfold kdel
        rw [List.filter_cons, if_pos (by simpa using e)]
      rw [hr, entN_cons, entN_cons]
      omega
theorem kdel_none {s : List UInt8} {L : KA Nat} (h : kget s L = none) : kdel s L = L := kdel_same h
theorem entN_kput (i : Nat) {s : List UInt8} {k : Nat} {L : KA Nat} (h : kget s L = none) : entN i (kput s k L) = entN i L + (if k = i then 1 else 0) := by
  unfold kput
  rw [kdel_none h, entN_kins]
theorem entN_mem {i : Nat} {L : KA Nat} {s : List UInt8} (h : (s, i) ∈ L) : 1 ≤ entN i L := by
  unfold entN
  exact List.length_pos_of_mem (List.mem_filter.2 ⟨h, by simp⟩)
theorem refs_ge {σ : FSt} {a : Nat} {n : Nd} (h : σ.nd a = some n) (i : Nat) : entN i n.ents ≤ refs σ i := by
  have := refs_put h none i
  simp [refN] at this
  omega
theorem refs_pos {σ : FSt} {a i : Nat} {n : Nd} (h : σ.nd a = some n) {s : List UInt8} (hs : kget s n.ents = some i) : 1 ≤ refs σ i :=
  Nat.le_trans (entN_mem (kget_mem hs)) (refs_ge h i)
/-- Named once, by one entry. -/
theorem refs_unique {σ : FSt} {i : Nat} (h1 : refs σ i ≤ 1) {a b : Nat} {n m : Nd} (ha : σ.nd a = some n) (hb : σ.nd b = some m) (hn : KSorted n.ents) {s t : List UInt8} (hs : kget s n.ents = some i) (ht : kget t m.ents = some i) : a = b ∧ s = t := by
  have h2 := refs_put ha (some { n with ents := kdel s n.ents }) i
  have h3 := entN_kdel i hn hs
  simp only [refN, if_true] at h2 h3
  have h4 : refs (σ.put a (some { n with ents := kdel s n.ents })) i = 0 := by omega
  by_cases e : a = b
  · subst e
    rw [ha] at hb
    cases hb
    refine ⟨rfl, ?_⟩
    apply Decidable.byContradiction
    intro hne
    have h5 : kget t (kdel s n.ents) = some i := by rw [kget_kdel_other (fun e => hne e.symm)]; exact ht
    have h6 := refs_pos (σ := σ.put a (some { n with ents := kdel s n.ents })) (a := a) (n := { n with ents := kdel s n.ents }) (by rw [FSt.nd_put (by rw [ha]; rfl), if_pos rfl]) h5
    omega
  · have h6 := refs_pos (σ := σ.put a (some { n with ents := kdel s n.ents })) (a := b) (n := m) (by rw [FSt.nd_put (by rw [ha]; rfl), if_neg (fun e2 => e e2.symm)]; exact hb) ht
    omega
/-- So many steps up to e, which is the root or what floats (no other inode on the way is). -/
inductive Dep (σ : FSt) (fl e : Nat) : Nat → Nat → Prop
  | base : e = 1 ∨ e = fl → Dep σ fl e e 0
  | up {i k : Nat} {n : Nd} : i ≠ 1 → i ≠ fl → σ.nd i = some n → n.d = true → n.links ≠ 0 → Dep σ fl e n.par k → Dep σ fl e i (k + 1)
/-- A tree, but for one inode that has a name less than it counts (0: none). -/
structure Inv (σ : FSt) (fl : Nat) : Prop where
  cnt : ∀ i n, σ.nd i = some n → i ≠ 1 → n.links = refs σ i + (if i = fl then 1 else 0)
  root : refs σ 1 = 0
  one : ∀ i n, σ.nd i = some n → n.d = true → n.links ≤ 1
  dead : ∀ i n, σ.nd i = some n → n.d = true → n.links = 0 → n.ents = []
  up : ∀ i n, σ.nd i = some n → n.d = true → n.links ≠ 0 → i ≠ 1 → i ≠ fl → ∃ m nm, σ.nd n.par = some m ∧ m.d = true ∧ kget nm m.ents = some i
  deep : ∀ i n, σ.nd i = some n → n.d = true → n.links ≠ 0 → ∃ e k, Dep σ fl e i k
  srt : ∀ i n, σ.nd i = some n → KSorted n.ents
  file : ∀ i n, σ.nd i = some n → n.d = false → n.ents = []
  alive : ∀ i n, σ.nd i = some n → n.links ≠ 0 ∨ n.holds ≠ 0
  flat : fl ≠ 1
  rootp : ∀ n, σ.nd 1 = some n → n.par = 1
theorem Dep.end_ok {σ : FSt} {fl e i k : Nat} (h : Dep σ fl e i k) : e = 1 ∨ e = fl := by induction h <;> assumption
/-- The way up, where nothing on it has turned. -/
theorem Dep.same {σ τ : FSt} {fl fl' e : Nat} (he : e = 1 ∨ e = fl') (h : ∀ i n, i ≠ 1 → i ≠ fl → σ.nd i = some n → n.d = true → n.links ≠ 0 → i ≠ fl' ∧ ∃ m, τ.nd i = some m ∧ m.d = true ∧ m.links ≠ 0 ∧ m.par = n.par) :
    ∀ {i k : Nat}, Dep σ fl e i k → Dep τ fl' e i k
  | _, _, .base _ => .base he
  | i, _, .up h1 h2 h3 h4 h5 h6 => by
    obtain ⟨h7, m, h8, h9, h10, h11⟩ := h i _ h1 h2 h3 h4 h5
    exact .up h1 h7 h8 h9 h10 (h11 ▸ Dep.same he h h6)
theorem nd_zero (σ : FSt) : σ.nd 0 = none := rfl
theorem nd_pos {σ : FSt} {i : Nat} {n : Nd} (h : σ.nd i = some n) : i ≠ 0 := fun e => by rw [e, nd_zero] at h; cases h
theorem put_nd {σ : FSt} {a : Nat} {n : Nd} (h : σ.nd a = some n) (x : Option Nd) (j : Nat) : (σ.put a x).nd j = if j = a then x else σ.nd j := FSt.nd_put (by rw [h]; rfl) x j
/-- An inode changed in what the tree doesn't look at. -/
theorem Inv.soft {σ : FSt} {fl : Nat} (h : Inv σ fl) {i : Nat} {n n' : Nd} (hn : σ.nd i = some n) (hd : n'.d = n.d) (hl : n'.links = n.links) (he : n'.ents = n.ents) (hp : n'.par = n.par) (ha : n'.links ≠ 0 ∨ n'.holds ≠ 0) : Inv (σ.put i (some n')) fl := by
  have hnd := put_nd hn (some n')
  have hr : ∀ j, refs (σ.put i (some n')) j = refs σ j := fun j => by
    have := refs_put hn (some n') j
    simp only [refN, he] at this
    omega
  have cs : ∀ j m, (σ.put i (some n')).nd j = some m → ∃ m0, σ.nd j = some m0 ∧ m.d = m0.d ∧ m.links = m0.links ∧ m.ents = m0.ents ∧ m.par = m0.par := fun j m hj => by
    rw [hnd] at hj
    by_cases e : j = i
    · rw [if_pos e] at hj; cases hj; exact ⟨n, by rw [e]; exact hn, hd, hl, he, hp⟩
    · rw [if_neg e] at hj; exact ⟨m, hj, rfl, rfl, rfl, rfl⟩
  have cf : ∀ j m0, σ.nd j = some m0 → ∃ m, (σ.put i (some n')).nd j = some m ∧ m.d = m0.d ∧ m.links = m0.links ∧ m.ents = m0.ents ∧ m.par = m0.par := fun j m0 hj => by
    by_cases e : j = i
    · rw [e, hn] at hj; cases hj; exact ⟨n', by rw [hnd, if_pos e], hd, hl, he, hp⟩
    · exact ⟨m0, by rw [hnd, if_neg e]; exact hj, rfl, rfl, rfl, rfl⟩
  refine ⟨fun j m hj h1 => ?_, by rw [hr]; exact h.root, fun j m hj h1 => ?_, fun j m hj h1 h2 => ?_, fun j m hj h1 h2 h3 h4 => ?_, fun j m hj h1 h2 => ?_, fun j m hj => ?_, fun j m hj h1 => ?_, fun j m hj => ?_, h.flat, fun m hj => by obtain ⟨m0, a1, a2, a3, a4, a5⟩ := cs 1 m hj; rw [a5]; exact h.rootp m0 a1⟩
  · obtain ⟨m0, a1, a2, a3, a4, a5⟩ := cs j m hj
    rw [a3, hr]; exact h.cnt j m0 a1 h1
  · obtain ⟨m0, a1, a2, a3, a4, a5⟩ := cs j m hj
    rw [a3]; exact h.one j m0 a1 (a2 ▸ h1)
  · obtain ⟨m0, a1, a2, a3, a4, a5⟩ := cs j m hj
    rw [a4]; exact h.dead j m0 a1 (a2 ▸ h1) (a3 ▸ h2)
  · obtain ⟨m0, a1, a2, a3, a4, a5⟩ := cs j m hj
    obtain ⟨q, nm, b1, b2, b3⟩ := h.up j m0 a1 (a2 ▸ h1) (a3 ▸ h2) h3 h4
    obtain ⟨q', c1, c2, c3, c4, c5⟩ := cf _ q b1
    exact ⟨q', nm, by rw [a5]; exact c1, c2.trans b2, by rw [c4]; exact b3⟩
  · obtain ⟨m0, a1, a2, a3, a4, a5⟩ := cs j m hj
    obtain ⟨e, k, hk⟩ := h.deep j m0 a1 (a2 ▸ h1) (a3 ▸ h2)
    exact ⟨e, k, hk.same hk.end_ok fun i0 n0 b1 b2 b3 b4 b5 => ⟨b2, by
      obtain ⟨q', c1, c2, c3, c4, c5⟩ := cf _ n0 b3
      exact ⟨q', c1, c2.trans b4, by rw [c3]; exact b5, c5⟩⟩⟩
  · obtain ⟨m0, a1, a2, a3, a4, a5⟩ := cs j m hj
    rw [a4]; exact h.srt j m0 a1
  · obtain ⟨m0, a1, a2, a3, a4, a5⟩ := cs j m hj
    rw [a4]; exact h.file j m0 a1 (a2 ▸ h1)
  · rw [hnd] at hj
    by_cases e : j = i
    · rw [if_pos e] at hj; cases hj; exact ha
    · rw [if_neg e] at hj; exact h.alive j m hj
theorem refs_exists {i : Nat} : ∀ {σ : FSt}, refs σ i ≠ 0 → ∃ (j : Nat) (n : Nd) (q : List UInt8 × Nat), σ[j]? = some (some n) ∧ q ∈ n.ents ∧ q.2 = i
  | [], h => absurd rfl h
  | o :: σ, h => by
    unfold refs at h
    simp only [List.map_cons, List.sum_cons] at h
    by_cases h1 : refN i o = 0
    · obtain ⟨j, n, q, h2, h3⟩ := refs_exists (σ := σ) (i := i) (by unfold refs; omega)
      exact ⟨j + 1, n, q, by simpa using h2, h3⟩
    · cases o with
      | none => exact absurd rfl h1
      | some n =>
        simp only [refN, entN] at h1
        obtain ⟨q, hq⟩ := List.exists_mem_of_length_pos (Nat.pos_of_ne_zero h1)
        obtain ⟨h2, h3⟩ := List.mem_filter.1 hq
        exact ⟨0, n, q, rfl, h2, by simpa using h3⟩
theorem nd_of_get {σ : FSt} {j : Nat} {n : Nd} (h : σ[j]? = some (some n)) : σ.nd (j + 1) = some n := by
  unfold FSt.nd
  rw [if_neg (by omega), Nat.add_sub_cancel, h]
  rfl
theorem refs_none {σ : FSt} (h : Live σ) {i : Nat} (hi : σ.nd i = none) : refs σ i = 0 := by
  apply Decidable.byContradiction
  intro h1
  obtain ⟨j, n, q, h2, h3, h4⟩ := refs_exists h1
  have := h.ents _ _ (nd_of_get h2) q h3
  rw [h4, hi] at this
  cases this
theorem kget_nil_none {s : List UInt8} {L : KA Nat} {k : Nat} (h : kget s L = some k) (h2 : L = []) : False := by rw [h2] at h; cases h
/-- Above a directory that is named there is one that is named. -/
theorem Inv.above {σ : FSt} {fl : Nat} (h : Inv σ fl) {i : Nat} {n : Nd} (hn : σ.nd i = some n) (hd : n.d = true) (hl : n.links ≠ 0) (h1 : i ≠ 1) (h2 : i ≠ fl) : ∃ m nm, σ.nd n.par = some m ∧ m.d = true ∧ m.links ≠ 0 ∧ kget nm m.ents = some i := by
  obtain ⟨m, nm, h3, h4, h5⟩ := h.up i n hn hd hl h1 h2
  exact ⟨m, nm, h3, h4, fun e => kget_nil_none h5 (h.dead _ m h3 h4 e), h5⟩
/-- Each directory that is named leads to the root. -/
theorem Inv.to_root {σ : FSt} (h : Inv σ 0) {i : Nat} {n : Nd} (hn : σ.nd i = some n) (hd : n.d = true) (hl : n.links ≠ 0) : ∃ k, Dep σ 0 1 i k := by
  obtain ⟨e, k, hk⟩ := h.deep i n hn hd hl
  have key : ∀ {k i : Nat}, Dep σ 0 e i k → ∀ n, σ.nd i = some n → n.d = true → n.links ≠ 0 → Dep σ 0 1 i k := by
    intro k
    induction k with
    | zero =>
      intro i hk n hn hd hl
      cases hk with
      | base he =>
        rcases he with rfl | rfl
        · exact .base (.inl rfl)
        · exact absurd hn (by rw [nd_zero]; simp)
    | succ k ih =>
      intro i hk n hn hd hl
      cases hk with
      | up h1 h2 h3 h4 h5 h6 =>
        rw [h3] at hn
        cases hn
        obtain ⟨m, nm, b1, b2, b3, _⟩ := h.above h3 h4 h5 h1 h2
        exact .up h1 h2 h3 h4 h5 (ih h6 m b1 b2 b3)
  exact ⟨k, key hk n hn hd hl⟩
/-- A new inode, that nothing names yet. -/
theorem Inv.add {σ : FSt} (h : Inv σ 0) (hL : Live σ) (d : Bool) (m : Int) (a : Nat) : Inv (σ.add (newNd d m a)) σ.free := by
  have hnd := FSt.nd_add σ (newNd d m a)
  have hr : ∀ j, refs (σ.add (newNd d m a)) j = refs σ j := fun j => by rw [refs_add]; rfl
  have hfree := refs_none hL (FSt.nd_free σ)
  have ne : ∀ j n, σ.nd j = some n → j ≠ σ.free := fun j n hj => Live.ne_free (by rw [hj]; rfl)
  have cs : ∀ j n, (σ.add (newNd d m a)).nd j = some n → (j = σ.free ∧ n = newNd d m a) ∨ (j ≠ σ.free ∧ σ.nd j = some n) := fun j n hj => by
    rw [hnd] at hj
    by_cases e : j = σ.free
    · rw [if_pos e] at hj; cases hj; exact .inl ⟨e, rfl⟩
    · rw [if_neg e] at hj; exact .inr ⟨e, hj⟩
  have cf : ∀ j n, σ.nd j = some n → (σ.add (newNd d m a)).nd j = some n := fun j n hj => by rw [hnd, if_neg (ne j n hj)]; exact hj
  refine ⟨fun j n hj h1 => ?_, by rw [hr]; exact h.root, fun j n hj h1 => ?_, fun j n hj h1 h2 => ?_, fun j n hj h1 h2 h3 h4 => ?_, fun j n hj h1 h2 => ?_, fun j n hj => ?_, fun j n hj h1 => ?_, fun j n hj => ?_, fun e => hL.one_ne_free e.symm, fun n hj => h.rootp n ((cs 1 n hj).resolve_left fun e => hL.one_ne_free e.1).2⟩
  · rw [hr]
    rcases cs j n hj with ⟨rfl, rfl⟩ | ⟨e, hj⟩
    · rw [hfree, if_pos rfl]; rfl
    · rw [if_neg e, h.cnt j n hj h1, if_neg (nd_pos hj)]
  · rcases cs j n hj with ⟨rfl, rfl⟩ | ⟨e, hj⟩
    · exact Nat.le_refl _
    · exact h.one j n hj h1
  · rcases cs j n hj with ⟨rfl, rfl⟩ | ⟨e, hj⟩
    · rfl
    · exact h.dead j n hj h1 h2
  · rcases cs j n hj with ⟨rfl, rfl⟩ | ⟨e, hj⟩
    · exact absurd rfl h4
    · obtain ⟨q, nm, b1, b2, b3⟩ := h.up j n hj h1 h2 h3 (nd_pos hj)
      exact ⟨q, nm, cf _ _ b1, b2, b3⟩
  · rcases cs j n hj with ⟨rfl, rfl⟩ | ⟨e, hj⟩
    · exact ⟨σ.free, 0, .base (.inr rfl)⟩
    · obtain ⟨k, hk⟩ := h.to_root hj h1 h2
      exact ⟨1, k, hk.same (.inl rfl) fun i n b1 b2 b3 b4 b5 => ⟨ne i n b3, n, cf i n b3, b4, b5, rfl⟩⟩
  · rcases cs j n hj with ⟨rfl, rfl⟩ | ⟨e, hj⟩
    · exact List.Pairwise.nil
    · exact h.srt j n hj
  · rcases cs j n hj with ⟨rfl, rfl⟩ | ⟨e, hj⟩
    · rfl
    · exact h.file j n hj h1
  · rcases cs j n hj with ⟨rfl, rfl⟩ | ⟨e, hj⟩
    · exact .inl (by show (1 : Nat) ≠ 0; decide)
    · exact h.alive j n hj
/-- The way up, where it may end earlier now. -/
theorem Dep.split {σ τ : FSt} {k : Nat} (h : ∀ i n, σ.nd i = some n → n.d = true → n.links ≠ 0 → i ≠ k → ∃ m, τ.nd i = some m ∧ m.d = true ∧ m.links ≠ 0 ∧ m.par = n.par) : ∀ {j i : Nat}, Dep σ 0 1 i j → ∃ e j', Dep τ k e i j' := by
  intro j
  induction j with
  | zero => intro i hd; cases hd; exact ⟨1, 0, .base (.inl rfl)⟩
  | succ j ih =>
    intro i hd
    by_cases e : i = k
    · subst e; exact ⟨i, 0, .base (.inr rfl)⟩
    · cases hd with
      | up h1 h2 h3 h4 h5 h6 =>
        obtain ⟨m, b1, b2, b3, b4⟩ := h i _ h3 h4 h5 e
        obtain ⟨e', j', h7⟩ := ih h6
        exact ⟨e', j' + 1, .up h1 e b1 b2 b3 (b4 ▸ h7)⟩
/-- An entry less: what it named floats. -/
theorem Inv.cut {σ : FSt} (h : Inv σ 0) {a k : Nat} {n : Nd} {nm : List UInt8} (hn : σ.nd a = some n) (hk : kget nm n.ents = some k) : Inv (cutS σ a nm) k := by
  have hσ : cutS σ a nm = σ.put a (some { n with ents := kdel nm n.ents }) := entS_some hn _
  rw [hσ]
  have hnd := put_nd hn (some { n with ents := kdel nm n.ents })
  have hr : ∀ j, refs (σ.put a (some { n with ents := kdel nm n.ents })) j + (if k = j then 1 else 0) = refs σ j := fun j => by
    have h1 := refs_put hn (some { n with ents := kdel nm n.ents }) j
    have h2 := entN_kdel j (h.srt a n hn) hk
    simp only [refN] at h1
    omega
  have hk1 : k ≠ 1 := fun e => by have := hr 1; rw [if_pos e, h.root] at this; omega
  have cs : ∀ j m, (σ.put a (some { n with ents := kdel nm n.ents })).nd j = some m → ∃ m0, σ.nd j = some m0 ∧ m.d = m0.d ∧ m.links = m0.links ∧ m.par = m0.par ∧ m.holds = m0.holds ∧ ((j = a ∧ m.ents = kdel nm m0.ents) ∨ (j ≠ a ∧ m.ents = m0.ents)) := fun j m hj => by
    rw [hnd] at hj
    by_cases e : j = a
    · rw [if_pos e] at hj; cases hj; exact ⟨n, by rw [e]; exact hn, rfl, rfl, rfl, rfl, .inl ⟨e, rfl⟩⟩
    · rw [if_neg e] at hj; exact ⟨m, hj, rfl, rfl, rfl, rfl, .inr ⟨e, rfl⟩⟩
  have cf : ∀ j m0, σ.nd j = some m0 → ∃ m, (σ.put a (some { n with ents := kdel nm n.ents })).nd j = some m ∧ m.d = m0.d ∧ m.links = m0.links ∧ m.par = m0.par ∧ (m.ents = m0.ents ∨ (j = a ∧ m.ents = kdel nm m0.ents)) := fun j m0 hj => by
    by_cases e : j = a
    · rw [e, hn] at hj; cases hj; exact ⟨{ n with ents := kdel nm n.ents }, by rw [hnd, if_pos e], rfl, rfl, rfl, .inr ⟨e, rfl⟩⟩
    · exact ⟨m0, by rw [hnd, if_neg e]; exact hj, rfl, rfl, rfl, .inl rfl⟩
  have knil : kdel nm ([] : KA Nat) = [] := rfl
  refine ⟨fun j m hj h1 => ?_, by have := hr 1; rw [h.root] at this; omega, fun j m hj h1 => ?_, fun j m hj h1 h2 => ?_, fun j m hj h1 h2 h3 h4 => ?_, fun j m hj h1 h2 => ?_, fun j m hj => ?_, fun j m hj h1 => ?_, fun j m hj => ?_, hk1, fun m hj => by obtain ⟨m0, a1, a2, a3, a4, a5, a6⟩ := cs 1 m hj; rw [a4]; exact h.rootp m0 a1⟩
  · obtain ⟨m0, a1, a2, a3, a4, a5, a6⟩ := cs j m hj
    have h2 := hr j
    have h3 := h.cnt j m0 a1 h1
    rw [if_neg (nd_pos a1)] at h3
    rw [a3, h3, ← h2]
    by_cases e : j = k
    · rw [if_pos e, if_pos e.symm]; try omega
    · rw [if_neg e, if_neg (fun e2 => e e2.symm)]; try omega
  · obtain ⟨m0, a1, a2, a3, a4, a5, a6⟩ := cs j m hj
    rw [a3]; exact h.one j m0 a1 (a2 ▸ h1)
  · obtain ⟨m0, a1, a2, a3, a4, a5, a6⟩ := cs j m hj
    have h3 := h.dead j m0 a1 (a2 ▸ h1) (a3 ▸ h2)
    rcases a6 with ⟨_, e⟩ | ⟨_, e⟩
    · rw [e, h3]; rfl
    · rw [e, h3]
  · obtain ⟨m0, a1, a2, a3, a4, a5, a6⟩ := cs j m hj
    obtain ⟨q, nm', b1, b2, b3⟩ := h.up j m0 a1 (a2 ▸ h1) (a3 ▸ h2) h3 (nd_pos a1)
    obtain ⟨q', c1, c2, c3, c4, c5⟩ := cf _ q b1
    refine ⟨q', nm', by rw [a4]; exact c1, c2.trans b2, ?_⟩
    rcases c5 with c5 | ⟨ea, c5⟩
    · rw [c5]; exact b3
    · rw [c5, kget_kdel_other (fun e => ?_)]
      · exact b3
      · rw [ea, hn] at b1
        cases b1
        rw [e, hk] at b3
        exact h4 (Option.some.inj b3).symm
  · obtain ⟨m0, a1, a2, a3, a4, a5, a6⟩ := cs j m hj
    obtain ⟨d, hd⟩ := h.to_root a1 (a2 ▸ h1) (a3 ▸ h2)
    exact hd.split fun i0 n0 b3 b4 b5 _ => by
      obtain ⟨q', c1, c2, c3, c4, c5⟩ := cf _ n0 b3
      exact ⟨q', c1, c2.trans b4, by rw [c3]; exact b5, c4⟩
  · obtain ⟨m0, a1, a2, a3, a4, a5, a6⟩ := cs j m hj
    rcases a6 with ⟨_, e⟩ | ⟨_, e⟩
    · rw [e]; exact (h.srt j m0 a1).kdel _
    · rw [e]; exact h.srt j m0 a1
  · obtain ⟨m0, a1, a2, a3, a4, a5, a6⟩ := cs j m hj
    have h3 := h.file j m0 a1 (a2 ▸ h1)
    rcases a6 with ⟨_, e⟩ | ⟨_, e⟩
    · rw [e, h3]; rfl
    · rw [e, h3]
  · obtain ⟨m0, a1, a2, a3, a4, a5, a6⟩ := cs j m hj
    rw [a3, a5]; exact h.alive j m0 a1
theorem Dep.app {σ τ : FSt} {k : Nat} (h : ∀ i n, i ≠ 1 → i ≠ k → σ.nd i = some n → n.d = true → n.links ≠ 0 → ∃ m, τ.nd i = some m ∧ m.d = true ∧ m.links ≠ 0 ∧ m.par = n.par) {j0 : Nat} (h0 : Dep τ 0 1 k j0) : ∀ {j i : Nat}, Dep σ k k i j → ∃ j', Dep τ 0 1 i j' := by
  intro j
  induction j with
  | zero => intro i hd; cases hd; exact ⟨j0, h0⟩
  | succ j ih =>
    intro i hd
    cases hd with
    | up h1 h2 h3 h4 h5 h6 =>
      obtain ⟨m, b1, b2, b3, b4⟩ := h i _ h1 h2 h3 h4 h5
      obtain ⟨j', h7⟩ := ih h6
      exact ⟨j' + 1, .up h1 (nd_pos b1) b1 b2 b3 (b4 ▸ h7)⟩
theorem Inv.float_dir {σ : FSt} {k : Nat} (h : Inv σ k) {nk : Nd} (hk : σ.nd k = some nk) : ∀ {j i : Nat}, Dep σ k k i j → ∀ n, σ.nd i = some n → n.d = true → n.links ≠ 0 → nk.d = true := by
  intro j
  induction j with
  | zero =>
    intro i hd n hn hdir hl
    cases hd with
    | base he => rw [hk] at hn; cases hn; exact hdir
  | succ j ih =>
    intro i hd n hn hdir hl
    cases hd with
    | up h1 h2 h3 h4 h5 h6 =>
      obtain ⟨m, nm, b1, b2, b3, _⟩ := h.above h3 h4 h5 h1 h2
      exact ih h6 m b1 b2 b3
/-- An entry more, for what floats. -/
theorem Inv.link {σ : FSt} {k : Nat} (h : Inv σ k) {b : Nat} {nk m : Nd} {nm : List UInt8} (hk : σ.nd k = some nk) (hb : σ.nd b = some m) (hd : m.d = true) (hl : m.links ≠ 0) (hg : kget nm m.ents = none) (hdir : nk.d = true → nk.par = b ∧ ∃ j, Dep σ k 1 b j) : Inv (linkS σ b nm k) 0 := by
  have hσ : linkS σ b nm k = σ.put b (some { m with ents := kput nm k m.ents }) := entS_some hb _
  rw [hσ]
  have hnd := put_nd hb (some { m with ents := kput nm k m.ents })
  have hr : ∀ j, refs (σ.put b (some { m with ents := kput nm k m.ents })) j = refs σ j + (if k = j then 1 else 0) := fun j => by
    have h1 := refs_put hb (some { m with ents := kput nm k m.ents }) j
    have h2 := entN_kput j (k := k) hg
    simp only [refN] at h1
    omega
  have hk1 : k ≠ 1 := h.flat
  have hbk : b ≠ k := fun e => by
    subst e
    rw [hk] at hb
    cases hb
    obtain ⟨_, j, hj⟩ := hdir hd
    cases hj with
    | base _ => exact hk1 rfl
    | up _ h2 _ _ _ _ => exact h2 rfl
  have cs : ∀ j x, (σ.put b (some { m with ents := kput nm k m.ents })).nd j = some x → ∃ x0, σ.nd j = some x0 ∧ x.d = x0.d ∧ x.links = x0.links ∧ x.par = x0.par ∧ x.holds = x0.holds ∧ ((j = b ∧ x.ents = kput nm k x0.ents) ∨ (j ≠ b ∧ x.ents = x0.ents)) := fun j x hj => by
    rw [hnd] at hj
    by_cases e : j = b
    · rw [if_pos e] at hj; cases hj; exact ⟨m, by rw [e]; exact hb, rfl, rfl, rfl, rfl, .inl ⟨e, rfl⟩⟩
    · rw [if_neg e] at hj; exact ⟨x, hj, rfl, rfl, rfl, rfl, .inr ⟨e, rfl⟩⟩
  have cf : ∀ j x0, σ.nd j = some x0 → ∃ x, (σ.put b (some { m with ents := kput nm k m.ents })).nd j = some x ∧ x.d = x0.d ∧ x.links = x0.links ∧ x.par = x0.par ∧ (x.ents = x0.ents ∨ (j = b ∧ x.ents = kput nm k x0.ents)) := fun j x0 hj => by
    by_cases e : j = b
    · rw [e, hb] at hj; cases hj; exact ⟨{ m with ents := kput nm k m.ents }, by rw [hnd, if_pos e], rfl, rfl, rfl, .inr ⟨e, rfl⟩⟩
    · exact ⟨x0, by rw [hnd, if_neg e]; exact hj, rfl, rfl, rfl, .inl rfl⟩
  have tr : ∀ i n, i ≠ 1 → i ≠ k → σ.nd i = some n → n.d = true → n.links ≠ 0 → ∃ x, (σ.put b (some { m with ents := kput nm k m.ents })).nd i = some x ∧ x.d = true ∧ x.links ≠ 0 ∧ x.par = n.par := fun i n _ _ b3 b4 b5 => by
    obtain ⟨q', c1, c2, c3, c4, c5⟩ := cf _ n b3
    exact ⟨q', c1, c2.trans b4, by rw [c3]; exact b5, c4⟩
  refine ⟨fun j x hj h1 => ?_, by rw [hr, h.root, if_neg hk1], fun j x hj h1 => ?_, fun j x hj h1 h2 => ?_, fun j x hj h1 h2 h3 h4 => ?_, fun j x hj h1 h2 => ?_, fun j x hj => ?_, fun j x hj h1 => ?_, fun j x hj => ?_, by decide, fun x hj => by obtain ⟨x0, a1, a2, a3, a4, a5, a6⟩ := cs 1 x hj; rw [a4]; exact h.rootp x0 a1⟩
  · obtain ⟨x0, a1, a2, a3, a4, a5, a6⟩ := cs j x hj
    rw [a3, h.cnt j x0 a1 h1, hr, if_neg (nd_pos a1)]
    by_cases e : j = k
    · rw [if_pos e, if_pos e.symm]
    · rw [if_neg e, if_neg (fun e2 => e e2.symm)]
  · obtain ⟨x0, a1, a2, a3, a4, a5, a6⟩ := cs j x hj
    rw [a3]; exact h.one j x0 a1 (a2 ▸ h1)
  · obtain ⟨x0, a1, a2, a3, a4, a5, a6⟩ := cs j x hj
    rcases a6 with ⟨e, _⟩ | ⟨_, e⟩
    · rw [e, hb] at a1
      cases a1
      exact absurd (a3 ▸ h2) hl
    · rw [e]; exact h.dead j x0 a1 (a2 ▸ h1) (a3 ▸ h2)
  · obtain ⟨x0, a1, a2, a3, a4, a5, a6⟩ := cs j x hj
    by_cases e : j = k
    · subst e
      rw [hk] at a1
      cases a1
      obtain ⟨e1, _⟩ := hdir (a2 ▸ h1)
      obtain ⟨x', c1, c2, c3, c4, c5⟩ := cf b m hb
      exact ⟨{ m with ents := kput nm j m.ents }, nm, by rw [a4, e1, hnd, if_pos rfl], hd, kget_kput_same _ _ _⟩
    · obtain ⟨q, nm', b1, b2, b3⟩ := h.up j x0 a1 (a2 ▸ h1) (a3 ▸ h2) h3 e
      obtain ⟨q', c1, c2, c3, c4, c5⟩ := cf _ q b1
      refine ⟨q', nm', by rw [a4]; exact c1, c2.trans b2, ?_⟩
      rcases c5 with c5 | ⟨ea, c5⟩
      · rw [c5]; exact b3
      · rw [c5, kget_kput_other (fun e => ?_)]
        · exact b3
        · rw [ea, hb] at b1
          cases b1
          rw [e, hg] at b3
          cases b3
  · obtain ⟨x0, a1, a2, a3, a4, a5, a6⟩ := cs j x hj
    obtain ⟨e, d, hde⟩ := h.deep j x0 a1 (a2 ▸ h1) (a3 ▸ h2)
    rcases hde.end_ok with he | he
    · rw [he] at hde
      exact ⟨1, d, hde.same (.inl rfl) fun i n b1 b2 b3 b4 b5 => ⟨nd_pos b3, tr i n b1 b2 b3 b4 b5⟩⟩
    · rw [he] at hde
      have hnkd := h.float_dir hk hde x0 a1 (a2 ▸ h1) (a3 ▸ h2)
      obtain ⟨e1, j0, hj0⟩ := hdir hnkd
      have hkl : nk.links ≠ 0 := by have := h.cnt k nk hk hk1; rw [if_pos rfl] at this; omega
      have hup : Dep (σ.put b (some { m with ents := kput nm k m.ents })) 0 1 b j0 := hj0.same (.inl rfl) fun i n b1 b2 b3 b4 b5 => ⟨nd_pos b3, tr i n b1 b2 b3 b4 b5⟩
      have hk' : (σ.put b (some { m with ents := kput nm k m.ents })).nd k = some nk := by rw [hnd, if_neg (fun e2 => hbk e2.symm)]; exact hk
      have h0 : Dep (σ.put b (some { m with ents := kput nm k m.ents })) 0 1 k (j0 + 1) := .up hk1 (nd_pos hk) hk' hnkd hkl (e1 ▸ hup)
      obtain ⟨j', h'⟩ := Dep.app tr h0 hde
      exact ⟨1, j', h'⟩
  · obtain ⟨x0, a1, a2, a3, a4, a5, a6⟩ := cs j x hj
    rcases a6 with ⟨_, e⟩ | ⟨_, e⟩
    · rw [e]; exact (h.srt j x0 a1).kput _ _
    · rw [e]; exact h.srt j x0 a1
  · obtain ⟨x0, a1, a2, a3, a4, a5, a6⟩ := cs j x hj
    rcases a6 with ⟨e, _⟩ | ⟨_, e⟩
    · rw [e, hb] at a1
      cases a1
      rw [a2, hd] at h1
      cases h1
    · rw [e]; exact h.file j x0 a1 (a2 ▸ h1)
  · obtain ⟨x0, a1, a2, a3, a4, a5, a6⟩ := cs j x hj
    rw [a3, a5]; exact h.alive j x0 a1
end Go.Proofs.YtlhmmiolnbgloaaGreatDoor
