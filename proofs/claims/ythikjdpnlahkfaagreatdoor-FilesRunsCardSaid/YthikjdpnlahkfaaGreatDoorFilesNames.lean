/- The tree of files as plain data: what holds of each inode and is kept, whatever is asked: names; directories that may be searched. No program in sight; no condition. -/
import Derived.Test.YthikjdpnlahkfaaGreatDoorFilesAskL
namespace Go.Proofs.YthikjdpnlahkfaaGreatDoor
open Go.RowKit

def glue (c : UInt8) : List (List UInt8) → List (List UInt8)
  | [] => [[c]]
  | p :: q => (c :: p) :: q
theorem splitS_cons {c : UInt8} (e : c ≠ slashB) (r : List UInt8) : splitS (c :: r) = glue c (splitS r) := by
  show (if c = slashB then _ else _) = _
  rw [if_neg e]
  cases splitS r <;> rfl
theorem splitS_slash (r : List UInt8) : splitS (slashB :: r) = [] :: splitS r := by
  show (if slashB = slashB then _ else _) = _
  rw [if_pos rfl]
theorem splitS_ne : ∀ s : List UInt8, splitS s ≠ []
  | [] => by simp [splitS]
  | c :: r => by
    by_cases e : c = slashB
    · subst e; rw [splitS_slash]; simp
    · rw [splitS_cons e]; cases splitS r <;> simp [glue]
theorem splitS_append (s t : List UInt8) : splitS (s ++ slashB :: t) = splitS s ++ splitS t := by
  induction s with
  | nil => show splitS (slashB :: t) = [[]] ++ splitS t; rw [splitS_slash]; rfl
  | cons c r ih =>
    show splitS (c :: (r ++ slashB :: t)) = splitS (c :: r) ++ splitS t
    by_cases e : c = slashB
    · subst e; rw [splitS_slash, splitS_slash, ih]; rfl
    · rw [splitS_cons e, splitS_cons e, ih]
      cases hr : splitS r with
      | nil => exact absurd hr (splitS_ne r)
      | cons p q => rfl
theorem piecesS_append (s t : List UInt8) : piecesS (s ++ slashB :: t) = piecesS s ++ piecesS t := by
  unfold piecesS
  rw [splitS_append, List.filter_append]
def NoSl (s : List UInt8) : Prop := ∀ c ∈ s, c ≠ slashB
theorem splitS_noSl : ∀ {s : List UInt8}, NoSl s → splitS s = [s]
  | [], _ => rfl
  | c :: r, h => by
    have h1 := splitS_noSl (s := r) fun d hd => h d (List.mem_cons_of_mem _ hd)
    show (if c = slashB then [] :: splitS r else match splitS r with | [] => [[c]] | p :: q => (c :: p) :: q) = _
    rw [if_neg (h c (by simp)), h1]
theorem piecesS_noSl {s : List UInt8} (h : NoSl s) (h0 : s ≠ []) : piecesS s = [s] := by
  unfold piecesS
  rw [splitS_noSl h]
  cases s with
  | nil => exact absurd rfl h0
  | cons c r => rfl
theorem splitS_pieces : ∀ {s : List UInt8}, ∀ p ∈ splitS s, NoSl p
  | [], p, h => by
    have : p = [] := by simpa [splitS] using h
    subst this
    intro c hc
    cases hc
  | c :: r, p, h => by
    have ih := splitS_pieces (s := r)
    by_cases e : c = slashB
    · have : p = [] ∨ p ∈ splitS r := by simpa [splitS, e] using h
      rcases this with rfl | h2
      · intro d hd; cases hd
      · exact ih p h2
    · cases hr : splitS r with
      | nil =>
        have : p = [c] := by simpa [splitS, e, hr] using h
        subst this
        intro d hd
        rw [List.mem_singleton] at hd
        rw [hd]; exact e
      | cons q t =>
        have : p = c :: q ∨ p ∈ t := by simpa [splitS, e, hr] using h
        rcases this with rfl | h2
        · intro d hd
          rcases List.mem_cons.1 hd with rfl | hd
          · exact e
          · exact ih q (by rw [hr]; simp) d hd
        · exact ih p (by rw [hr]; exact List.mem_cons_of_mem _ h2)
theorem slashS_noSl {s : List UInt8} (h : NoSl s) : slashS s = false := by
  unfold slashS
  cases hl : s.getLast? with
  | none => rfl
  | some c =>
    have := h c (List.mem_of_getLast? hl)
    simpa using this
/-- What an entry's name is. -/
def NameOk (s : List UInt8) : Prop := s ≠ [] ∧ s ≠ dot ∧ s ≠ dots ∧ NoSl s
theorem ahead_nameOk {σ : FSt} {dir : Int} {s : List UInt8} (h : (aheadE σ dir s).1 = 0) : NameOk (aheadE σ dir s).2.2 := by
  unfold aheadE at h ⊢
  simp only at h ⊢
  by_cases h1 : (startE σ dir s).1 ≠ 0
  · rw [if_pos h1] at h; exact absurd h h1
  rw [if_neg h1] at h ⊢
  by_cases h2 : (overS σ (piecesS s).dropLast (startE σ dir s).2).1 ≠ 0
  · rw [if_pos h2] at h; exact absurd h h2
  rw [if_neg h2] at h ⊢
  by_cases h3 : hereS σ (overS σ (piecesS s).dropLast (startE σ dir s).2).2 ≠ 0
  · rw [if_pos h3] at h; exact absurd h h3
  rw [if_neg h3] at h ⊢
  cases hl : (piecesS s).getLast? with
  | none => rw [hl] at h; exact absurd h (by simp)
  | some q =>
    rw [hl] at h
    simp only at h ⊢
    by_cases h4 : q = dot ∨ q = dots
    · rw [if_pos h4] at h; exact absurd h (by simp)
    rw [if_neg h4] at h ⊢
    by_cases h5 : 32 < q.length
    · rw [if_pos h5] at h; exact absurd h (by simp)
    rw [if_neg h5]
    have h6 : q ∈ piecesS s := List.mem_of_getLast? hl
    unfold piecesS at h6
    obtain ⟨h7, h8⟩ := List.mem_filter.1 h6
    show NameOk q
    exact ⟨fun e => (by rw [e] at h8; cases h8), fun e => h4 (.inl e), fun e => h4 (.inr e), splitS_pieces q h7⟩
/-- Of each inode. -/
def AllN (Q : Nd → Prop) (σ : FSt) : Prop := ∀ i n, σ.nd i = some n → Q n
/-- What is kept by all that doesn't touch a mode. -/
structure Stab (Q : Nd → Prop) : Prop where
  del : ∀ n s, Q n → Q { n with ents := kdel s n.ents }
  put : ∀ n s k, NameOk s → Q n → Q { n with ents := kput s k n.ents }
  oth : ∀ (n : Nd) l h d p, Q n → Q { n with links := l, holds := h, data := d, par := p }
section
variable {Q : Nd → Prop} {σ : FSt}
theorem AllN.put (h : AllN Q σ) {a : Nat} {n : Nd} (ha : σ.nd a = some n) {x : Option Nd} (hx : ∀ m, x = some m → Q m) : AllN Q (σ.put a x) := fun i m hm => by
  rw [put_nd ha] at hm
  by_cases e : i = a
  · rw [if_pos e] at hm; exact hx m hm
  · rw [if_neg e] at hm; exact h i m hm
theorem AllN.rel (h : AllN Q σ) {a : Nat} {g : Nd → Nd} (hg : ∀ n, Q n → Q (g n)) : AllN Q (relS σ a g) := by
  cases ha : σ.nd a with
  | none => unfold relS; rw [ha]; exact h
  | some n => rw [relS_some ha]; exact h.put ha fun m e => by cases e; exact hg n (h a n ha)
theorem AllN.ent (h : AllN Q σ) {a : Nat} {f : KA Nat → KA Nat} (hf : ∀ n, Q n → Q { n with ents := f n.ents }) : AllN Q (entS σ a f) := by
  cases ha : σ.nd a with
  | none => unfold entS; rw [ha]; exact h
  | some n => rw [entS_some ha]; exact h.put ha fun m e => by cases e; exact hf n (h a n ha)
theorem AllN.let_ (h : AllN Q σ) {a : Nat} : AllN Q (letS σ a) := by
  unfold letS
  cases ha : σ.nd a with
  | none => exact h
  | some n =>
    simp only
    split
    · exact h.put ha fun m e => by cases e
    · exact h
theorem AllN.add (h : AllN Q σ) {n : Nd} (hn : Q n) : AllN Q (σ.add n) := fun i m hm => by
  rw [FSt.nd_add] at hm
  split at hm
  · cases hm; exact hn
  · exact h i m hm
theorem AllN.cut (hS : Stab Q) (h : AllN Q σ) {a : Nat} {nm : List UInt8} : AllN Q (cutS σ a nm) := h.ent fun n hn => hS.del n nm hn
theorem AllN.link (hS : Stab Q) (h : AllN Q σ) {a k : Nat} {nm : List UInt8} (hk : NameOk nm) : AllN Q (linkS σ a nm k) := h.ent fun n hn => hS.put n nm k hk hn
theorem AllN.gone (hS : Stab Q) (h : AllN Q σ) {a : Nat} {nm : List UInt8} : AllN Q (goneS σ a nm) := by
  unfold goneS
  cases lookS σ a nm with
  | none => exact h
  | some k => exact ((h.cut hS).rel fun n hn => hS.oth n (n.links - 1) n.holds n.data n.par hn).let_
theorem AllN.carry (hS : Stab Q) (h : AllN Q σ) {a b k : Nat} {x y : List UInt8} (hy : NameOk y) : AllN Q (carryS σ a x b y k) := by
  have h2 := (h.cut hS (a := a) (nm := x)).link hS (a := b) (k := k) hy
  unfold carryS parS
  split
  · exact h2.rel fun n hn => hS.oth n n.links n.holds n.data b hn
  · exact h2
theorem AllN.make (hS : Stab Q) (h : AllN Q σ) {i m : Int} {s : List UInt8} {d : Bool} (hn : ∀ a, Q (newNd d m a)) : AllN Q (makeR σ i s d m).2 := by
  unfold makeR
  split
  · exact h
  · rename_i e
    unfold addS
    refine AllN.link hS (h.add (hn _)) (ahead_nameOk ?_)
    apply Decidable.byContradiction
    intro e2
    apply e
    unfold addE
    rw [if_pos e2]
    exact e2
theorem AllN.ren (hS : Stab Q) (h : AllN Q σ) {i : Int} {s t : List UInt8} : AllN Q (renR σ i s t).2 := by
  unfold renR
  split
  · exact h
  · rename_i e
    have e : renE σ i s t = 0 := by simpa using e
    have ht : (aheadE σ i s).1 = 0 ∧ (lookS σ (aheadE σ i s).2.1 (aheadE σ i s).2.2 = none ∨ (aheadE σ i t).1 = 0) := by
      unfold renE at e
      by_cases h1 : (aheadE σ i s).1 ≠ 0
      · rw [if_pos h1] at e; exact absurd e h1
      rw [if_neg h1] at e
      refine ⟨by simpa using h1, ?_⟩
      cases hl : lookS σ (aheadE σ i s).2.1 (aheadE σ i s).2.2 with
      | none => exact .inl rfl
      | some k =>
        rw [hl] at e
        simp only at e
        refine .inr ?_
        split at e
        · cases e
        · unfold toE at e
          by_cases h2 : (aheadE σ i t).1 ≠ 0
          · rw [if_pos h2] at e; exact absurd e h2
          · simpa using h2
    unfold moveS
    simp only
    split
    · exact h
    · rename_i k hk
      have hy := ahead_nameOk (ht.2.resolve_left (fun e => by rw [hk] at e; cases e))
      split
      · exact h.carry hS hy
      · split
        · exact h
        · exact (h.gone hS).carry hS hy
theorem AllN.linkR (hS : Stab Q) (h : AllN Q σ) {i : Int} {s t : List UInt8} : AllN Q (linkR σ i s t).2 := by
  unfold Go.Proofs.YthikjdpnlahkfaaGreatDoor.linkR
  split
  · exact h
  · rename_i e
    have e : linkE σ i s t = 0 := by simpa using e
    have ht : (aheadE σ i t).1 = 0 := by
      unfold linkE at e
      split at e
      · rename_i h1; exact absurd e h1
      · split at e
        · cases e
        · split at e
          · rename_i h1; exact absurd e h1
          · rename_i h1; simpa using h1
    unfold linkT
    exact AllN.link hS (h.rel fun n hn => hS.oth n (n.links + 1) n.holds n.data n.par hn) (ahead_nameOk ht)
/-- Whatever is asked. -/
theorem AllN.ask (hS : Stab Q) (h : AllN Q σ) {c : CallQ} (h1 : c.what = 1 → ∀ a, Q (newNd false c.m a)) (h2 : c.what = 2 → ∀ a, Q (newNd true c.m a)) (h10 : c.what = 10 → ∀ n, Q n → Q { n with mode := modeN c.m }) : AllN Q (askS σ c) := by
  unfold askS
  split
  · rename_i e; exact h.make hS (h1 e)
  split
  · rename_i e; exact h.make hS (h2 e)
  split
  · unfold unlinkR
    split
    · exact h
    · exact h.gone hS
  split
  · unfold rmdirR
    split
    · exact h
    · exact h.gone hS
  split
  · exact AllN.linkR hS h
  split
  · exact AllN.ren hS h
  split
  · unfold writeR
    cases hn : σ.ndI c.n with
    | none => exact h
    | some n =>
      obtain ⟨k, hk, hkn⟩ := ndI_some hn
      simp only [hk, Int.toNat_natCast]
      split
      · exact h
      split
      · exact h
      split
      · exact h
      split
      · exact h
      split
      · have e9 : ∀ x y : Option Nd, (σ.put k x).put k y = σ.put k y := fun x y => by unfold FSt.put; rw [List.set_set]
        unfold overS' sizeS
        rw [e9]
        exact h.put hkn fun m e => by cases e; exact hS.oth n n.links n.holds _ n.par (h k n hkn)
      · exact h
  split
  · unfold truncR
    cases hn : σ.ndI c.n with
    | none => exact h
    | some n =>
      obtain ⟨k, hk, hkn⟩ := ndI_some hn
      simp only [hk, Int.toNat_natCast]
      split
      · exact h
      split
      · exact h
      split
      · exact h
      split
      · exact h.put hkn fun m e => by cases e; exact hS.oth n n.links n.holds _ n.par (h k n hkn)
      · exact h
  split
  · rename_i e
    unfold chmodR
    cases hn : σ.ndI c.n with
    | none => exact h
    | some n =>
      obtain ⟨k, hk, hkn⟩ := ndI_some hn
      simp only [hk, Int.toNat_natCast]
      exact h.put hkn fun m e2 => by cases e2; exact h10 e n (h k n hkn)
  split
  · unfold holdR
    cases hn : σ.ndI c.n with
    | none => exact h
    | some n =>
      obtain ⟨k, hk, hkn⟩ := ndI_some hn
      simp only [hk, Int.toNat_natCast]
      exact h.put hkn fun m e => by cases e; exact hS.oth n n.links (n.holds + 1) n.data n.par (h k n hkn)
  split
  · unfold dropR
    cases hn : σ.ndI c.n with
    | none => exact h
    | some n =>
      obtain ⟨k, hk, hkn⟩ := ndI_some hn
      simp only [hk, Int.toNat_natCast]
      split
      · exact h
      · exact (h.put hkn fun m e => by cases e; exact hS.oth n n.links (n.holds - 1) n.data n.par (h k n hkn)).let_
  · exact h
end
def NamesN (n : Nd) : Prop := ∀ q ∈ n.ents, NameOk q.1
def OpenN (n : Nd) : Prop := n.d = true → mayN n.mode 1 = true
theorem NamesN.stab : Stab NamesN := ⟨fun n s h q hq => h q (List.mem_filter.1 hq).1, fun n s k hs h q hq => by
  rcases kput_mem hq with rfl | hq
  · exact hs
  · exact h q hq, fun n l h d p hn => hn⟩
theorem OpenN.stab : Stab OpenN := ⟨fun n s h => h, fun n s k hs h => h, fun n l h d p hn => hn⟩
theorem NamesN.new (d : Bool) (m : Int) (a : Nat) : NamesN (newNd d m a) := fun q hq => by cases hq
/-- Names are names, whatever is asked. -/
theorem names_ask {σ : FSt} (h : AllN NamesN σ) (c : CallQ) : AllN NamesN (askS σ c) := h.ask NamesN.stab (fun _ a => NamesN.new _ _ a) (fun _ a => NamesN.new _ _ a) (fun _ n hn => hn)
theorem names_new : AllN NamesN newT := fun i n h => by obtain ⟨_, rfl⟩ := newT_nd h; intro q hq; cases hq
theorem open_new : AllN OpenN newT := fun i n h => by obtain ⟨_, rfl⟩ := newT_nd h; intro _; decide
end Go.Proofs.YthikjdpnlahkfaaGreatDoor
