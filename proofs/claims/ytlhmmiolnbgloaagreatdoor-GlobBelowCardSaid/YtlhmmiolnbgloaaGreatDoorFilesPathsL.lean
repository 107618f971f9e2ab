/- The tree of files as plain data: what holds of each inode and is kept, whatever is asked: names; directories that may be searched. No program in sight; no condition. -/
import Derived.Test.YtlhmmiolnbgloaaGreatDoorFilesAskL
namespace Go.Proofs.YtlhmmiolnbgloaaGreatDoor
open Go.RowKit

def glue (c : UInt8) : List (List UInt8) → List (List UInt8)
  | [] => [[c]]
  | p :: q => (c :: p) :: q
theorem splitS_cons {c : UInt8} (e : c ≠ slashB) (r : List UInt8) : splitS (c :: r) = glue c (splitS r) := by
  show (if c = slashB then _ else _) = _
  rw [if_neg e]
  cases splitS r <;> rfl
theorem splitS_slash (r : List UInt8) : splitS (slashB :: r) = [] :: splitS r := by
  show (if slashB = slashB then _ else _) = _
  rw [if_pos rfl]
theorem splitS_ne : ∀ s : List UInt8, splitS s ≠ []
  | [] => by simp [splitS]
  | c :: r => by
    by_cases e : c = slashB
    · subst e; rw [splitS_slash]; simp
    · rw [splitS_cons e]; cases splitS r <;> simp [glue]
theorem splitS_append (s t : List UInt8) : splitS (s ++ slashB :: t) = splitS s ++ splitS t := by
  induction s with
  | nil => show splitS (slashB :: t) = [[]] ++ splitS t; rw [splitS_slash]; rfl
  | cons c r ih =>
    show splitS (c :: (r ++ slashB :: t)) = splitS (c :: r) ++ splitS t
    by_cases e : c = slashB
    · subst e; rw [splitS_slash, splitS_slash, ih]; rfl
    · rw [splitS_cons e, splitS_cons e, ih]
      cases hr : splitS r with
      | nil => exact absurd hr (splitS_ne r)
      | cons p q => rfl
theorem piecesS_append (s t : List UInt8) : piecesS (s ++ slashB :: t) = piecesS s ++ piecesS t := by
  unfold piecesS
  rw [splitS_append, List.filter_append]
def NoSl (s : List UInt8) : Prop := ∀ c ∈ s, c ≠ slashB
theorem splitS_noSl : ∀ {s : List UInt8}, NoSl s → splitS s = [s]
  | [], _ => rfl
  | c :: r, h => by
    have h1 := splitS_noSl (s := r) fun d hd => h d (List.mem_cons_of_mem _ hd)
    show (if c = slashB then [] :: splitS r else match splitS r with | [] => [[c]] | p :: q => (c :: p) :: q) = _
    rw [if_neg (h c (by simp)), h1]
theorem piecesS_noSl {s : List UInt8} (h : NoSl s) (h0 : s ≠ []) : piecesS s = [s] := by
  unfold piecesS
  rw [splitS_noSl h]
  cases s with
  | nil => exact absurd rfl h0
  | cons c r => rfl
theorem splitS_pieces : ∀ {s : List UInt8}, ∀ p ∈ splitS s, NoSl p
  | [], p, h => by
    have : p = [] := by simpa [splitS] using h
    subst this
    intro c hc
    cases hc
  | c :: r, p, h => by
    have ih := splitS_pieces (s := r)
    by_cases e : c = slashB
    · have : p = [] ∨ p ∈ splitS r := by simpa [splitS, e] using h
      rcases this with rfl | h2
      · intro d hd; cases hd
      · exact ih p h2
    · cases hr : splitS r with
      | nil =>
        have : p = [c] := by simpa [splitS, e, hr] using h
        subst this
        intro d hd
        rw [List.mem_singleton] at hd
        rw [hd]; exact e
      | cons q t =>
        have : p = c :: q ∨ p ∈ t := by simpa [splitS, e, hr] using h
        rcases this with rfl | h2
        · intro d hd
          rcases List.mem_cons.1 hd with rfl | hd
          · exact e
          · exact ih q (by rw [hr]; simp) d hd
        · exact ih p (by rw [hr]; exact List.mem_cons_of_mem _ h2)
theorem slashS_noSl {s : List UInt8} (h : NoSl s) : slashS s = false := by
  unfold slashS
  cases hl : s.getLast? with
  | none => rfl
  | some c =>
    have := h c (List.mem_of_getLast? hl)
    simpa using this
/-- What an entry's name is. -/
def NameOk (s : List UInt8) : Prop := s ≠ [] ∧ s ≠ dot ∧ s ≠ dots ∧ NoSl s
theorem ahead_nameOk {σ : FSt} {dir : Int} {s : List UInt8} (h : (aheadE σ dir s).1 = 0) : NameOk (aheadE σ dir s).2.2 := by
  unfold aheadE at h ⊢
  simp only at h ⊢
  by_cases h1 : (startE σ dir s).1 ≠ 0
  · rw [if_pos h1] at h; exact absurd h h1
  rw [if_neg h1] at h ⊢
  by_cases h2 : (overS σ (piecesS s).dropLast (startE σ dir s).2).1 ≠ 0
  · rw [if_pos h2] at h; exact absurd h h2
  rw [if_neg h2] at h ⊢
  by_cases h3 : hereS σ (overS σ (piecesS s).dropLast (startE σ dir s).2).2 ≠ 0
  · rw [if_pos h3] at h; exact absurd h h3
  rw [if_neg h3] at h ⊢
  cases hl : (piecesS s).getLast? with
  | none => rw [hl] at h; exact absurd h (by simp)
  | some q =>
    rw [hl] at h
    simp only at h ⊢
    by_cases h4 : q = dot ∨ q = dots
    · rw [if_pos h4] at h; exact absurd h (by simp)
    rw [if_neg h4] at h ⊢
    by_cases h5 : 32 < q.length
    · rw [if_pos h5] at h; exact absurd h (by simp)
    rw [if_neg h5]
    have h6 : q ∈ piecesS s := List.mem_of_getLast? hl
    unfold piecesS at h6
    obtain ⟨h7, h8⟩ := List.mem_filter.1 h6
    show NameOk q
    exact ⟨fun e => (by rw [e] at h8; cases h8), fun e => h4 (.inl e), fun e => h4 (.inr e), splitS_pieces q h7⟩
/-- Of each inode. -/
def AllN (Q : Nd → Prop) (σ : FSt) : Prop := ∀ i n, σ.nd i = some n → Q n
/-- What is kept by all that doesn't touch a mode. -/
structure Stab (Q : Nd → Prop) : Prop where
  del : ∀ n s, Q n → Q { n with ents := kdel s n.ents }
  put : ∀ n s k, NameOk s → Q n → Q { n with ents := kput s k n.ents }
  oth : ∀ (n : Nd) l h d p, Q n → Q { n with links := l, holds := h, data := d, par := p }
section
variable {Q : Nd → Prop} {σ : FSt}
theorem AllN.put (h : AllN Q σ) {a : Nat} {n : Nd} (ha : σ.nd a = some n) {x : Option Nd} (hx : ∀ m, x = some m → Q m) : AllN Q (σ.put a x) := fun i m hm => by
  rw [put_nd ha] at hm
  by_cases e : i = a
  · rw [if_pos e] at hm; exact hx m hm
  · rw [if_neg e] at hm; exact h i m hm
theorem AllN.rel (h : AllN Q σ) {a : Nat} {g : Nd → Nd} (hg : ∀ n, Q n → Q (g n)) : AllN Q (relS σ a g) := by
  cases ha : σ.nd a with
  | none => unfold relS; rw [ha]; exact h
  | some n => rw [relS_some ha]; exact h.put ha fun m e => by cases e; exact hg n (h a n ha)
theorem AllN.ent (h : AllN Q σ) {a : Nat} {f : KA Nat → KA Nat} (hf : ∀ n, Q n → Q { n with ents := f n.ents }) : AllN Q (entS σ a f) := by
  cases ha : σ.nd a with
  | none => unfold entS; rw [ha]; exact h
  | some n => rw [entS_some ha]; exact h.put ha fun m e => by cases e; exact hf n (h a n ha)
theorem AllN.let_ (h : AllN Q σ) {a : Nat} : AllN Q (letS σ a) := by
  unfold letS
  cases ha : σ.nd a with
  | none => exact h
  | some n =>
    simp only
    split
    · exact h.put ha fun m e => by cases e
    · exact h
theorem AllN.add (h : AllN Q σ) {n : Nd} (hn : Q n) : AllN Q (σ.add n) := fun i m hm => by
  rw [FSt.nd_add] at hm
  split at hm
  · cases hm; exact hn
  · exact h i m hm
theorem AllN.cut (hS : Stab Q) (h : AllN Q σ) {a : Nat} {nm : List UInt8} : AllN Q (cutS σ a nm) := h.ent fun n hn => hS.del n nm hn
theorem AllN.link (hS : Stab Q) (h : AllN Q σ) {a k : Nat} {nm : List UInt8} (hk : NameOk nm) : AllN Q (linkS σ a nm k) := h.ent fun n hn => hS.put n nm k hk hn
theorem AllN.gone (hS : Stab Q) (h : AllN Q σ) {a : Nat} {nm : List UInt8} : AllN Q (goneS σ a nm) := by
  unfold goneS
  cases lookS σ a nm with
  | none => exact h
  | some k => exact ((h.cut hS).rel fun n hn => hS.oth n (n.links - 1) n.holds n.data n.par hn).let_
theorem AllN.carry (hS : Stab Q) (h : AllN Q σ) {a b k : Nat} {x y : List UInt8} (hy : NameOk y) : AllN Q (carryS σ a x b y k) := by
  have h2 := (h.cut hS (a := a) (nm := x)).link hS (a := b) (k := k) hy
  unfold carryS parS
  split
  · exact h2.rel fun n hn => hS.oth n n.links n.holds n.data b hn
  · exact h2
theorem AllN.make (hS : Stab Q) (h : AllN Q σ) {i m : Int} {s : List UInt8} {d : Bool} (hn : ∀ a, Q (newNd d m a)) : AllN Q (makeR σ i s d m).2 := by
  unfold makeR
  split
  · exact h
  · rename_i e
    unfold addS
    refine AllN.link hS (h.add (hn _)) (ahead_nameOk ?_)
    apply Decidable.byContradiction
    intro e2
    apply e
    unfold addE
    rw [if_pos e2]
    exact e2
theorem AllN.ren (hS : Stab Q) (h : AllN Q σ) {i : Int} {s t : List UInt8} : AllN Q (renR σ i s t).2 := by
  unfold renR
  split
  · exact h
  · rename_i e
    have e : renE σ i s t = 0 := by simpa using e
    have ht : (aheadE σ i s).1 = 0 ∧ (lookS σ (aheadE σ i s).2.1 (aheadE σ i s).2.2 = none ∨ (aheadE σ i t).1 = 0) := by
      unfold renE at e
      by_cases h1 : (aheadE σ i s).1 ≠ 0
      · rw [if_pos h1] at e; exact absurd e h1
      rw [if_neg h1] at e
      refine ⟨by simpa using h1, ?_⟩
      cases hl : lookS σ (aheadE σ i s).2.1 (aheadE σ i s).2.2 with
      | none => exact .inl rfl
      | some k =>
        rw [hl] at e
        simp only at e
        refine .inr ?_
        split at e
        · cases e
        · unfold toE at e
          by_cases h2 : (aheadE σ i t).1 ≠ 0
          · rw [if_pos h2] at e; exact absurd e h2
          · simpa using h2
    unfold moveS
    simp only
    split
    · exact h
    · rename_i k hk
      have hy := ahead_nameOk (ht.2.resolve_left (fun e => by rw [hk] at e; cases e))
      split
      · exact h.carry hS hy
      · split
        · exact h
        · exact (h.gone hS).carry hS hy
theorem AllN.linkR (hS : Stab Q) (h : AllN Q σ) {i : Int} {s t : List UInt8} : AllN Q (linkR σ i s t).2 := by
  unfold Go.Proofs.YtlhmmiolnbgloaaGreatDoor.linkR
  split
  · exact h
  · rename_i e
    have e : linkE σ i s t = 0 := by simpa using e
    have ht : (aheadE σ i t).1 = 0 := by
      unfold linkE at e
      split at e
      · rename_i h1; exact absurd e h1
      · split at e
        · cases e
        · split at e
          · rename_i h1; exact absurd e h1
          · rename_i h1; simpa using h1
    unfold linkT
    exact AllN.link hS (h.rel fun n hn => hS.oth n (n.links + 1) n.holds n.data n.par hn) (ahead_nameOk ht)
/-- Whatever is asked. -/
theorem AllN.ask (hS : Stab Q) (h : AllN Q σ) {c : CallQ} (h1 : c.what = 1 → ∀ a, Q (newNd false c.m a)) (h2 : c.what = 2 → ∀ a, Q (newNd true c.m a)) (h10 : c.what = 10 → ∀ n, Q n → Q { n with mode := modeN c.m }) : AllN Q (askS σ c) := by
  unfold askS
  split
  · rename_i e; exact h.make hS (h1 e)
  split
  · rename_i e; exact h.make hS (h2 e)
  split
  · unfold unlinkR
    split
    · exact h
    · exact h.gone hS
  split
  · unfold rmdirR
    split
    · exact h
    · exact h.gone hS
  split
  · exact AllN.linkR hS h
  split
  · exact AllN.ren hS h
  split
  · unfold writeR
    cases hn : σ.ndI c.n with
    | none => exact h
    | some n =>
      obtain ⟨k, hk, hkn⟩ := ndI_some hn
      simp only [hk, Int.toNat_natCast]
      split
      · exact h
      split
      · exact h
      split
      · exact h
      split
      · exact h
      split
      · have e9 : ∀ x y : Option Nd, (σ.put k x).put k y = σ.put k y := fun x y => by unfold FSt.put; rw [List.set_set]
        unfold overS' sizeS
        rw [e9]
        exact h.put hkn fun m e => by cases e; exact hS.oth n n.links n.holds _ n.par (h k n hkn)
      · exact h
  split
  · unfold truncR
    cases hn : σ.ndI c.n with
    | none => exact h
    | some n =>
      obtain ⟨k, hk, hkn⟩ := ndI_some hn
      simp only [hk, Int.toNat_natCast]
      split
      · exact h
      split
      · exact h
      split
      · exact h
      split
      · exact h.put hkn fun m e => by cases e; exact hS.oth n n.links n.holds _ n.par (h k n hkn)
      · exact h
  split
  · rename_i e
    unfold chmodR
    cases hn : σ.ndI c.n with
    | none => exact h
    | some n =>
      obtain ⟨k, hk, hkn⟩ := ndI_some hn
      simp only [hk, Int.toNat_natCast]
      exact h.put hkn fun m e2 => by cases e2; exact h10 e n (h k n hkn)
  split
  · unfold holdR
    cases hn : σ.ndI c.n with
    | none => exact h
    | some n =>
      obtain ⟨k, hk, hkn⟩ := ndI_some hn
      simp only [hk, Int.toNat_natCast]
      exact h.put hkn fun m e => by cases e; exact hS.oth n n.links (n.holds + 1) n.data n.par (h k n hkn)
  split
  · unfold dropR
    cases hn : σ.ndI c.n with
    | none => exact h
    | some n =>
      obtain ⟨k, hk, hkn⟩ := ndI_some hn
      simp only [hk, Int.toNat_natCast]
      split
      · exact h
      · exact (h.put hkn fun m e => by cases e; exact hS.oth n n.links (n.holds - 1) n.data n.par (h k n hkn)).let_
  · exact h
end
def NamesN (n : Nd) : Prop := ∀ q ∈ n.ents, NameOk q.1
def OpenN (n : Nd) : Prop := n.d = true → mayN n.mode 1 = true
theorem NamesN.stab : Stab NamesN := ⟨fun n s h q hq => h q (List.mem_filter.1 hq).1, fun n s k hs h q hq => by
  rcases kput_mem hq with rfl | hq
  · exact hs
  · exact h q hq, fun n l h d p hn => hn⟩
theorem OpenN.stab : Stab OpenN := ⟨fun n s h => h, fun n s k hs h => h, fun n l h d p hn => hn⟩
theorem NamesN.new (d : Bool) (m : Int) (a : Nat) : NamesN (newNd d m a) := fun q hq => by cases hq
/-- Names are names, whatever is asked. -/
theorem names_ask {σ : FSt} (h : AllN NamesN σ) (c : CallQ) : AllN NamesN (askS σ c) := h.ask NamesN.stab (fun _ a => NamesN.new _ _ a) (fun _ a => NamesN.new _ _ a) (fun _ n hn => hn)
theorem names_new : AllN NamesN newT := fun i n h => by obtain ⟨_, rfl⟩ := newT_nd h; intro q hq; cases hq
theorem open_new : AllN OpenN newT := fun i n h => by obtain ⟨_, rfl⟩ := newT_nd h; intro _; decide
end Go.Proofs.YtlhmmiolnbgloaaGreatDoor

/- The tree of files as plain data: all entries. No program in sight; no condition. -/
namespace Go.Proofs.YtlhmmiolnbgloaaGreatDoor
open Go.RowKit

/-- An entry of the tree, as it is told. -/
structure EntQ where
  path : List UInt8
  kind : Int
  mode : Int
  data : List UInt8
def kindN (n : Nd) : Int := if n.d then 2 else 1
def entQ (P nm : List UInt8) (n : Nd) : EntQ := ⟨P ++ nm, kindN n, n.mode, n.data⟩
/-- What one entry and all that is below it are told as. -/
def entL (σ : FSt) (deeper : List UInt8 → Nat → List EntQ) (P : List UInt8) (q : List UInt8 × Nat) : List EntQ :=
  match σ.nd q.2 with
  | none => []
  | some m => entQ P q.1 m :: (if m.d then deeper (P ++ q.1 ++ [slashB]) q.2 else [])
def treeF (σ : FSt) : Nat → List UInt8 → Nat → List EntQ
  | 0, _, _ => []
  | fuel + 1, P, i => match σ.nd i with | none => [] | some n => (n.ents.map (entL σ (treeF σ fuel) P)).flatten
def treeL (σ : FSt) : List EntQ := treeF σ 101 [] 1
theorem treeF_succ {σ : FSt} {i : Nat} {n : Nd} (h : σ.nd i = some n) (fuel : Nat) (P : List UInt8) : treeF σ (fuel + 1) P i = (n.ents.map (entL σ (treeF σ fuel) P)).flatten := by
  show (match σ.nd i with | none => [] | some n => (n.ents.map (entL σ (treeF σ fuel) P)).flatten) = _
  rw [h]
theorem entL_file {σ : FSt} {g : List UInt8 → Nat → List EntQ} {P nm : List UInt8} {k : Nat} {m : Nd} (h : σ.nd k = some m) (hd : m.d = false) : entL σ g P (nm, k) = [entQ P nm m] := by
  unfold entL
  simp only [h, hd]
  rfl
theorem entL_dir {σ : FSt} {g : List UInt8 → Nat → List EntQ} {P nm : List UInt8} {k : Nat} {m : Nd} (h : σ.nd k = some m) (hd : m.d = true) : entL σ g P (nm, k) = entQ P nm m :: g (P ++ nm ++ [slashB]) k := by
  unfold entL
  simp only [h, hd]
  rfl
/-- The directory above is the one in which it stands. -/
theorem Inv.par_of {σ : FSt} (h : Inv σ 0) {a k : Nat} {n m : Nd} {nm : List UInt8} (ha : σ.nd a = some n) (hk : kget nm n.ents = some k) (hm : σ.nd k = some m) (hd : m.d = true) : k ≠ 1 ∧ m.links ≠ 0 ∧ m.par = a := by
  have h1 := refs_pos ha hk
  have hk1 : k ≠ 1 := fun e => by
    have := h.root
    rw [e] at h1
    omega
  have h2 := h.cnt k m hm hk1
  rw [if_neg (nd_pos hm)] at h2
  have hl : m.links ≠ 0 := by omega
  obtain ⟨q, nm', b1, b2, b3⟩ := h.up k m hm hd hl hk1 (nd_pos hm)
  exact ⟨hk1, hl, (refs_unique (h.links_le hm hd hk1) b1 ha (h.srt _ q b1) b3 hk).1⟩
/-- What stands in a directory is one deeper. -/
theorem Inv.deeper {σ : FSt} (h : Inv σ 0) {a k d : Nat} {n m : Nd} {nm : List UInt8} (hdep : Dep σ 0 1 a d) (ha : σ.nd a = some n) (hk : kget nm n.ents = some k) (hm : σ.nd k = some m) (hd : m.d = true) : Dep σ 0 1 k (d + 1) := by
  obtain ⟨h1, h2, h3⟩ := h.par_of ha hk hm hd
  exact .up h1 (nd_pos hm) hm hd h2 (h3 ▸ hdep)
theorem kget_of_mem {α : Type} {L : KA α} (h : KSorted L) {q : List UInt8 × α} (hq : q ∈ L) : kget q.1 L = some q.2 := by
  induction L with
  | nil => cases hq
  | cons y r ih =>
    obtain ⟨h1, h2⟩ := List.pairwise_cons.1 h
    rw [kget_cons]
    rcases List.mem_cons.1 hq with rfl | hq
    · rw [if_pos (by simp)]
    · have h3 := h1 q hq
      rw [if_neg, ih h2 hq]
      intro e
      rw [beq_iff_eq.1 e, WideAt.bytes_irrefl] at h3
      cases h3
/-- What changes nothing below tells the same. -/
theorem treeF_same {σ τ : FSt} (h : ∀ i n, σ.nd i = some n → ∃ m, τ.nd i = some m ∧ m.d = n.d ∧ m.mode = n.mode ∧ m.data = n.data ∧ m.ents = n.ents) (hL : Live σ) : ∀ (fuel : Nat) (P : List UInt8) (i : Nat), (σ.nd i).isSome = true → treeF τ fuel P i = treeF σ fuel P i
  | 0, _, _, _ => rfl
  | fuel + 1, P, i, hi => by
    obtain ⟨n, hn⟩ := Option.isSome_iff_exists.1 hi
    obtain ⟨m, hm, a1, a2, a3, a4⟩ := h i n hn
    rw [treeF_succ hn, treeF_succ hm, a4]
    congr 1
    refine List.map_congr_left fun q hq => ?_
    have hs := hL.ents i n hn q hq
    obtain ⟨x, hx⟩ := Option.isSome_iff_exists.1 hs
    obtain ⟨y, hy, b1, b2, b3, b4⟩ := h q.2 x hx
    unfold entL
    rw [hx, hy]
    simp only [entQ, kindN, b1, b2, b3, treeF_same h hL fuel _ q.2 hs]
end Go.Proofs.YtlhmmiolnbgloaaGreatDoor

/- The tree of files as plain data: each directory's way leads to it; each entry that is told can be walked to; entries stand in order. No program in sight; no condition. -/
namespace Go.Proofs.YtlhmmiolnbgloaaGreatDoor
open Go.RowKit

/-- A step to a name. -/
theorem step_name {σ : FSt} (hN : AllN NamesN σ) (hO : AllN OpenN σ) (hL : Live σ) {i k : Nat} {n : Nd} {nm : List UInt8} (hi : σ.nd i = some n) (hd : n.d = true) (hk : kget nm n.ents = some k) : stepS σ i nm = (0, k) := by
  have h1 := hN i n hi _ (kget_mem hk)
  have h2 := hO i n hi hd
  have h3 := hL.names i n hi _ (kget_mem hk)
  simp only at h1 h3
  unfold stepS
  rw [hi]
  simp only
  unfold stepE hereE
  rw [hd, h2, hk]
  rw [if_neg (by decide), if_neg h1.2.1, if_neg h1.2.2.1, if_neg (by omega)]
  rfl
theorem over_name {σ : FSt} {l : List (List UInt8)} {i k : Nat} {nm : List UInt8} (h : overS σ l 1 = (0, i)) (hs : stepS σ i nm = (0, k)) : overS σ (l ++ [nm]) 1 = (0, k) := by
  rw [overS_append, h]
  simp [overS, hs]
theorem head_app {s t : List UInt8} (h : s ≠ []) : (s ++ t).head? = s.head? := by
  cases s with
  | nil => exact absurd rfl h
  | cons c r => rfl
theorem slash_app {s t : List UInt8} (h : t ≠ []) : slashS (s ++ t) = slashS t := by
  unfold slashS
  rw [List.getLast?_append]
  cases hl : t.getLast? with
  | none => exact absurd (List.getLast?_eq_none_iff.1 hl) h
  | some c => rfl
theorem up_leads {σ : FSt} (hN : AllN NamesN σ) (hO : AllN OpenN σ) (hL : Live σ) : ∀ {i : Nat} {s : List UInt8}, Up σ i s → overS σ (piecesS s) 1 = (0, i) ∧ (s ≠ [] → s.head? = some slashB ∧ slashS s = false)
  | _, _, .root => ⟨rfl, fun e => absurd rfl e⟩
  | _, _, .step (i := i) (n := n) (m := m) (nm := nm) (s := s) h1 h2 h3 h4 h5 h6 h7 h8 => by
    obtain ⟨g1, g2⟩ := up_leads hN hO hL h8
    have hnm := hN _ m h5 _ (kget_mem h7)
    simp only at hnm
    refine ⟨?_, fun _ => ⟨?_, ?_⟩⟩
    · rw [piecesS_append, piecesS_noSl hnm.2.2.2 hnm.1]
      exact over_name g1 (step_name hN hO hL h5 h6 h7)
    · cases s with
      | nil => rfl
      | cons c r => rw [head_app (by simp)]; exact (g2 (by simp)).1
    · rw [slash_app (by simp), show slashB :: nm = [slashB] ++ nm from rfl, slash_app hnm.1]
      exact slashS_noSl hnm.2.2.2
/-- The way to a directory leads there. -/
theorem path_leads {σ : FSt} (hN : AllN NamesN σ) (hO : AllN OpenN σ) (hL : Live σ) (hV : Inv σ 0) {i : Int} (hp : pathE σ i = 0) (hlen : (pathR σ i).length ≤ 256) : walkE σ 1 (pathR σ i) = (0, i.toNat) ∧ 1 ≤ i := by
  unfold pathE at hp
  cases hn : σ.ndI i with
  | none => rw [hn] at hp; cases hp
  | some n =>
    rw [hn] at hp
    obtain ⟨k, rfl, hk⟩ := ndI_some hn
    simp only at hp
    have hd : n.d = true := by
      cases hd : n.d with
      | true => rfl
      | false => rw [hd, if_pos rfl] at hp; cases hp
    rw [if_neg (by simp [hd])] at hp
    have hl : n.links ≠ 0 := fun e => by
      by_cases e1 : k = 1
      · obtain ⟨r, hr, _, hrl⟩ := hL.root
        rw [e1, hr] at hk
        cases hk
        omega
      · rw [if_pos ⟨by omega, e⟩] at hp; cases hp
    obtain ⟨s, hs⟩ := hV.path hk hd hl
    have hpe : pathE σ k = 0 := by
      unfold pathE
      rw [hn]
      simp only
      rw [if_neg (by simp [hd])]
      exact hp
    have hR : pathR σ k = slashed s := by unfold pathR; rw [if_pos hpe, Int.toNat_natCast, hs.way hV]
    rw [hR] at hlen ⊢
    obtain ⟨g1, g2⟩ := up_leads hN hO hL hs
    obtain ⟨r, hr, hrd, _⟩ := hL.root
    have hI : σ.ndI 1 = some r := hr
    have hk0 := nd_pos hk
    refine ⟨?_, by omega⟩
    rw [Int.toNat_natCast]
    have hst : startE σ 1 (slashed s) = (0, 1) := by
      unfold startE
      rw [hI]
      simp only [hrd, Bool.true_eq_false, if_false]
      rw [if_neg (by unfold slashed; split <;> simp_all), if_neg (by omega), if_pos]
      unfold slashed
      split
      · rfl
      · rename_i h0; exact (g2 h0).1
    have hpc : overS σ (piecesS (slashed s)) 1 = (0, k) := by
      unfold slashed
      split
      · rename_i h0
        rw [h0] at g1
        exact g1
      · exact g1
    unfold walkE
    rw [hst]
    simp only [hpc]
    rw [if_neg (fun e => e rfl), if_neg (fun e => e rfl), if_neg]
    rw [hk]
    simp [hd]
/-- An entry that is told, and where it is. -/
def Leads (σ : FSt) (x : EntQ) : Prop := ∃ k m, overS σ (piecesS x.path) 1 = (0, k) ∧ σ.nd k = some m ∧ x.kind = kindN m ∧ x.mode = m.mode ∧ x.data = m.data ∧ x.path ≠ [] ∧ x.path.head? ≠ some slashB ∧ slashS x.path = false
/-- The text ahead of a directory's entries. -/
def Ahead (P : List UInt8) : Prop := P = [] ∨ ∃ q, P = q ++ [slashB] ∧ q ≠ [] ∧ q.head? ≠ some slashB
theorem pieces_ahead {P nm : List UInt8} (hP : Ahead P) (h : NameOk nm) : piecesS (P ++ nm) = piecesS P ++ [nm] := by
  rcases hP with rfl | ⟨q, rfl, _, _⟩
  · rw [List.nil_append, piecesS_noSl h.2.2.2 h.1]; rfl
  · rw [List.append_assoc, show [slashB] ++ nm = slashB :: nm from rfl, piecesS_append, piecesS_noSl h.2.2.2 h.1, show [slashB] = slashB :: [] from rfl, piecesS_append]
    show _ = piecesS q ++ piecesS [] ++ [nm]
    rw [show piecesS [] = [] from rfl, List.append_nil]
theorem head_ahead {P nm : List UInt8} (hP : Ahead P) (h : NameOk nm) : (P ++ nm).head? ≠ some slashB := by
  rcases hP with rfl | ⟨q, rfl, hq, hh⟩
  · cases nm with
    | nil => exact absurd rfl h.1
    | cons c r => simpa using h.2.2.2 c (by simp)
  · rw [List.append_assoc, head_app hq]; exact hh
theorem tree_leads {σ : FSt} (hN : AllN NamesN σ) (hO : AllN OpenN σ) (hL : Live σ) (hV : Inv σ 0) : ∀ (fuel i : Nat) (P : List UInt8) (n : Nd), σ.nd i = some n → n.d = true → Ahead P → overS σ (piecesS P) 1 = (0, i) → ∀ x ∈ treeF σ fuel P i, Leads σ x
  | 0, _, _, _, _, _, _, _, x, hx => by cases hx
  | fuel + 1, i, P, n, hn, hd, hP, ho, x, hx => by
    rw [treeF_succ hn] at hx
    obtain ⟨l, hl, hxl⟩ := List.mem_flatten.1 hx
    obtain ⟨q, hq, rfl⟩ := List.mem_map.1 hl
    obtain ⟨nm, k⟩ := q
    have hkg := kget_of_mem (hV.srt i n hn) hq
    simp only at hkg
    have hok := hN i n hn _ hq
    simp only at hok
    obtain ⟨m, hm⟩ := Option.isSome_iff_exists.1 (hL.ents i n hn _ hq)
    simp only at hm
    have hov : overS σ (piecesS (P ++ nm)) 1 = (0, k) := by
      rw [pieces_ahead hP hok]
      exact over_name ho (step_name hN hO hL hn hd hkg)
    have hne : P ++ nm ≠ [] := fun e => hok.1 (List.append_eq_nil_iff.1 e).2
    have hself : Leads σ (entQ P nm m) := ⟨k, m, hov, hm, rfl, rfl, rfl, hne, head_ahead hP hok, by show slashS (P ++ nm) = false; rw [slash_app hok.1]; exact slashS_noSl hok.2.2.2⟩
    cases hmd : m.d with
    | false =>
      rw [entL_file hm hmd, List.mem_singleton] at hxl
      rw [hxl]; exact hself
    | true =>
      rw [entL_dir hm hmd] at hxl
      rcases List.mem_cons.1 hxl with rfl | hxl
      · exact hself
      · refine tree_leads hN hO hL hV fuel k (P ++ nm ++ [slashB]) m hm hmd (.inr ⟨P ++ nm, rfl, hne, head_ahead hP hok⟩) ?_ x hxl
        rw [show [slashB] = slashB :: [] from rfl, piecesS_append, show piecesS [] = [] from rfl, List.append_nil]
        exact hov
theorem entry_walk {σ : FSt} (hL : Live σ) {x : EntQ} (h : Leads σ x) (hlen : x.path.length ≤ 256) : ∃ k m, walkE σ 1 x.path = (0, k) ∧ σ.nd k = some m ∧ x.kind = kindN m ∧ x.mode = m.mode ∧ x.data = m.data := by
  obtain ⟨k, m, h1, h2, h3, h4, h5, h6, h7, h8⟩ := h
  obtain ⟨r, hr, hrd, _⟩ := hL.root
  have hI : σ.ndI 1 = some r := hr
  have hst : startE σ 1 x.path = (0, 1) := by
    unfold startE
    rw [hI]
    simp only [hrd, Bool.true_eq_false, if_false]
    rw [if_neg h6, if_neg (by omega), if_neg h7]
    rfl
  refine ⟨k, m, ?_, h2, h3, h4, h5⟩
  unfold walkE
  rw [hst]
  simp only [h1]
  rw [if_neg (fun e => e rfl), if_neg (fun e => e rfl), if_neg (by simp [h8])]
theorem treeL_leads {σ : FSt} (hN : AllN NamesN σ) (hO : AllN OpenN σ) (hL : Live σ) (hV : Inv σ 0) : ∀ x ∈ treeL σ, Leads σ x := by
  obtain ⟨r, hr, hrd, _⟩ := hL.root
  exact tree_leads hN hO hL hV 101 1 [] r hr hrd (.inl rfl) rfl
/-- A byte's place: the slash ahead of all. -/
def keyB (c : UInt8) : Int := if c = slashB then -1 else c.toNat
/-- Does a path stand ahead of another one? -/
def bef : List UInt8 → List UInt8 → Bool
  | [], [] => false
  | [], _ :: _ => true
  | _ :: _, [] => false
  | x :: a, y :: b => if x = y then bef a b else decide (keyB x < keyB y)
theorem bef_app (P a b : List UInt8) : bef (P ++ a) (P ++ b) = bef a b := by
  induction P with
  | nil => rfl
  | cons c r ih => show (if c = c then bef (r ++ a) (r ++ b) else _) = _; rw [if_pos rfl, ih]
theorem bef_nil {s : List UInt8} (h : s ≠ []) : bef [] s = true := by
  cases s with
  | nil => exact absurd rfl h
  | cons c r => rfl
/-- The rest behind a name. -/
def Rest (r : List UInt8) : Prop := r = [] ∨ ∃ t, r = slashB :: t
theorem bef_names : ∀ {a b : List UInt8}, bytesBefore a b = true → NoSl a → NoSl b → ∀ {r s : List UInt8}, Rest r → Rest s → bef (a ++ r) (b ++ s) = true := by
  intro a
  induction a with
  | nil =>
    intro b h ha hb r s hr hs
    cases b with
    | nil => rw [WideAt.bytes_irrefl] at h; cases h
    | cons y b =>
      have hy := hb y (by simp)
      rcases hr with rfl | ⟨t, rfl⟩
      · rfl
      · show (if slashB = y then _ else decide (keyB slashB < keyB y)) = true
        rw [if_neg (fun e => hy e.symm)]
        unfold keyB
        rw [if_pos rfl, if_neg hy]
        simp only [decide_eq_true_eq]
        omega
  | cons x a ih =>
    intro b h ha hb r s hr hs
    have hlt := before_lt h
    cases b with
    | nil => exact absurd hlt (List.not_lt_nil _)
    | cons y b =>
      have hx := ha x (by simp)
      have hy := hb y (by simp)
      show (if x = y then bef (a ++ r) (b ++ s) else decide (keyB x < keyB y)) = true
      by_cases e : x = y
      · rw [if_pos e]
        subst e
        refine ih (b := b) ?_ (fun c hc => ha c (List.mem_cons_of_mem _ hc)) (fun c hc => hb c (List.mem_cons_of_mem _ hc)) hr hs
        have : bytesBefore (x :: a) (x :: b) = bytesBefore a b := by simp [bytesBefore]
        rw [← this]; exact h
      · rw [if_neg e]
        unfold keyB
        rw [if_neg hx, if_neg hy]
        have hxy : x < y := by
          rcases List.cons_lt_cons_iff.1 hlt with h1 | h1
          · exact h1
          · exact absurd h1.1 e
        have : x.toNat < y.toNat := hxy
        simp only [decide_eq_true_eq]
        omega
/-- Entries stand in order. -/
theorem tree_order {σ : FSt} (hN : AllN NamesN σ) (hL : Live σ) (hV : Inv σ 0) : ∀ (fuel i : Nat) (P : List UInt8) (n : Nd), σ.nd i = some n → n.d = true →
    (treeF σ fuel P i).Pairwise (fun x y => bef x.path y.path = true) ∧ ∀ x ∈ treeF σ fuel P i, ∃ q ∈ n.ents, ∃ r, Rest r ∧ x.path = P ++ (q.1 ++ r)
  | 0, _, _, _, _, _ => ⟨List.Pairwise.nil, fun x hx => by cases hx⟩
  | fuel + 1, i, P, n, hn, hd => by
    have one : ∀ q ∈ n.ents, (entL σ (treeF σ fuel) P q).Pairwise (fun x y => bef x.path y.path = true) ∧ ∀ x ∈ entL σ (treeF σ fuel) P q, ∃ r, Rest r ∧ x.path = P ++ (q.1 ++ r) := by
      rintro ⟨nm, k⟩ hq
      obtain ⟨m, hm⟩ := Option.isSome_iff_exists.1 (hL.ents i n hn _ hq)
      simp only at hm
      cases hmd : m.d with
      | false =>
        rw [entL_file hm hmd]
        refine ⟨List.pairwise_singleton _ _, fun x hx => ?_⟩
        rw [List.mem_singleton] at hx
        rw [hx]
        exact ⟨[], .inl rfl, by show P ++ nm = P ++ (nm ++ []); rw [List.append_nil]⟩
      | true =>
        rw [entL_dir hm hmd]
        obtain ⟨g1, g2⟩ := tree_order hN hL hV fuel k (P ++ nm ++ [slashB]) m hm hmd
        refine ⟨List.pairwise_cons.2 ⟨fun y hy => ?_, g1⟩, fun x hx => ?_⟩
        · obtain ⟨q, hq, r, hr, e⟩ := g2 y hy
          rw [e]
          show bef (P ++ nm) _ = true
          have e2 : P ++ nm ++ [slashB] ++ (q.1 ++ r) = (P ++ nm) ++ (slashB :: (q.1 ++ r)) := by simp
          have e3 := bef_app (P ++ nm) [] (slashB :: (q.1 ++ r))
          rw [List.append_nil] at e3
          rw [e2, e3]; rfl
        · rcases List.mem_cons.1 hx with rfl | hx
          · exact ⟨[], .inl rfl, by show P ++ nm = P ++ (nm ++ []); rw [List.append_nil]⟩
          · obtain ⟨q, hq, r, hr, e⟩ := g2 x hx
            exact ⟨slashB :: (q.1 ++ r), .inr ⟨_, rfl⟩, by rw [e]; simp⟩
    rw [treeF_succ hn]
    refine ⟨List.pairwise_flatten.2 ⟨fun l hl => ?_, ?_⟩, fun x hx => ?_⟩
    · obtain ⟨q, hq, rfl⟩ := List.mem_map.1 hl
      exact (one q hq).1
    · rw [List.pairwise_map]
      refine (hV.srt i n hn).imp_of_mem fun {a b} ha hb hab x hx y hy => ?_
      obtain ⟨r, hr, e1⟩ := (one a ha).2 x hx
      obtain ⟨s, hs, e2⟩ := (one b hb).2 y hy
      rw [e1, e2, bef_app]
      exact bef_names hab (hN i n hn a ha).2.2.2 (hN i n hn b hb).2.2.2 hr hs
    · obtain ⟨l, hl, hxl⟩ := List.mem_flatten.1 hx
      obtain ⟨q, hq, rfl⟩ := List.mem_map.1 hl
      obtain ⟨r, hr, e⟩ := (one q hq).2 x hxl
      exact ⟨q, hq, r, hr, e⟩
theorem treeL_order {σ : FSt} (hN : AllN NamesN σ) (hL : Live σ) (hV : Inv σ 0) : (treeL σ).Pairwise (fun x y => bef x.path y.path = true) := by
  obtain ⟨r, hr, hrd, _⟩ := hL.root
  exact (tree_order hN hL hV 101 1 [] r hr hrd).1
end Go.Proofs.YtlhmmiolnbgloaaGreatDoor
