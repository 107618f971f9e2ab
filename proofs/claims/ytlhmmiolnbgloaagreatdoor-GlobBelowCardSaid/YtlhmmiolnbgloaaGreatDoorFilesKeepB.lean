/- The tree of files as plain data: whatever is asked leaves a tree. No program in sight; no condition. -/
import Derived.Test.YtlhmmiolnbgloaaGreatDoorFilesLink
import Derived.Test.YtlhmmiolnbgloaaGreatDoorFilesLink
namespace Go.Proofs.YtlhmmiolnbgloaaGreatDoor
open Go.RowKit

theorem ahead_ok {σ : FSt} {dir : Int} {s : List UInt8} (h : (aheadE σ dir s).1 = 0) : ∃ n, σ.nd (aheadE σ dir s).2.1 = some n ∧ n.d = true ∧ (aheadE σ dir s).2.2.length ≤ 32 := by
  have key : ∀ {E : Int} {x y : Int × Nat × List UInt8}, E ≠ 0 → (if E ≠ 0 then (E, 0, []) else y) = x → x.1 = 0 → False := fun h1 h2 h3 => by
    rw [if_pos h1] at h2
    rw [← h2] at h3
    exact h1 h3
  unfold aheadE at h ⊢
  simp only at h ⊢
  by_cases h1 : (startE σ dir s).1 ≠ 0
  · rw [if_pos h1] at h; exact absurd h h1
  rw [if_neg h1] at h ⊢
  by_cases h2 : (overS σ (piecesS s).dropLast (startE σ dir s).2).1 ≠ 0
  · rw [if_pos h2] at h; exact absurd h h2
  rw [if_neg h2] at h ⊢
  by_cases h3 : hereS σ (overS σ (piecesS s).dropLast (startE σ dir s).2).2 ≠ 0
  · rw [if_pos h3] at h; exact absurd h h3
  rw [if_neg h3] at h ⊢
  cases hl : (piecesS s).getLast? with
  | none => rw [hl] at h; exact absurd h (by simp)
  | some q =>
    rw [hl] at h
    simp only at h ⊢
    by_cases h4 : q = dot ∨ q = dots
    · rw [if_pos h4] at h; exact absurd h (by simp)
    rw [if_neg h4] at h ⊢
    by_cases h5 : 32 < q.length
    · rw [if_pos h5] at h; exact absurd h (by simp)
    rw [if_neg h5]
    have h6 : hereS σ (overS σ (piecesS s).dropLast (startE σ dir s).2).2 = 0 := by simpa using h3
    unfold hereS at h6
    cases hn : σ.nd (overS σ (piecesS s).dropLast (startE σ dir s).2).2 with
    | none => rw [hn] at h6; exact absurd h6 (by decide)
    | some n =>
      rw [hn] at h6
      refine ⟨n, rfl, ?_, by show q.length ≤ 32; omega⟩
      cases hd : n.d with
      | true => rfl
      | false => unfold hereE at h6; simp [hd] at h6
theorem overS_ok {σ : FSt} (h : Live σ) : ∀ (l : List (List UInt8)) {a : Nat}, (σ.nd a).isSome = true → (σ.nd (overS σ l a).2).isSome = true
  | [], _, ha => ha
  | q :: r, a, ha => by
    unfold overS
    split
    · exact h.step ha q
    · exact overS_ok h r (h.step ha q)
theorem start_ok {σ : FSt} (h : Live σ) {dir : Int} {s : List UInt8} (h0 : (startE σ dir s).1 = 0) : (σ.nd (startE σ dir s).2).isSome = true := by
  unfold startE at h0 ⊢
  cases hn : σ.ndI dir with
  | none => rw [hn] at h0; exact absurd h0 (by simp)
  | some n =>
    rw [hn] at h0
    simp only at h0 ⊢
    obtain ⟨k, rfl, hk⟩ := ndI_some hn
    by_cases h1 : n.d = false
    · rw [if_pos h1] at h0; exact absurd h0 (by simp)
    rw [if_neg h1] at h0 ⊢
    by_cases h2 : s = []
    · rw [if_pos h2] at h0; exact absurd h0 (by simp)
    rw [if_neg h2] at h0 ⊢
    by_cases h3 : 256 < s.length
    · rw [if_pos h3] at h0; exact absurd h0 (by simp)
    rw [if_neg h3]
    simp only
    split
    · obtain ⟨r, hr, _⟩ := h.root
      rw [hr]; rfl
    · rw [Int.toNat_natCast, hk]; rfl
theorem walk_ok {σ : FSt} (h : Live σ) {dir : Int} {s : List UInt8} (h0 : (walkE σ dir s).1 = 0) : (σ.nd (walkE σ dir s).2).isSome = true := by
  unfold walkE at h0 ⊢
  by_cases h1 : (startE σ dir s).1 ≠ 0
  · rw [if_pos h1] at h0; exact absurd h0 h1
  rw [if_neg h1] at h0 ⊢
  have h3 := overS_ok h (piecesS s) (start_ok h (by simpa using h1))
  by_cases h2 : (overS σ (piecesS s) (startE σ dir s).2).1 ≠ 0
  · rw [if_pos h2] at h0; exact absurd h0 h2
  rw [if_neg h2] at h0 ⊢
  split at h0
  · exact absurd h0 (by simp)
  · rename_i h4
    rw [if_neg h4]
    exact h3
/-- A tree of files with counts of at most so much. -/
structure Good (σ : FSt) (k : Nat) : Prop where
  live : Live σ
  inv : Inv σ 0
  caps : Caps σ k
theorem Good.mono {σ : FSt} {k l : Nat} (h : Good σ k) (hkl : k ≤ l) : Good σ l := ⟨h.live, h.inv, h.caps.mono hkl⟩
theorem Good.b {σ : FSt} {k : Nat} (h : Good σ k) (hk : k ≤ 1000000) : CapB σ := h.caps.b hk
theorem Good.new : Good newT 1 := ⟨(by
    refine ⟨⟨rootN, rfl, rfl, rfl⟩, fun i n h => ?_, fun i n h _ _ => ?_, by decide, by decide, by decide, fun i n h => ?_⟩
    · obtain ⟨_, rfl⟩ := newT_nd h; intro q hq; cases hq
    · obtain ⟨_, rfl⟩ := newT_nd h; rfl
    · obtain ⟨_, rfl⟩ := newT_nd h; (intro q hq; cases hq)), Inv.new, caps_of (by decide)⟩
/-- The two parts that a call keeps (that it is Live is the walk's own word). -/
structure Kept (σ : FSt) (k : Nat) : Prop where
  inv : Inv σ 0
  caps : Caps σ k
theorem Kept.mono {σ : FSt} {k l : Nat} (h : Kept σ k) (hkl : k ≤ l) : Kept σ l := ⟨h.inv, h.caps.mono hkl⟩
theorem Kept.good {σ : FSt} {k : Nat} (h : Kept σ k) (hl : Live σ) : Good σ k := ⟨hl, h.inv, h.caps⟩
theorem Good.kept {σ : FSt} {k : Nat} (h : Good σ k) : Kept σ (k + 1) := ⟨h.inv, h.caps.mono (Nat.le_succ _)⟩
theorem Caps.put {σ : FSt} {k l : Nat} (h : Caps σ k) (hkl : k ≤ l) {a : Nat} {n n' : Nd} (ha : σ.nd a = some n) (h1 : n'.links ≤ l) (h2 : n'.holds ≤ l) (h3 : n'.ents.length ≤ l) : Caps (σ.put a (some n')) l := fun j m hj => by
  rw [put_nd ha] at hj
  by_cases e : j = a
  · rw [if_pos e] at hj
    cases hj
    exact ⟨h1, h2, h3⟩
  · rw [if_neg e] at hj
    have := h j m hj
    omega
theorem Caps.away {σ : FSt} {k : Nat} (h : Caps σ k) {a : Nat} {n : Nd} (ha : σ.nd a = some n) : Caps (σ.put a none) k := fun j m hj => by
  rw [put_nd ha] at hj
  by_cases e : j = a
  · rw [if_pos e] at hj; cases hj
  · rw [if_neg e] at hj; exact h j m hj
theorem Caps.letS {σ : FSt} {k : Nat} (h : Caps σ k) (i : Nat) : Caps (letS σ i) k := by
  unfold YtlhmmiolnbgloaaGreatDoor.letS
  cases hn : σ.nd i with
  | none => exact h
  | some n =>
    simp only
    split
    · exact h.away hn
    · exact h
theorem Caps.cut {σ : FSt} {k : Nat} (h : Caps σ k) {a : Nat} {n : Nd} (ha : σ.nd a = some n) (nm : List UInt8) : Caps (cutS σ a nm) k := by
  unfold cutS
  rw [entS_some ha]
  have := h a n ha
  exact h.put (Nat.le_refl _) ha this.1 this.2.1 (Nat.le_trans (List.length_filter_le _ _) this.2.2)
theorem kins_len (x : List UInt8 × Nat) : ∀ L : KA Nat, (kins x L).length = L.length + 1
  | [] => rfl
  | y :: r => by
    rw [kins_cons]
    split
    · rfl
    · simp [kins_len x r]
theorem kput_len (s : List UInt8) (k : Nat) (L : KA Nat) : (kput s k L).length ≤ L.length + 1 := by
  unfold kput
  rw [kins_len]
  exact Nat.succ_le_succ (List.length_filter_le _ _)
theorem Caps.link {σ : FSt} {k l : Nat} (h : Caps σ k) (hkl : k < l) {a : Nat} {n : Nd} (ha : σ.nd a = some n) (nm : List UInt8) (i : Nat) : Caps (linkS σ a nm i) l := by
  unfold linkS
  rw [entS_some ha]
  have := h a n ha
  have h2 := kput_len nm i n.ents
  exact h.put (by omega) ha (by show n.links ≤ l; omega) (by show n.holds ≤ l; omega) (by show (kput nm i n.ents).length ≤ l; omega)
theorem Caps.gone {σ : FSt} {k : Nat} (h : Caps σ k) {b o : Nat} {m no : Nd} {y : List UInt8} (hb : σ.nd b = some m) (hy : kget y m.ents = some o) (ho : σ.nd o = some no) (hob : o ≠ b) : Caps (goneS σ b y) k := by
  have h1 : (cutS σ b y).nd o = some no := (cutS_nd hb hob).trans ho
  rw [goneS_some hb hy, relS_some h1]
  have h2 := h o no ho
  exact ((h.cut hb y).put (n' := less no) (Nat.le_refl _) h1 (Nat.le_trans (Nat.sub_le _ _) h2.1) h2.2.1 h2.2.2).letS o
/-- What nothing names may go, when nothing holds it. -/
theorem Inv.free {σ : FSt} (h : Inv σ 0) (hL : Live σ) {i : Nat} {n : Nd} (hn : σ.nd i = some n) (hl : n.links = 0) : Inv (σ.put i none) 0 ∧ Live (σ.put i none) := by
  have hi1 : i ≠ 1 := fun e => by
    obtain ⟨r, h1, _, h2⟩ := hL.root
    rw [e, h1] at hn
    cases hn
    omega
  have hents : n.ents = [] := by cases hd : n.d with
    | true => exact h.dead i n hn hd hl
    | false => exact h.file i n hn hd
  have hr0 : refs σ i = 0 := by have := h.cnt i n hn hi1; rw [if_neg (nd_pos hn)] at this; omega
  have hnd := put_nd hn none
  have hr : ∀ j, refs (σ.put i none) j = refs σ j := fun j => by
    have := refs_put hn none j
    have e : entN j n.ents = 0 := by rw [hents]; rfl
    simp only [refN] at this
    omega
  have cs : ∀ j m, (σ.put i none).nd j = some m → j ≠ i ∧ σ.nd j = some m := fun j m hj => by
    rw [hnd] at hj
    by_cases e : j = i
    · rw [if_pos e] at hj; cases hj
    · rw [if_neg e] at hj; exact ⟨e, hj⟩
  have cf : ∀ j m, σ.nd j = some m → j ≠ i → (σ.put i none).nd j = some m := fun j m hj e => by rw [hnd, if_neg e]; exact hj
  have noP : ∀ j m, σ.nd j = some m → m.d = true → m.links ≠ 0 → j ≠ 1 → m.par ≠ i := fun j m hj h1 h2 h3 e => by
    obtain ⟨q, nm, b1, b2, b3⟩ := h.up j m hj h1 h2 h3 (nd_pos hj)
    rw [e, hn] at b1
    cases b1
    exact kget_nil_none b3 hents
  refine ⟨⟨fun j m hj h1 => ?_, by rw [hr]; exact h.root, fun j m hj h1 => h.one j m (cs j m hj).2 h1, fun j m hj h1 h2 => h.dead j m (cs j m hj).2 h1 h2, fun j m hj h1 h2 h3 h4 => ?_, fun j m hj h1 h2 => ?_, fun j m hj => h.srt j m (cs j m hj).2, fun j m hj h1 => h.file j m (cs j m hj).2 h1, fun j m hj => h.alive j m (cs j m hj).2, by decide, fun m hj => h.rootp m (cs 1 m hj).2⟩, ?_⟩
  · rw [hr]; exact h.cnt j m (cs j m hj).2 h1
  · obtain ⟨e, hj⟩ := cs j m hj
    obtain ⟨q, nm, b1, b2, b3⟩ := h.up j m hj h1 h2 h3 h4
    exact ⟨q, nm, cf _ q b1 (noP j m hj h1 h2 h3), b2, b3⟩
  · obtain ⟨e, hj⟩ := cs j m hj
    obtain ⟨d, hd⟩ := h.to_root hj h1 h2
    exact ⟨1, d, hd.same (.inl rfl) fun i0 n0 b1 b2 b3 b4 b5 => ⟨b2, n0, cf i0 n0 b3 (fun e2 => by
      rw [e2, hn] at b3
      cases b3
      exact b5 hl), b4, b5, rfl⟩⟩
  · refine ⟨?_, fun j m hj q hq => ?_, fun j m hj hd hp => ?_, ?_, by rw [FSt.put_length]; exact hL.len, ?_, fun j m hj => hL.names j m (cs j m hj).2⟩
    · obtain ⟨r, h1, h2, h3⟩ := hL.root
      exact ⟨r, cf 1 r h1 (fun e => hi1 e.symm), h2, h3⟩
    · obtain ⟨e, hj⟩ := cs j m hj
      obtain ⟨x, hx⟩ := Option.isSome_iff_exists.1 (hL.ents j m hj q hq)
      have hqi : q.2 ≠ i := fun e2 => by
        have h1 := refs_ge hj q.2
        have h2 := entN_mem (L := m.ents) (i := q.2) (s := q.1) hq
        rw [e2, hr0] at h1
        rw [e2] at h2
        omega
      rw [cf _ x hx hqi]; rfl
    · obtain ⟨e, hj⟩ := cs j m hj
      obtain ⟨x, hx⟩ := Option.isSome_iff_exists.1 (hL.par j m hj hd hp)
      by_cases j1 : j = 1
      · rw [j1] at hj
        rw [cf _ x hx (by rw [h.rootp m hj]; exact fun e => hi1 e.symm)]; rfl
      · rw [cf _ x hx (noP j m hj hd (by omega) j1)]; rfl
    · have h1 := FSt.cnt_put (show (σ.nd i).isSome = true by rw [hn]; rfl) none
      have h9 := hL.cnt
      have e1 : Go.Proofs.YtlhmmiolnbgloaaGreatDoor.one none = 0 := rfl
      omega
    · have h1 := FSt.byts_put hn none
      have h9 := hL.byts
      have e1 : ndLen none = 0 := rfl
      omega
theorem lookS_of {σ : FSt} {a : Nat} {n : Nd} {x : List UInt8} {o : Option Nat} (h : lookS σ a x = o) (ha : σ.nd a = some n) : kget x n.ents = o := by rw [lookS_some ha] at h; exact h
/-- A name taken away from a directory. -/
theorem Good.gone {σ : FSt} {k : Nat} (h : Good σ k) {a o : Nat} {n no : Nd} {x : List UInt8} (ha : σ.nd a = some n) (hd : n.d = true) (hx : kget x n.ents = some o) (ho : σ.nd o = some no) (he : no.d = true → no.ents = []) : Kept (goneS σ a x) k := by
  have hob : o ≠ a := fun e => by
    rw [e, ha] at ho
    cases ho
    exact kget_nil_none hx (he hd)
  exact ⟨h.inv.gone h.live ha hd hx ho he, h.caps.gone ha hx ho hob⟩
theorem Good.unlink {σ : FSt} {k : Nat} (h : Good σ k) (dir : Int) (s : List UInt8) : Kept (unlinkR σ dir s).2 (k + 1) := by
  unfold unlinkR
  by_cases hE : unlinkE σ dir s ≠ 0
  · rw [if_pos hE]; exact h.kept
  rw [if_neg hE]
  have hE : unlinkE σ dir s = 0 := by simpa using hE
  unfold unlinkE at hE
  by_cases h1 : (aheadE σ dir s).1 ≠ 0
  · rw [if_pos h1] at hE; exact absurd hE h1
  rw [if_neg h1] at hE
  obtain ⟨n, hn, hnd, _⟩ := ahead_ok (by simpa using h1)
  cases hl : lookS σ (aheadE σ dir s).2.1 (aheadE σ dir s).2.2 with
  | none => rw [hl] at hE; exact absurd hE (by simp)
  | some o =>
    rw [hl] at hE
    simp only at hE
    have hx := lookS_of hl hn
    obtain ⟨no, ho⟩ := Option.isSome_iff_exists.1 (h.live.ents _ n hn _ (kget_mem hx))
    have hdo : dirS σ o = no.d := by unfold dirS; rw [ho]
    refine (h.gone hn hnd hx ho (fun e => ?_)).mono (Nat.le_succ _)
    rw [hdo, e] at hE
    simp at hE
theorem Good.rmdir {σ : FSt} {k : Nat} (h : Good σ k) (dir : Int) (s : List UInt8) : Kept (rmdirR σ dir s).2 (k + 1) := by
  unfold rmdirR
  by_cases hE : rmdirE σ dir s ≠ 0
  · rw [if_pos hE]; exact h.kept
  rw [if_neg hE]
  have hE : rmdirE σ dir s = 0 := by simpa using hE
  unfold rmdirE at hE
  by_cases h1 : (aheadE σ dir s).1 ≠ 0
  · rw [if_pos h1] at hE; exact absurd hE h1
  rw [if_neg h1] at hE
  obtain ⟨n, hn, hnd, _⟩ := ahead_ok (by simpa using h1)
  cases hl : lookS σ (aheadE σ dir s).2.1 (aheadE σ dir s).2.2 with
  | none => rw [hl] at hE; exact absurd hE (by simp)
  | some o =>
    rw [hl] at hE
    simp only at hE
    have hx := lookS_of hl hn
    obtain ⟨no, ho⟩ := Option.isSome_iff_exists.1 (h.live.ents _ n hn _ (kget_mem hx))
    have hdo : dirS σ o = no.d := by unfold dirS; rw [ho]
    have hso : sizeD σ o = no.ents.length := by unfold sizeD; rw [ho]
    refine (h.gone hn hnd hx ho (fun e => ?_)).mono (Nat.le_succ _)
    rw [hdo, hso, e] at hE
    by_cases h0 : no.ents.length = 0
    · exact List.eq_nil_of_length_eq_zero h0
    · simp [h0] at hE
theorem openE_zero {n : Nd} {s : List UInt8} (h : openE n s = 0) : kget s n.ents = none ∧ n.links ≠ 0 ∧ mayN n.mode 2 = true := by
  unfold openE at h
  by_cases h1 : (kget s n.ents).isSome = true
  · rw [if_pos h1] at h; exact absurd h (by simp)
  rw [if_neg h1] at h
  by_cases h2 : n.links = 0
  · rw [if_pos h2] at h; exact absurd h (by simp)
  rw [if_neg h2] at h
  refine ⟨by simpa using h1, h2, ?_⟩
  cases h3 : mayN n.mode 2 with
  | true => rfl
  | false => rw [h3] at h; simp at h
theorem Good.make {σ : FSt} {k : Nat} (h : Good σ k) (dir : Int) (s : List UInt8) (d : Bool) (m : Int) : Kept (makeR σ dir s d m).2 (k + 1) := by
  unfold makeR
  by_cases hE : addE σ dir s d ≠ 0
  · rw [if_pos hE]; exact h.kept
  rw [if_neg hE]
  have hE : addE σ dir s d = 0 := by simpa using hE
  unfold addE at hE
  by_cases h1 : (aheadE σ dir s).1 ≠ 0
  · rw [if_pos h1] at hE; exact absurd hE h1
  rw [if_neg h1] at hE
  obtain ⟨n, hn, hnd, _⟩ := ahead_ok (by simpa using h1)
  by_cases h2 : slashS s = true ∧ d = false
  · rw [if_pos h2] at hE; exact absurd hE (by simp)
  rw [if_neg h2] at hE
  by_cases h3 : openS σ (aheadE σ dir s).2.1 (aheadE σ dir s).2.2 ≠ 0
  · rw [if_pos h3] at hE; exact absurd hE h3
  have h3 : openE n (aheadE σ dir s).2.2 = 0 := by
    have : openS σ (aheadE σ dir s).2.1 (aheadE σ dir s).2.2 = 0 := by simpa using h3
    unfold openS at this; rw [hn] at this; exact this
  obtain ⟨o1, o2, _⟩ := openE_zero h3
  unfold addS
  generalize (aheadE σ dir s).2.1 = a at *
  generalize (aheadE σ dir s).2.2 = nm at *
  have hI := h.inv.add h.live d m a
  have hna : (σ.add (newNd d m a)).nd a = some n := (FSt.add_other (by rw [hn]; rfl) _).trans hn
  have hnf := FSt.add_same σ (newNd d m a)
  refine ⟨hI.link hnf hna hnd o2 o1 (fun _ => ⟨rfl, ?_⟩), ?_⟩
  · obtain ⟨j, hj⟩ := h.inv.to_root hn hnd o2
    exact ⟨j, hj.same (.inl rfl) fun i n0 b1 b2 b3 b4 b5 => ⟨Live.ne_free (by rw [b3]; rfl), n0, (FSt.add_other (by rw [b3]; rfl) _).trans b3, b4, b5, rfl⟩⟩
  · have hc : Caps (σ.add (newNd d m a)) (max k 1) := fun j q hj => by
      rw [FSt.nd_add] at hj
      by_cases e : j = σ.free
      · rw [if_pos e] at hj
        cases hj
        exact ⟨by show 1 ≤ _; omega, Nat.zero_le _, Nat.zero_le _⟩
      · rw [if_neg e] at hj
        have := h.caps j q hj
        omega
    have h1r := h.live.root
    obtain ⟨r, hr, _, hr1⟩ := h1r
    have := (h.caps 1 r hr).1
    exact hc.link (by omega) hna nm σ.free
theorem Good.link {σ : FSt} {k : Nat} (h : Good σ k) (dir : Int) (s t : List UInt8) : Kept (linkR σ dir s t).2 (k + 2) := by
  unfold linkR
  by_cases hE : linkE σ dir s t ≠ 0
  · rw [if_pos hE]; exact h.kept.mono (Nat.le_succ _)
  rw [if_neg hE]
  have hE : linkE σ dir s t = 0 := by simpa using hE
  unfold linkE at hE
  by_cases h0 : (walkE σ dir s).1 ≠ 0
  · rw [if_pos h0] at hE; exact absurd hE h0
  rw [if_neg h0] at hE
  by_cases hdk : dirS σ (walkE σ dir s).2 = true
  · rw [if_pos hdk] at hE; exact absurd hE (by simp)
  rw [if_neg hdk] at hE
  by_cases h1 : (aheadE σ dir t).1 ≠ 0
  · rw [if_pos h1] at hE; exact absurd hE h1
  rw [if_neg h1] at hE
  obtain ⟨n, hn, hnd, _⟩ := ahead_ok (by simpa using h1)
  by_cases h2 : slashS t = true
  · rw [if_pos h2] at hE; exact absurd hE (by simp)
  rw [if_neg h2] at hE
  have h3 : openE n (aheadE σ dir t).2.2 = 0 := by unfold openS at hE; rw [hn] at hE; exact hE
  obtain ⟨o1, o2, _⟩ := openE_zero h3
  have hw := walk_ok h.live (by simpa using h0)
  unfold linkT
  generalize (aheadE σ dir t).2.1 = a at *
  generalize (aheadE σ dir t).2.2 = nm at *
  generalize (walkE σ dir s).2 = i at *
  cases hi : σ.nd i with
  | none => rw [hi] at hw; cases hw
  | some ni =>
    have hid : ni.d = false := by unfold dirS at hdk; rw [hi] at hdk; simpa using hdk
    have hi1 : i ≠ 1 := fun e => by
      obtain ⟨r, h1, h2, _⟩ := h.live.root
      rw [e, h1] at hi
      cases hi
      rw [hid] at h2
      cases h2
    have hia : i ≠ a := fun e => by rw [e, hn] at hi; cases hi; rw [hid] at hnd; cases hnd
    rw [relS_some hi]
    have hna : (σ.put i (some (more ni))).nd a = some n := by rw [put_nd hi, if_neg (fun e => hia e.symm)]; exact hn
    have hni : (σ.put i (some (more ni))).nd i = some (more ni) := by rw [put_nd hi, if_pos rfl]
    have hc := h.caps i ni hi
    exact ⟨(h.inv.inc hi hid hi1).link hni hna hnd o2 o1 (fun e => by have : ni.d = true := e; rw [hid] at this; cases this),
      (h.caps.put (n' := more ni) (Nat.le_succ _) hi (show ni.links + 1 ≤ _ by omega) (Nat.le_succ_of_le hc.2.1) (Nat.le_succ_of_le hc.2.2)).link (by omega) hna nm i⟩
end Go.Proofs.YtlhmmiolnbgloaaGreatDoor

/- The tree of files as plain data: what is renamed, written, held, let go leaves a tree. No program in sight; no condition. -/
namespace Go.Proofs.YtlhmmiolnbgloaaGreatDoor
open Go.RowKit

theorem goneS_live {σ : FSt} (h : Inv σ 0) (hL : Live σ) {b o : Nat} {m no : Nd} {y : List UInt8} (hb : σ.nd b = some m) (hy : kget y m.ents = some o) (ho : σ.nd o = some no) (he : no.d = true → no.ents = []) : Live (goneS σ b y) := by
  have hob : o ≠ b := fun e => by
    rw [e, hb] at ho
    have e2 : m = no := Option.some.inj ho
    rw [← e2] at he
    cases hd : m.d with
    | true => exact kget_nil_none hy (he hd)
    | false => exact kget_nil_none hy (h.file b m hb hd)
  have h1 : (cutS σ b y).nd o = some no := (cutS_nd hb hob).trans ho
  rw [goneS_some hb hy, relS_some h1]
  obtain ⟨g1, g2, -⟩ := (h.cut hb hy).fall (hL.cut hb y) h1 he
  have h2 : ((cutS σ b y).put o (some (less no))).nd o = some (less no) := by rw [put_nd h1, if_pos rfl]
  unfold letS
  rw [h2]
  simp only
  split
  · rename_i hz
    exact g2 hz.1 hz.2
  · exact g1
theorem Caps.parS {σ : FSt} {k : Nat} (h : Caps σ k) (i b : Nat) : Caps (parS σ i b) k := by
  unfold YtlhmmiolnbgloaaGreatDoor.parS
  split
  · cases hi : σ.nd i with
    | none => unfold relS; rw [hi]; exact h
    | some n =>
      rw [relS_some hi]
      have := h i n hi
      exact h.put (Nat.le_refl _) hi this.1 this.2.1 this.2.2
  · exact h
theorem cutS_ents {σ : FSt} {a b : Nat} {n m : Nd} {x : List UInt8} (ha : σ.nd a = some n) (hb : σ.nd b = some m) : ∃ m', (cutS σ a x).nd b = some m' ∧ m'.d = m.d ∧ m'.links = m.links ∧ m'.par = m.par ∧ m'.holds = m.holds ∧ m'.data = m.data ∧ m'.mode = m.mode := by
  unfold cutS
  rw [entS_some ha, put_nd ha]
  by_cases e : b = a
  · rw [e, ha] at hb
    cases hb
    exact ⟨{ n with ents := kdel x n.ents }, by rw [if_pos e], rfl, rfl, rfl, rfl, rfl, rfl⟩
  · exact ⟨m, by rw [if_neg e]; exact hb, rfl, rfl, rfl, rfl, rfl, rfl⟩
theorem Caps.carry {σ : FSt} {k : Nat} (h : Caps σ k) {a b i : Nat} {n m : Nd} {x y : List UInt8} (ha : σ.nd a = some n) (hb : σ.nd b = some m) : Caps (carryS σ a x b y i) (k + 1) := by
  obtain ⟨m', hb', _⟩ := cutS_ents (x := x) ha hb
  exact ((h.cut ha x).link (Nat.lt_succ_self k) hb' y i).parS i b
/-- What stands behind the old file there when it has gone. -/
theorem gone_then {σ : FSt} {k a b i o : Nat} {n m ni no : Nd} {x y : List UInt8} (h : Good σ k) (ha : σ.nd a = some n) (had : n.d = true) (hx : kget x n.ents = some i) (hi : σ.nd i = some ni) (hb : σ.nd b = some m) (hbd : m.d = true) (hbl : m.links ≠ 0)
    (hy : kget y m.ents = some o) (ho : σ.nd o = some no) (hne : o ≠ i) (he : no.ents = []) (hu : ni.d = true → ¬ Under σ i b) :
    Inv (goneS σ b y) 0 ∧ Live (goneS σ b y) ∧ Caps (goneS σ b y) k ∧ ∃ n' m', (goneS σ b y).nd a = some n' ∧ n'.d = true ∧ kget x n'.ents = some i ∧ (goneS σ b y).nd i = some ni ∧ (goneS σ b y).nd b = some m' ∧ m'.d = true ∧ m'.links ≠ 0 ∧ kget y m'.ents = none ∧ (ni.d = true → ¬ Under (goneS σ b y) i b) := by
  have hob : o ≠ b := fun e => by rw [e, hb] at ho; cases ho; exact kget_nil_none hy he
  have hao : a ≠ o := fun e => by rw [e, ho] at ha; cases ha; exact kget_nil_none hx he
  have hib : i ≠ b := fun e => by
    have e2 := hi
    rw [e, hb] at e2
    cases e2
    exact hu hbd (e ▸ Under.self σ i)
  have hnd := goneS_nd hb hy ho hob
  refine ⟨h.inv.gone h.live hb hbd hy ho (fun _ => he), goneS_live h.inv h.live hb hy ho (fun _ => he), h.caps.gone hb hy ho hob, ?_⟩
  have hi' : (goneS σ b y).nd i = some ni := by rw [hnd, if_neg (fun e => hne e.symm), if_neg hib]; exact hi
  have hb' : (goneS σ b y).nd b = some { m with ents := kdel y m.ents } := by rw [hnd, if_neg (fun e => hob e.symm), if_pos rfl]
  have hu' : ni.d = true → ¬ Under (goneS σ b y) i b := fun e h9 => hu e (h9.gone hb hy ho hob)
  by_cases hab : a = b
  · rw [hab, hb] at ha
    cases ha
    refine ⟨{ n with ents := kdel y n.ents }, { n with ents := kdel y n.ents }, by rw [hab]; exact hb', hbd, ?_, hi', hb', hbd, hbl, kget_kdel_same _ _, hu'⟩
    have hxy : x ≠ y := fun e => by rw [e, hy] at hx; cases hx; exact hne rfl
    show kget x (kdel y n.ents) = some i
    rw [kget_kdel_other hxy]; exact hx
  · exact ⟨n, { m with ents := kdel y m.ents }, by rw [hnd, if_neg hao, if_neg hab]; exact ha, had, hx, hi', hb', hbd, hbl, kget_kdel_same _ _, hu'⟩
/-- What Rename has seen when it answers that it is done. -/
theorem ren_ok {σ : FSt} {dir : Int} {s t : List UInt8} (hL : Live σ) (hE : renE σ dir s t = 0) : ∃ a x b y n m i ni, (aheadE σ dir s).2.1 = a ∧ (aheadE σ dir s).2.2 = x ∧ (aheadE σ dir t).2.1 = b ∧ (aheadE σ dir t).2.2 = y ∧ σ.nd a = some n ∧ n.d = true ∧ kget x n.ents = some i ∧ σ.nd i = some ni ∧ σ.nd b = some m ∧ m.d = true ∧ m.links ≠ 0 ∧ y.length ≤ 32 ∧ overE σ b y i = 0 := by
  unfold renE at hE
  by_cases h1 : (aheadE σ dir s).1 ≠ 0
  · rw [if_pos h1] at hE; exact absurd hE h1
  rw [if_neg h1] at hE
  obtain ⟨n, hn, hnd, _⟩ := ahead_ok (by simpa using h1)
  cases hl : lookS σ (aheadE σ dir s).2.1 (aheadE σ dir s).2.2 with
  | none => rw [hl] at hE; exact absurd hE (by simp)
  | some i =>
    rw [hl] at hE
    simp only at hE
    have hx := lookS_of hl hn
    obtain ⟨ni, hi⟩ := Option.isSome_iff_exists.1 (hL.ents _ n hn _ (kget_mem hx))
    by_cases h2 : slashS s = true ∧ dirS σ i = false
    · rw [if_pos h2] at hE; exact absurd hE (by simp)
    rw [if_neg h2] at hE
    unfold toE at hE
    by_cases h3 : (aheadE σ dir t).1 ≠ 0
    · rw [if_pos h3] at hE; exact absurd hE h3
    rw [if_neg h3] at hE
    obtain ⟨m, hm, hmd, hml⟩ := ahead_ok (by simpa using h3)
    by_cases h4 : slashS t = true ∧ dirS σ i = false
    · rw [if_pos h4] at hE; exact absurd hE (by simp)
    rw [if_neg h4] at hE
    by_cases h5 : linkN σ (aheadE σ dir t).2.1 = 0
    · rw [if_pos h5] at hE; exact absurd hE (by simp)
    rw [if_neg h5] at hE
    have hl0 : m.links ≠ 0 := by unfold linkN at h5; rw [hm] at h5; exact h5
    split at hE
    · exact absurd hE (by simp)
    · exact ⟨_, _, _, _, n, m, i, ni, rfl, rfl, rfl, rfl, hn, hnd, hx, hi, hm, hmd, hl0, hml, hE⟩
theorem over_none {σ : FSt} {b i : Nat} {m ni : Nd} {y : List UInt8} (hb : σ.nd b = some m) (hi : σ.nd i = some ni) (hy : kget y m.ents = none) (h : overE σ b y i = 0) : ni.d = true → ¬ Under σ i b := fun hd hu => by
  have hl : lookS σ b y = none := by rw [lookS_some hb]; exact hy
  have hdi : dirS σ i = ni.d := by unfold dirS; rw [hi]
  unfold overE at h
  rw [hl] at h
  simp only at h
  rw [if_pos ⟨by rw [hdi]; exact hd, underB_true hu⟩] at h
  exact absurd h (by simp)
theorem over_some {σ : FSt} {b i o : Nat} {m ni no : Nd} {y : List UInt8} (hI : Inv σ 0) (hb : σ.nd b = some m) (hi : σ.nd i = some ni) (ho : σ.nd o = some no) (hy : kget y m.ents = some o) (hne : o ≠ i) (h : overE σ b y i = 0) : (ni.d = true → ¬ Under σ i b) ∧ no.ents = [] := by
  have hl : lookS σ b y = some o := by rw [lookS_some hb]; exact hy
  have hdi : dirS σ i = ni.d := by unfold dirS; rw [hi]
  have hdo : dirS σ o = no.d := by unfold dirS; rw [ho]
  have hso : sizeD σ o = no.ents.length := by unfold sizeD; rw [ho]
  unfold overE at h
  rw [hl] at h
  simp only at h
  rw [if_neg hne, hdi, hdo, hso] at h
  by_cases h1 : ni.d ≠ no.d
  · rw [if_pos h1] at h
    split at h <;> exact absurd h (by simp)
  rw [if_neg h1] at h
  by_cases h2 : ni.d = true ∧ underB σ i b = true
  · rw [if_pos h2] at h; exact absurd h (by simp)
  rw [if_neg h2] at h
  refine ⟨fun hd hu => h2 ⟨hd, underB_true hu⟩, ?_⟩
  by_cases h3 : no.ents.length = 0
  · exact List.eq_nil_of_length_eq_zero h3
  · rw [if_pos h3] at h; exact absurd h (by simp)
theorem Good.ren {σ : FSt} {k : Nat} (h : Good σ k) (dir : Int) (s t : List UInt8) : Kept (renR σ dir s t).2 (k + 1) := by
  unfold renR
  by_cases hE : renE σ dir s t ≠ 0
  · rw [if_pos hE]; exact h.kept
  rw [if_neg hE]
  obtain ⟨a, x, b, y, n, m, i, ni, rfl, rfl, rfl, rfl, ha, had, hx, hi, hb, hbd, hbl, hyl, ho⟩ := ren_ok h.live (by simpa using hE)
  generalize (aheadE σ dir s).2.1 = a at *
  generalize (aheadE σ dir s).2.2 = x at *
  generalize (aheadE σ dir t).2.1 = b at *
  generalize (aheadE σ dir t).2.2 = y at *
  have hlx : lookS σ a x = some i := by rw [lookS_some ha]; exact hx
  unfold moveS
  rw [hlx]
  simp only
  cases hy : kget y m.ents with
  | none =>
    have hly : lookS σ b y = none := by rw [lookS_some hb]; exact hy
    rw [hly]
    simp only
    exact ⟨(h.inv.carry h.live ha hx hi hb hbd hbl hy hyl (over_none hb hi hy ho)).1, h.caps.carry ha hb⟩
  | some o =>
    have hly : lookS σ b y = some o := by rw [lookS_some hb]; exact hy
    rw [hly]
    simp only
    by_cases hne : o = i
    · rw [if_pos hne]; exact h.kept
    rw [if_neg hne]
    obtain ⟨no, hno⟩ := Option.isSome_iff_exists.1 (h.live.ents _ m hb _ (kget_mem hy))
    obtain ⟨h1, h2⟩ := over_some h.inv hb hi hno hy hne ho
    obtain ⟨g1, g2, g3, n', m', g4, g5, g6, g7, g8, g9, g10, g11, g12⟩ := gone_then h ha had hx hi hb hbd hbl hy hno hne h2 h1
    exact ⟨(g1.carry g2 g4 g6 g7 g8 g9 g10 g11 hyl g12).1, g3.carry g4 g8⟩
/-- An inode changed in what the tree doesn't look at. -/
theorem Good.soft {σ : FSt} {k l : Nat} (h : Good σ k) (hkl : k ≤ l) {i : Nat} {n n' : Nd} (hn : σ.nd i = some n) (hd : n'.d = n.d) (hl : n'.links = n.links) (he : n'.ents = n.ents) (hp : n'.par = n.par) (ha : n'.links ≠ 0 ∨ n'.holds ≠ 0) (hh : n'.holds ≤ l) : Kept (σ.put i (some n')) l := by
  have := h.caps i n hn
  exact ⟨h.inv.soft hn hd hl he hp ha, h.caps.put hkl hn (by omega) hh (by rw [he]; omega)⟩
theorem Good.chmod {σ : FSt} {k : Nat} (h : Good σ k) (i m : Int) : Kept (chmodR σ i m).2 (k + 1) := by
  unfold chmodR
  cases hn : σ.ndI i with
  | none => exact h.kept
  | some n =>
    obtain ⟨j, rfl, hj⟩ := ndI_some hn
    simp only [Int.toNat_natCast]
    have := h.caps j n hj
    exact h.soft (Nat.le_succ _) hj rfl rfl rfl rfl (h.inv.alive j n hj) (by show n.holds ≤ _; omega)
theorem Good.hold {σ : FSt} {k : Nat} (h : Good σ k) (i : Int) : Kept (holdR σ i).2 (k + 1) := by
  unfold holdR
  cases hn : σ.ndI i with
  | none => exact h.kept
  | some n =>
    obtain ⟨j, rfl, hj⟩ := ndI_some hn
    simp only [Int.toNat_natCast]
    have := h.caps j n hj
    exact h.soft (Nat.le_succ _) hj rfl rfl rfl rfl (.inr (Nat.succ_ne_zero _)) (by show n.holds + 1 ≤ _; omega)
theorem Good.trunc {σ : FSt} {k : Nat} (h : Good σ k) (i m : Int) : Kept (truncR σ i m).2 (k + 1) := by
  unfold truncR
  cases hn : σ.ndI i with
  | none => exact h.kept
  | some n =>
    obtain ⟨j, rfl, hj⟩ := ndI_some hn
    simp only [Int.toNat_natCast]
    have := h.caps j n hj
    split
    · exact h.kept
    split
    · exact h.kept
    split
    · exact h.kept
    split
    · exact h.soft (Nat.le_succ _) hj rfl rfl rfl rfl (h.inv.alive j n hj) (by show n.holds ≤ _; omega)
    · exact h.kept
theorem Good.write {σ : FSt} {k : Nat} (h : Good σ k) (i m : Int) (s : List UInt8) : Kept (writeR σ i m s).2.2 (k + 1) := by
  unfold writeR
  cases hn : σ.ndI i with
  | none => exact h.kept
  | some n =>
    obtain ⟨j, rfl, hj⟩ := ndI_some hn
    simp only [Int.toNat_natCast]
    have := h.caps j n hj
    split
    · exact h.kept
    split
    · exact h.kept
    split
    · exact h.kept
    split
    · exact h.kept
    split
    · have h1 := put_nd hj (some { n with data := resize n.data (max n.data.length (m.toNat + s.length)) })
      have h2 := h.soft (Nat.le_succ k) hj (n' := { n with data := resize n.data (max n.data.length (m.toNat + s.length)) }) rfl rfl rfl rfl (h.inv.alive j n hj) (by show n.holds ≤ _; omega)
      unfold overS' sizeS
      have h3 : (σ.put j (some { n with data := resize n.data (max n.data.length (m.toNat + s.length)) })).nd j = some { n with data := resize n.data (max n.data.length (m.toNat + s.length)) } := by rw [h1, if_pos rfl]
      exact ⟨h2.inv.soft h3 rfl rfl rfl rfl (h.inv.alive j n hj), h2.caps.put (Nat.le_refl _) h3 (by show n.links ≤ _; omega) (by show n.holds ≤ _; omega) (by show n.ents.length ≤ _; omega)⟩
    · exact h.kept
theorem Good.drop {σ : FSt} {k : Nat} (h : Good σ k) (i : Int) : Kept (dropR σ i).2 (k + 1) := by
  unfold dropR
  cases hn : σ.ndI i with
  | none => exact h.kept
  | some n =>
    obtain ⟨j, rfl, hj⟩ := ndI_some hn
    simp only [Int.toNat_natCast]
    have hc := h.caps j n hj
    split
    · exact h.kept
    · rename_i h0
      have h3 : (σ.put j (some { n with holds := n.holds - 1 })).nd j = some { n with holds := n.holds - 1 } := by rw [put_nd hj, if_pos rfl]
      have hcp : Caps (σ.put j (some { n with holds := n.holds - 1 })) (k + 1) := h.caps.put (Nat.le_succ _) hj (by show n.links ≤ _; omega) (by show n.holds - 1 ≤ _; omega) (by show n.ents.length ≤ _; omega)
      refine ⟨?_, hcp.letS j⟩
      unfold letS
      rw [h3]
      simp only
      split
      · rename_i hz
        have e : ∀ x : Option Nd, (σ.put j x).put j none = σ.put j none := fun x => by unfold FSt.put; rw [List.set_set]
        rw [e]
        exact (h.inv.free h.live hj hz.1).1
      · rename_i hz
        refine h.inv.soft hj rfl rfl rfl rfl ?_
        by_cases hl : n.links = 0
        · exact .inr (fun e => hz ⟨hl, e⟩)
        · exact .inl hl
end Go.Proofs.YtlhmmiolnbgloaaGreatDoor
