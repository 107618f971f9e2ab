/- The tree of files as plain data: what lies below a directory; a name is moved. No program in sight; no condition. -/
import Derived.Test.YtffekmjoenppaaaGreatDoorFilesX
import Derived.Test.YtffekmjoenppaaaGreatDoorFilesInvB
namespace Go.Proofs.YtffekmjoenppaaaGreatDoor
open Go.RowKit

/-- Is k this directory, or above it? -/
def Under (σ : FSt) (k b : Nat) : Prop := ∃ m, Dep σ k k b m
theorem Dep.zero {σ : FSt} {fl e i k : Nat} (h : Dep σ fl e i k) (hk : k = 0) : i = e := by
  cases h with
  | base => rfl
  | up => cases hk
theorem Dep.det {σ : FSt} : ∀ {k i : Nat}, Dep σ 0 1 i k → ∀ {l : Nat}, Dep σ 0 1 i l → k = l
  | _, _, .base _, _, .base _ => rfl
  | _, _, .base _, _, .up h1 _ _ _ _ _ => absurd rfl h1
  | _, _, .up h1 _ _ _ _ _, _, .base _ => absurd rfl h1
  | _, _, .up _ _ h3 _ _ h6, _, .up _ _ g3 _ _ g6 => by
    rw [h3] at g3
    cases g3
    rw [Dep.det h6 g6]
theorem Under.root {σ : FSt} {k : Nat} (hk : k ≠ 1) : ¬ Under σ k 1 := by
  rintro ⟨m, hm⟩
  cases hm with
  | base => exact hk rfl
  | up h1 => exact h1 rfl
theorem Under.step {σ : FSt} {k i : Nat} {n : Nd} (hn : σ.nd i = some n) (hd : n.d = true) (hl : n.links ≠ 0) (h1 : i ≠ 1) (hk : i ≠ k) : Under σ k i ↔ Under σ k n.par := by
  constructor
  · rintro ⟨m, hm⟩
    cases hm with
    | base => exact absurd rfl hk
    | up _ _ h3 _ _ h6 =>
      rw [hn] at h3
      cases h3
      exact ⟨_, h6⟩
  · rintro ⟨m, hm⟩
    exact ⟨m + 1, .up h1 hk hn hd hl hm⟩
/-- One step up. -/
theorem Dep.go_up {σ : FSt} {i m : Nat} {n : Nd} (h : Dep σ 0 1 i m) (hn : σ.nd i = some n) (h1 : i ≠ 1) : ∃ k, m = k + 1 ∧ Dep σ 0 1 n.par k := by
  cases h with
  | base => exact absurd rfl h1
  | up _ _ h3 _ _ h6 =>
    rw [hn] at h3
    cases h3
    exact ⟨_, rfl, h6⟩
theorem nodup_le : ∀ (n : Nat) (l : List Nat), l.Nodup → (∀ x ∈ l, x < n) → l.length ≤ n
  | 0, [], _, _ => Nat.le_refl _
  | 0, x :: _, _, h => absurd (h x (List.mem_cons_self)) (Nat.not_lt_zero x)
  | n + 1, l, h, hl => by
    have h1 := nodup_le n (l.erase n) (h.erase n) fun x hx => by
      have h2 := (h.mem_erase_iff).1 hx
      have := hl x h2.2
      have := h2.1
      omega
    rw [List.length_erase] at h1
    split at h1 <;> omega
theorem Dep.chain {σ : FSt} : ∀ {m i : Nat}, Dep σ 0 1 i m → (σ.nd 1).isSome = true → ∃ l : List Nat, l.length = m + 1 ∧ l.Nodup ∧ ∀ x ∈ l, (σ.nd x).isSome = true ∧ ∃ k ≤ m, Dep σ 0 1 x k
  | 0, i, h, h1 => ⟨[i], rfl, List.nodup_cons.2 ⟨by simp, List.nodup_nil⟩, fun x hx => by
      rw [List.mem_singleton] at hx
      rw [hx]
      exact ⟨by rw [h.zero rfl]; exact h1, 0, Nat.le_refl _, h⟩⟩
  | m + 1, i, h, h1 => by
    have hh := h
    cases h with
    | up a1 a2 a3 a4 a5 a6 =>
      obtain ⟨l, b1, b2, b3⟩ := Dep.chain a6 h1
      refine ⟨i :: l, by rw [List.length_cons, b1], List.nodup_cons.2 ⟨fun hm => ?_, b2⟩, fun x hx => ?_⟩
      · obtain ⟨_, k, hk, hd⟩ := b3 i hm
        have := hh.det hd
        omega
      · rcases List.mem_cons.1 hx with rfl | hx
        · exact ⟨by rw [a3]; rfl, m + 1, Nat.le_refl _, hh⟩
        · obtain ⟨c1, k, hk, hd⟩ := b3 x hx
          exact ⟨c1, k, by omega, hd⟩
/-- No way up is longer than there are inodes. -/
theorem Dep.short {σ : FSt} {i m : Nat} (h : Dep σ 0 1 i m) (hL : Live σ) : m ≤ 100 := by
  obtain ⟨r, hr, _⟩ := hL.root
  obtain ⟨l, h1, h2, h3⟩ := h.chain (by rw [hr]; rfl)
  have h4 := nodup_le (σ.length + 1) l h2 fun x hx => by
    obtain ⟨a, b⟩ := FSt.nd_lt (h3 x hx).1
    omega
  have := hL.len
  omega
/-- A floating inode's own parent doesn't matter. -/
theorem Inv.par {σ : FSt} {k : Nat} (h : Inv σ k) {nk : Nd} (hk : σ.nd k = some nk) (b : Nat) : Inv (σ.put k (some { nk with par := b })) k := by
  have hnd := put_nd hk (some { nk with par := b })
  have hr : ∀ j, refs (σ.put k (some { nk with par := b })) j = refs σ j := fun j => by
    have := refs_put hk (some { nk with par := b }) j
    have e : refN j (some { nk with par := b }) = entN j nk.ents := rfl
    omega
  have cs : ∀ j m, (σ.put k (some { nk with par := b })).nd j = some m → ∃ m0, σ.nd j = some m0 ∧ m.d = m0.d ∧ m.links = m0.links ∧ m.ents = m0.ents ∧ m.holds = m0.holds ∧ (j ≠ k → m.par = m0.par) := fun j m hj => by
    rw [hnd] at hj
    by_cases e : j = k
    · rw [if_pos e] at hj; cases hj; exact ⟨nk, by rw [e]; exact hk, rfl, rfl, rfl, rfl, fun h => absurd e h⟩
    · rw [if_neg e] at hj; exact ⟨m, hj, rfl, rfl, rfl, rfl, fun _ => rfl⟩
  have cf : ∀ j m0, σ.nd j = some m0 → ∃ m, (σ.put k (some { nk with par := b })).nd j = some m ∧ m.d = m0.d ∧ m.links = m0.links ∧ m.ents = m0.ents ∧ (j ≠ k → m.par = m0.par) := fun j m0 hj => by
    by_cases e : j = k
    · rw [e, hk] at hj; cases hj; exact ⟨{ nk with par := b }, by rw [hnd, if_pos e], rfl, rfl, rfl, fun h => absurd e h⟩
    · exact ⟨m0, by rw [hnd, if_neg e]; exact hj, rfl, rfl, rfl, fun _ => rfl⟩
  refine ⟨fun j m hj h1 => ?_, by rw [hr]; exact h.root, fun j m hj h1 => ?_, fun j m hj h1 h2 => ?_, fun j m hj h1 h2 h3 h4 => ?_, fun j m hj h1 h2 => ?_, fun j m hj => ?_, fun j m hj h1 => ?_, fun j m hj => ?_, h.flat, fun m hj => ?_⟩
  · obtain ⟨m0, a1, a2, a3, a4, a5, a6⟩ := cs j m hj
    rw [a3, hr]; exact h.cnt j m0 a1 h1
  · obtain ⟨m0, a1, a2, a3, a4, a5, a6⟩ := cs j m hj
    rw [a3]; exact h.one j m0 a1 (a2 ▸ h1)
  · obtain ⟨m0, a1, a2, a3, a4, a5, a6⟩ := cs j m hj
    rw [a4]; exact h.dead j m0 a1 (a2 ▸ h1) (a3 ▸ h2)
  · obtain ⟨m0, a1, a2, a3, a4, a5, a6⟩ := cs j m hj
    obtain ⟨q, nm, b1, b2, b3⟩ := h.up j m0 a1 (a2 ▸ h1) (a3 ▸ h2) h3 h4
    obtain ⟨q', c1, c2, c3, c4, c5⟩ := cf _ q b1
    exact ⟨q', nm, by rw [a6 h4]; exact c1, c2.trans b2, by rw [c4]; exact b3⟩
  · obtain ⟨m0, a1, a2, a3, a4, a5, a6⟩ := cs j m hj
    obtain ⟨e, d, hd⟩ := h.deep j m0 a1 (a2 ▸ h1) (a3 ▸ h2)
    exact ⟨e, d, hd.same hd.end_ok fun i0 n0 b1 b2 b3 b4 b5 => ⟨b2, by
      obtain ⟨q', c1, c2, c3, c4, c5⟩ := cf _ n0 b3
      exact ⟨q', c1, c2.trans b4, by rw [c3]; exact b5, c5 b2⟩⟩⟩
  · obtain ⟨m0, a1, a2, a3, a4, a5, a6⟩ := cs j m hj
    rw [a4]; exact h.srt j m0 a1
  · obtain ⟨m0, a1, a2, a3, a4, a5, a6⟩ := cs j m hj
    rw [a4]; exact h.file j m0 a1 (a2 ▸ h1)
  · obtain ⟨m0, a1, a2, a3, a4, a5, a6⟩ := cs j m hj
    rw [a3, a5]; exact h.alive j m0 a1
  · rw [hnd, if_neg (fun e => h.flat e.symm)] at hj
    exact h.rootp m hj
/-- What goneS leaves of an inode. -/
theorem goneS_some {σ : FSt} {b o : Nat} {m : Nd} {y : List UInt8} (hb : σ.nd b = some m) (hy : kget y m.ents = some o) : goneS σ b y = letS (relS (cutS σ b y) o less) o := by
  unfold goneS
  rw [lookS_some hb, hy]
theorem goneS_nd {σ : FSt} {b o : Nat} {m no : Nd} {y : List UInt8} (hb : σ.nd b = some m) (hy : kget y m.ents = some o) (ho : σ.nd o = some no) (hob : o ≠ b) (j : Nat) :
    (goneS σ b y).nd j = if j = o then (if no.links - 1 = 0 ∧ no.holds = 0 then none else some (less no)) else if j = b then some { m with ents := kdel y m.ents } else σ.nd j := by
  have h1 : (cutS σ b y).nd o = some no := (cutS_nd hb hob).trans ho
  have h2 : ((cutS σ b y).put o (some (less no))).nd o = some (less no) := by rw [put_nd h1, if_pos rfl]
  rw [goneS_some hb hy, relS_some h1]
  unfold letS
  rw [h2]
  simp only
  by_cases hz : (less no).links = 0 ∧ (less no).holds = 0
  · rw [if_pos hz, put_nd h2, put_nd h1]
    rw [if_pos (show no.links - 1 = 0 ∧ no.holds = 0 from hz)]
    by_cases e : j = o
    · rw [if_pos e, if_pos e]
    · rw [if_neg e, if_neg e, if_neg e]
      unfold cutS
      rw [entS_some hb, put_nd hb]
  · rw [if_neg hz, put_nd h1]
    rw [if_neg (show ¬ (no.links - 1 = 0 ∧ no.holds = 0) from hz)]
    by_cases e : j = o
    · rw [if_pos e, if_pos e]
    · rw [if_neg e, if_neg e]
      unfold cutS
      rw [entS_some hb, put_nd hb]
theorem Inv.gone {σ : FSt} (h : Inv σ 0) (hL : Live σ) {b o : Nat} {m no : Nd} {y : List UInt8} (hb : σ.nd b = some m) (hd : m.d = true) (hy : kget y m.ents = some o) (ho : σ.nd o = some no) (he : no.d = true → no.ents = []) : Inv (goneS σ b y) 0 := by
  have hob : o ≠ b := fun e => by
    rw [e, hb] at ho
    cases ho
    exact kget_nil_none hy (he hd)
  have h1 : (cutS σ b y).nd o = some no := (cutS_nd hb hob).trans ho
  rw [goneS_some hb hy, relS_some h1]
  exact ((h.cut hb hy).fall (hL.cut hb y) h1 he).2.2
/-- Behind what was taken away the way up is what it was. -/
theorem Under.gone {σ : FSt} {b o : Nat} {m no : Nd} {y : List UInt8} (hb : σ.nd b = some m) (hy : kget y m.ents = some o) (ho : σ.nd o = some no) (hob : o ≠ b) {k j : Nat} (h : Under (goneS σ b y) k j) : Under σ k j := by
  obtain ⟨d, hd⟩ := h
  refine ⟨d, hd.same (.inr rfl) fun i n b1 b2 b3 b4 b5 => ⟨b2, ?_⟩⟩
  rw [goneS_nd hb hy ho hob] at b3
  split at b3
  · rename_i e
    split at b3
    · cases b3
    · cases b3
      exact ⟨no, by rw [e]; exact ho, b4, fun e2 => b5 (show no.links - 1 = 0 by omega), rfl⟩
  · split at b3
    · rename_i e
      cases b3
      exact ⟨m, by rw [e]; exact hb, b4, b5, rfl⟩
    · exact ⟨n, b3, b4, b5, rfl⟩
end Go.Proofs.YtffekmjoenppaaaGreatDoor

/- files.FS.Link. Conditions: the contract's own premises. -/
namespace Go.Proofs.YtffekmjoenppaaaGreatDoor
open Go.RowKit

def linkE (σ : FSt) (dir : Int) (s t : List UInt8) : Int :=
  if (walkE σ dir s).1 ≠ 0 then (walkE σ dir s).1
  else if dirS σ (walkE σ dir s).2 = true then 21
  else if (aheadE σ dir t).1 ≠ 0 then (aheadE σ dir t).1
  else if slashS t = true then 21
  else openS σ (aheadE σ dir t).2.1 (aheadE σ dir t).2.2
def linkT (σ : FSt) (dir : Int) (s t : List UInt8) : FSt := linkS (relS σ (walkE σ dir s).2 more) (aheadE σ dir t).2.1 (aheadE σ dir t).2.2 (walkE σ dir s).2
def linkR (σ : FSt) (dir : Int) (s t : List UInt8) : Int × FSt := if linkE σ dir s t ≠ 0 then (linkE σ dir s t, σ) else (0, linkT σ dir s t)
end Go.Proofs.YtffekmjoenppaaaGreatDoor

/- The tree of files as plain data: whatever is asked leaves a tree. No program in sight; no condition. -/
namespace Go.Proofs.YtffekmjoenppaaaGreatDoor
open Go.RowKit

theorem ahead_ok {σ : FSt} {dir : Int} {s : List UInt8} (h : (aheadE σ dir s).1 = 0) : ∃ n, σ.nd (aheadE σ dir s).2.1 = some n ∧ n.d = true ∧ (aheadE σ dir s).2.2.length ≤ 32 := by
  have key : ∀ {E : Int} {x y : Int × Nat × List UInt8}, E ≠ 0 → (if E ≠ 0 then (E, 0, []) else y) = x → x.1 = 0 → False := fun h1 h2 h3 => by
    rw [if_pos h1] at h2
    rw [← h2] at h3
    exact h1 h3
  unfold aheadE at h ⊢
  simp only at h ⊢
  by_cases h1 : (startE σ dir s).1 ≠ 0
  · rw [if_pos h1] at h; exact absurd h h1
  rw [if_neg h1] at h ⊢
  by_cases h2 : (overS σ (piecesS s).dropLast (startE σ dir s).2).1 ≠ 0
  · rw [if_pos h2] at h; exact absurd h h2
  rw [if_neg h2] at h ⊢
  by_cases h3 : hereS σ (overS σ (piecesS s).dropLast (startE σ dir s).2).2 ≠ 0
  · rw [if_pos h3] at h; exact absurd h h3
  rw [if_neg h3] at h ⊢
  cases hl : (piecesS s).getLast? with
  | none => rw [hl] at h; exact absurd h (by simp)
  | some q =>
    rw [hl] at h
    simp only at h ⊢
    by_cases h4 : q = dot ∨ q = dots
    · rw [if_pos h4] at h; exact absurd h (by simp)
    rw [if_neg h4] at h ⊢
    by_cases h5 : 32 < q.length
    · rw [if_pos h5] at h; exact absurd h (by simp)
    rw [if_neg h5]
    have h6 : hereS σ (overS σ (piecesS s).dropLast (startE σ dir s).2).2 = 0 := by simpa using h3
    unfold hereS at h6
    cases hn : σ.nd (overS σ (piecesS s).dropLast (startE σ dir s).2).2 with
    | none => rw [hn] at h6; exact absurd h6 (by decide)
    | some n =>
      rw [hn] at h6
      refine ⟨n, rfl, ?_, by show q.length ≤ 32; omega⟩
      cases hd : n.d with
      | true => rfl
      | false => unfold hereE at h6; simp [hd] at h6
theorem overS_ok {σ : FSt} (h : Live σ) : ∀ (l : List (List UInt8)) {a : Nat}, (σ.nd a).isSome = true → (σ.nd (overS σ l a).2).isSome = true
  | [], _, ha => ha
  | q :: r, a, ha => by
    unfold overS
    split
    · exact h.step ha q
    · exact overS_ok h r (h.step ha q)
theorem start_ok {σ : FSt} (h : Live σ) {dir : Int} {s : List UInt8} (h0 : (startE σ dir s).1 = 0) : (σ.nd (startE σ dir s).2).isSome = true := by
  unfold startE at h0 ⊢
  cases hn : σ.ndI dir with
  | none => rw [hn] at h0; exact absurd h0 (by simp)
  | some n =>
    rw [hn] at h0
    simp only at h0 ⊢
    obtain ⟨k, rfl, hk⟩ := ndI_some hn
    by_cases h1 : n.d = false
    · rw [if_pos h1] at h0; exact absurd h0 (by simp)
    rw [if_neg h1] at h0 ⊢
    by_cases h2 : s = []
    · rw [if_pos h2] at h0; exact absurd h0 (by simp)
    rw [if_neg h2] at h0 ⊢
    by_cases h3 : 256 < s.length
    · rw [if_pos h3] at h0; exact absurd h0 (by simp)
    rw [if_neg h3]
    simp only
    split
    · obtain ⟨r, hr, _⟩ := h.root
      rw [hr]; rfl
    · rw [Int.toNat_natCast, hk]; rfl
theorem walk_ok {σ : FSt} (h : Live σ) {dir : Int} {s : List UInt8} (h0 : (walkE σ dir s).1 = 0) : (σ.nd (walkE σ dir s).2).isSome = true := by
  unfold walkE at h0 ⊢
  by_cases h1 : (startE σ dir s).1 ≠ 0
  · rw [if_pos h1] at h0; exact absurd h0 h1
  rw [if_neg h1] at h0 ⊢
  have h3 := overS_ok h (piecesS s) (start_ok h (by simpa using h1))
  by_cases h2 : (overS σ (piecesS s) (startE σ dir s).2).1 ≠ 0
  · rw [if_pos h2] at h0; exact absurd h0 h2
  rw [if_neg h2] at h0 ⊢
  split at h0
  · exact absurd h0 (by simp)
  · rename_i h4
    rw [if_neg h4]
    exact h3
/-- A tree of files with counts of at most so much. -/
structure Good (σ : FSt) (k : Nat) : Prop where
  live : Live σ
  inv : Inv σ 0
  caps : Caps σ k
theorem Good.mono {σ : FSt} {k l : Nat} (h : Good σ k) (hkl : k ≤ l) : Good σ l := ⟨h.live, h.inv, h.caps.mono hkl⟩
theorem Good.b {σ : FSt} {k : Nat} (h : Good σ k) (hk : k ≤ 1000000) : CapB σ := h.caps.b hk
theorem Good.new : Good newT 1 := ⟨(by
    refine ⟨⟨rootN, rfl, rfl, rfl⟩, fun i n h => ?_, fun i n h _ _ => ?_, by decide, by decide, by decide, fun i n h => ?_⟩
    · obtain ⟨_, rfl⟩ := newT_nd h; intro q hq; cases hq
    · obtain ⟨_, rfl⟩ := newT_nd h; rfl
    · obtain ⟨_, rfl⟩ := newT_nd h; (intro q hq; cases hq)), Inv.new, caps_of (by decide)⟩
/-- The two parts that a call keeps (that it is Live is the walk's own word). -/
structure Kept (σ : FSt) (k : Nat) : Prop where
  inv : Inv σ 0
  caps : Caps σ k
theorem Kept.mono {σ : FSt} {k l : Nat} (h : Kept σ k) (hkl : k ≤ l) : Kept σ l := ⟨h.inv, h.caps.mono hkl⟩
theorem Kept.good {σ : FSt} {k : Nat} (h : Kept σ k) (hl : Live σ) : Good σ k := ⟨hl, h.inv, h.caps⟩
theorem Good.kept {σ : FSt} {k : Nat} (h : Good σ k) : Kept σ (k + 1) := ⟨h.inv, h.caps.mono (Nat.le_succ _)⟩
theorem Caps.put {σ : FSt} {k l : Nat} (h : Caps σ k) (hkl : k ≤ l) {a : Nat} {n n' : Nd} (ha : σ.nd a = some n) (h1 : n'.links ≤ l) (h2 : n'.holds ≤ l) (h3 : n'.ents.length ≤ l) : Caps (σ.put a (some n')) l := fun j m hj => by
  rw [put_nd ha] at hj
  by_cases e : j = a
  · rw [if_pos e] at hj
    cases hj
    exact ⟨h1, h2, h3⟩
  · rw [if_neg e] at hj
    have := h j m hj
    omega
theorem Caps.away {σ : FSt} {k : Nat} (h : Caps σ k) {a : Nat} {n : Nd} (ha : σ.nd a = some n) : Caps (σ.put a none) k := fun j m hj => by
  rw [put_nd ha] at hj
  by_cases e : j = a
  · rw [if_pos e] at hj; cases hj
  · rw [if_neg e] at hj; exact h j m hj
theorem Caps.letS {σ : FSt} {k : Nat} (h : Caps σ k) (i : Nat) : Caps (letS σ i) k := by
  unfold YtffekmjoenppaaaGreatDoor.letS
  cases hn : σ.nd i with
  | none => exact h
  | some n =>
    simp only
    split
    · exact h.away hn
    · exact h
theorem Caps.cut {σ : FSt} {k : Nat} (h : Caps σ k) {a : Nat} {n : Nd} (ha : σ.nd a = some n) (nm : List UInt8) : Caps (cutS σ a nm) k := by
  unfold cutS
  rw [entS_some ha]
  have := h a n ha
  exact h.put (Nat.le_refl _) ha this.1 this.2.1 (Nat.le_trans (List.length_filter_le _ _) this.2.2)
theorem kins_len (x : List UInt8 × Nat) : ∀ L : KA Nat, (kins x L).length = L.length + 1
  | [] => rfl
  | y :: r => by
    rw [kins_cons]
    split
    · rfl
    · simp [kins_len x r]
theorem kput_len (s : List UInt8) (k : Nat) (L : KA Nat) : (kput s k L).length ≤ L.length + 1 := by
  unfold kput
  rw [kins_len]
  exact Nat.succ_le_succ (List.length_filter_le _ _)
theorem Caps.link {σ : FSt} {k l : Nat} (h : Caps σ k) (hkl : k < l) {a : Nat} {n : Nd} (ha : σ.nd a = some n) (nm : List UInt8) (i : Nat) : Caps (linkS σ a nm i) l := by
  unfold linkS
  rw [entS_some ha]
  have := h a n ha
  have h2 := kput_len nm i n.ents
  exact h.put (by omega) ha (by show n.links ≤ l; omega) (by show n.holds ≤ l; omega) (by show (kput nm i n.ents).length ≤ l; omega)
theorem Caps.gone {σ : FSt} {k : Nat} (h : Caps σ k) {b o : Nat} {m no : Nd} {y : List UInt8} (hb : σ.nd b = some m) (hy : kget y m.ents = some o) (ho : σ.nd o = some no) (hob : o ≠ b) : Caps (goneS σ b y) k := by
  have h1 : (cutS σ b y).nd o = some no := (cutS_nd hb hob).trans ho
  rw [goneS_some hb hy, relS_some h1]
  have h2 := h o no ho
  exact ((h.cut hb y).put (n' := less no) (Nat.le_refl _) h1 (Nat.le_trans (Nat.sub_le _ _) h2.1) h2.2.1 h2.2.2).letS o
/-- What nothing names may go, when nothing holds it. -/
theorem Inv.free {σ : FSt} (h : Inv σ 0) (hL : Live σ) {i : Nat} {n : Nd} (hn : σ.nd i = some n) (hl : n.links = 0) : Inv (σ.put i none) 0 ∧ Live (σ.put i none) := by
  have hi1 : i ≠ 1 := fun e => by
    obtain ⟨r, h1, _, h2⟩ := hL.root
    rw [e, h1] at hn
    cases hn
    omega
  have hents : n.ents = [] := by cases hd : n.d with
    | true => exact h.dead i n hn hd hl
    | false => exact h.file i n hn hd
  have hr0 : refs σ i = 0 := by have := h.cnt i n hn hi1; rw [if_neg (nd_pos hn)] at this; omega
  have hnd := put_nd hn none
  have hr : ∀ j, refs (σ.put i none) j = refs σ j := fun j => by
    have := refs_put hn none j
    have e : entN j n.ents = 0 := by rw [hents]; rfl
    simp only [refN] at this
    omega
  have cs : ∀ j m, (σ.put i none).nd j = some m → j ≠ i ∧ σ.nd j = some m := fun j m hj => by
    rw [hnd] at hj
    by_cases e : j = i
    · rw [if_pos e] at hj; cases hj
    · rw [if_neg e] at hj; exact ⟨e, hj⟩
  have cf : ∀ j m, σ.nd j = some m → j ≠ i → (σ.put i none).nd j = some m := fun j m hj e => by rw [hnd, if_neg e]; exact hj
  have noP : ∀ j m, σ.nd j = some m → m.d = true → m.links ≠ 0 → j ≠ 1 → m.par ≠ i := fun j m hj h1 h2 h3 e => by
    obtain ⟨q, nm, b1, b2, b3⟩ := h.up j m hj h1 h2 h3 (nd_pos hj)
    rw [e, hn] at b1
    cases b1
    exact kget_nil_none b3 hents
  refine ⟨⟨fun j m hj h1 => ?_, by rw [hr]; exact h.root, fun j m hj h1 => h.one j m (cs j m hj).2 h1, fun j m hj h1 h2 => h.dead j m (cs j m hj).2 h1 h2, fun j m hj h1 h2 h3 h4 => ?_, fun j m hj h1 h2 => ?_, fun j m hj => h.srt j m (cs j m hj).2, fun j m hj h1 => h.file j m (cs j m hj).2 h1, fun j m hj => h.alive j m (cs j m hj).2, by decide, fun m hj => h.rootp m (cs 1 m hj).2⟩, ?_⟩
  · rw [hr]; exact h.cnt j m (cs j m hj).2 h1
  · obtain ⟨e, hj⟩ := cs j m hj
    obtain ⟨q, nm, b1, b2, b3⟩ := h.up j m hj h1 h2 h3 h4
    exact ⟨q, nm, cf _ q b1 (noP j m hj h1 h2 h3), b2, b3⟩
  · obtain ⟨e, hj⟩ := cs j m hj
    obtain ⟨d, hd⟩ := h.to_root hj h1 h2
    exact ⟨1, d, hd.same (.inl rfl) fun i0 n0 b1 b2 b3 b4 b5 => ⟨b2, n0, cf i0 n0 b3 (fun e2 => by
      rw [e2, hn] at b3
      cases b3
      exact b5 hl), b4, b5, rfl⟩⟩
  · refine ⟨?_, fun j m hj q hq => ?_, fun j m hj hd hp => ?_, ?_, by rw [FSt.put_length]; exact hL.len, ?_, fun j m hj => hL.names j m (cs j m hj).2⟩
    · obtain ⟨r, h1, h2, h3⟩ := hL.root
      exact ⟨r, cf 1 r h1 (fun e => hi1 e.symm), h2, h3⟩
    · obtain ⟨e, hj⟩ := cs j m hj
      obtain ⟨x, hx⟩ := Option.isSome_iff_exists.1 (hL.ents j m hj q hq)
      have hqi : q.2 ≠ i := fun e2 => by
        have h1 := refs_ge hj q.2
        have h2 := entN_mem (L := m.ents) (i := q.2) (s := q.1) hq
        rw [e2, hr0] at h1
        rw [e2] at h2
        omega
      rw [cf _ x hx hqi]; rfl
    · obtain ⟨e, hj⟩ := cs j m hj
      obtain ⟨x, hx⟩ := Option.isSome_iff_exists.1 (hL.par j m hj hd hp)
      by_cases j1 : j = 1
      · rw [j1] at hj
        rw [cf _ x hx (by rw [h.rootp m hj]; exact fun e => hi1 e.symm)]; rfl
      · rw [cf _ x hx (noP j m hj hd (by omega) j1)]; rfl
    · have h1 := FSt.cnt_put (show (σ.nd i).isSome = true by rw [hn]; rfl) none
      have h9 := hL.cnt
      have e1 : Go.Proofs.YtffekmjoenppaaaGreatDoor.one none = 0 := rfl
      omega
    · have h1 := FSt.byts_put hn none
      have h9 := hL.byts
      have e1 : ndLen none = 0 := rfl
      omega
/-- A name taken away from a directory. -/
theorem Good.gone {σ : FSt} {k : Nat} (h : Good σ k) {a o : Nat} {n no : Nd} {x : List UInt8} (ha : σ.nd a = some n) (hd : n.d = true) (hx : kget x n.ents = some o) (ho : σ.nd o = some no) (he : no.d = true → no.ents = []) : Kept (goneS σ a x) k := by
  have hob : o ≠ a := fun e => by
    rw [e, ha] at ho
    cases ho
    exact kget_nil_none hx (he hd)
  exact ⟨h.inv.gone h.live ha hd hx ho he, h.caps.gone ha hx ho hob⟩
theorem openE_zero {n : Nd} {s : List UInt8} (h : openE n s = 0) : kget s n.ents = none ∧ n.links ≠ 0 ∧ mayN n.mode 2 = true := by
  unfold openE at h
  by_cases h1 : (kget s n.ents).isSome = true
  · rw [if_pos h1] at h; exact absurd h (by simp)
  rw [if_neg h1] at h
  by_cases h2 : n.links = 0
  · rw [if_pos h2] at h; exact absurd h (by simp)
  rw [if_neg h2] at h
  refine ⟨by simpa using h1, h2, ?_⟩
  cases h3 : mayN n.mode 2 with
  | true => rfl
  | false => rw [h3] at h; simp at h
theorem Good.make {σ : FSt} {k : Nat} (h : Good σ k) (dir : Int) (s : List UInt8) (d : Bool) (m : Int) : Kept (makeR σ dir s d m).2 (k + 1) := by
  unfold makeR
  by_cases hE : addE σ dir s d ≠ 0
  · rw [if_pos hE]; exact h.kept
  rw [if_neg hE]
  have hE : addE σ dir s d = 0 := by simpa using hE
  unfold addE at hE
  by_cases h1 : (aheadE σ dir s).1 ≠ 0
  · rw [if_pos h1] at hE; exact absurd hE h1
  rw [if_neg h1] at hE
  obtain ⟨n, hn, hnd, _⟩ := ahead_ok (by simpa using h1)
  by_cases h2 : slashS s = true ∧ d = false
  · rw [if_pos h2] at hE; exact absurd hE (by simp)
  rw [if_neg h2] at hE
  by_cases h3 : openS σ (aheadE σ dir s).2.1 (aheadE σ dir s).2.2 ≠ 0
  · rw [if_pos h3] at hE; exact absurd hE h3
  have h3 : openE n (aheadE σ dir s).2.2 = 0 := by
    have : openS σ (aheadE σ dir s).2.1 (aheadE σ dir s).2.2 = 0 := by simpa using h3
    unfold openS at this; rw [hn] at this; exact this
  obtain ⟨o1, o2, _⟩ := openE_zero h3
  unfold addS
  generalize (aheadE σ dir s).2.1 = a at *
  generalize (aheadE σ dir s).2.2 = nm at *
  have hI := h.inv.add h.live d m a
  have hna : (σ.add (newNd d m a)).nd a = some n := (FSt.add_other (by rw [hn]; rfl) _).trans hn
  have hnf := FSt.add_same σ (newNd d m a)
  refine ⟨hI.link hnf hna hnd o2 o1 (fun _ => ⟨rfl, ?_⟩), ?_⟩
  · obtain ⟨j, hj⟩ := h.inv.to_root hn hnd o2
    exact ⟨j, hj.same (.inl rfl) fun i n0 b1 b2 b3 b4 b5 => ⟨Live.ne_free (by rw [b3]; rfl), n0, (FSt.add_other (by rw [b3]; rfl) _).trans b3, b4, b5, rfl⟩⟩
  · have hc : Caps (σ.add (newNd d m a)) (max k 1) := fun j q hj => by
      rw [FSt.nd_add] at hj
      by_cases e : j = σ.free
      · rw [if_pos e] at hj
        cases hj
        exact ⟨by show 1 ≤ _; omega, Nat.zero_le _, Nat.zero_le _⟩
      · rw [if_neg e] at hj
        have := h.caps j q hj
        omega
    have h1r := h.live.root
    obtain ⟨r, hr, _, hr1⟩ := h1r
    have := (h.caps 1 r hr).1
    exact hc.link (by omega) hna nm σ.free
theorem Good.link {σ : FSt} {k : Nat} (h : Good σ k) (dir : Int) (s t : List UInt8) : Kept (linkR σ dir s t).2 (k + 2) := by
  unfold linkR
  by_cases hE : linkE σ dir s t ≠ 0
  · rw [if_pos hE]; exact h.kept.mono (Nat.le_succ _)
  rw [if_neg hE]
  have hE : linkE σ dir s t = 0 := by simpa using hE
  unfold linkE at hE
  by_cases h0 : (walkE σ dir s).1 ≠ 0
  · rw [if_pos h0] at hE; exact absurd hE h0
  rw [if_neg h0] at hE
  by_cases hdk : dirS σ (walkE σ dir s).2 = true
  · rw [if_pos hdk] at hE; exact absurd hE (by simp)
  rw [if_neg hdk] at hE
  by_cases h1 : (aheadE σ dir t).1 ≠ 0
  · rw [if_pos h1] at hE; exact absurd hE h1
  rw [if_neg h1] at hE
  obtain ⟨n, hn, hnd, _⟩ := ahead_ok (by simpa using h1)
  by_cases h2 : slashS t = true
  · rw [if_pos h2] at hE; exact absurd hE (by simp)
  rw [if_neg h2] at hE
  have h3 : openE n (aheadE σ dir t).2.2 = 0 := by unfold openS at hE; rw [hn] at hE; exact hE
  obtain ⟨o1, o2, _⟩ := openE_zero h3
  have hw := walk_ok h.live (by simpa using h0)
  unfold linkT
  generalize (aheadE σ dir t).2.1 = a at *
  generalize (aheadE σ dir t).2.2 = nm at *
  generalize (walkE σ dir s).2 = i at *
  cases hi : σ.nd i with
  | none => rw [hi] at hw; cases hw
  | some ni =>
    have hid : ni.d = false := by unfold dirS at hdk; rw [hi] at hdk; simpa using hdk
    have hi1 : i ≠ 1 := fun e => by
      obtain ⟨r, h1, h2, _⟩ := h.live.root
      rw [e, h1] at hi
      cases hi
      rw [hid] at h2
      cases h2
    have hia : i ≠ a := fun e => by rw [e, hn] at hi; cases hi; rw [hid] at hnd; cases hnd
    rw [relS_some hi]
    have hna : (σ.put i (some (more ni))).nd a = some n := by rw [put_nd hi, if_neg (fun e => hia e.symm)]; exact hn
    have hni : (σ.put i (some (more ni))).nd i = some (more ni) := by rw [put_nd hi, if_pos rfl]
    have hc := h.caps i ni hi
    exact ⟨(h.inv.inc hi hid hi1).link hni hna hnd o2 o1 (fun e => by have : ni.d = true := e; rw [hid] at this; cases this),
      (h.caps.put (n' := more ni) (Nat.le_succ _) hi (show ni.links + 1 ≤ _ by omega) (Nat.le_succ_of_le hc.2.1) (Nat.le_succ_of_le hc.2.2)).link (by omega) hna nm i⟩
end Go.Proofs.YtffekmjoenppaaaGreatDoor
