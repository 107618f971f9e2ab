/- The tree of files as plain data: what is renamed in the root and back, or linked and taken away, leaves the tree as it was. No program in sight; no condition. -/
import Derived.Test.YthikjdpnlahkfaaDoorFilesAskL
import Derived.Test.YthikjdpnlahkfaaDoorFilesTreeS
namespace Go.Proofs.YthikjdpnlahkfaaDoor
open Go.RowKit

theorem ksorted_ext {α : Type} : ∀ {L M : KA α}, KSorted L → KSorted M → (∀ s, kget s L = kget s M) → L = M
  | [], [], _, _, _ => rfl
  | [], y :: M, _, _, h => by have := h y.1; rw [kget_nil, kget_cons, if_pos (by simp)] at this; cases this
  | x :: L, [], _, _, h => by have := h x.1; rw [kget_nil, kget_cons, if_pos (by simp)] at this; cases this
  | x :: L, y :: M, hL, hM, h => by
    obtain ⟨a1, a2⟩ := List.pairwise_cons.1 hL
    obtain ⟨b1, b2⟩ := List.pairwise_cons.1 hM
    have e : x.1 = y.1 := by
      apply Decidable.byContradiction
      intro hne
      have h1 := h x.1
      have h2 := h y.1
      rw [kget_cons, if_pos (by simp), kget_cons, if_neg (by simpa using fun e => hne e.symm)] at h1
      rw [kget_cons, if_neg (by simpa using hne), kget_cons, if_pos (by simp)] at h2
      have c1 := b1 _ (kget_mem h1.symm)
      have c2 := a1 _ (kget_mem h2)
      exact absurd (List.lt_trans (before_lt c1) (before_lt c2)) (List.lt_irrefl _)
    have e2 : x.2 = y.2 := by
      have h1 := h x.1
      rw [kget_cons, if_pos (by simp), kget_cons, if_pos (by rw [e]; simp)] at h1
      exact Option.some.inj h1
    have e3 : x = y := Prod.ext e e2
    subst e3
    rw [ksorted_ext a2 b2 fun s => ?_]
    by_cases hs : s = x.1
    · subst hs
      have n1 : kget x.1 L = none := kget_of_none fun p hp e => by have := a1 p hp; rw [e, WideAt.bytes_irrefl] at this; cases this
      have n2 : kget x.1 M = none := kget_of_none fun p hp e => by have := b1 p hp; rw [e, WideAt.bytes_irrefl] at this; cases this
      rw [n1, n2]
    · have h1 := h s
      rw [kget_cons, if_neg (by simpa using fun e => hs e.symm), kget_cons, if_neg (by simpa using fun e => hs e.symm)] at h1
      exact h1
/-- Away under one name, there under another one, and back. -/
theorem ents_back {L : KA Nat} (hs : KSorted L) {x z : List UInt8} {k : Nat} (hx : kget x L = some k) (hz : kget z L = none) : kput x k (kdel z (kput z k (kdel x L))) = L := by
  have hne : x ≠ z := fun e => by rw [e, hz] at hx; cases hx
  refine ksorted_ext ((((hs.kdel _).kput _ _).kdel _).kput _ _) hs fun s => ?_
  by_cases e : s = x
  · subst e; rw [kget_kput_same, hx]
  · rw [kget_kput_other e]
    by_cases e2 : s = z
    · subst e2; rw [kget_kdel_same, hz]
    · rw [kget_kdel_other e2, kget_kput_other e2, kget_kdel_other e]
theorem ents_off {L : KA Nat} (hs : KSorted L) {z : List UInt8} {k : Nat} (hz : kget z L = none) : kdel z (kput z k L) = L := by
  refine ksorted_ext ((hs.kput _ _).kdel _) hs fun s => ?_
  by_cases e : s = z
  · subst e; rw [kget_kdel_same, hz]
  · rw [kget_kdel_other e, kget_kput_other e]
def zzz : List UInt8 := [122, 122, 122]
/-- A path without a slash. -/
def NoSl (s : List UInt8) : Prop := ∀ c ∈ s, c ≠ slashB
theorem splitS_noSl : ∀ {s : List UInt8}, NoSl s → splitS s = [s]
  | [], _ => rfl
  | c :: r, h => by
    have h1 := splitS_noSl (s := r) fun d hd => h d (List.mem_cons_of_mem _ hd)
    show (if c = slashB then [] :: splitS r else match splitS r with | [] => [[c]] | p :: q => (c :: p) :: q) = _
    rw [if_neg (h c (by simp)), h1]
theorem piecesS_noSl {s : List UInt8} (h : NoSl s) (h0 : s ≠ []) : piecesS s = [s] := by
  unfold piecesS
  rw [splitS_noSl h]
  cases s with
  | nil => exact absurd rfl h0
  | cons c r => rfl
theorem slashS_noSl {s : List UInt8} (h : NoSl s) : slashS s = false := by
  unfold slashS
  cases hl : s.getLast? with
  | none => rfl
  | some c =>
    have := h c (List.mem_of_getLast? hl)
    simpa using this
theorem zzz_noSl : NoSl zzz := by unfold NoSl zzz slashB; decide
/-- What the way to a name of the root answers. -/
def nameE (r : Nd) (s : List UInt8) : Int := if s = [] then 2 else if 256 < s.length then 36 else if hereE r ≠ 0 then hereE r else if s = dot ∨ s = dots then 22 else if 32 < s.length then 36 else 0
theorem ahead_name {σ : FSt} {r : Nd} (hr : σ.nd 1 = some r) (hd : r.d = true) {s : List UInt8} (hs : NoSl s) : aheadE σ 1 s = (nameE r s, if nameE r s = 0 then 1 else 0, if nameE r s = 0 then s else []) := by
  have hI : σ.ndI 1 = some r := hr
  have hst : startE σ 1 s = if s = [] then (2, 0) else if 256 < s.length then (36, 0) else (0, 1) := by
    unfold startE
    rw [hI]
    simp only [hd, Bool.true_eq_false, if_false]
    split
    · rfl
    · split
      · rfl
      · have : s.head? ≠ some slashB := by
          cases s with
          | nil => simp
          | cons c q => simpa using hs c (by simp)
        rw [if_neg this]
        rfl
  unfold aheadE nameE
  rw [hst]
  by_cases h0 : s = []
  · subst h0; rfl
  · rw [if_neg h0, if_neg h0, piecesS_noSl hs h0]
    by_cases h1 : 256 < s.length
    · rw [if_pos h1, if_pos h1]; rfl
    · rw [if_neg h1, if_neg h1]
      have e0 : overS σ [s].dropLast ((0 : Int), 1).2 = (0, 1) := rfl
      have e2 : hereS σ 1 = hereE r := by unfold hereS; rw [hr]
      simp only [e0]
      rw [if_neg (fun h => h rfl), if_neg (fun h => h rfl), e2]
      by_cases h3 : hereE r ≠ 0
      · rw [if_pos h3, if_pos h3, if_neg h3, if_neg h3]
      · rw [if_neg h3, if_neg h3]
        show (if s = dot ∨ s = dots then ((22 : Int), 0, []) else if 32 < s.length then (36, 0, []) else (0, 1, s)) = _
        split
        · rfl
        · split
          · rfl
          · rfl
theorem walk_zzz {σ : FSt} {r : Nd} (hr : σ.nd 1 = some r) (hd : r.d = true) (h : (walkE σ 1 zzz).1 = 2) : hereE r = 0 ∧ kget zzz r.ents = none := by
  have hI : σ.ndI 1 = some r := hr
  have hst : startE σ 1 zzz = (0, 1) := by unfold startE; rw [hI]; simp only [hd]; rfl
  have hp : piecesS zzz = [zzz] := piecesS_noSl zzz_noSl (by decide)
  have hov : overS σ [zzz] 1 = if (stepE r 1 zzz).1 ≠ 0 then stepE r 1 zzz else (0, (stepE r 1 zzz).2) := by
    show (if (stepS σ 1 zzz).1 ≠ 0 then stepS σ 1 zzz else overS σ [] (stepS σ 1 zzz).2) = _
    have : stepS σ 1 zzz = stepE r 1 zzz := by unfold stepS; rw [hr]
    rw [this]; rfl
  have hse : stepE r 1 zzz = if hereE r ≠ 0 then (hereE r, 1) else leadE 1 (kget zzz r.ents) := by
    unfold stepE
    split
    · rfl
    · rw [if_neg (by decide), if_neg (by decide), if_neg (by decide)]
  unfold walkE at h
  rw [hst, hp, hov, hse] at h
  have hsl := slashS_noSl zzz_noSl
  have hh : hereE r = 0 := by
    apply Decidable.byContradiction
    intro h3
    rw [if_pos h3] at h
    simp only [ne_eq, not_true_eq_false, if_false, h3, not_false_eq_true, if_true] at h
    unfold hereE at h
    split at h
    · cases h
    · split at h <;> cases h
  refine ⟨hh, ?_⟩
  rw [if_neg (by simp [hh])] at h
  cases hk : kget zzz r.ents with
  | none => rfl
  | some k =>
    rw [hk, show leadE 1 (some k) = (0, k) from rfl] at h
    have e9 : (if hereE r ≠ 0 then (hereE r, 1) else ((0 : Int), k)) = (0, k) := if_neg (fun e => e hh)
    simp only [e9, hsl] at h
    simp at h
/-- The root behind a change of its entries. -/
theorem put_put (σ : FSt) (i : Nat) (x y : Option Nd) : (σ.put i x).put i y = σ.put i y := by unfold FSt.put; rw [List.set_set]
theorem put_same {σ : FSt} {i : Nat} {n : Nd} (h : σ.nd i = some n) : σ.put i (some n) = σ := by
  obtain ⟨h0, hl⟩ := FSt.nd_lt (show (σ.nd i).isSome = true by rw [h]; rfl)
  rw [FSt.nd_at h0 (by omega)] at h
  unfold FSt.put
  rw [← h]
  exact List.set_getElem_self _
theorem name_here {r r' : Nd} (h1 : r'.d = r.d) (h2 : r'.mode = r.mode) (s : List UInt8) : nameE r' s = nameE r s := by
  unfold nameE hereE
  rw [h1, h2]
theorem rename_back {σ : FSt} (hL : Live σ) (hV : Inv σ 0) (hw : (walkE σ 1 zzz).1 = 2) {s : List UInt8} (hs : NoSl s) (h : (renR σ 1 s zzz).1 = 0) :
    (renR (renR σ 1 s zzz).2 1 zzz s).1 = 0 ∧ (renR (renR σ 1 s zzz).2 1 zzz s).2 = σ := by
  obtain ⟨r, hr, hd, hl⟩ := hL.root
  obtain ⟨hh, hz⟩ := walk_zzz hr hd hw
  have hrE : renE σ 1 s zzz = 0 := by
    unfold renR at h
    apply Decidable.byContradiction
    intro e
    rw [if_pos e] at h
    exact e h
  have haz : nameE r zzz = 0 := by unfold nameE; rw [if_neg (by decide), if_neg (by decide), if_neg (by simp [hh]), if_neg (by decide), if_neg (by decide)]
  have hrR : (renR σ 1 s zzz).2 = moveS σ (aheadE σ 1 s).2.1 (aheadE σ 1 s).2.2 (aheadE σ 1 zzz).2.1 (aheadE σ 1 zzz).2.2 := by unfold renR; rw [if_neg (by simp [hrE])]
  have eaz : aheadE σ 1 zzz = (0, 1, zzz) := by rw [ahead_name hr hd zzz_noSl, haz]; rfl
  have has : nameE r s = 0 := by
    apply Decidable.byContradiction
    intro e
    unfold renE at hrE
    rw [ahead_name hr hd hs] at hrE
    simp only [if_pos e] at hrE
    exact e hrE
  have eas : aheadE σ 1 s = (0, 1, s) := by rw [ahead_name hr hd hs, has]; rfl
  unfold renE at hrE
  rw [eas] at hrE
  simp only [ne_eq, not_true_eq_false, if_false] at hrE
  rw [lookS_some hr] at hrE
  cases hk : kget s r.ents with
  | none => rw [hk] at hrE; cases hrE
  | some k =>
    rw [hk] at hrE
    simp only [slashS_noSl hs, Bool.false_eq_true, false_and, if_false] at hrE
    have hne : s ≠ zzz := fun e => by rw [e, hz] at hk; cases hk
    have hks := hL.ents 1 r hr _ (kget_mem hk)
    obtain ⟨nk, hnk⟩ := Option.isSome_iff_exists.1 hks
    have hk1 : k ≠ 1 := fun e => by have := refs_pos hr hk; rw [e, hV.root] at this; omega
    unfold toE at hrE
    rw [eaz] at hrE
    simp only [ne_eq, not_true_eq_false, if_false, slashS_noSl zzz_noSl, Bool.false_eq_true, false_and] at hrE
    have hln : linkN σ 1 ≠ 0 := fun e => by rw [if_pos e] at hrE; cases hrE
    rw [if_neg hln] at hrE
    have hmy : mayS σ 1 2 = true := by
      cases hm : mayS σ 1 2 with
      | true => rfl
      | false => rw [hm] at hrE; simp at hrE
    -- what the first call leaves
    have hcarry : moveS σ 1 s 1 zzz = σ.put 1 (some { r with ents := kput zzz k (kdel s r.ents) }) := by
      unfold moveS
      rw [lookS_some hr, lookS_some hr, hk, hz]
      show carryS σ 1 s 1 zzz k = _
      unfold carryS
      have e1 : cutS σ 1 s = σ.put 1 (some { r with ents := kdel s r.ents }) := entS_some hr _
      have e2 : linkS (cutS σ 1 s) 1 zzz k = σ.put 1 (some { r with ents := kput zzz k (kdel s r.ents) }) := by
        rw [e1]
        show entS _ 1 (kput zzz k) = _
        rw [entS_some (n := { r with ents := kdel s r.ents }) (by rw [put_nd hr, if_pos rfl]), put_put]
      rw [e2]
      unfold parS
      split
      · rename_i hdk
        have hnk2 : (σ.put 1 (some { r with ents := kput zzz k (kdel s r.ents) })).nd k = some nk := by rw [put_nd hr, if_neg hk1]; exact hnk
        have hnd : nk.d = true := by unfold dirS at hdk; rw [hnk2] at hdk; exact hdk
        rw [relS_some hnk2]
        have hp := (hV.par_of hr hk hnk hnd).2.2
        have : ({ nk with par := 1 } : Nd) = nk := by cases nk; simp only at hp; subst hp; rfl
        rw [this, put_same hnk2]
      · rfl
    rw [hrR, eas, eaz]
    simp only
    rw [hcarry]
    obtain ⟨r2, hr2⟩ : ∃ r2, r2 = ({ r with ents := kput zzz k (kdel s r.ents) } : Nd) := ⟨_, rfl⟩
    rw [← hr2]
    obtain ⟨τ, hτ⟩ : ∃ τ, τ = σ.put 1 (some r2) := ⟨_, rfl⟩
    rw [← hτ]
    have hτr : τ.nd 1 = some r2 := by rw [hτ, put_nd hr, if_pos rfl]
    have hτk : τ.nd k = some nk := by rw [hτ, put_nd hr, if_neg hk1]; exact hnk
    have g1 : r2.d = r.d := by rw [hr2]
    have g2 : r2.mode = r.mode := by rw [hr2]
    have g3 : r2.links = r.links := by rw [hr2]
    have gz : kget zzz r2.ents = some k := by rw [hr2]; exact kget_kput_same _ _ _
    have gs : kget s r2.ents = none := by rw [hr2]; show kget s (kput zzz k (kdel s r.ents)) = none; rw [kget_kput_other hne, kget_kdel_same]
    have hd2 : r2.d = true := g1.trans hd
    have ebz : aheadE τ 1 zzz = (0, 1, zzz) := by rw [ahead_name hτr hd2 zzz_noSl, name_here g1 g2, haz]; rfl
    have ebs : aheadE τ 1 s = (0, 1, s) := by rw [ahead_name hτr hd2 hs, name_here g1 g2, has]; rfl
    have hE2 : renE τ 1 zzz s = 0 := by
      unfold renE
      rw [ebz]
      simp only [ne_eq, not_true_eq_false, if_false]
      rw [lookS_some hτr, gz]
      simp only [slashS_noSl zzz_noSl, Bool.false_eq_true, false_and, if_false]
      unfold toE
      rw [ebs]
      simp only [ne_eq, not_true_eq_false, if_false, slashS_noSl hs, Bool.false_eq_true, false_and]
      have l1 : linkN τ 1 ≠ 0 := by unfold linkN; rw [hτr]; simp only; rw [g3, hl]; decide
      have m1 : mayS τ 1 2 = true := by unfold mayS at hmy ⊢; rw [hτr]; rw [hr] at hmy; simp only at hmy ⊢; rw [g2]; exact hmy
      rw [if_neg l1, m1]
      simp only [Bool.true_eq_false, or_self, if_false]
      unfold overE
      rw [lookS_some hτr, gs]
      simp only [underB_false (Under.root hk1), Bool.false_eq_true, and_false, if_false]
    have hR2 : renR τ 1 zzz s = (0, moveS τ 1 zzz 1 s) := by unfold renR; rw [if_neg (by simp [hE2]), ebz, ebs]
    rw [hR2]
    refine ⟨rfl, ?_⟩
    show moveS τ 1 zzz 1 s = σ
    unfold moveS
    rw [lookS_some hτr, lookS_some hτr, gz, gs]
    show carryS τ 1 zzz 1 s k = _
    unfold carryS
    have e1 : cutS τ 1 zzz = τ.put 1 (some { r2 with ents := kdel zzz r2.ents }) := entS_some hτr _
    have e2 : linkS (cutS τ 1 zzz) 1 s k = σ := by
      rw [e1]
      show entS _ 1 (kput s k) = _
      rw [entS_some (n := { r2 with ents := kdel zzz r2.ents }) (by rw [put_nd hτr, if_pos rfl]), put_put]
      have e3 : ({ ({ r2 with ents := kdel zzz r2.ents } : Nd) with ents := kput s k (kdel zzz r2.ents) } : Nd) = r := by
        rw [hr2]
        simp only
        rw [ents_back (hV.srt 1 r hr) hk hz]
      rw [e3, hτ, put_put, put_same hr]
    rw [e2]
    unfold parS
    split
    · rename_i hdk
      have hnd : nk.d = true := by unfold dirS at hdk; rw [hnk] at hdk; exact hdk
      rw [relS_some hnk]
      have hp := (hV.par_of hr hk hnk hnd).2.2
      have : ({ nk with par := 1 } : Nd) = nk := by cases nk; simp only at hp; subst hp; rfl
      rw [this, put_same hnk]
    · rfl
theorem link_off {σ : FSt} (hL : Live σ) (hV : Inv σ 0) (hw : (walkE σ 1 zzz).1 = 2) {s : List UInt8} (h : (linkR σ 1 s zzz).1 = 0) :
    (unlinkR (linkR σ 1 s zzz).2 1 zzz).1 = 0 ∧ (unlinkR (linkR σ 1 s zzz).2 1 zzz).2 = σ := by
  obtain ⟨r, hr, hd, hl⟩ := hL.root
  obtain ⟨hh, hz⟩ := walk_zzz hr hd hw
  have hE : linkE σ 1 s zzz = 0 := by
    unfold linkR at h
    apply Decidable.byContradiction
    intro e
    rw [if_pos e] at h
    exact e h
  have hR : (linkR σ 1 s zzz).2 = linkT σ 1 s zzz := by unfold linkR; rw [if_neg (by simp [hE])]
  have haz : nameE r zzz = 0 := by unfold nameE; rw [if_neg (by decide), if_neg (by decide), if_neg (by simp [hh]), if_neg (by decide), if_neg (by decide)]
  have eaz : aheadE σ 1 zzz = (0, 1, zzz) := by rw [ahead_name hr hd zzz_noSl, haz]; rfl
  unfold linkE at hE
  have hw0 : (walkE σ 1 s).1 = 0 := by
    apply Decidable.byContradiction
    intro e
    rw [if_pos e] at hE
    exact e hE
  rw [if_neg (by simp [hw0])] at hE
  have hdk : dirS σ (walkE σ 1 s).2 = false := by
    cases hx : dirS σ (walkE σ 1 s).2 with
    | false => rfl
    | true => rw [hx, if_pos rfl] at hE; cases hE
  rw [if_neg (by simp [hdk]), eaz] at hE
  simp only [ne_eq, not_true_eq_false, if_false, slashS_noSl zzz_noSl, Bool.false_eq_true] at hE
  obtain ⟨nk, hnk⟩ := Option.isSome_iff_exists.1 (walk_ok hL hw0)
  rw [hR]
  unfold linkT
  rw [eaz]
  simp only
  generalize (walkE σ 1 s).2 = k at *
  have hnd : nk.d = false := by unfold dirS at hdk; rw [hnk] at hdk; exact hdk
  have hk1 : k ≠ 1 := fun e => by rw [e, hr] at hnk; cases hnk; rw [hd] at hnd; cases hnd
  have ho : openE r zzz = 0 := by unfold openS at hE; rw [hr] at hE; exact hE
  obtain ⟨_, ho2, ho3⟩ := openE_zero ho
  rw [relS_some hnk]
  have h1 : (σ.put k (some (more nk))).nd 1 = some r := by rw [put_nd hnk, if_neg (fun e => hk1 e.symm)]; exact hr
  obtain ⟨r2, hr2⟩ : ∃ r2, r2 = ({ r with ents := kput zzz k r.ents } : Nd) := ⟨_, rfl⟩
  have e2 : linkS (σ.put k (some (more nk))) 1 zzz k = (σ.put k (some (more nk))).put 1 (some r2) := by rw [hr2]; exact entS_some h1 _
  rw [e2]
  obtain ⟨τ, hτ⟩ : ∃ τ, τ = (σ.put k (some (more nk))).put 1 (some r2) := ⟨_, rfl⟩
  rw [← hτ]
  have hτr : τ.nd 1 = some r2 := by rw [hτ, put_nd h1, if_pos rfl]
  have hτk : τ.nd k = some (more nk) := by rw [hτ, put_nd h1, if_neg hk1, put_nd hnk, if_pos rfl]
  have g1 : r2.d = r.d := by rw [hr2]
  have g2 : r2.mode = r.mode := by rw [hr2]
  have gz : kget zzz r2.ents = some k := by rw [hr2]; exact kget_kput_same _ _ _
  have ebz : aheadE τ 1 zzz = (0, 1, zzz) := by rw [ahead_name hτr (g1.trans hd) zzz_noSl, name_here g1 g2, haz]; rfl
  have hUE : unlinkE τ 1 zzz = 0 := by
    unfold unlinkE
    rw [ebz]
    simp only [ne_eq, not_true_eq_false, if_false]
    rw [lookS_some hτr, gz]
    have d1 : dirS τ k = false := by unfold dirS; rw [hτk]; exact hnd
    have m1 : mayS τ 1 2 = true := by unfold mayS; rw [hτr]; simp only; rw [g2]; exact ho3
    simp only [slashS_noSl zzz_noSl, d1, m1, Bool.false_eq_true, false_and, if_false, Bool.true_eq_false]
  have hUR : unlinkR τ 1 zzz = (0, goneS τ 1 zzz) := by unfold unlinkR; rw [if_neg (by simp [hUE]), ebz]
  rw [hUR]
  refine ⟨rfl, ?_⟩
  show goneS τ 1 zzz = σ
  rw [goneS_some hτr gz]
  have e1 : cutS τ 1 zzz = τ.put 1 (some r) := by
    have : ({ r2 with ents := kdel zzz r2.ents } : Nd) = r := by rw [hr2]; simp only; rw [ents_off (hV.srt 1 r hr) hz]
    rw [← this]
    exact entS_some hτr _
  have e3 : τ.put 1 (some r) = σ.put k (some (more nk)) := by rw [hτ, put_put, put_same h1]
  rw [e1, e3]
  have hk2 : (σ.put k (some (more nk))).nd k = some (more nk) := by rw [put_nd hnk, if_pos rfl]
  rw [relS_some hk2, put_put]
  have e4 : less (more nk) = nk := by cases nk; simp [less, more]
  rw [e4, put_same hnk]
  unfold letS
  rw [hnk]
  simp only
  rw [if_neg]
  intro e
  rcases hV.alive k nk hnk with h | h
  · exact h e.1
  · exact h e.2
end Go.Proofs.YthikjdpnlahkfaaDoor
