/- What VarsExports keeps: the variables and the map of those told. Plain laws; no condition. -/
import Derived.Test.YtcojeojmodjmdaaVarsF
namespace Go.Proofs.Ytcojeojmodjmdaa
open Go.RowKit

/-- Two sorted lists that answer alike are one. -/
theorem ksorted_ext {α : Type} : ∀ {L1 L2 : KA α}, KSorted L1 → KSorted L2 → (∀ s, kget s L1 = kget s L2) → L1 = L2
  | [], [], _, _, _ => rfl
  | [], y :: r, _, _, h => by
    have := h y.1
    rw [kget_nil, kget_cons, if_pos (by simp)] at this
    cases this
  | y :: r, [], _, _, h => by
    have := h y.1
    rw [kget_nil, kget_cons, if_pos (by simp)] at this
    cases this
  | y1 :: r1, y2 :: r2, h1, h2, h => by
    obtain ⟨a1, b1⟩ := List.pairwise_cons.1 h1
    obtain ⟨a2, b2⟩ := List.pairwise_cons.1 h2
    have hk : y1.1 = y2.1 := by
      apply Classical.byContradiction
      intro hne
      have e1 := h y1.1
      rw [kget_cons, if_pos (by simp)] at e1
      have m1 := kget_mem e1.symm
      have e2 := h y2.1
      rw [kget_cons (y := y2), if_pos (by simp)] at e2
      have m2 := kget_mem e2
      rcases List.mem_cons.1 m1 with m1 | m1
      · exact hne (congrArg Prod.fst m1)
      rcases List.mem_cons.1 m2 with m2 | m2
      · exact hne (congrArg Prod.fst m2).symm
      have q1 := a2 _ m1
      have q2 := a1 _ m2
      have := WideShapes.bytes_trans _ _ _ q1 q2
      rw [WideAt.bytes_irrefl] at this
      cases this
    have hv : y1 = y2 := by
      have e1 := h y1.1
      rw [kget_cons, if_pos (by simp), kget_cons, if_pos (by simp [hk])] at e1
      exact Prod.ext hk (Option.some.inj e1)
    subst hv
    congr 1
    refine ksorted_ext b1 b2 fun s => ?_
    by_cases hs : y1.1 = s
    · have n : ∀ {r : KA α}, (∀ p ∈ r, bytesBefore y1.1 p.1 = true) → kget s r = none := fun h => kget_of_none fun p hp e => by
        have := h p hp
        rw [e, hs, WideAt.bytes_irrefl] at this
        cases this
      rw [n a1, n a2]
    · have := h s
      rw [kget_cons, if_neg (by simpa using hs), kget_cons, if_neg (by simpa using hs)] at this
      exact this
theorem kget_of_mem {α : Type} : ∀ {L : KA α} (_ : KSorted L) {p : List UInt8 × α}, p ∈ L → kget p.1 L = some p.2
  | y :: r, h, p, hp => by
    obtain ⟨a, b⟩ := List.pairwise_cons.1 h
    rw [kget_cons]
    rcases List.mem_cons.1 hp with rfl | hp
    · rw [if_pos (by simp)]
    · have := a p hp
      rw [if_neg, kget_of_mem b hp]
      intro e
      rw [beq_iff_eq.1 e, WideAt.bytes_irrefl] at this
      cases this
theorem less_before : ∀ a b : List UInt8, Op.bytesLess a b = bytesBefore a b
  | [], [] => rfl
  | [], _ :: _ => rfl
  | _ :: _, [] => rfl
  | a :: r, b :: s => by unfold Op.bytesLess bytesBefore; rw [less_before r s]
def tv : Value := .bool true
/-- The map holds just the names of what is exported; all values are the one value. -/
structure Agree (val : ByteArray) (M : KA VR) (I : KL) : Prop where
  at' : ∀ s, kget s I = match kget s M with | some x => if x.e = true then some tv else none | none => none
  plain : ∀ s x, kget s M = some x → x.value = val ∧ x.r = false ∧ x.u = false
theorem Agree.start (val : ByteArray) : Agree val [] [] := ⟨fun _ => rfl, fun _ _ h => by cases h⟩
theorem Agree.rd {val : ByteArray} {M : KA VR} {I : KL} (h : Agree val M I) (s : List UInt8) : (getX M s).r = false := by
  unfold getX
  cases hg : kget s M with
  | none => rfl
  | some x => exact (h.plain s x hg).2.1
theorem Agree.set {val : ByteArray} {M : KA VR} {I : KL} (h : Agree val M I) (s : List UInt8) : Agree val (kput s ⟨val, (getX M s).e, (getX M s).r, false⟩ M) I := by
  refine ⟨fun t => ?_, fun t x hx => ?_⟩
  · by_cases e : t = s
    · subst e
      rw [kget_kput_same, h.at' t]
      unfold getX
      cases kget t M <;> rfl
    · rw [kget_kput_other e, h.at' t]
  · by_cases e : t = s
    · subst e
      rw [kget_kput_same] at hx
      cases hx
      exact ⟨rfl, h.rd t, rfl⟩
    · rw [kget_kput_other e] at hx
      exact h.plain t x hx
theorem Agree.mark {val : ByteArray} {M : KA VR} {I : KL} (h : Agree val M I) (s : List UInt8) {x : VR} (hx : kget s M = some x) : Agree val (kput s (markX (kget s M) true false) M) (kput s tv I) := by
  rw [hx]
  refine ⟨fun t => ?_, fun t y hy => ?_⟩
  · by_cases e : t = s
    · subst e
      rw [kget_kput_same, kget_kput_same]
      simp [markX]
    · rw [kget_kput_other e, kget_kput_other e, h.at' t]
  · by_cases e : t = s
    · subst e
      rw [kget_kput_same] at hy
      cases hy
      obtain ⟨p1, p2, p3⟩ := h.plain t x hx
      exact ⟨p1, by simp [markX, p2], p3⟩
    · rw [kget_kput_other e] at hy
      exact h.plain t y hy
theorem Agree.unset {val : ByteArray} {M : KA VR} {I : KL} (h : Agree val M I) (s : List UInt8) : Agree val (kdel s M) (kdel s I) := by
  refine ⟨fun t => ?_, fun t y hy => ?_⟩
  · by_cases e : t = s
    · subst e
      rw [kget_kdel_same, kget_kdel_same]
    · rw [kget_kdel_other e, kget_kdel_other e, h.at' t]
  · by_cases e : t = s
    · subst e
      rw [kget_kdel_same] at hy
      cases hy
    · rw [kget_kdel_other e] at hy
      exact h.plain t y hy
theorem Agree.unsetE {val : ByteArray} {M : KA VR} {I : KL} (h : Agree val M I) {s : List UInt8} (hn : nameB s = true) : unsetE M s = 0 := by
  unfold Go.Proofs.Ytcojeojmodjmdaa.unsetE
  rw [if_neg (by simp [hn]), if_neg (by rw [h.rd]; simp)]
theorem Agree.unsetM {val : ByteArray} {M : KA VR} {I : KL} (h : Agree val M I) {s : List UInt8} (hn : nameB s = true) : unsetM M s = kdel s M := by
  unfold Go.Proofs.Ytcojeojmodjmdaa.unsetM
  rw [if_pos (h.unsetE hn)]
/-- The map, told from the variables. -/
def expF (M : KA VR) : KL := (M.filter (fun p => p.2.e)).map (fun p => (p.1, tv))
theorem expF_sorted {M : KA VR} (h : KSorted M) : KSorted (expF M) := by
  unfold expF KSorted
  rw [List.pairwise_map]
  exact List.Pairwise.filter _ h
theorem expF_get {M : KA VR} (h : KSorted M) (s : List UInt8) : kget s (expF M) = match kget s M with | some x => if x.e = true then some tv else none | none => none := by
  induction M with
  | nil => rfl
  | cons y r ih =>
    obtain ⟨a, b⟩ := List.pairwise_cons.1 h
    have ih := ih b
    have hno : y.1 = s → kget s r = none := fun e => kget_of_none fun p hp e2 => by
      have := a p hp
      rw [e2, ← e, WideAt.bytes_irrefl] at this
      cases this
    rw [kget_cons]
    by_cases he : y.2.e = true
    · have : expF (y :: r) = (y.1, tv) :: expF r := by unfold expF; rw [List.filter_cons, if_pos he]; rfl
      rw [this, kget_cons]
      by_cases hs : (y.1 == s) = true
      · rw [if_pos hs, if_pos hs]; simp [he]
      · rw [if_neg hs, if_neg hs, ih]
    · have : expF (y :: r) = expF r := by unfold expF; rw [List.filter_cons, if_neg he]
      rw [this, ih]
      by_cases hs : (y.1 == s) = true
      · rw [if_pos hs, hno (beq_iff_eq.1 hs)]; simp [he]
      · rw [if_neg hs]
theorem Agree.eq {val : ByteArray} {M : KA VR} {I : KL} (h : Agree val M I) (hM : KSorted M) (hI : KSorted I) : I = expF M :=
  ksorted_ext hI (expF_sorted hM) fun s => by rw [h.at' s, expF_get hM s]
/-- The names told. -/
def expN (M : KA VR) : List (List UInt8) := (M.filter (fun p => p.2.e)).map (·.1)
theorem expN_len (M : KA VR) : (expN M).length = (expF M).length := by simp [expN, expF]
theorem Agree.env {val : ByteArray} {M : KA VR} {I : KL} (h : Agree val M I) (hM : KSorted M) : envL M = (expN M).map fun n => (⟨n.toArray⟩ ++ eqS) ++ val := by
  have key : ∀ L : KA VR, (∀ p ∈ L, p.2.value = val ∧ p.2.u = false) → envL L = (expN L).map fun n => (⟨n.toArray⟩ ++ eqS) ++ val := by
    intro L
    induction L with
    | nil => intro _; rfl
    | cons y r ih =>
      intro hp
      have ih := ih (fun p h => hp p (List.mem_cons_of_mem _ h))
      obtain ⟨v1, v2⟩ := hp y List.mem_cons_self
      unfold envL expN at ih ⊢
      by_cases he : y.2.e = true
      · rw [List.filterMap_cons_some (b := (⟨y.1.toArray⟩ ++ eqS) ++ val) (by unfold envX; rw [if_pos (by rw [he, v2]; rfl), v1]), List.filter_cons, if_pos he, ih]
        rfl
      · rw [List.filterMap_cons_none (by unfold envX; rw [if_neg (by simp [he])]), List.filter_cons, if_neg he, ih]
  refine key M fun p hp => ?_
  have hg := kget_of_mem hM hp
  exact ⟨(h.plain _ _ hg).1, (h.plain _ _ hg).2.2⟩
theorem expN_sorted {M : KA VR} (h : KSorted M) : (expN M).Pairwise fun a b => bytesBefore a b = true := by
  unfold expN
  rw [List.pairwise_map]
  exact List.Pairwise.filter _ h
end Go.Proofs.Ytcojeojmodjmdaa
