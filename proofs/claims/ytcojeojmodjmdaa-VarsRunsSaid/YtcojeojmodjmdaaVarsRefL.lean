/- Plain laws of sorted lists: a store at a place, an insertion. No condition. -/
import Derived.Test.YtcojeojmodjmdaaVarsRefA
namespace Go.Proofs.Ytcojeojmodjmdaa
open Go.RowKit

section
variable {α : Type}
theorem ksorted_keys {L : KA α} : KSorted L ↔ (L.map (·.1)).Pairwise (fun a b => bytesBefore a b = true) := by unfold KSorted; rw [List.pairwise_map]
theorem keys_set (M : KA α) (k : Nat) (hk : k < M.length) (X : α) : (M.set k (M[k].1, X)).map (·.1) = M.map (·.1) := by
  rw [List.map_set]
  apply List.ext_getElem (by simp)
  intro i h1 h2
  rw [List.getElem_set]
  split
  · subst i; simp
  · rfl
theorem kget_set {s : List UInt8} {X : α} : ∀ {M : KA α} {k : Nat} (hk : k < M.length), KSorted M → M[k].1 = s → ∀ t, kget t (M.set k (s, X)) = if t = s then some X else kget t M
  | p :: r, 0, _, _, he, t => by
    rw [List.set_cons_zero, kget_cons, kget_cons]
    have he : p.1 = s := he
    by_cases h : t = s
    · subst h; rw [if_pos rfl]; simp
    · rw [if_neg h, if_neg (by simpa using fun e => h e.symm), if_neg (by rw [he]; simpa using fun e => h e.symm)]
  | p :: r, k + 1, hk, hs, he, t => by
    obtain ⟨h1, h2⟩ := List.pairwise_cons.1 hs
    have hk' : k < r.length := by simpa using hk
    have he' : r[k].1 = s := he
    have hne : p.1 ≠ s := fun e => by
      have := h1 _ (List.getElem_mem hk')
      rw [he', e, WideAt.bytes_irrefl] at this
      cases this
    rw [List.set_cons_succ, kget_cons, kget_cons, kget_set hk' h2 he' t]
    by_cases h : t = s
    · subst h
      rw [if_neg (by simpa using hne), if_pos rfl, if_pos rfl]
    · rw [if_neg h, if_neg h]
theorem kput_found {s : List UInt8} {X : α} {M : KA α} (hs : KSorted M) {k : Nat} (hk : k < M.length) (he : M[k].1 = s) : kput s X M = M.set k (s, X) := by
  refine ksorted_ext (hs.kput s X) ?_ fun t => ?_
  · rw [ksorted_keys, ← he, keys_set M k hk X, ← ksorted_keys]; exact hs
  · rw [kget_set hk hs he t]
    by_cases h : t = s
    · subst h; rw [if_pos rfl, kget_kput_same]
    · rw [if_neg h, kget_kput_other h]
theorem kins_split {s : List UInt8} {X : α} : ∀ {M : KA α} {k : Nat} (_ : k ≤ M.length), (∀ j (hj : j < M.length), j < k → bytesBefore M[j].1 s = true) → (∀ hk : k < M.length, bytesBefore M[k].1 s = false) → (∀ p ∈ M, p.1 ≠ s) → kins (s, X) M = M.take k ++ (s, X) :: M.drop k
  | [], 0, _, _, _, _ => rfl
  | p :: r, 0, _, _, h2, h3 => by
    rw [kins_cons, if_pos]
    · rfl
    · rcases WideAt.bytes_total p.1 s (h3 p List.mem_cons_self) with h | h
      · have := h2 (by simp); simp only [List.getElem_cons_zero] at this; rw [this] at h; cases h
      · exact h
  | p :: r, k + 1, hk, h1, h2, h3 => by
    rw [kins_cons, if_neg]
    · rw [kins_split (M := r) (k := k) (by simpa using hk) (fun j hj hlt => h1 (j + 1) (by simpa using hj) (by omega)) (fun h => h2 (by simpa using h)) (fun q hq => h3 q (List.mem_cons_of_mem _ hq))]
      rfl
    · intro e
      have h4 := h1 0 (by simp) (by omega)
      have := WideShapes.bytes_trans _ _ _ e h4
      simp only [List.getElem_cons_zero] at this
      rw [WideAt.bytes_irrefl] at this
      cases this
theorem kput_new {s : List UInt8} {X : α} {M : KA α} {k : Nat} (hn : kget s M = none) (hk : k ≤ M.length) (h1 : ∀ j (hj : j < M.length), j < k → bytesBefore M[j].1 s = true) (h2 : ∀ hk : k < M.length, bytesBefore M[k].1 s = false) : kput s X M = M.take k ++ (s, X) :: M.drop k := by
  unfold kput
  rw [kdel_same hn]
  exact kins_split hk h1 h2 fun p hp => kget_none hn p hp
theorem kdel_found {s : List UInt8} : ∀ {M : KA α} {k : Nat} (hk : k < M.length), KSorted M → M[k].1 = s → kdel s M = M.take k ++ M.drop (k + 1)
  | p :: r, 0, _, hs, he => by
    obtain ⟨h1, h2⟩ := List.pairwise_cons.1 hs
    have he : p.1 = s := he
    unfold kdel
    rw [List.filter_cons, if_neg (by simp [he])]
    show r.filter _ = r
    rw [List.filter_eq_self]
    intro q hq
    have := h1 q hq
    simp only [Bool.not_eq_true', beq_eq_false_iff_ne]
    rintro e
    rw [e, he, WideAt.bytes_irrefl] at this
    cases this
  | p :: r, k + 1, hk, hs, he => by
    obtain ⟨h1, h2⟩ := List.pairwise_cons.1 hs
    have hk' : k < r.length := by simpa using hk
    have he' : r[k].1 = s := he
    have hne : p.1 ≠ s := fun e => by
      have := h1 _ (List.getElem_mem hk')
      rw [he', e, WideAt.bytes_irrefl] at this
      cases this
    have ih := kdel_found hk' h2 he'
    unfold kdel at ih ⊢
    rw [List.filter_cons, if_pos (by simpa using hne), ih]
    rfl
end
theorem lcells_one {M : KA VR} : ∀ u ∈ lcells M, u.oneCell' = true := by
  intro u hu
  obtain ⟨p, _, hp⟩ := List.mem_flatMap.1 hu
  simp only [vcells, List.mem_cons, List.not_mem_nil, or_false] at hp
  rcases hp with rfl | rfl | rfl | rfl | rfl <;> rfl
theorem lcells_take (M : KA VR) (k : Nat) (hk : k ≤ M.length) : lcells (M.take k) = (lcells M).take (k * 5) := by
  have h := lcells_append (M.take k) (M.drop k)
  rw [List.take_append_drop] at h
  rw [h, List.take_left' (by rw [lcells_len, List.length_take]; omega)]
theorem lcells_drop (M : KA VR) (k : Nat) (hk : k ≤ M.length) : lcells (M.drop k) = (lcells M).drop (k * 5) := by
  have h := lcells_append (M.take k) (M.drop k)
  rw [List.take_append_drop] at h
  rw [h, List.drop_left' (by rw [lcells_len, List.length_take]; omega)]
theorem lcells_set (s : List UInt8) (X : VR) : ∀ (M : KA VR) (k : Nat), k < M.length →
    lcells (M.set k (s, X)) = (((((lcells M).set (k * 5) (.string ⟨s.toArray⟩)).set (k * 5 + 1) (.string X.value)).set (k * 5 + 2) (.bool X.e)).set (k * 5 + 3) (.bool X.r)).set (k * 5 + 4) (.bool X.u)
  | p :: r, 0, _ => by rw [List.set_cons_zero, lcells_cons, lcells_cons]; rfl
  | p :: r, k + 1, hk => by
    rw [List.set_cons_succ, lcells_cons, lcells_cons, lcells_set s X r k (by simpa using hk)]
    have e : ∀ (l : List Value) (j : Nat) (u : Value), (vcells p ++ l).set ((k + 1) * 5 + j) u = vcells p ++ l.set (k * 5 + j) u := fun l j u => by
      rw [List.set_append_right _ _ (by simp [vcells]; omega)]
      congr 2
      simp [vcells]; omega
    have e0 := e (lcells r) 0 (.string ⟨s.toArray⟩)
    simp only [Nat.add_zero] at e0
    rw [e0, e, e, e, e]
theorem RvF.sorted_src {w : World} {r : Nat} {M : KA VR} {args : List ByteArray} {S : Nat → Prop} {lv av : Value} (h : RvF w r M args S lv av) {la : Option Addr} {lc : Nat} (he : lv = .slice la M.length lc) :
    ∀ g o, la = some ⟨g, o, none⟩ → o = 0 ∧ ∀ j u, (lcells M)[j]? = some u → w.cell? ⟨g, j, none⟩ = some u := by
  rintro g o rfl
  subst he
  have hl := h.hl
  rcases hl.2 with ⟨h1, _⟩ | ⟨g', cap, cur, h1, _⟩
  · simp at h1
  · cases h1
    refine ⟨rfl, fun j u hj => ?_⟩
    have hlt := (List.getElem?_eq_some_iff.1 hj).1
    rw [lcells_len] at hlt
    rw [hl.cellAt j hlt, hj]
set_option maxRecDepth 100000 in
theorem rget_any (w : World) (r : Nat) (M : KA VR) (args : List ByteArray) (S : Nat → Prop) (h : RvAt w r M args S) (hM : M.length ≤ 64) (s : ByteArray) :
    Calls Try.prog 26 #[.pointer (some ⟨r, 0, none⟩), .string s] w fun e w' => e = .returned (getR (kget s.data.toList M)) ∧ Fr (fun _ => False) w w' := by
  have hR : getR (kget s.data.toList M) = .tuple #[.string (atX M s.data.toList).value, .bool (!(atX M s.data.toList).u)] := by unfold atX; cases kget s.data.toList M <;> rfl
  rw [hR]
  clear hR
  have hat := rat_any w r M args S h hM s
  generalize atX M s.data.toList = X at hat ⊢
  obtain ⟨v, e, ro, u⟩ := X
  simp only
  go_enter Try.func26, Try.ntmps26
  go_wp2_with fail
  refine hat.mono ?_
  rintro e' w' ⟨rfl, hf⟩
  simp only [venc, ba_back]
  clear hat
  have hfin : Fr (fun _ => False) w (w'.alloc (.cells #[.string s, .string v, .bool e, .bool ro, .bool u] 67 (0, 0))).drew := (hf.alloc _).drew
  have hfin := hide hfin
  go_wp2_with fail
  refine region_still (by kernel_rfl) (by kernel_rfl) ?_
  repeat go_big_quiet_step (fail)
  refine wpQuiet_nil ?_
  go_wp2
  go_ret2
  exact ⟨rfl, hfin.out⟩
end Go.Proofs.Ytcojeojmodjmdaa
