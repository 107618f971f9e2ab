/- The tree of files in memory: an inode more; an inode's entries changed. Conditions: the laws' own premises. -/
import Derived.Test.YtffekmjoenppaaaGreatDoorFilesP
namespace Go.Proofs.YtffekmjoenppaaaGreatDoor
open Go.RowKit

theorem Live.one_ne_free {σ : FSt} (h : Live σ) : (1 : Nat) ≠ σ.free := by
  obtain ⟨r, hr, _⟩ := h.root
  intro e
  rw [e, FSt.nd_free] at hr
  cases hr
theorem Live.ne_free {σ : FSt} {i : Nat} (h : (σ.nd i).isSome = true) : i ≠ σ.free := by
  rintro rfl
  rw [FSt.nd_free] at h
  cases h
/-- An inode more. -/
theorem FilesF.added {w w' : World} {f : Nat} {σ : FSt} {S : Nat → Prop} {p : Nat → Nat} {dv ev pv : Nat → Value} {lv lv' : Value} (h : FilesF w f σ S p dv ev pv lv) {T : Nat → Prop} (hf : Fr T w w') {nb : Nat} {n : Nd} {ev' pv' : Value}
    (hT : ∀ k, T k → k = f ∨ lv.ownBlock = some k ∨ ¬ S k ∨ w.heap.size ≤ k)
    (hb : w'.heap[f]? = some (.cells #[lv', .int .i64 (σ.add n).cnt, .pointer (some ⟨p 1, 0, none⟩), .int .i64 (σ.add n).byts] 86 (0, 0)))
    (hl : w'.ownsRow 0 84 1 lv' (σ.add n).length (slotV (upd p σ.free nb) (σ.add n)))
    (hlv : ∀ g, lv'.ownBlock = some g → S g) (hnb : ¬ S nb)
    (hnd : NodeF w' (upd p σ.free nb) nb σ.free n (.slice none 0 0) ev' pv') (hev : ∀ m, ev' = .map (some m) → ¬ S m) (hlive : Live (σ.add n)) :
    FilesF w' f (σ.add n) (fun k => S k ∨ k = nb ∨ ev' = .map (some k)) (upd p σ.free nb) (upd dv σ.free (.slice none 0 0)) (upd ev σ.free ev') (upd pv σ.free pv') lv' := by
  have hlo := h.live
  have hadd := FSt.nd_add σ n
  have back : ∀ j, ((σ.add n).nd j).isSome = true → j ≠ σ.free → (σ.nd j).isSome = true := fun j hj hne => by rw [hadd, if_neg hne] at hj; exact hj
  have old : ∀ j m, σ.nd j = some m → j ≠ σ.free := fun j m hj => Live.ne_free (by rw [hj]; rfl)
  have hother : ∀ j m, σ.nd j = some m → NodeF w' (upd p σ.free nb) (p j) j m (dv j) (ev j) (pv j) := fun j m hj => by
    have hnj := h.nd j m hj
    have hsj : (σ.nd j).isSome = true := by rw [hj]; rfl
    refine (hnj.frame hf (fun ht => ?_) (fun g e ht => ?_) (fun mb e ht => ?_)).reptr (fun q hq => upd_other (Live.ne_free (hlo.ents j m hj q hq))) (fun hd hlk => upd_other (Live.ne_free (hlo.par j m hj hd hlk)))
    · rcases hT _ ht with e2 | e2 | e2 | e2
      · exact cells_ne hnj.hb (e2 ▸ h.hb) (by decide) rfl
      · obtain ⟨c2, hc2⟩ := h.lv_blk e2
        exact cells_ne hnj.hb hc2 (by decide) rfl
      · exact e2 (h.ownn j hsj)
      · have := blk_lt hnj.hb; omega
    · obtain ⟨c, hc⟩ := hnj.data.blk e
      rcases hT _ ht with e2 | e2 | e2 | e2
      · exact cells_ne hc (e2 ▸ h.hb) (by decide) rfl
      · obtain ⟨c2, hc2⟩ := h.lv_blk e2
        exact cells_ne hc hc2 (by decide) rfl
      · exact e2 (h.ownd j g hsj e)
      · have := blk_lt hc; omega
    · obtain ⟨es, clock, hm⟩ := hnj.map_blk e
      rcases hT _ ht with e2 | e2 | e2 | e2
      · rw [e2, h.hb] at hm; cases hm
      · obtain ⟨c2, hc2⟩ := h.lv_blk e2
        rw [hc2] at hm; cases hm
      · exact e2 (h.owne j mb hsj e)
      · have := blk_lt hm; omega
  refine ⟨by rw [upd_other hlo.one_ne_free]; exact hb, hl, ?_, ?_, ?_, ?_, .inl h.own, fun g e => .inl (hlv g e), ?_, ?_, ?_, fun k hk => .inl (h.up k (Nat.le_trans hf.size hk)), hlive⟩
  · intro j m hj
    rw [hadd] at hj
    by_cases e : j = σ.free
    · rw [if_pos e] at hj
      cases hj
      subst e
      rw [upd_same, upd_same, upd_same, upd_same]
      exact hnd
    · rw [if_neg e] at hj
      rw [upd_other e, upd_other e, upd_other e, upd_other e]
      exact hother j m hj
  · intro i j hi hj e
    by_cases a1 : i = σ.free <;> by_cases a2 : j = σ.free
    · rw [a1, a2]
    · rw [a1, upd_same, upd_other a2] at e
      exact absurd (e ▸ h.ownn j (back j hj a2)) hnb
    · rw [a2, upd_same, upd_other a1] at e
      exact absurd (e ▸ h.ownn i (back i hi a1)) hnb
    · rw [upd_other a1, upd_other a2] at e
      exact h.inj i j (back i hi a1) (back j hj a2) e
  · intro i j g hi hj e1 e2
    have n1 : i ≠ σ.free := by rintro rfl; rw [upd_same] at e1; cases e1
    have n2 : j ≠ σ.free := by rintro rfl; rw [upd_same] at e2; cases e2
    rw [upd_other n1] at e1
    rw [upd_other n2] at e2
    exact h.injd i j g (back i hi n1) (back j hj n2) e1 e2
  · intro i j m hi hj e1 e2
    by_cases a1 : i = σ.free <;> by_cases a2 : j = σ.free
    · rw [a1, a2]
    · rw [a1, upd_same] at e1
      rw [upd_other a2] at e2
      exact absurd (h.owne j m (back j hj a2) e2) (hev m e1)
    · rw [a2, upd_same] at e2
      rw [upd_other a1] at e1
      exact absurd (h.owne i m (back i hi a1) e1) (hev m e2)
    · rw [upd_other a1] at e1
      rw [upd_other a2] at e2
      exact h.inje i j m (back i hi a1) (back j hj a2) e1 e2
  · intro i hi
    by_cases a1 : i = σ.free
    · rw [a1, upd_same]; exact .inr (.inl rfl)
    · rw [upd_other a1]; exact .inl (h.ownn i (back i hi a1))
  · intro i g hi e
    have n1 : i ≠ σ.free := by rintro rfl; rw [upd_same] at e; cases e
    rw [upd_other n1] at e
    exact .inl (h.ownd i g (back i hi n1) e)
  · intro i m hi e
    by_cases a1 : i = σ.free
    · rw [a1, upd_same] at e; exact .inr (.inr e)
    · rw [upd_other a1] at e; exact .inl (h.owne i m (back i hi a1) e)
theorem entS_byts {σ : FSt} {a : Nat} {n : Nd} (hn : σ.nd a = some n) (g : KA Nat → KA Nat) : (σ.put a (some { n with ents := g n.ents })).byts = σ.byts := by
  have h1 := FSt.byts_put hn (some { n with ents := g n.ents })
  simp only [ndLen] at h1
  omega
/-- An inode's entries changed. -/
theorem FilesF.ented {w w' : World} {f : Nat} {σ : FSt} {S : Nat → Prop} {p : Nat → Nat} {dv ev pv : Nat → Value} {lv : Value} (h : FilesF w f σ S p dv ev pv lv) {a mb : Nat} {n : Nd} (hn : σ.nd a = some n) (hd : n.d = true) (hev : ev a = .map (some mb)) (g : KA Nat → KA Nat)
    (hf : Fr (fun k => k = mb) w w') (hm : SMapAt Tryz.prog 9 w' mb (kmap (fun _ k => .pointer (some ⟨p k, 0, none⟩)) (g n.ents))) (hlive : Live (entS σ a g)) : FilesAt w' f (entS σ a g) S p := by
  have hN := h.nd a n hn
  obtain ⟨es, clock, hmb⟩ := hN.map_blk hev
  rw [entS_some hn] at hlive ⊢
  refine ⟨_, _, _, _, h.changed hf hn (n' := { n with ents := g n.ents }) (fun k hk => .inr (.inr (.inr (by rw [hk]; exact hev)))) ?_ ⟨hf.get hN.hb ?_, ?_, fun _ => ⟨(hN.dir hd).1, mb, hev, hm⟩, fun e => absurd (hd.symm.trans e) (by decide), hN.par, hN.ptr, hN.md⟩ (fun g e => .inl e) (fun m e => e) hlive⟩
  · rw [entS_byts hn]
    refine hf.get h.hb ?_
    rintro rfl
    rw [h.hb] at hmb; cases hmb
  · intro e
    rw [← e, hN.hb] at hmb; cases hmb
  · refine hN.data.frame hf (fun b e e2 => ?_)
    obtain ⟨c, hc⟩ := hN.data.blk e
    rw [← e2, hc] at hmb; cases hmb
def slotL (p : Nat → Nat) (σ : FSt) : List (Option Nat) := σ.mapIdx fun k o => o.map fun _ => p (k + 1)
theorem slotL_enc (p : Nat → Nat) (σ : FSt) : (slotL p σ).map encP = slotV p σ := by
  unfold slotL slotV
  apply List.ext_getElem
  · simp
  · intro k h1 h2
    simp only [List.getElem_map, List.getElem_mapIdx]
    cases σ[k]'(by simpa using h2) <;> rfl
theorem slotL_length (p : Nat → Nat) (σ : FSt) : (slotL p σ).length = σ.length := by simp [slotL]
theorem slotL_free (p : Nat → Nat) (σ : FSt) : freeI (slotL p σ) = σ.findIdx (·.isNone) := by
  have h1 : freeI (slotL p σ) = ((slotL p σ).map (·.isNone)).findIdx id := by unfold freeI; rw [List.findIdx_map]; rfl
  have h2 : σ.findIdx (·.isNone) = (σ.map (·.isNone)).findIdx id := by rw [List.findIdx_map]; rfl
  rw [h1, h2]
  congr 1
  apply List.ext_getElem
  · simp [slotL]
  · intro k h1 h2
    simp only [List.getElem_map, slotL, List.getElem_mapIdx]
    cases σ[k]'(by simpa using h2) <;> rfl
theorem slotL_add (p : Nat → Nat) (σ : FSt) (nb : Nat) (n : Nd) : (addI (slotL p σ) nb).map encP = slotV (upd p σ.free nb) (σ.add n) ∧ (addI (slotL p σ) nb).length = (σ.add n).length := by
  have hle : σ.findIdx (·.isNone) ≤ σ.length := List.findIdx_le_length
  rw [← slotL_enc]
  have key : addI (slotL p σ) nb = slotL (upd p σ.free nb) (σ.add n) := by
    unfold addI FSt.add
    rw [slotL_free, slotL_length]
    by_cases h : σ.findIdx (·.isNone) < σ.length
    · rw [if_pos h, if_pos h]
      apply List.ext_getElem
      · simp [slotL]
      · intro k h1 h2
        simp only [slotL, List.getElem_set, List.getElem_mapIdx]
        by_cases e : σ.findIdx (·.isNone) = k
        · rw [if_pos e, if_pos e]
          simp only [Option.map_some]
          rw [show k + 1 = σ.free by unfold FSt.free; omega, upd_same]
        · rw [if_neg e, if_neg e, upd_other (by unfold FSt.free; omega)]
    · rw [if_neg h, if_neg h]
      apply List.ext_getElem
      · simp [slotL]
      · intro k h1 h2
        simp only [slotL, List.getElem_mapIdx]
        by_cases e : k < σ.length
        · rw [List.getElem_append_left (by simpa using e), List.getElem_append_left e, List.getElem_mapIdx, upd_other (by unfold FSt.free; omega)]
        · have e2 : k = σ.length := by rw [slotL_length, List.length_append] at h2; simp only [List.length_cons, List.length_nil] at h2; omega
          subst e2
          rw [List.getElem_append_right (by simp), List.getElem_append_right (by simp)]
          simp only [List.getElem_singleton, Option.map_some]
          rw [show σ.length + 1 = σ.free by unfold FSt.free; omega, upd_same]
  refine ⟨by rw [key], ?_⟩
  rw [key, slotL_length]
end Go.Proofs.YtffekmjoenppaaaGreatDoor

/- The tree of files as plain data: how often an inode is named; that the directories are a tree. No program in sight; no condition. -/
namespace Go.Proofs.YtffekmjoenppaaaGreatDoor
open Go.RowKit

def entN (i : Nat) (L : KA Nat) : Nat := (L.filter fun q => q.2 == i).length
def refN (i : Nat) (o : Option Nd) : Nat := match o with | none => 0 | some n => entN i n.ents
/-- How many entries name it. -/
def refs (σ : FSt) (i : Nat) : Nat := (σ.map (refN i)).sum
theorem refs_put {σ : FSt} {a : Nat} {n : Nd} (h : σ.nd a = some n) (x : Option Nd) (i : Nat) : refs (σ.put a x) i + entN i n.ents = refs σ i + refN i x := by
  obtain ⟨h0, hl⟩ := FSt.nd_lt (by rw [h]; rfl)
  have := sum_set (refN i) σ (a - 1) (by omega) x
  rw [FSt.nd_at h0 (by omega)] at h
  rw [h] at this
  exact this
theorem refs_add (σ : FSt) (n : Nd) (i : Nat) : refs (σ.add n) i = refs σ i + entN i n.ents := by
  unfold refs FSt.add
  split
  · rename_i h
    have h2 := sum_set (refN i) σ _ h (some n)
    have h3 : (σ[σ.findIdx (·.isNone)]).isNone = true := List.findIdx_getElem (w := h)
    have h4 : σ[σ.findIdx (·.isNone)] = none := by simpa using h3
    rw [h4] at h2
    simpa [refN] using h2
  · simp [refN]
theorem entN_cons (i : Nat) (q : List UInt8 × Nat) (L : KA Nat) : entN i (q :: L) = entN i L + (if q.2 = i then 1 else 0) := by
  unfold entN
  rw [List.filter_cons]
  by_cases e : q.2 = i
  · rw [if_pos (by simpa using e), if_pos e]; rfl
  · rw [if_neg (by simpa using e), if_neg e]; rfl
theorem entN_kins (i : Nat) (x : List UInt8 × Nat) : ∀ L : KA Nat, entN i (kins x L) = entN i L + (if x.2 = i then 1 else 0)
  | [] => by show entN i [x] = _; rw [entN_cons]
  | y :: r => by
    rw [kins_cons]
    split
    · rw [entN_cons]
    · rw [entN_cons, entN_kins i x r, entN_cons]; omega
theorem entN_kdel (i : Nat) {s : List UInt8} {k : Nat} : ∀ {L : KA Nat}, KSorted L → kget s L = some k → entN i (kdel s L) + (if k = i then 1 else 0) = entN i L
  | [], _, h => by cases h
  | y :: r, hs, h => by
    have hs' := List.pairwise_cons.1 hs
    rw [kget_cons] at h
    by_cases e : (y.1 == s) = true
    · rw [if_pos e] at h
      cases h
      have hr : kdel s (y :: r) = r := by
        unfold kdel
        rw [List.filter_cons, if_neg (by simp [e]), List.filter_eq_self]
        intro q hq
        have h1 := hs'.1 q hq
        have h2 : y.1 = s := by simpa using e
        simp only [Bool.not_eq_true', beq_eq_false_iff_ne]
        rintro h3
        rw [h2, ← h3] at h1
        exact absurd (before_lt h1) (List.lt_irrefl _)
      rw [hr, entN_cons]
    · rw [if_neg e] at h
      have ih := entN_kdel i hs'.2 h
      have hr : kdel s (y :: r) = y :: kdel s r := by
        unfold kdel
        rw [List.filter_cons, if_pos (by simpa using e)]
      rw [hr, entN_cons, entN_cons]
      omega
theorem kdel_none {s : List UInt8} {L : KA Nat} (h : kget s L = none) : kdel s L = L := kdel_same h
theorem entN_kput (i : Nat) {s : List UInt8} {k : Nat} {L : KA Nat} (h : kget s L = none) : entN i (kput s k L) = entN i L + (if k = i then 1 else 0) := by
  unfold kput
  rw [kdel_none h, entN_kins]
theorem entN_mem {i : Nat} {L : KA Nat} {s : List UInt8} (h : (s, i) ∈ L) : 1 ≤ entN i L := by
  unfold entN
  exact List.length_pos_of_mem (List.mem_filter.2 ⟨h, by simp⟩)
theorem refs_ge {σ : FSt} {a : Nat} {n : Nd} (h : σ.nd a = some n) (i : Nat) : entN i n.ents ≤ refs σ i := by
  have := refs_put h none i
  simp [refN] at this
  omega
theorem refs_pos {σ : FSt} {a i : Nat} {n : Nd} (h : σ.nd a = some n) {s : List UInt8} (hs : kget s n.ents = some i) : 1 ≤ refs σ i :=
  Nat.le_trans (entN_mem (kget_mem hs)) (refs_ge h i)
/-- Named once, by one entry. -/
theorem refs_unique {σ : FSt} {i : Nat} (h1 : refs σ i ≤ 1) {a b : Nat} {n m : Nd} (ha : σ.nd a = some n) (hb : σ.nd b = some m) (hn : KSorted n.ents) {s t : List UInt8} (hs : kget s n.ents = some i) (ht : kget t m.ents = some i) : a = b ∧ s = t := by
  have h2 := refs_put ha (some { n with ents := kdel s n.ents }) i
  have h3 := entN_kdel i hn hs
  simp only [refN, if_true] at h2 h3
  have h4 : refs (σ.put a (some { n with ents := kdel s n.ents })) i = 0 := by omega
  by_cases e : a = b
  · subst e
    rw [ha] at hb
    cases hb
    refine ⟨rfl, ?_⟩
    apply Decidable.byContradiction
    intro hne
    have h5 : kget t (kdel s n.ents) = some i := by rw [kget_kdel_other (fun e => hne e.symm)]; exact ht
    have h6 := refs_pos (σ := σ.put a (some { n with ents := kdel s n.ents })) (a := a) (n := { n with ents := kdel s n.ents }) (by rw [FSt.nd_put (by rw [ha]; rfl), if_pos rfl]) h5
    omega
  · have h6 := refs_pos (σ := σ.put a (some { n with ents := kdel s n.ents })) (a := b) (n := m) (by rw [FSt.nd_put (by rw [ha]; rfl), if_neg (fun e2 => e e2.symm)]; exact hb) ht
    omega
/-- So many steps up to e, which is the root or what floats (no other inode on the way is). -/
inductive Dep (σ : FSt) (fl e : Nat) : Nat → Nat → Prop
  | base : e = 1 ∨ e = fl → Dep σ fl e e 0
  | up {i k : Nat} {n : Nd} : i ≠ 1 → i ≠ fl → σ.nd i = some n → n.d = true → n.links ≠ 0 → Dep σ fl e n.par k → Dep σ fl e i (k + 1)
/-- A tree, but for one inode that has a name less than it counts (0: none). -/
structure Inv (σ : FSt) (fl : Nat) : Prop where
  cnt : ∀ i n, σ.nd i = some n → i ≠ 1 → n.links = refs σ i + (if i = fl then 1 else 0)
  root : refs σ 1 = 0
  one : ∀ i n, σ.nd i = some n → n.d = true → n.links ≤ 1
  dead : ∀ i n, σ.nd i = some n → n.d = true → n.links = 0 → n.ents = []
  up : ∀ i n, σ.nd i = some n → n.d = true → n.links ≠ 0 → i ≠ 1 → i ≠ fl → ∃ m nm, σ.nd n.par = some m ∧ m.d = true ∧ kget nm m.ents = some i
  deep : ∀ i n, σ.nd i = some n → n.d = true → n.links ≠ 0 → ∃ e k, Dep σ fl e i k
  srt : ∀ i n, σ.nd i = some n → KSorted n.ents
  file : ∀ i n, σ.nd i = some n → n.d = false → n.ents = []
  alive : ∀ i n, σ.nd i = some n → n.links ≠ 0 ∨ n.holds ≠ 0
  flat : fl ≠ 1
  rootp : ∀ n, σ.nd 1 = some n → n.par = 1
theorem Dep.end_ok {σ : FSt} {fl e i k : Nat} (h : Dep σ fl e i k) : e = 1 ∨ e = fl := by induction h <;> assumption
/-- The way up, where nothing on it has turned. -/
theorem Dep.same {σ τ : FSt} {fl fl' e : Nat} (he : e = 1 ∨ e = fl') (h : ∀ i n, i ≠ 1 → i ≠ fl → σ.nd i = some n → n.d = true → n.links ≠ 0 → i ≠ fl' ∧ ∃ m, τ.nd i = some m ∧ m.d = true ∧ m.links ≠ 0 ∧ m.par = n.par) :
    ∀ {i k : Nat}, Dep σ fl e i k → Dep τ fl' e i k
  | _, _, .base _ => .base he
  | i, _, .up h1 h2 h3 h4 h5 h6 => by
    obtain ⟨h7, m, h8, h9, h10, h11⟩ := h i _ h1 h2 h3 h4 h5
    exact .up h1 h7 h8 h9 h10 (h11 ▸ Dep.same he h h6)
theorem nd_zero (σ : FSt) : σ.nd 0 = none := rfl
theorem nd_pos {σ : FSt} {i : Nat} {n : Nd} (h : σ.nd i = some n) : i ≠ 0 := fun e => by rw [e, nd_zero] at h; cases h
theorem put_nd {σ : FSt} {a : Nat} {n : Nd} (h : σ.nd a = some n) (x : Option Nd) (j : Nat) : (σ.put a x).nd j = if j = a then x else σ.nd j := FSt.nd_put (by rw [h]; rfl) x j
/-- An inode changed in what the tree doesn't look at. -/
theorem Inv.soft {σ : FSt} {fl : Nat} (h : Inv σ fl) {i : Nat} {n n' : Nd} (hn : σ.nd i = some n) (hd : n'.d = n.d) (hl : n'.links = n.links) (he : n'.ents = n.ents) (hp : n'.par = n.par) (ha : n'.links ≠ 0 ∨ n'.holds ≠ 0) : Inv (σ.put i (some n')) fl := by
  have hnd := put_nd hn (some n')
  have hr : ∀ j, refs (σ.put i (some n')) j = refs σ j := fun j => by
    have := refs_put hn (some n') j
    simp only [refN, he] at this
    omega
  have cs : ∀ j m, (σ.put i (some n')).nd j = some m → ∃ m0, σ.nd j = some m0 ∧ m.d = m0.d ∧ m.links = m0.links ∧ m.ents = m0.ents ∧ m.par = m0.par := fun j m hj => by
    rw [hnd] at hj
    by_cases e : j = i
    · rw [if_pos e] at hj; cases hj; exact ⟨n, by rw [e]; exact hn, hd, hl, he, hp⟩
    · rw [if_neg e] at hj; exact ⟨m, hj, rfl, rfl, rfl, rfl⟩
  have cf : ∀ j m0, σ.nd j = some m0 → ∃ m, (σ.put i (some n')).nd j = some m ∧ m.d = m0.d ∧ m.links = m0.links ∧ m.ents = m0.ents ∧ m.par = m0.par := fun j m0 hj => by
    by_cases e : j = i
    · rw [e, hn] at hj; cases hj; exact ⟨n', by rw [hnd, if_pos e], hd, hl, he, hp⟩
    · exact ⟨m0, by rw [hnd, if_neg e]; exact hj, rfl, rfl, rfl, rfl⟩
  refine ⟨fun j m hj h1 => ?_, by rw [hr]; exact h.root, fun j m hj h1 => ?_, fun j m hj h1 h2 => ?_, fun j m hj h1 h2 h3 h4 => ?_, fun j m hj h1 h2 => ?_, fun j m hj => ?_, fun j m hj h1 => ?_, fun j m hj => ?_, h.flat, fun m hj => by obtain ⟨m0, a1, a2, a3, a4, a5⟩ := cs 1 m hj; rw [a5]; exact h.rootp m0 a1⟩
  · obtain ⟨m0, a1, a2, a3, a4, a5⟩ := cs j m hj
    rw [a3, hr]; exact h.cnt j m0 a1 h1
  · obtain ⟨m0, a1, a2, a3, a4, a5⟩ := cs j m hj
    rw [a3]; exact h.one j m0 a1 (a2 ▸ h1)
  · obtain ⟨m0, a1, a2, a3, a4, a5⟩ := cs j m hj
    rw [a4]; exact h.dead j m0 a1 (a2 ▸ h1) (a3 ▸ h2)
  · obtain ⟨m0, a1, a2, a3, a4, a5⟩ := cs j m hj
    obtain ⟨q, nm, b1, b2, b3⟩ := h.up j m0 a1 (a2 ▸ h1) (a3 ▸ h2) h3 h4
    obtain ⟨q', c1, c2, c3, c4, c5⟩ := cf _ q b1
    exact ⟨q', nm, by rw [a5]; exact c1, c2.trans b2, by rw [c4]; exact b3⟩
  · obtain ⟨m0, a1, a2, a3, a4, a5⟩ := cs j m hj
    obtain ⟨e, k, hk⟩ := h.deep j m0 a1 (a2 ▸ h1) (a3 ▸ h2)
    exact ⟨e, k, hk.same hk.end_ok fun i0 n0 b1 b2 b3 b4 b5 => ⟨b2, by
      obtain ⟨q', c1, c2, c3, c4, c5⟩ := cf _ n0 b3
      exact ⟨q', c1, c2.trans b4, by rw [c3]; exact b5, c5⟩⟩⟩
  · obtain ⟨m0, a1, a2, a3, a4, a5⟩ := cs j m hj
    rw [a4]; exact h.srt j m0 a1
  · obtain ⟨m0, a1, a2, a3, a4, a5⟩ := cs j m hj
    rw [a4]; exact h.file j m0 a1 (a2 ▸ h1)
  · rw [hnd] at hj
    by_cases e : j = i
    · rw [if_pos e] at hj; cases hj; exact ha
    · rw [if_neg e] at hj; exact h.alive j m hj
theorem refs_exists {i : Nat} : ∀ {σ : FSt}, refs σ i ≠ 0 → ∃ (j : Nat) (n : Nd) (q : List UInt8 × Nat), σ[j]? = some (some n) ∧ q ∈ n.ents ∧ q.2 = i
  | [], h => absurd rfl h
  | o :: σ, h => by
    unfold refs at h
    simp only [List.map_cons, List.sum_cons] at h
    by_cases h1 : refN i o = 0
    · obtain ⟨j, n, q, h2, h3⟩ := refs_exists (σ := σ) (i := i) (by unfold refs; omega)
      exact ⟨j + 1, n, q, by simpa using h2, h3⟩
    · cases o with
      | none => exact absurd rfl h1
      | some n =>
        simp only [refN, entN] at h1
        obtain ⟨q, hq⟩ := List.exists_mem_of_length_pos (Nat.pos_of_ne_zero h1)
        obtain ⟨h2, h3⟩ := List.mem_filter.1 hq
        exact ⟨0, n, q, rfl, h2, by simpa using h3⟩
theorem nd_of_get {σ : FSt} {j : Nat} {n : Nd} (h : σ[j]? = some (some n)) : σ.nd (j + 1) = some n := by
  unfold FSt.nd
  rw [if_neg (by omega), Nat.add_sub_cancel, h]
  rfl
theorem refs_none {σ : FSt} (h : Live σ) {i : Nat} (hi : σ.nd i = none) : refs σ i = 0 := by
  apply Decidable.byContradiction
  intro h1
  obtain ⟨j, n, q, h2, h3, h4⟩ := refs_exists h1
  have := h.ents _ _ (nd_of_get h2) q h3
  rw [h4, hi] at this
  cases this
theorem kget_nil_none {s : List UInt8} {L : KA Nat} {k : Nat} (h : kget s L = some k) (h2 : L = []) : False := by rw [h2] at h; cases h
/-- Above a directory that is named there is one that is named. -/
theorem Inv.above {σ : FSt} {fl : Nat} (h : Inv σ fl) {i : Nat} {n : Nd} (hn : σ.nd i = some n) (hd : n.d = true) (hl : n.links ≠ 0) (h1 : i ≠ 1) (h2 : i ≠ fl) : ∃ m nm, σ.nd n.par = some m ∧ m.d = true ∧ m.links ≠ 0 ∧ kget nm m.ents = some i := by
  obtain ⟨m, nm, h3, h4, h5⟩ := h.up i n hn hd hl h1 h2
  exact ⟨m, nm, h3, h4, fun e => kget_nil_none h5 (h.dead _ m h3 h4 e), h5⟩
/-- Each directory that is named leads to the root. -/
theorem Inv.to_root {σ : FSt} (h : Inv σ 0) {i : Nat} {n : Nd} (hn : σ.nd i = some n) (hd : n.d = true) (hl : n.links ≠ 0) : ∃ k, Dep σ 0 1 i k := by
  obtain ⟨e, k, hk⟩ := h.deep i n hn hd hl
  have key : ∀ {k i : Nat}, Dep σ 0 e i k → ∀ n, σ.nd i = some n → n.d = true → n.links ≠ 0 → Dep σ 0 1 i k := by
    intro k
    induction k with
    | zero =>
      intro i hk n hn hd hl
      cases hk with
      | base he =>
        rcases he with rfl | rfl
        · exact .base (.inl rfl)
        · exact absurd hn (by rw [nd_zero]; simp)
    | succ k ih =>
      intro i hk n hn hd hl
      cases hk with
      | up h1 h2 h3 h4 h5 h6 =>
        rw [h3] at hn
        cases hn
        obtain ⟨m, nm, b1, b2, b3, _⟩ := h.above h3 h4 h5 h1 h2
        exact .up h1 h2 h3 h4 h5 (ih h6 m b1 b2 b3)
  exact ⟨k, key hk n hn hd hl⟩
/-- A new inode, that nothing names yet. -/
theorem Inv.add {σ : FSt} (h : Inv σ 0) (hL : Live σ) (d : Bool) (m : Int) (a : Nat) : Inv (σ.add (newNd d m a)) σ.free := by
  have hnd := FSt.nd_add σ (newNd d m a)
  have hr : ∀ j, refs (σ.add (newNd d m a)) j = refs σ j := fun j => by rw [refs_add]; rfl
  have hfree := refs_none hL (FSt.nd_free σ)
  have ne : ∀ j n, σ.nd j = some n → j ≠ σ.free := fun j n hj => Live.ne_free (by rw [hj]; rfl)
  have cs : ∀ j n, (σ.add (newNd d m a)).nd j = some n → (j = σ.free ∧ n = newNd d m a) ∨ (j ≠ σ.free ∧ σ.nd j = some n) := fun j n hj => by
    rw [hnd] at hj
    by_cases e : j = σ.free
    · rw [if_pos e] at hj; cases hj; exact .inl ⟨e, rfl⟩
    · rw [if_neg e] at hj; exact .inr ⟨e, hj⟩
  have cf : ∀ j n, σ.nd j = some n → (σ.add (newNd d m a)).nd j = some n := fun j n hj => by rw [hnd, if_neg (ne j n hj)]; exact hj
  refine ⟨fun j n hj h1 => ?_, by rw [hr]; exact h.root, fun j n hj h1 => ?_, fun j n hj h1 h2 => ?_, fun j n hj h1 h2 h3 h4 => ?_, fun j n hj h1 h2 => ?_, fun j n hj => ?_, fun j n hj h1 => ?_, fun j n hj => ?_, fun e => hL.one_ne_free e.symm, fun n hj => h.rootp n ((cs 1 n hj).resolve_left fun e => hL.one_ne_free e.1).2⟩
  · rw [hr]
    rcases cs j n hj with ⟨rfl, rfl⟩ | ⟨e, hj⟩
    · rw [hfree, if_pos rfl]; rfl
    · rw [if_neg e, h.cnt j n hj h1, if_neg (nd_pos hj)]
  · rcases cs j n hj with ⟨rfl, rfl⟩ | ⟨e, hj⟩
    · exact Nat.le_refl _
    · exact h.one j n hj h1
  · rcases cs j n hj with ⟨rfl, rfl⟩ | ⟨e, hj⟩
    · rfl
    · exact h.dead j n hj h1 h2
  · rcases cs j n hj with ⟨rfl, rfl⟩ | ⟨e, hj⟩
    · exact absurd rfl h4
    · obtain ⟨q, nm, b1, b2, b3⟩ := h.up j n hj h1 h2 h3 (nd_pos hj)
      exact ⟨q, nm, cf _ _ b1, b2, b3⟩
  · rcases cs j n hj with ⟨rfl, rfl⟩ | ⟨e, hj⟩
    · exact ⟨σ.free, 0, .base (.inr rfl)⟩
    · obtain ⟨k, hk⟩ := h.to_root hj h1 h2
      exact ⟨1, k, hk.same (.inl rfl) fun i n b1 b2 b3 b4 b5 => ⟨ne i n b3, n, cf i n b3, b4, b5, rfl⟩⟩
  · rcases cs j n hj with ⟨rfl, rfl⟩ | ⟨e, hj⟩
    · exact List.Pairwise.nil
    · exact h.srt j n hj
  · rcases cs j n hj with ⟨rfl, rfl⟩ | ⟨e, hj⟩
    · rfl
    · exact h.file j n hj h1
  · rcases cs j n hj with ⟨rfl, rfl⟩ | ⟨e, hj⟩
    · exact .inl (by show (1 : Nat) ≠ 0; decide)
    · exact h.alive j n hj
/-- The way up, where it may end earlier now. -/
theorem Dep.split {σ τ : FSt} {k : Nat} (h : ∀ i n, σ.nd i = some n → n.d = true → n.links ≠ 0 → i ≠ k → ∃ m, τ.nd i = some m ∧ m.d = true ∧ m.links ≠ 0 ∧ m.par = n.par) : ∀ {j i : Nat}, Dep σ 0 1 i j → ∃ e j', Dep τ k e i j' := by
  intro j
  induction j with
  | zero => intro i hd; cases hd; exact ⟨1, 0, .base (.inl rfl)⟩
  | succ j ih =>
    intro i hd
    by_cases e : i = k
    · subst e; exact ⟨i, 0, .base (.inr rfl)⟩
    · cases hd with
      | up h1 h2 h3 h4 h5 h6 =>
        obtain ⟨m, b1, b2, b3, b4⟩ := h i _ h3 h4 h5 e
        obtain ⟨e', j', h7⟩ := ih h6
        exact ⟨e', j' + 1, .up h1 e b1 b2 b3 (b4 ▸ h7)⟩
/-- An entry less: what it named floats. -/
theorem Inv.cut {σ : FSt} (h : Inv σ 0) {a k : Nat} {n : Nd} {nm : List UInt8} (hn : σ.nd a = some n) (hk : kget nm n.ents = some k) : Inv (cutS σ a nm) k := by
  have hσ : cutS σ a nm = σ.put a (some { n with ents := kdel nm n.ents }) := entS_some hn _
  rw [hσ]
  have hnd := put_nd hn (some { n with ents := kdel nm n.ents })
  have hr : ∀ j, refs (σ.put a (some { n with ents := kdel nm n.ents })) j + (if k = j then 1 else 0) = refs σ j := fun j => by
    have h1 := refs_put hn (some { n with ents := kdel nm n.ents }) j
    have h2 := entN_kdel j (h.srt a n hn) hk
    simp only [refN] at h1
    omega
  have hk1 : k ≠ 1 := fun e => by have := hr 1; rw [if_pos e, h.root] at this; omega
  have cs : ∀ j m, (σ.put a (some { n with ents := kdel nm n.ents })).nd j = some m → ∃ m0, σ.nd j = some m0 ∧ m.d = m0.d ∧ m.links = m0.links ∧ m.par = m0.par ∧ m.holds = m0.holds ∧ ((j = a ∧ m.ents = kdel nm m0.ents) ∨ (j ≠ a ∧ m.ents = m0.ents)) := fun j m hj => by
    rw [hnd] at hj
    by_cases e : j = a
    · rw [if_pos e] at hj; cases hj; exact ⟨n, by rw [e]; exact hn, rfl, rfl, rfl, rfl, .inl ⟨e, rfl⟩⟩
    · rw [if_neg e] at hj; exact ⟨m, hj, rfl, rfl, rfl, rfl, .inr ⟨e, rfl⟩⟩
  have cf : ∀ j m0, σ.nd j = some m0 → ∃ m, (σ.put a (some { n with ents := kdel nm n.ents })).nd j = some m ∧ m.d = m0.d ∧ m.links = m0.links ∧ m.par = m0.par ∧ (m.ents = m0.ents ∨ (j = a ∧ m.ents = kdel nm m0.ents)) := fun j m0 hj => by
    by_cases e : j = a
    · rw [e, hn] at hj; cases hj; exact ⟨{ n with ents := kdel nm n.ents }, by rw [hnd, if_pos e], rfl, rfl, rfl, .inr ⟨e, rfl⟩⟩
    · exact ⟨m0, by rw [hnd, if_neg e]; exact hj, rfl, rfl, rfl, .inl rfl⟩
  have knil : kdel nm ([] : KA Nat) = [] := rfl
  refine ⟨fun j m hj h1 => ?_, by have := hr 1; rw [h.root] at this; omega, fun j m hj h1 => ?_, fun j m hj h1 h2 => ?_, fun j m hj h1 h2 h3 h4 => ?_, fun j m hj h1 h2 => ?_, fun j m hj => ?_, fun j m hj h1 => ?_, fun j m hj => ?_, hk1, fun m hj => by obtain ⟨m0, a1, a2, a3, a4, a5, a6⟩ := cs 1 m hj; rw [a4]; exact h.rootp m0 a1⟩
  · obtain ⟨m0, a1, a2, a3, a4, a5, a6⟩ := cs j m hj
    have h2 := hr j
    have h3 := h.cnt j m0 a1 h1
    rw [if_neg (nd_pos a1)] at h3
    rw [a3, h3, ← h2]
    by_cases e : j = k
    · rw [if_pos e, if_pos e.symm]; try omega
    · rw [if_neg e, if_neg (fun e2 => e e2.symm)]; try omega
  · obtain ⟨m0, a1, a2, a3, a4, a5, a6⟩ := cs j m hj
    rw [a3]; exact h.one j m0 a1 (a2 ▸ h1)
  · obtain ⟨m0, a1, a2, a3, a4, a5, a6⟩ := cs j m hj
    have h3 := h.dead j m0 a1 (a2 ▸ h1) (a3 ▸ h2)
    rcases a6 with ⟨_, e⟩ | ⟨_, e⟩
    · rw [e, h3]; rfl
    · rw [e, h3]
  · obtain ⟨m0, a1, a2, a3, a4, a5, a6⟩ := cs j m hj
    obtain ⟨q, nm', b1, b2, b3⟩ := h.up j m0 a1 (a2 ▸ h1) (a3 ▸ h2) h3 (nd_pos a1)
    obtain ⟨q', c1, c2, c3, c4, c5⟩ := cf _ q b1
    refine ⟨q', nm', by rw [a4]; exact c1, c2.trans b2, ?_⟩
    rcases c5 with c5 | ⟨ea, c5⟩
    · rw [c5]; exact b3
    · rw [c5, kget_kdel_other (fun e => ?_)]
      · exact b3
      · rw [ea, hn] at b1
        cases b1
        rw [e, hk] at b3
        exact h4 (Option.some.inj b3).symm
  · obtain ⟨m0, a1, a2, a3, a4, a5, a6⟩ := cs j m hj
    obtain ⟨d, hd⟩ := h.to_root a1 (a2 ▸ h1) (a3 ▸ h2)
    exact hd.split fun i0 n0 b3 b4 b5 _ => by
      obtain ⟨q', c1, c2, c3, c4, c5⟩ := cf _ n0 b3
      exact ⟨q', c1, c2.trans b4, by rw [c3]; exact b5, c4⟩
  · obtain ⟨m0, a1, a2, a3, a4, a5, a6⟩ := cs j m hj
    rcases a6 with ⟨_, e⟩ | ⟨_, e⟩
    · rw [e]; exact (h.srt j m0 a1).kdel _
    · rw [e]; exact h.srt j m0 a1
  · obtain ⟨m0, a1, a2, a3, a4, a5, a6⟩ := cs j m hj
    have h3 := h.file j m0 a1 (a2 ▸ h1)
    rcases a6 with ⟨_, e⟩ | ⟨_, e⟩
    · rw [e, h3]; rfl
    · rw [e, h3]
  · obtain ⟨m0, a1, a2, a3, a4, a5, a6⟩ := cs j m hj
    rw [a3, a5]; exact h.alive j m0 a1
theorem Dep.app {σ τ : FSt} {k : Nat} (h : ∀ i n, i ≠ 1 → i ≠ k → σ.nd i = some n → n.d = true → n.links ≠ 0 → ∃ m, τ.nd i = some m ∧ m.d = true ∧ m.links ≠ 0 ∧ m.par = n.par) {j0 : Nat} (h0 : Dep τ 0 1 k j0) : ∀ {j i : Nat}, Dep σ k k i j → ∃ j', Dep τ 0 1 i j' := by
  intro j
  induction j with
  | zero => intro i hd; cases hd; exact ⟨j0, h0⟩
  | succ j ih =>
    intro i hd
    cases hd with
    | up h1 h2 h3 h4 h5 h6 =>
      obtain ⟨m, b1, b2, b3, b4⟩ := h i _ h1 h2 h3 h4 h5
      obtain ⟨j', h7⟩ := ih h6
      exact ⟨j' + 1, .up h1 (nd_pos b1) b1 b2 b3 (b4 ▸ h7)⟩
theorem Inv.float_dir {σ : FSt} {k : Nat} (h : Inv σ k) {nk : Nd} (hk : σ.nd k = some nk) : ∀ {j i : Nat}, Dep σ k k i j → ∀ n, σ.nd i = some n → n.d = true → n.links ≠ 0 → nk.d = true := by
  intro j
  induction j with
  | zero =>
    intro i hd n hn hdir hl
    cases hd with
    | base he => rw [hk] at hn; cases hn; exact hdir
  | succ j ih =>
    intro i hd n hn hdir hl
    cases hd with
    | up h1 h2 h3 h4 h5 h6 =>
      obtain ⟨m, nm, b1, b2, b3, _⟩ := h.above h3 h4 h5 h1 h2
      exact ih h6 m b1 b2 b3
/-- An entry more, for what floats. -/
theorem Inv.link {σ : FSt} {k : Nat} (h : Inv σ k) {b : Nat} {nk m : Nd} {nm : List UInt8} (hk : σ.nd k = some nk) (hb : σ.nd b = some m) (hd : m.d = true) (hl : m.links ≠ 0) (hg : kget nm m.ents = none) (hdir : nk.d = true → nk.par = b ∧ ∃ j, Dep σ k 1 b j) : Inv (linkS σ b nm k) 0 := by
  have hσ : linkS σ b nm k = σ.put b (some { m with ents := kput nm k m.ents }) := entS_some hb _
  rw [hσ]
  have hnd := put_nd hb (some { m with ents := kput nm k m.ents })
  have hr : ∀ j, refs (σ.put b (some { m with ents := kput nm k m.ents })) j = refs σ j + (if k = j then 1 else 0) := fun j => by
    have h1 := refs_put hb (some { m with ents := kput nm k m.ents }) j
    have h2 := entN_kput j (k := k) hg
    simp only [refN] at h1
    omega
  have hk1 : k ≠ 1 := h.flat
  have hbk : b ≠ k := fun e => by
    subst e
    rw [hk] at hb
    cases hb
    obtain ⟨_, j, hj⟩ := hdir hd
    cases hj with
    | base _ => exact hk1 rfl
    | up _ h2 _ _ _ _ => exact h2 rfl
  have cs : ∀ j x, (σ.put b (some { m with ents := kput nm k m.ents })).nd j = some x → ∃ x0, σ.nd j = some x0 ∧ x.d = x0.d ∧ x.links = x0.links ∧ x.par = x0.par ∧ x.holds = x0.holds ∧ ((j = b ∧ x.ents = kput nm k x0.ents) ∨ (j ≠ b ∧ x.ents = x0.ents)) := fun j x hj => by
    rw [hnd] at hj
    by_cases e : j = b
    · rw [if_pos e] at hj; cases hj; exact ⟨m, by rw [e]; exact hb, rfl, rfl, rfl, rfl, .inl ⟨e, rfl⟩⟩
    · rw [if_neg e] at hj; exact ⟨x, hj, rfl, rfl, rfl, rfl, .inr ⟨e, rfl⟩⟩
  have cf : ∀ j x0, σ.nd j = some x0 → ∃ x, (σ.put b (some { m with ents := kput nm k m.ents })).nd j = some x ∧ x.d = x0.d ∧ x.links = x0.links ∧ x.par = x0.par ∧ (x.ents = x0.ents ∨ (j = b ∧ x.ents = kput nm k x0.ents)) := fun j x0 hj => by
    by_cases e : j = b
    · rw [e, hb] at hj; cases hj; exact ⟨{ m with ents := kput nm k m.ents }, by rw [hnd, if_pos e], rfl, rfl, rfl, .inr ⟨e, rfl⟩⟩
    · exact ⟨x0, by rw [hnd, if_neg e]; exact hj, rfl, rfl, rfl, .inl rfl⟩
  have tr : ∀ i n, i ≠ 1 → i ≠ k → σ.nd i = some n → n.d = true → n.links ≠ 0 → ∃ x, (σ.put b (some { m with ents := kput nm k m.ents })).nd i = some x ∧ x.d = true ∧ x.links ≠ 0 ∧ x.par = n.par := fun i n _ _ b3 b4 b5 => by
    obtain ⟨q', c1, c2, c3, c4, c5⟩ := cf _ n b3
    exact ⟨q', c1, c2.trans b4, by rw [c3]; exact b5, c4⟩
  refine ⟨fun j x hj h1 => ?_, by rw [hr, h.root, if_neg hk1], fun j x hj h1 => ?_, fun j x hj h1 h2 => ?_, fun j x hj h1 h2 h3 h4 => ?_, fun j x hj h1 h2 => ?_, fun j x hj => ?_, fun j x hj h1 => ?_, fun j x hj => ?_, by decide, fun x hj => by obtain ⟨x0, a1, a2, a3, a4, a5, a6⟩ := cs 1 x hj; rw [a4]; exact h.rootp x0 a1⟩
  · obtain ⟨x0, a1, a2, a3, a4, a5, a6⟩ := cs j x hj
    rw [a3, h.cnt j x0 a1 h1, hr, if_neg (nd_pos a1)]
    by_cases e : j = k
    · rw [if_pos e, if_pos e.symm]
    · rw [if_neg e, if_neg (fun e2 => e e2.symm)]
  · obtain ⟨x0, a1, a2, a3, a4, a5, a6⟩ := cs j x hj
    rw [a3]; exact h.one j x0 a1 (a2 ▸ h1)
  · obtain ⟨x0, a1, a2, a3, a4, a5, a6⟩ := cs j x hj
    rcases a6 with ⟨e, _⟩ | ⟨_, e⟩
    · rw [e, hb] at a1
      cases a1
      exact absurd (a3 ▸ h2) hl
    · rw [e]; exact h.dead j x0 a1 (a2 ▸ h1) (a3 ▸ h2)
  · obtain ⟨x0, a1, a2, a3, a4, a5, a6⟩ := cs j x hj
    by_cases e : j = k
    · subst e
      rw [hk] at a1
      cases a1
      obtain ⟨e1, _⟩ := hdir (a2 ▸ h1)
      obtain ⟨x', c1, c2, c3, c4, c5⟩ := cf b m hb
      exact ⟨{ m with ents := kput nm j m.ents }, nm, by rw [a4, e1, hnd, if_pos rfl], hd, kget_kput_same _ _ _⟩
    · obtain ⟨q, nm', b1, b2, b3⟩ := h.up j x0 a1 (a2 ▸ h1) (a3 ▸ h2) h3 e
      obtain ⟨q', c1, c2, c3, c4, c5⟩ := cf _ q b1
      refine ⟨q', nm', by rw [a4]; exact c1, c2.trans b2, ?_⟩
      rcases c5 with c5 | ⟨ea, c5⟩
      · rw [c5]; exact b3
      · rw [c5, kget_kput_other (fun e => ?_)]
        · exact b3
        · rw [ea, hb] at b1
          cases b1
          rw [e, hg] at b3
          cases b3
  · obtain ⟨x0, a1, a2, a3, a4, a5, a6⟩ := cs j x hj
    obtain ⟨e, d, hde⟩ := h.deep j x0 a1 (a2 ▸ h1) (a3 ▸ h2)
    rcases hde.end_ok with he | he
    · rw [he] at hde
      exact ⟨1, d, hde.same (.inl rfl) fun i n b1 b2 b3 b4 b5 => ⟨nd_pos b3, tr i n b1 b2 b3 b4 b5⟩⟩
    · rw [he] at hde
      have hnkd := h.float_dir hk hde x0 a1 (a2 ▸ h1) (a3 ▸ h2)
      obtain ⟨e1, j0, hj0⟩ := hdir hnkd
      have hkl : nk.links ≠ 0 := by have := h.cnt k nk hk hk1; rw [if_pos rfl] at this; omega
      have hup : Dep (σ.put b (some { m with ents := kput nm k m.ents })) 0 1 b j0 := hj0.same (.inl rfl) fun i n b1 b2 b3 b4 b5 => ⟨nd_pos b3, tr i n b1 b2 b3 b4 b5⟩
      have hk' : (σ.put b (some { m with ents := kput nm k m.ents })).nd k = some nk := by rw [hnd, if_neg (fun e2 => hbk e2.symm)]; exact hk
      have h0 : Dep (σ.put b (some { m with ents := kput nm k m.ents })) 0 1 k (j0 + 1) := .up hk1 (nd_pos hk) hk' hnkd hkl (e1 ▸ hup)
      obtain ⟨j', h'⟩ := Dep.app tr h0 hde
      exact ⟨1, j', h'⟩
  · obtain ⟨x0, a1, a2, a3, a4, a5, a6⟩ := cs j x hj
    rcases a6 with ⟨_, e⟩ | ⟨_, e⟩
    · rw [e]; exact (h.srt j x0 a1).kput _ _
    · rw [e]; exact h.srt j x0 a1
  · obtain ⟨x0, a1, a2, a3, a4, a5, a6⟩ := cs j x hj
    rcases a6 with ⟨e, _⟩ | ⟨_, e⟩
    · rw [e, hb] at a1
      cases a1
      rw [a2, hd] at h1
      cases h1
    · rw [e]; exact h.file j x0 a1 (a2 ▸ h1)
  · obtain ⟨x0, a1, a2, a3, a4, a5, a6⟩ := cs j x hj
    rw [a3, a5]; exact h.alive j x0 a1
end Go.Proofs.YtffekmjoenppaaaGreatDoor

/- files.FS.add: a new inode at a place. Conditions: the contract's own premises. -/
namespace Go.Proofs.YtffekmjoenppaaaGreatDoor
open Go.RowKit

theorem dirB_any (w : World) (b : Nat) (d : Bool) (h : w.cell? ⟨b, 1, none⟩ = some (.int .i64 (if d then 2 else 1))) : Calls Tryz.prog 70 #[.pointer (some ⟨b, 0, none⟩)] w fun e w' => e = .returned (.bool d) ∧ w = w' := by
  cases d <;> simp only [if_true, if_false, Bool.false_eq_true] at h
  all_goals
    go_enter Tryz.func70, Tryz.ntmps70
    go_wp2
    go_ret
    exact ⟨rfl, rfl⟩
/-- A new inode's block: nothing in it but its kind and its mode. -/
structure NewB (w : World) (nb : Nat) (d : Bool) (m : Int) (ev : Value) : Prop where
  hb : w.heap[nb]? = some (.cells #[.int .i64 0, .int .i64 (if d then 2 else 1), .int .i64 m, .int .i64 0, .int .i64 0, .slice none 0 0, ev, .pointer none] 90 (0, 0))
  dir : d = true → ∃ mb, ev = .map (some mb) ∧ SMapAt Tryz.prog 9 w mb []
  file : d = false → ev = .map none
theorem NewB.frame {w w' : World} {T : Nat → Prop} {nb : Nat} {d : Bool} {m : Int} {ev : Value} (h : NewB w nb d m ev) (hf : Fr T w w') (h1 : ¬ T nb) (h2 : ∀ mb, ev = .map (some mb) → ¬ T mb) : NewB w' nb d m ev :=
  ⟨hf.get h.hb h1, fun hd => by obtain ⟨mb, h3, h4⟩ := h.dir hd; exact ⟨mb, h3, h4.frame hf (h2 mb h3)⟩, h.file⟩
theorem NewB.map_lt {w : World} {nb : Nat} {d : Bool} {m : Int} {ev : Value} (h : NewB w nb d m ev) {mb : Nat} (he : ev = .map (some mb)) : mb < w.heap.size := by
  cases hd : d with
  | true => obtain ⟨mb', h3, h4⟩ := h.dir hd; rw [he] at h3; cases h3; exact h4.lt
  | false => rw [h.file hd] at he; cases he
def NewS (S : Nat → Prop) (nb : Nat) (ev : Value) (k : Nat) : Prop := S k ∨ k = nb ∨ ev = .map (some k)
def MakePost (f : Nat) (σ : FSt) (S : Nat → Prop) (nb : Nat) (ev : Value) (dir : Int) (s : List UInt8) (d : Bool) (m : Int) (w : World) (e : Ending) (w' : World) : Prop :=
  e = .returned (.int .i64 (makeR σ dir s d m).1) ∧ (∃ p', FilesAt w' f (makeR σ dir s d m).2 (NewS S nb ev) p' ∧ ((makeR σ dir s d m).1 = 0 → p' σ.free = nb)) ∧ Fr (NewS S nb ev) w w'
theorem makePost_err {f : Nat} {σ : FSt} {S : Nat → Prop} {p : Nat → Nat} {nb : Nat} {ev : Value} {dir : Int} {s : List UInt8} {d : Bool} {m : Int} {w w' : World} {E : Int} (h : FilesAt w f σ S p) (h1 : addE σ dir s d = E) (h2 : E ≠ 0) (hf : Fr (fun _ => False) w w') :
    MakePost f σ S nb ev dir s d m w (.returned (.int .i64 E)) w' := by
  have hm : makeR σ dir s d m = (E, σ) := by unfold makeR; rw [h1, if_pos h2]
  unfold MakePost
  rw [hm]
  exact ⟨rfl, ⟨p, (h.frame hf (fun _ _ _ e => e)).mono (fun k hk => .inl hk), fun e => absurd e h2⟩, hf.mono (fun _ _ e => e.elim)⟩
set_option maxRecDepth 100000 in
set_option maxHeartbeats 4000000 in
theorem fadd_any (w : World) (f : Nat) (σ : FSt) (S : Nat → Prop) (p : Nat → Nat) (h : FilesAt w f σ S p) (hml : Ml w) (dir : Int) (hd : -9223372036854775808 ≤ dir ∧ dir ≤ 9223372036854775807) (s : ByteArray) (hs : s.size ≤ 9223372036854775807)
    (nb : Nat) (d : Bool) (m : Int) (ev : Value) (hn : NewB w nb d m ev) (hnb : ¬ S nb) (hev : ∀ mb, ev = .map (some mb) → ¬ S mb) (hcap : CapB σ) (hm : -9223372036854775808 ≤ m ∧ m ≤ 9223372036854775807) :
    Calls Tryz.prog 73 #[.pointer (some ⟨f, 0, none⟩), .int .i64 dir, .string s, .pointer (some ⟨nb, 0, none⟩)] w (MakePost f σ S nb ev dir s.data.toList d m w) := by
  have hah := ahead_any w f σ S p h hml dir hd s hs
  have hdef : addE σ dir s.data.toList d = if (aheadE σ dir s.data.toList).1 ≠ 0 then (aheadE σ dir s.data.toList).1
    else if slashS s.data.toList = true ∧ d = false then 21
    else if openS σ (aheadE σ dir s.data.toList).2.1 (aheadE σ dir s.data.toList).2.2 ≠ 0 then openS σ (aheadE σ dir s.data.toList).2.1 (aheadE σ dir s.data.toList).2.2
    else if 100 ≤ σ.cnt then 23 else 0 := rfl
  have herr := hide (show ∀ (E : Int) w', addE σ dir s.data.toList d = E → E ≠ 0 → Fr (fun _ => False) w w' → MakePost f σ S nb ev dir s.data.toList d m w (.returned (.int .i64 E)) w' from fun E w' h1 h2 h3 => makePost_err h h1 h2 h3)
  have hfull : addE σ dir s.data.toList d = 0 → makeR σ dir s.data.toList d m = (0, addS σ dir s.data.toList d m) := fun e => by unfold makeR; rw [if_neg (by simp [e])]
  have hfull := hide hfull
  have hadds : addS σ dir s.data.toList d m = linkS (σ.add (newNd d m (aheadE σ dir s.data.toList).2.1)) (aheadE σ dir s.data.toList).2.1 (aheadE σ dir s.data.toList).2.2 σ.free := rfl
  unfold AheadPost at hah
  obtain ⟨E, a, nl, hq⟩ : ∃ E a nl, aheadE σ dir s.data.toList = (E, a, nl) := ⟨_, _, _, rfl⟩
  rw [hq] at hah hdef hadds
  simp only at hah hdef hadds
  have Hdef := hide hdef
  have Hah := hide hah
  have Hadds := hide hadds
  clear hdef hah hq hadds
  go_enter Tryz.func73, Tryz.ntmps73
  go_wp2_with fail
  refine Hah.out.mono ?_
  rintro e w1 ⟨dv, nm, sl, rfl, hf1, hok, hno⟩
  clear Hah
  by_cases hE : E = 0
  · subst hE
    obtain ⟨rfl, hnm, hnm2, rfl, n, hna, hnd⟩ := hok rfl
    clear hok hno
    have hdef2 : addE σ dir s.data.toList d = if slashS s.data.toList = true ∧ d = false then 21 else if openE n nm.data.toList ≠ 0 then openE n nm.data.toList else if 100 ≤ σ.cnt then 23 else 0 := by
      have hopS : openS σ a nl = openE n nm.data.toList := by unfold openS; rw [hna, hnm]
      rw [Hdef.out, if_neg (by simp), hopS]
    obtain ⟨sl, hsl⟩ : ∃ sl, sl = slashS s.data.toList := ⟨_, rfl⟩
    rw [← hsl] at hdef2 ⊢
    have Hdef2 := hide hdef2
    clear hdef2 Hdef hsl
    obtain ⟨w2, hw2⟩ : ∃ w2, w2 = w1.alloc (.cells #[.pointer (some ⟨p a, 0, none⟩), .string nm, .bool sl] 145 (0, 0)) := ⟨_, rfl⟩
    have hf2 : Fr (fun _ => False) w w2 := by rw [hw2]; exact hf1.alloc _
    have hbp : w2.heap[w1.heap.size]? = some (.cells #[.pointer (some ⟨p a, 0, none⟩), .string nm, .bool sl] 145 (0, 0)) := by rw [hw2]; exact blk_new _ _
    have hA2 := h.frame hf2 (fun _ _ _ e => e)
    have hn2 := hn.frame hf2 (fun e => e) (fun _ _ e => e)
    have hdirc : w2.cell? ⟨nb, 1, none⟩ = some (.int .i64 (if d then 2 else 1)) := by rw [blk_cell hn2.hb]; rfl
    have hdir := hide (dirB_any w2 nb d hdirc)
    obtain ⟨dva, eva, pva, hNa⟩ := hA2.node hna
    have hopen := hide (placeOpen_any w2 p a n dva eva pva hNa hnd nm hnm2 sl)
    have c0p : w2.cell? ⟨w1.heap.size, 0, none⟩ = some (.pointer (some ⟨p a, 0, none⟩)) := by rw [blk_cell hbp]; rfl
    have c1p : w2.cell? ⟨w1.heap.size, 1, none⟩ = some (.string nm) := by rw [blk_cell hbp]; rfl
    have c2p : w2.cell? ⟨w1.heap.size, 2, none⟩ = some (.bool sl) := by rw [blk_cell hbp]; rfl
    have hsz2 : w1.heap.size < w2.heap.size := blk_lt hbp
    have Hn2 := hide hn2
    have HNa := hide hNa
    have HA2 := hide hA2
    clear hn2 hNa hA2 hdirc
    have hgo : (sl = true ∧ d = false) ∨ (sl = false) ∨ (sl = true ∧ d = true) := by cases sl <;> cases d <;> simp
    rcases hgo with ⟨rfl, hd1⟩ | rfl | ⟨rfl, hd1⟩
    · have hres := hide (herr.out 21 _ (by rw [Hdef2.out, if_pos ⟨rfl, hd1⟩]) (by decide) hf2)
      rw [hd1] at hdir
      clear hd1
      subst hw2
      go_wp2_with fail
      refine hdir.out.mono ?_
      rintro e w4 ⟨rfl, rfl⟩
      go_wp2_with fail
      go_ret
      exact hres.out
    all_goals
      have hdef3 := Hdef2.out
      rw [if_neg (by first | (rw [hd1]; simp; done) | simp)] at hdef3
      try rw [hd1] at hdir
      try clear hd1
      have Hdef3 := hide hdef3
      clear hdef3 Hdef2
      have hA2z := HA2.out.live
      obtain ⟨E2, hE2⟩ : ∃ E2, E2 = openE n nm.data.toList := ⟨_, rfl⟩
      rw [← hE2] at hopen Hdef3
      have HE2 := hide hE2
      clear hE2 hA2z
      first
        | (subst hw2; go_wp2_with fail; refine hopen.out.mono ?_)
        | (subst hw2; go_wp2_with fail; refine hdir.out.mono ?_; rintro e w4 ⟨rfl, rfl⟩; go_wp2_with fail; refine hopen.out.mono ?_)
      rintro e w3 ⟨rfl, hf3⟩
      clear hopen hdir
      have hf23 := hf2.trans hf3
      by_cases h2 : E2 = 0
      · subst h2
        have hdef4 := Hdef3.out
        rw [if_neg (by simp)] at hdef4
        have Hdef4 := hide hdef4
        clear hdef4 Hdef3
        have hA3 := h.frame hf23 (fun _ _ _ e => e)
        obtain ⟨dv, evs, pv, lv, hF⟩ := id hA3
        have hcnt : w3.cell? ⟨f, 1, none⟩ = some (.int .i64 σ.cnt) := by rw [blk_cell hF.hb]; rfl
        by_cases h100 : 100 ≤ σ.cnt
        · have hres := hide (herr.out 23 w3 (by rw [Hdef4.out, if_pos h100]) (by decide) hf23)
          have h100i : (100 : Int) ≤ (σ.cnt : Int) := by omega
          clear Hdef4 hF hA3
          go_wp2_with fail
          go_ret
          exact hres.out
        · have h100i : ¬ (100 : Int) ≤ (σ.cnt : Int) := by omega
          have hN3 := Hn2.out.frame hf3 (fun e => e) (fun _ _ e => e)
          have c2n : w3.cell? ⟨nb, 2, none⟩ = some (.int .i64 m) := by rw [blk_cell hN3.hb]; rfl
          have z2n := blk_frozen hN3.hb
          have hbp3 := hf3.get hbp (fun e => e)
          have hnbl : nb < w.heap.size := blk_lt hn.hb
          have hsz1 := hf1.size
          have hmode := modeN_eq m
          obtain ⟨W4, hW4⟩ : ∃ W4, W4 = w3.setCell ⟨nb, 2, none⟩ (.int .i64 (modeN m)) := ⟨_, rfl⟩
          have hfr4 : Fr (fun k => k = nb) w3 W4 := by rw [hW4]; exact frSet _ _ _ _
          have hb4 : W4.heap[nb]? = some (.cells #[.int .i64 0, .int .i64 (if d then 2 else 1), .int .i64 (modeN m), .int .i64 0, .int .i64 0, .slice none 0 0, ev, .pointer none] 90 (0, 0)) := by rw [hW4, blk_set hN3.hb]; rfl
          have hplace : ∀ W, Fr (fun k => k = nb) W4 W → W.cell? ⟨w1.heap.size, 0, none⟩ = some (.pointer (some ⟨p a, 0, none⟩)) := fun W hW => by
            rw [blk_cell (hW.get (hfr4.get hbp3 (by omega)) (by omega))]; rfl
          have Hplace := hide hplace
          have HN3 := hide hN3
          have Hb4 := hide hb4
          have HF := hide hF
          have Hdef4' := Hdef4
          clear hplace hb4 hN3 hF hA3 Hdef4 herr c0p c1p c2p
          go_wp2_with fail
          rw [← hW4]
          refine region_tree (fun W => Fr (fun k => k = nb) W4 W) [0, 1, 2, 3, 4, 5] 1 7 (by kernel_rfl) (by kernel_rfl) (fun _ _ d _ _ h => by cases d <;> exact h) (Fr.refl _ _).drew ?_
          simp only [List.map_cons, List.map_nil, List.getD_cons_zero, List.getD_cons_succ, List.drop_succ_cons, List.drop_zero]
          go_big_quiet_step (fail)
          go_big_quiet_step (fail)
          refine wpQuiet_val (.pointer (some ⟨w1.heap.size, 0, none⟩)) rfl (fun w' hS => by (go_simp)) ?_
          simp only [Act.put, List.setIfInBounds_toArray, List.set_cons_succ, List.set_cons_zero]
          refine wpQuiet_val (.pointer (some ⟨p a, 0, none⟩)) rfl (fun w' hS => by (have e2 := Hplace.out w' hS; go_simp)) ?_
          simp only [Act.put, List.setIfInBounds_toArray, List.set_cons_succ, List.set_cons_zero]
          refine wpQuiet_val (.pointer (some ⟨nb, 0, none⟩)) rfl (fun w' hS => by (go_simp)) ?_
          simp only [Act.put, List.setIfInBounds_toArray, List.set_cons_succ, List.set_cons_zero]
          refine wpQuiet_val (.pointer (some ⟨nb, 3, none⟩)) rfl (fun w' hS => by (go_simp)) ?_
          simp only [Act.put, List.setIfInBounds_toArray, List.set_cons_succ, List.set_cons_zero]
          refine wpQuiet_nil ?_
          generalize hX0e : W4.drew = X0
          have hX0 : Fr (fun k => k = nb) W4 X0 := by rw [← hX0e]; exact (Fr.refl _ _).drew
          have hb0 := hX0e ▸ blk_drew Hb4.out
          have z0 := blk_frozen hb0
          clear hX0e
          refine tree_one' 6 (by kernel_rfl) (by decide) (by simp) rfl (fun K hK => ?_)
          simp only [List.getD_cons_zero, List.getD_cons_succ]
          have c03 : X0.cell? ⟨nb, 3, none⟩ = some (.int .i64 0) := by rw [blk_cell hb0]; rfl
          go_wp2_with fail
          have hX1 : Fr (fun k => k = nb) W4 (X0.setCell ⟨nb, 3, none⟩ (.int .i64 1)) := hX0.trans (frSet _ _ _ _)
          have hb1 := blk_set hb0 3 (.int .i64 1)
          refine hK _ _ hX1 ?_
          clear hK K
          generalize X0.setCell ⟨nb, 3, none⟩ (.int .i64 1) = X1 at *
          have z1 := blk_frozen hb1
          have c17 : X1.cell? ⟨nb, 7, none⟩ = some (.pointer none) := by rw [blk_cell hb1]; rfl
          refine tree_end (by kernel_rfl) ?_
          have hX2 : Fr (fun k => k = nb) W4 (X1.setCell ⟨nb, 7, none⟩ (.pointer (some ⟨p a, 0, none⟩))) := hX1.trans (frSet _ _ _ _)
          have hb2 := blk_set hb1 7 (.pointer (some ⟨p a, 0, none⟩))
          generalize hX2e : X1.setCell ⟨nb, 7, none⟩ (.pointer (some ⟨p a, 0, none⟩)) = X2 at hX2 hb2
          simp only [List.setIfInBounds_toArray, List.set_cons_zero, List.set_cons_succ] at hb2
          have hF2 := HF.out.frame (hfr4.trans hX2) (fun k _ hk e => hnb (e ▸ hk))
          have hsadd := sadd_any X2 f nb lv σ.cnt (.pointer (some ⟨p 1, 0, none⟩)) (.int .i64 σ.byts) (slotL p σ) hF2.hb (by rw [slotL_length, slotL_enc]; exact hF2.hl) (by omega) (by rw [slotL_length]; have := hF2.live.len; omega)
          have Hsadd := hide hsadd
          have HF2 := hide hF2
          have Hb2 := hide hb2
          clear hsadd hF2 hb2 hb1 hb0
          go_wp2_with fail
          refine Hsadd.out.mono ?_
          clear hX2e Hsadd
          rintro e w7 ⟨rfl, lv', hb7, hl7, hfr7, hlv7⟩
          have hfree : ((freeI (slotL p σ) : Int) + 1) = (σ.free : Int) := by rw [slotL_free]; unfold FSt.free; omega
          rw [hfree]
          clear hfree
          have hlive := HF2.out.live
          have hnf : nb ≠ f := fun e => hnb (e ▸ HF2.out.own)
          have hnl : ∀ g, lv.ownBlock = some g → nb ≠ g := fun g e e2 => hnb (e2 ▸ HF2.out.ownl g e)
          have hbn7 := hfr7.get Hb2.out (fun e => e.elim hnf (fun e => hnl _ e rfl))
          have zn7 := blk_frozen hbn7
          have cn7 : w7.cell? ⟨nb, 0, none⟩ = some (.int .i64 0) := by rw [blk_cell hbn7]; rfl
          obtain ⟨W8, hW8⟩ : ∃ W8, W8 = (w7.setCell ⟨nb, 0, none⟩ (.int .i64 σ.free)).drew := ⟨_, rfl⟩
          have hbn8 : W8.heap[nb]? = some (.cells #[.int .i64 σ.free, .int .i64 (if d then 2 else 1), .int .i64 (modeN m), .int .i64 1, .int .i64 0, .slice none 0 0, ev, .pointer (some ⟨p a, 0, none⟩)] 90 (0, 0)) := by
            rw [hW8, blk_drew (blk_set hbn7 0 (.int .i64 σ.free))]; rfl
          have hfr8 : Fr (fun k => k = f ∨ lv.ownBlock = some k ∨ k = nb) X2 W8 := by
            rw [hW8]
            exact (((hfr7.mono (S' := fun k => k = f ∨ lv.ownBlock = some k ∨ k = nb) (fun k _ e => e.imp id .inl)).trans' (frSet _ nb 0 _) (fun k _ e => .inr (.inr e)))).drew
          have hf7to8 : Fr (fun k => k = nb) w7 W8 := by rw [hW8]; exact (frSet w7 nb 0 (.int .i64 σ.free)).drew
          have hapos : (σ.nd a).isSome = true := by rw [hna]; rfl
          have hane := Live.ne_free hapos
          have hf38 : Fr (fun k => k = nb ∨ k = f ∨ lv.ownBlock = some k) w3 W8 := ((hfr4.trans hX2).mono (fun k _ e => .inl e)).trans' hfr8 (fun k _ e => by
            rcases e with e | e | e
            · exact .inr (.inl e)
            · exact .inr (.inr e)
            · exact .inl e)
          have hfw8 : Fr (NewS S nb ev) w W8 := (hf23.mono (fun k _ e => e.elim)).trans' hf38 (fun k _ e => by
            rcases e with e | e | e
            · exact .inr (.inl e)
            · exact .inl (e ▸ HF2.out.own)
            · exact .inl (HF2.out.ownl k e))
          have hlv9 : ∀ g, lv'.ownBlock = some g → S g ∧ g ≠ nb := fun g e => by
            rcases hlv7 with h9 | h9
            · rw [h9] at e; exact ⟨HF2.out.ownl g e, (hnl g e).symm⟩
            · rw [h9] at e
              have e9 : X2.heap.size + 1 = g := by simpa using e
              have hs9 := hf23.size
              have hs8 := (hfr4.trans hX2).size
              exact ⟨HF2.out.up g (by omega), by omega⟩
          obtain ⟨hsl1, hsl2⟩ := slotL_add p σ nb (newNd d m a)
          rw [hsl1, hsl2] at hl7
          obtain ⟨-, ma, hma, -⟩ := (HF.out.nd a n hna).dir hnd
          have hF8 := HF2.out.added (n := newNd d m a) (nb := nb) (ev' := ev) (pv' := .pointer (some ⟨p a, 0, none⟩)) hfr8 (fun k hk => by
              rcases hk with e | e | e
              · exact .inl e
              · exact .inr (.inl e)
              · exact .inr (.inr (.inl (e ▸ hnb)))) (by
              have h9 := hf7to8.get hb7 (Ne.symm hnf)
              rw [FSt.cnt_add, FSt.byts_add]
              simpa [newNd] using h9) (own_frame hl7 hf7to8 (fun g e => (hlv9 g e).2)) (fun g e => (hlv9 g e).1) hnb
            ⟨hbn8, .inl ⟨rfl, rfl⟩, fun hd => (by
              obtain ⟨mb, h3, h4⟩ := HN3.out.dir hd
              refine ⟨rfl, mb, h3, h4.frame hf38 (fun e => ?_)⟩
              rcases e with e | e | e
              · obtain ⟨es, clock, hmb, _⟩ := h4.own
                rw [e, HN3.out.hb] at hmb; cases hmb
              · exact hev mb h3 (e ▸ HF2.out.own)
              · exact hev mb h3 (HF2.out.ownl mb e)), fun hd => ⟨hn.file hd, rfl⟩, fun _ _ => by show _ = Value.pointer (some ⟨upd p σ.free nb a, 0, none⟩); rw [upd_other hane], ⟨_, rfl⟩, modeN_lt m⟩ hev (hlive.add rfl rfl hapos (by omega))
          have hna8 : (σ.add (newNd d m a)).nd a = some n := (FSt.add_other hapos _).trans hna
          have hN8 := hF8.nd a n hna8
          rw [upd_other hane] at hN8
          have hev8 : upd evs σ.free ev a = .map (some ma) := (upd_other hane).trans hma
          obtain ⟨-, ma', hma', hsm8⟩ := hN8.dir hnd
          rw [hev8] at hma'
          cases hma'
          have hents := (hcap a n hna).2.2
          obtain ⟨W9, hup, hsm9, hf9⟩ := hsm8.update (t := 87) Tryz.underlying9 Tryz.underlying87 (by rw [kmap_length]; unfold maxLen; omega) nm (by unfold maxLen; omega) (.pointer (some ⟨nb, 0, none⟩))
          have hkm := kput_kmap (fun (_ : List UInt8) k => Value.pointer (some ⟨upd p σ.free nb k, 0, none⟩)) nm.data.toList σ.free n.ents
          simp only [upd_same] at hkm
          rw [hkm] at hsm9
          clear hkm
          have hlive9 := hF8.live.link hna8 (nm := nm.data.toList) (k := σ.free) (by rw [ba_len]; exact hnm2) (by rw [FSt.add_same]; rfl)
          have hA9 := hF8.ented hna8 hnd hev8 (kput nm.data.toList σ.free) hf9 hsm9 hlive9
          have hres := hide (show MakePost f σ S nb ev dir s.data.toList d m w (.returned (.int .i64 0)) W9 from by
            have e9 : makeR σ dir s.data.toList d m = (0, linkS (σ.add (newNd d m a)) a nm.data.toList σ.free) := by
              rw [hfull.out (by rw [Hdef4'.out, if_neg h100]), Hadds.out, hnm]
            unfold MakePost
            rw [e9]
            exact ⟨rfl, ⟨_, hA9, fun _ => upd_same _ _ _⟩, hfw8.trans' hf9 (fun k _ e => .inl (by rw [e]; exact HF.out.owne a ma hapos hma))⟩)
          have c6 : W8.cell? ⟨p a, 6, none⟩ = some (.map (some ma)) := by rw [blk_cell hN8.hb, hev8]; rfl
          have hb8 := hf38.get hbp3 (fun e => by
            rcases e with e | e | e
            · omega
            · have := blk_lt HF.out.hb; have := HF.out.own
              exact cells_ne hbp3 (e ▸ HF.out.hb) (by decide) rfl
            · obtain ⟨c, hc⟩ := HF.out.lv_blk e
              exact cells_ne hbp3 hc (by decide) rfl)
          have c08 : W8.cell? ⟨w1.heap.size, 0, none⟩ = some (.pointer (some ⟨p a, 0, none⟩)) := by rw [blk_cell hb8]; rfl
          have c18 : W8.cell? ⟨w1.heap.size, 1, none⟩ = some (.string nm) := by rw [blk_cell hb8]; rfl
          clear hfr8 hf7to8 hbn7 hF8 hN8 hsm8 hsm9 hA9 hlive9 hf9 hb8 hlv9 hl7 hb7 hlv7 hfr7 hfw8 hf38 hsl1 hsl2 hents HF HF2 Hb2 HN3 Hn2 hnl hlive Hplace hna8 hev8 hX0 hX1 hX2 hfr4
          go_wp2_with fail
          refine region_tail 8 (by kernel_rfl) (by kernel_rfl) ?_
          rw [← hW8]
          clear hW8
          simp only [List.take_succ_cons, List.take_zero, List.drop_succ_cons, List.drop_zero]
          repeat go_big_quiet_step (fail)
          refine wpQuiet_nil ?_
          go_wp2_with fail
          go_ret
          exact hres.out
      · have hres := hide (herr.out E2 w3 (by rw [Hdef3.out, if_pos h2]) h2 hf23)
        clear Hdef3 HE2
        go_wp2_with fail
        go_ret
        exact hres.out
  · obtain ⟨rfl, rfl, rfl⟩ := hno hE
    have hres := hide (herr.out E (w1.alloc (.cells #[.pointer none, .string ⟨#[]⟩, .bool false] 145 (0, 0))) (by rw [Hdef.out, if_pos hE]) hE (hf1.alloc _))
    clear hok hno Hdef
    go_wp2_with fail
    go_ret
    exact hres.out
end Go.Proofs.YtffekmjoenppaaaGreatDoor
