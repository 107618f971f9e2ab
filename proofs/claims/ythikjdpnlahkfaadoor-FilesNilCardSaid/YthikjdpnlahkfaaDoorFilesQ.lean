/- The tree of files in memory: an inode more; an inode's entries changed. Conditions: the laws' own premises. -/
import Derived.Test.YthikjdpnlahkfaaDoorFilesP
namespace Go.Proofs.YthikjdpnlahkfaaDoor
open Go.RowKit

theorem Live.one_ne_free {σ : FSt} (h : Live σ) : (1 : Nat) ≠ σ.free := by
  obtain ⟨r, hr, _⟩ := h.root
  intro e
  rw [e, FSt.nd_free] at hr
  cases hr
theorem Live.ne_free {σ : FSt} {i : Nat} (h : (σ.nd i).isSome = true) : i ≠ σ.free := by
  rintro rfl
  rw [FSt.nd_free] at h
  cases h
/-- An inode more. -/
theorem FilesF.added {w w' : World} {f : Nat} {σ : FSt} {S : Nat → Prop} {p : Nat → Nat} {dv ev pv : Nat → Value} {lv lv' : Value} (h : FilesF w f σ S p dv ev pv lv) {T : Nat → Prop} (hf : Fr T w w') {nb : Nat} {n : Nd} {ev' pv' : Value}
    (hT : ∀ k, T k → k = f ∨ lv.ownBlock = some k ∨ ¬ S k ∨ w.heap.size ≤ k)
    (hb : w'.heap[f]? = some (.cells #[lv', .int .i64 (σ.add n).cnt, .pointer (some ⟨p 1, 0, none⟩), .int .i64 (σ.add n).byts] 69 (0, 0)))
    (hl : w'.ownsRow 0 67 1 lv' (σ.add n).length (slotV (upd p σ.free nb) (σ.add n)))
    (hlv : ∀ g, lv'.ownBlock = some g → S g) (hnb : ¬ S nb)
    (hnd : NodeF w' (upd p σ.free nb) nb σ.free n (.slice none 0 0) ev' pv') (hev : ∀ m, ev' = .map (some m) → ¬ S m) (hlive : Live (σ.add n)) :
    FilesF w' f (σ.add n) (fun k => S k ∨ k = nb ∨ ev' = .map (some k)) (upd p σ.free nb) (upd dv σ.free (.slice none 0 0)) (upd ev σ.free ev') (upd pv σ.free pv') lv' := by
  have hlo := h.live
  have hadd := FSt.nd_add σ n
  have back : ∀ j, ((σ.add n).nd j).isSome = true → j ≠ σ.free → (σ.nd j).isSome = true := fun j hj hne => by rw [hadd, if_neg hne] at hj; exact hj
  have old : ∀ j m, σ.nd j = some m → j ≠ σ.free := fun j m hj => Live.ne_free (by rw [hj]; rfl)
  have hother : ∀ j m, σ.nd j = some m → NodeF w' (upd p σ.free nb) (p j) j m (dv j) (ev j) (pv j) := fun j m hj => by
    have hnj := h.nd j m hj
    have hsj : (σ.nd j).isSome = true := by rw [hj]; rfl
    refine (hnj.frame hf (fun ht => ?_) (fun g e ht => ?_) (fun mb e ht => ?_)).reptr (fun q hq => upd_other (Live.ne_free (hlo.ents j m hj q hq))) (fun hd hlk => upd_other (Live.ne_free (hlo.par j m hj hd hlk)))
    · rcases hT _ ht with e2 | e2 | e2 | e2
      · exact cells_ne hnj.hb (e2 ▸ h.hb) (by decide) rfl
      · obtain ⟨c2, hc2⟩ := h.lv_blk e2
        exact cells_ne hnj.hb hc2 (by decide) rfl
      · exact e2 (h.ownn j hsj)
      · have := blk_lt hnj.hb; omega
    · obtain ⟨c, hc⟩ := hnj.data.blk e
      rcases hT _ ht with e2 | e2 | e2 | e2
      · exact cells_ne hc (e2 ▸ h.hb) (by decide) rfl
      · obtain ⟨c2, hc2⟩ := h.lv_blk e2
        exact cells_ne hc hc2 (by decide) rfl
      · exact e2 (h.ownd j g hsj e)
      · have := blk_lt hc; omega
    · obtain ⟨es, clock, hm⟩ := hnj.map_blk e
      rcases hT _ ht with e2 | e2 | e2 | e2
      · rw [e2, h.hb] at hm; cases hm
      · obtain ⟨c2, hc2⟩ := h.lv_blk e2
        rw [hc2] at hm; cases hm
      · exact e2 (h.owne j mb hsj e)
      · have := blk_lt hm; omega
  refine ⟨by rw [upd_other hlo.one_ne_free]; exact hb, hl, ?_, ?_, ?_, ?_, .inl h.own, fun g e => .inl (hlv g e), ?_, ?_, ?_, fun k hk => .inl (h.up k (Nat.le_trans hf.size hk)), hlive⟩
  · intro j m hj
    rw [hadd] at hj
    by_cases e : j = σ.free
    · rw [if_pos e] at hj
      cases hj
      subst e
      rw [upd_same, upd_same, upd_same, upd_same]
      exact hnd
    · rw [if_neg e] at hj
      rw [upd_other e, upd_other e, upd_other e, upd_other e]
      exact hother j m hj
  · intro i j hi hj e
    by_cases a1 : i = σ.free <;> by_cases a2 : j = σ.free
    · rw [a1, a2]
    · rw [a1, upd_same, upd_other a2] at e
      exact absurd (e ▸ h.ownn j (back j hj a2)) hnb
    · rw [a2, upd_same, upd_other a1] at e
      exact absurd (e ▸ h.ownn i (back i hi a1)) hnb
    · rw [upd_other a1, upd_other a2] at e
      exact h.inj i j (back i hi a1) (back j hj a2) e
  · intro i j g hi hj e1 e2
    have n1 : i ≠ σ.free := by rintro rfl; rw [upd_same] at e1; cases e1
    have n2 : j ≠ σ.free := by rintro rfl; rw [upd_same] at e2; cases e2
    rw [upd_other n1] at e1
    rw [upd_other n2] at e2
    exact h.injd i j g (back i hi n1) (back j hj n2) e1 e2
  · intro i j m hi hj e1 e2
    by_cases a1 : i = σ.free <;> by_cases a2 : j = σ.free
    · rw [a1, a2]
    · rw [a1, upd_same] at e1
      rw [upd_other a2] at e2
      exact absurd (h.owne j m (back j hj a2) e2) (hev m e1)
    · rw [a2, upd_same] at e2
      rw [upd_other a1] at e1
      exact absurd (h.owne i m (back i hi a1) e1) (hev m e2)
    · rw [upd_other a1] at e1
      rw [upd_other a2] at e2
      exact h.inje i j m (back i hi a1) (back j hj a2) e1 e2
  · intro i hi
    by_cases a1 : i = σ.free
    · rw [a1, upd_same]; exact .inr (.inl rfl)
    · rw [upd_other a1]; exact .inl (h.ownn i (back i hi a1))
  · intro i g hi e
    have n1 : i ≠ σ.free := by rintro rfl; rw [upd_same] at e; cases e
    rw [upd_other n1] at e
    exact .inl (h.ownd i g (back i hi n1) e)
  · intro i m hi e
    by_cases a1 : i = σ.free
    · rw [a1, upd_same] at e; exact .inr (.inr e)
    · rw [upd_other a1] at e; exact .inl (h.owne i m (back i hi a1) e)
theorem entS_byts {σ : FSt} {a : Nat} {n : Nd} (hn : σ.nd a = some n) (g : KA Nat → KA Nat) : (σ.put a (some { n with ents := g n.ents })).byts = σ.byts := by
  have h1 := FSt.byts_put hn (some { n with ents := g n.ents })
  simp only [ndLen] at h1
  omega
/-- An inode's entries changed. -/
theorem FilesF.ented {w w' : World} {f : Nat} {σ : FSt} {S : Nat → Prop} {p : Nat → Nat} {dv ev pv : Nat → Value} {lv : Value} (h : FilesF w f σ S p dv ev pv lv) {a mb : Nat} {n : Nd} (hn : σ.nd a = some n) (hd : n.d = true) (hev : ev a = .map (some mb)) (g : KA Nat → KA Nat)
    (hf : Fr (fun k => k = mb) w w') (hm : SMapAt Tryd.prog 9 w' mb (kmap (fun _ k => .pointer (some ⟨p k, 0, none⟩)) (g n.ents))) (hlive : Live (entS σ a g)) : FilesAt w' f (entS σ a g) S p := by
  have hN := h.nd a n hn
  obtain ⟨es, clock, hmb⟩ := hN.map_blk hev
  rw [entS_some hn] at hlive ⊢
  refine ⟨_, _, _, _, h.changed hf hn (n' := { n with ents := g n.ents }) (fun k hk => .inr (.inr (.inr (by rw [hk]; exact hev)))) ?_ ⟨hf.get hN.hb ?_, ?_, fun _ => ⟨(hN.dir hd).1, mb, hev, hm⟩, fun e => absurd (hd.symm.trans e) (by decide), hN.par, hN.ptr, hN.md⟩ (fun g e => .inl e) (fun m e => e) hlive⟩
  · rw [entS_byts hn]
    refine hf.get h.hb ?_
    rintro rfl
    rw [h.hb] at hmb; cases hmb
  · intro e
    rw [← e, hN.hb] at hmb; cases hmb
  · refine hN.data.frame hf (fun b e e2 => ?_)
    obtain ⟨c, hc⟩ := hN.data.blk e
    rw [← e2, hc] at hmb; cases hmb
def slotL (p : Nat → Nat) (σ : FSt) : List (Option Nat) := σ.mapIdx fun k o => o.map fun _ => p (k + 1)
theorem slotL_enc (p : Nat → Nat) (σ : FSt) : (slotL p σ).map encP = slotV p σ := by
  unfold slotL slotV
  apply List.ext_getElem
  · simp
  · intro k h1 h2
    simp only [List.getElem_map, List.getElem_mapIdx]
    cases σ[k]'(by simpa using h2) <;> rfl
theorem slotL_length (p : Nat → Nat) (σ : FSt) : (slotL p σ).length = σ.length := by simp [slotL]
theorem slotL_free (p : Nat → Nat) (σ : FSt) : freeI (slotL p σ) = σ.findIdx (·.isNone) := by
  have h1 : freeI (slotL p σ) = ((slotL p σ).map (·.isNone)).findIdx id := by unfold freeI; rw [List.findIdx_map]; rfl
  have h2 : σ.findIdx (·.isNone) = (σ.map (·.isNone)).findIdx id := by rw [List.findIdx_map]; rfl
  rw [h1, h2]
  congr 1
  apply List.ext_getElem
  · simp [slotL]
  · intro k h1 h2
    simp only [List.getElem_map, slotL, List.getElem_mapIdx]
    cases σ[k]'(by simpa using h2) <;> rfl
theorem slotL_add (p : Nat → Nat) (σ : FSt) (nb : Nat) (n : Nd) : (addI (slotL p σ) nb).map encP = slotV (upd p σ.free nb) (σ.add n) ∧ (addI (slotL p σ) nb).length = (σ.add n).length := by
  have hle : σ.findIdx (·.isNone) ≤ σ.length := List.findIdx_le_length
  rw [← slotL_enc]
  have key : addI (slotL p σ) nb = slotL (upd p σ.free nb) (σ.add n) := by
    unfold addI FSt.add
    rw [slotL_free, slotL_length]
    by_cases h : σ.findIdx (·.isNone) < σ.length
    · rw [if_pos h, if_pos h]
      apply List.ext_getElem
      · simp [slotL]
      · intro k h1 h2
        simp only [slotL, List.getElem_set, List.getElem_mapIdx]
        by_cases e : σ.findIdx (·.isNone) = k
        · rw [if_pos e, if_pos e]
          simp only [Option.map_some]
          rw [show k + 1 = σ.free by unfold FSt.free; omega, upd_same]
        · rw [if_neg e, if_neg e, upd_other (by unfold FSt.free; omega)]
    · rw [if_neg h, if_neg h]
      apply List.ext_getElem
      · simp [slotL]
      · intro k h1 h2
        simp only [slotL, List.getElem_mapIdx]
        by_cases e : k < σ.length
        · rw [List.getElem_append_left (by simpa using e), List.getElem_append_left e, List.getElem_mapIdx, upd_other (by unfold FSt.free; omega)]
        · have e2 : k = σ.length := by rw [slotL_length, List.length_append] at h2; simp only [List.length_cons, List.length_nil] at h2; omega
          subst e2
          rw [List.getElem_append_right (by simp), List.getElem_append_right (by simp)]
          simp only [List.getElem_singleton, Option.map_some]
          rw [show σ.length + 1 = σ.free by unfold FSt.free; omega, upd_same]
  refine ⟨by rw [key], ?_⟩
  rw [key, slotL_length]
end Go.Proofs.YthikjdpnlahkfaaDoor
