/- The tree of files in memory behind a change: an inode changed; an inode more. Conditions: the laws' own premises. -/
import Derived.Test.YthikjdpnlahkfaaDoorFilesJ
namespace Go.Proofs.YthikjdpnlahkfaaDoor
open Go.RowKit

def upd {α : Type} (g : Nat → α) (i : Nat) (x : α) (j : Nat) : α := if j = i then x else g j
theorem upd_same {α : Type} (g : Nat → α) (i : Nat) (x : α) : upd g i x i = x := if_pos rfl
theorem upd_other {α : Type} {g : Nat → α} {i j : Nat} {x : α} (h : j ≠ i) : upd g i x j = g j := if_neg h
theorem FilesF.mono {w : World} {f : Nat} {σ : FSt} {S S' : Nat → Prop} {p : Nat → Nat} {dv ev pv : Nat → Value} {lv : Value} (h : FilesF w f σ S p dv ev pv lv) (hs : ∀ k, S k → S' k) : FilesF w f σ S' p dv ev pv lv :=
  { h with own := hs _ h.own, ownl := fun g e => hs _ (h.ownl g e), ownn := fun i e => hs _ (h.ownn i e), ownd := fun i g e e2 => hs _ (h.ownd i g e e2), owne := fun i m e e2 => hs _ (h.owne i m e e2), up := fun k e => hs _ (h.up k e) }
theorem FilesAt.mono {w : World} {f : Nat} {σ : FSt} {S S' : Nat → Prop} {p : Nat → Nat} (h : FilesAt w f σ S p) (hs : ∀ k, S k → S' k) : FilesAt w f σ S' p := by
  obtain ⟨_, _, _, _, h⟩ := h
  exact ⟨_, _, _, _, h.mono hs⟩
theorem kmap_congr {α β : Type} {f g : List UInt8 → α → β} : ∀ {L : KA α}, (∀ q ∈ L, f q.1 q.2 = g q.1 q.2) → kmap f L = kmap g L
  | [], _ => rfl
  | q :: L, h => by
    unfold kmap
    rw [List.map_cons, List.map_cons, h q (by simp)]
    congr 1
    exact kmap_congr (fun q hq => h q (by simp [hq]))
/-- The same, by other numbers for the blocks. -/
theorem NodeF.reptr {w : World} {p p' : Nat → Nat} {b i : Nat} {n : Nd} {dv ev pv : Value} (h : NodeF w p b i n dv ev pv) (he : ∀ q ∈ n.ents, p' q.2 = p q.2) (hp : n.d = true → 0 < n.links → p' n.par = p n.par) : NodeF w p' b i n dv ev pv :=
  { h with
    dir := fun hd => by
      obtain ⟨h0, m, h1, h2⟩ := h.dir hd
      refine ⟨h0, m, h1, ?_⟩
      rw [kmap_congr (g := fun _ k => .pointer (some ⟨p k, 0, none⟩)) (fun q hq => by rw [he q hq])]
      exact h2
    par := fun hd hl => by rw [hp hd hl]; exact h.par hd hl }
theorem ptrOf_isSome {o o' : Option Nd} (h : o.isSome = o'.isSome) (b : Nat) : ptrOf o b = ptrOf o' b := by cases o <;> cases o' <;> first | rfl | cases h
theorem slotV_put {p : Nat → Nat} {σ : FSt} {i : Nat} {n n' : Nd} (hn : σ.nd i = some n) : slotV p (σ.put i (some n')) = slotV p σ := by
  obtain ⟨h0, hl⟩ := FSt.nd_lt (show (σ.nd i).isSome = true by rw [hn]; rfl)
  rw [FSt.nd_at h0 (by omega)] at hn
  unfold slotV
  apply List.ext_getElem
  · simp [FSt.put_length]
  · intro k h1 h2
    rw [List.getElem_mapIdx, List.getElem_mapIdx]
    apply ptrOf_isSome
    unfold FSt.put
    rw [List.getElem_set]
    split
    · rename_i e; subst e; rw [hn]; rfl
    · rfl
/-- Which block holds a row of what. -/
theorem cells_ne {w : World} {a b ta tb : Nat} {ca cb : Array Value} {fa fb : Nat × Nat} (ha : w.heap[a]? = some (.cells ca ta fa)) (hb : w.heap[b]? = some (.cells cb tb fb)) (hne : ta ≠ tb) : a ≠ b := by
  rintro rfl
  rw [ha] at hb
  cases hb
  exact hne rfl
theorem FilesF.lv_blk {w : World} {f : Nat} {σ : FSt} {S : Nat → Prop} {p : Nat → Nat} {dv ev pv : Nat → Value} {lv : Value} (h : FilesF w f σ S p dv ev pv lv) {g : Nat} (hg : lv.ownBlock = some g) : ∃ c, w.heap[g]? = some (.cells c 67 (0, 0)) := by
  rcases h.hl.2 with ⟨h1, _⟩ | ⟨g', cap', cur, h1, _, hc, _⟩
  · rw [h1] at hg; cases hg
  · rw [h1] at hg
    have e' : g' = g := by simpa [Value.ownBlock] using hg
    subst e'
    exact ⟨_, hc⟩
theorem DataV.blk {w : World} {v : Value} {l : List UInt8} (h : DataV w v l) {g : Nat} (hg : v.ownBlock = some g) : ∃ c, w.heap[g]? = some (.cells c 5 (0, 0)) := by
  rcases h with ⟨rfl, _⟩ | ⟨g', cap, cur, rfl, hc, _⟩
  · cases hg
  · have e' : g' = g := by simpa [Value.ownBlock] using hg
    subst e'
    exact ⟨_, hc⟩
theorem NodeF.map_blk {w : World} {p : Nat → Nat} {b i : Nat} {n : Nd} {dv ev pv : Value} (h : NodeF w p b i n dv ev pv) {m : Nat} (he : ev = .map (some m)) : ∃ es clock, w.heap[m]? = some (.map es clock) := by
  cases hn : n.d with
  | true =>
    obtain ⟨_, m', h1, h2⟩ := h.dir hn
    rw [he] at h1
    cases h1
    obtain ⟨es, clock, hb, _⟩ := h2.own
    exact ⟨es, clock, hb⟩
  | false =>
    have := (h.file hn).1
    rw [he] at this
    cases this
/-- An inode changed. -/
theorem FilesF.changed {w w' : World} {f : Nat} {σ : FSt} {S : Nat → Prop} {p : Nat → Nat} {dv ev pv : Nat → Value} {lv : Value} (h : FilesF w f σ S p dv ev pv lv) {T : Nat → Prop} (hf : Fr T w w') {i : Nat} {n n' : Nd} (hn : σ.nd i = some n) {dv' ev' pv' : Value}
    (hT : ∀ k, T k → k = f ∨ k = p i ∨ (dv i).ownBlock = some k ∨ ev i = .map (some k))
    (hb : w'.heap[f]? = some (.cells #[lv, .int .i64 σ.cnt, .pointer (some ⟨p 1, 0, none⟩), .int .i64 (σ.put i (some n')).byts] 69 (0, 0)))
    (hnd : NodeF w' p (p i) i n' dv' ev' pv') (hdv : ∀ g, dv'.ownBlock = some g → (dv i).ownBlock = some g ∨ w.heap.size ≤ g) (hev : ∀ m, ev' = .map (some m) → ev i = .map (some m)) (hlive : Live (σ.put i (some n'))) :
    FilesF w' f (σ.put i (some n')) S p (upd dv i dv') (upd ev i ev') (upd pv i pv') lv := by
  have hs : (σ.nd i).isSome = true := by rw [hn]; rfl
  have hput := FSt.nd_put hs (some n')
  have hi := h.nd i n hn
  have back : ∀ j, ((σ.put i (some n')).nd j).isSome = true → (σ.nd j).isSome = true := fun j hj => by
    rw [hput] at hj
    split at hj
    · rename_i e; rw [e]; exact hs
    · exact hj
  have hcnt : (σ.put i (some n')).cnt = σ.cnt := by have := FSt.cnt_put hs (some n'); simp [one] at this; exact this
  have hTlv : ∀ g, lv.ownBlock = some g → ¬ T g := fun g e ht => by
    obtain ⟨c, hc⟩ := h.lv_blk e
    rcases hT g ht with rfl | rfl | e2 | e2
    · exact cells_ne hc h.hb (by decide) rfl
    · exact cells_ne hc hi.hb (by decide) rfl
    · obtain ⟨c2, hc2⟩ := hi.data.blk e2
      exact cells_ne hc hc2 (by decide) rfl
    · obtain ⟨es, clock, hm⟩ := hi.map_blk e2
      rw [hc] at hm; cases hm
  have hother : ∀ j m, σ.nd j = some m → j ≠ i → NodeF w' p (p j) j m (dv j) (ev j) (pv j) := fun j m hj hne => by
    have hnj := h.nd j m hj
    have hsj : (σ.nd j).isSome = true := by rw [hj]; rfl
    refine hnj.frame hf (fun ht => ?_) (fun g e ht => ?_) (fun mb e ht => ?_)
    · rcases hT _ ht with e2 | e2 | e2 | e2
      · exact cells_ne hnj.hb (e2 ▸ h.hb) (by decide) rfl
      · exact hne (h.inj j i hsj hs e2)
      · obtain ⟨c2, hc2⟩ := hi.data.blk e2
        exact cells_ne hnj.hb hc2 (by decide) rfl
      · obtain ⟨es, clock, hm⟩ := hi.map_blk e2
        rw [hnj.hb] at hm; cases hm
    · obtain ⟨c, hc⟩ := hnj.data.blk e
      rcases hT _ ht with e2 | e2 | e2 | e2
      · exact cells_ne hc (e2 ▸ h.hb) (by decide) rfl
      · exact cells_ne hc (e2 ▸ hi.hb) (by decide) rfl
      · exact hne (h.injd j i g hsj hs e e2)
      · obtain ⟨es, clock, hm⟩ := hi.map_blk e2
        rw [hc] at hm; cases hm
    · obtain ⟨es, clock, hm⟩ := hnj.map_blk e
      rcases hT _ ht with e2 | e2 | e2 | e2
      · rw [e2, h.hb] at hm; cases hm
      · rw [e2, hi.hb] at hm; cases hm
      · obtain ⟨c2, hc2⟩ := hi.data.blk e2
        rw [hc2] at hm; cases hm
      · exact hne (h.inje j i mb hsj hs e e2)
  refine ⟨by rw [hcnt]; exact hb, ?_, ?_, fun j k hj hk => h.inj j k (back j hj) (back k hk), ?_, ?_, h.own, h.ownl, fun j hj => h.ownn j (back j hj), ?_, ?_, fun k hk => h.up k (Nat.le_trans hf.size hk), hlive⟩
  · rw [FSt.put_length, slotV_put hn]
    exact own_frame h.hl hf hTlv
  · intro j m hj
    rw [hput] at hj
    by_cases e : j = i
    · rw [if_pos e] at hj
      cases hj
      subst e
      rw [upd_same, upd_same, upd_same]
      exact hnd
    · rw [if_neg e] at hj
      rw [upd_other e, upd_other e, upd_other e]
      exact hother j m hj e
  · intro j k g hj hk e1 e2
    have hj' := back j hj
    have hk' := back k hk
    have lt : ∀ a, (σ.nd a).isSome = true → (dv a).ownBlock = some g → g < w.heap.size := fun a ha e => by
      obtain ⟨m, hm⟩ := Option.isSome_iff_exists.1 ha
      exact (h.nd a m hm).data.lt e
    by_cases a1 : j = i <;> by_cases a2 : k = i
    · rw [a1, a2]
    · subst a1
      rw [upd_same] at e1
      rw [upd_other a2] at e2
      rcases hdv g e1 with e3 | e3
      · exact h.injd _ _ g hj' hk' e3 e2
      · have := lt k hk' e2; omega
    · subst a2
      rw [upd_same] at e2
      rw [upd_other a1] at e1
      rcases hdv g e2 with e3 | e3
      · exact h.injd _ _ g hj' hk' e1 e3
      · have := lt j hj' e1; omega
    · rw [upd_other a1] at e1
      rw [upd_other a2] at e2
      exact h.injd _ _ g hj' hk' e1 e2
  · intro j k m hj hk e1 e2
    have hj' := back j hj
    have hk' := back k hk
    have f1 : ev j = .map (some m) := by
      by_cases a1 : j = i
      · subst a1; rw [upd_same] at e1; exact hev m e1
      · rwa [upd_other a1] at e1
    have f2 : ev k = .map (some m) := by
      by_cases a1 : k = i
      · subst a1; rw [upd_same] at e2; exact hev m e2
      · rwa [upd_other a1] at e2
    exact h.inje j k m hj' hk' f1 f2
  · intro j g hj e1
    by_cases a1 : j = i
    · subst a1
      rw [upd_same] at e1
      rcases hdv g e1 with e3 | e3
      · exact h.ownd _ g hs e3
      · exact h.up g e3
    · rw [upd_other a1] at e1
      exact h.ownd j g (back j hj) e1
  · intro j m hj e1
    have f1 : ev j = .map (some m) := by
      by_cases a1 : j = i
      · subst a1; rw [upd_same] at e1; exact hev m e1
      · rwa [upd_other a1] at e1
    exact h.owne j m (back j hj) f1
end Go.Proofs.YthikjdpnlahkfaaDoor
