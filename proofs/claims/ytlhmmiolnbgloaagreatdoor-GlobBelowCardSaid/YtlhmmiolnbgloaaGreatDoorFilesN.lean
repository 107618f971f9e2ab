/- The tree of files as plain data: what put and add do to numbers, counts and bytes; when what is named stays there. No program in sight; no condition. -/
import Derived.Test.YtlhmmiolnbgloaaGreatDoorFilesI
import Derived.Laws.IdiomStrings
namespace Go.Proofs.YtlhmmiolnbgloaaGreatDoor
open Go.RowKit

theorem and511 (n : Int) : bits .and .i64 n 511 = n % 512 := by
  have e1 : IntKind.i64.bits = 64 := rfl
  unfold bits
  rw [e1]
  have key : (BitVec.ofInt 64 n &&& BitVec.ofInt 64 511).toNat = (n % 512).toNat := by
    rw [BitVec.toNat_and, BitVec.toNat_ofInt, BitVec.toNat_ofInt]
    have : ((511 : Int) % ((2 ^ 64 : Nat) : Int)).toNat = 2 ^ 9 - 1 := by decide
    rw [this, Nat.and_two_pow_sub_one_eq_mod]
    have e : ((2 ^ 64 : Nat) : Int) = 18446744073709551616 := by decide
    rw [e]
    omega
  simp only [key]
  rw [IntKind.wrap_i64]
  omega
def modeN (m : Int) : Nat := (m % 512).toNat
theorem modeN_lt (m : Int) : modeN m < 512 := by unfold modeN; omega
theorem modeN_eq (m : Int) : bits .and .i64 m 511 = (modeN m : Int) := by rw [and511]; unfold modeN; omega
theorem FSt.nd_lt {σ : FSt} {i : Nat} (h : (σ.nd i).isSome = true) : 0 < i ∧ i ≤ σ.length := by
  unfold FSt.nd at h
  split at h
  · cases h
  · rename_i h0
    refine ⟨by omega, ?_⟩
    by_cases hi : i - 1 < σ.length
    · omega
    · rw [List.getElem?_eq_none (by omega)] at h; cases h
theorem FSt.nd_at {σ : FSt} {i : Nat} (h0 : 0 < i) (hi : i - 1 < σ.length) : σ.nd i = σ[i - 1] := by
  unfold FSt.nd
  rw [if_neg (by omega), List.getElem?_eq_getElem hi]
  rfl
theorem FSt.nd_put {σ : FSt} {i : Nat} (h : (σ.nd i).isSome = true) (x : Option Nd) (j : Nat) : (σ.put i x).nd j = if j = i then x else σ.nd j := by
  obtain ⟨h0, hl⟩ := FSt.nd_lt h
  unfold FSt.put FSt.nd
  by_cases hj : j = 0
  · rw [if_pos hj, if_neg (by omega), if_pos hj]
  · rw [if_neg hj, if_neg hj, List.getElem?_set]
    by_cases e : j = i
    · rw [if_pos e, if_pos (by omega), if_pos (by omega)]; rfl
    · rw [if_neg e, if_neg (by omega)]
theorem FSt.put_length (σ : FSt) (i : Nat) (x : Option Nd) : (σ.put i x).length = σ.length := by unfold FSt.put; exact List.length_set
theorem FSt.nd_free (σ : FSt) : σ.nd σ.free = none := by
  unfold FSt.nd FSt.free
  rw [if_neg (by omega), Nat.add_sub_cancel]
  by_cases h : σ.findIdx (·.isNone) < σ.length
  · rw [List.getElem?_eq_getElem h]
    have : (σ[σ.findIdx (·.isNone)]).isNone = true := List.findIdx_getElem (w := h)
    simpa using this
  · rw [List.getElem?_eq_none (by omega)]; rfl
theorem FSt.free_pos (σ : FSt) : 0 < σ.free := by unfold FSt.free; omega
theorem FSt.nd_add (σ : FSt) (n : Nd) (j : Nat) : (σ.add n).nd j = if j = σ.free then some n else σ.nd j := by
  have hle : σ.findIdx (·.isNone) ≤ σ.length := List.findIdx_le_length
  unfold FSt.add FSt.nd FSt.free
  by_cases hj : j = 0
  · rw [if_pos hj, if_neg (by omega), if_pos hj]
  · rw [if_neg hj, if_neg hj]
    split
    · rename_i h
      rw [List.getElem?_set]
      by_cases e : j = σ.findIdx (·.isNone) + 1
      · rw [if_pos e, if_pos (by omega), if_pos (by omega)]; rfl
      · rw [if_neg e, if_neg (by omega)]
    · rename_i h
      by_cases e : j = σ.findIdx (·.isNone) + 1
      · rw [if_pos e, List.getElem?_append_right (by omega), show j - 1 - σ.length = 0 by omega]; rfl
      · rw [if_neg e]
        by_cases h2 : j - 1 < σ.length
        · rw [List.getElem?_append_left h2]
        · rw [List.getElem?_eq_none (by simp; omega), List.getElem?_eq_none (by omega)]
theorem sum_set {α : Type} (g : α → Nat) : ∀ (l : List α) (i : Nat) (hi : i < l.length) (x : α), ((l.set i x).map g).sum + g l[i] = (l.map g).sum + g x
  | [], i, hi, x => by simp at hi
  | a :: l, 0, hi, x => by simp; omega
  | a :: l, i + 1, hi, x => by
    have ih := sum_set g l i (by simpa using hi) x
    simp only [List.set_cons_succ, List.map_cons, List.sum_cons, List.getElem_cons_succ]
    omega
def one (o : Option Nd) : Nat := if o.isSome then 1 else 0
theorem FSt.cnt_sum (σ : FSt) : σ.cnt = (σ.map one).sum := by
  unfold FSt.cnt
  induction σ with
  | nil => rfl
  | cons a l ih =>
    rw [List.filter_cons]
    cases h : a.isSome <;> simp [one, h, ih] <;> omega
theorem FSt.cnt_put {σ : FSt} {i : Nat} (h : (σ.nd i).isSome = true) (x : Option Nd) : (σ.put i x).cnt + 1 = σ.cnt + one x := by
  obtain ⟨h0, hl⟩ := FSt.nd_lt h
  rw [FSt.cnt_sum, FSt.cnt_sum]
  have := sum_set one σ (i - 1) (by omega) x
  rw [FSt.nd_at h0 (by omega)] at h
  rw [show one σ[i - 1] = 1 by unfold one; rw [h]; rfl] at this
  exact this
theorem FSt.byts_put {σ : FSt} {i : Nat} {n : Nd} (h : σ.nd i = some n) (x : Option Nd) : (σ.put i x).byts + n.data.length = σ.byts + ndLen x := by
  obtain ⟨h0, hl⟩ := FSt.nd_lt (by rw [h]; rfl)
  have := sum_set ndLen σ (i - 1) (by omega) x
  rw [FSt.nd_at h0 (by omega)] at h
  rw [h] at this
  exact this
theorem FSt.cnt_add (σ : FSt) (n : Nd) : (σ.add n).cnt = σ.cnt + 1 := by
  rw [FSt.cnt_sum, FSt.cnt_sum]
  unfold FSt.add
  split
  · rename_i h
    have h2 := sum_set one σ _ h (some n)
    have h3 : (σ[σ.findIdx (·.isNone)]).isNone = true := List.findIdx_getElem (w := h)
    have h4 : σ[σ.findIdx (·.isNone)] = none := by simpa using h3
    rw [h4] at h2
    simpa [one] using h2
  · simp [one]
theorem FSt.byts_add (σ : FSt) (n : Nd) : (σ.add n).byts = σ.byts + n.data.length := by
  unfold FSt.byts FSt.add
  split
  · rename_i h
    have h2 := sum_set ndLen σ _ h (some n)
    have h3 : (σ[σ.findIdx (·.isNone)]).isNone = true := List.findIdx_getElem (w := h)
    have h4 : σ[σ.findIdx (·.isNone)] = none := by simpa using h3
    rw [h4] at h2
    simpa [ndLen] using h2
  · simp [ndLen]
theorem FSt.cnt_le (σ : FSt) : σ.cnt ≤ σ.length := List.length_filter_le _ _
theorem FSt.add_length {σ : FSt} (n : Nd) (h : σ.cnt < 100) (hl : σ.length ≤ 100) : (σ.add n).length ≤ 100 := by
  unfold FSt.add
  split
  · rw [List.length_set]; exact hl
  · rename_i h2
    have h3 : σ.cnt = σ.length := by
      unfold FSt.cnt
      congr 1
      rw [List.filter_eq_self]
      intro a ha
      have := List.findIdx_eq_length.1 (Nat.le_antisymm List.findIdx_le_length (by omega) : σ.findIdx (·.isNone) = σ.length) a ha
      simpa using this
    simp
    omega
theorem byts_nd {σ : FSt} {i : Nat} {n : Nd} (h : σ.nd i = some n) : n.data.length ≤ σ.byts := by
  have := FSt.byts_put h none
  simp [ndLen] at this
  omega
/-- A changed inode. -/
theorem Live.put {σ : FSt} (h : Live σ) {i : Nat} {n n' : Nd} (hn : σ.nd i = some n) (hd : n'.d = n.d) (h1 : i = 1 → n'.links = 1) (he : ∀ q ∈ n'.ents, (σ.nd q.2).isSome = true)
    (hp : n'.d = true → 0 < n'.links → (σ.nd n'.par).isSome = true) (hb : (σ.put i (some n')).byts ≤ 65536) (hnm : ∀ q ∈ n'.ents, q.1.length ≤ 32) : Live (σ.put i (some n')) := by
  have hs : (σ.nd i).isSome = true := by rw [hn]; rfl
  have hnd := FSt.nd_put hs (some n')
  have sm : ∀ k, (σ.nd k).isSome = true → ((σ.put i (some n')).nd k).isSome = true := fun k hk => by
    rw [hnd]; split
    · rfl
    · exact hk
  have cs : ∀ j m, (σ.put i (some n')).nd j = some m → (j = i ∧ m = n') ∨ σ.nd j = some m := fun j m hj => by
    rw [hnd] at hj
    split at hj
    · rename_i e; cases hj; exact .inl ⟨e, rfl⟩
    · exact .inr hj
  refine ⟨?_, ?_, ?_, ?_, by rw [FSt.put_length]; exact h.len, hb, ?_⟩
  · obtain ⟨r, hr, hr2, hr3⟩ := h.root
    by_cases e : i = 1
    · refine ⟨n', by rw [hnd, if_pos e.symm], ?_, h1 e⟩
      subst e; rw [hn] at hr; cases hr; rw [hd]; exact hr2
    · exact ⟨r, by rw [hnd, if_neg (fun e2 => e e2.symm)]; exact hr, hr2, hr3⟩
  · intro j m hj q hq
    rcases cs j m hj with ⟨_, rfl⟩ | hj
    · exact sm _ (he q hq)
    · exact sm _ (h.ents j m hj q hq)
  · intro j m hj hd2 hl
    rcases cs j m hj with ⟨_, rfl⟩ | hj
    · exact sm _ (hp hd2 hl)
    · exact sm _ (h.par j m hj hd2 hl)
  · have := FSt.cnt_put hs (some n'); have h9 := h.cnt; simp [one] at this; omega
  · intro j m hj
    rcases cs j m hj with ⟨_, rfl⟩ | hj
    · exact hnm
    · exact h.names j m hj
/-- An inode more. -/
theorem Live.add {σ : FSt} (h : Live σ) {n : Nd} (he : n.ents = []) (hdt : n.data = []) (hp : (σ.nd n.par).isSome = true) (hc : σ.cnt < 100) : Live (σ.add n) := by
  have hnd := FSt.nd_add σ n
  have sm : ∀ k, (σ.nd k).isSome = true → ((σ.add n).nd k).isSome = true := fun k hk => by
    rw [hnd]; split
    · rfl
    · exact hk
  have cs : ∀ j m, (σ.add n).nd j = some m → m = n ∨ σ.nd j = some m := fun j m hj => by
    rw [hnd] at hj
    split at hj
    · cases hj; exact .inl rfl
    · exact .inr hj
  refine ⟨?_, ?_, ?_, by rw [FSt.cnt_add]; omega, FSt.add_length n hc h.len, by rw [FSt.byts_add, hdt]; exact h.byts, ?_⟩
  · obtain ⟨r, hr, hr2⟩ := h.root
    refine ⟨r, ?_, hr2⟩
    rw [hnd, if_neg]
    · exact hr
    · intro e; rw [e, FSt.nd_free] at hr; cases hr
  · intro j m hj q hq
    rcases cs j m hj with rfl | hj
    · rw [he] at hq; cases hq
    · exact sm _ (h.ents j m hj q hq)
  · intro j m hj hd hl
    rcases cs j m hj with rfl | hj
    · exact sm _ hp
    · exact sm _ (h.par j m hj hd hl)
  · intro j m hj
    rcases cs j m hj with rfl | hj
    · rw [he]; exact fun q hq => by cases hq
    · exact h.names j m hj
end Go.Proofs.YtlhmmiolnbgloaaGreatDoor

/- The tree of files in memory behind a change: an inode changed; an inode more. Conditions: the laws' own premises. -/
namespace Go.Proofs.YtlhmmiolnbgloaaGreatDoor
open Go.RowKit

def upd {α : Type} (g : Nat → α) (i : Nat) (x : α) (j : Nat) : α := if j = i then x else g j
theorem upd_same {α : Type} (g : Nat → α) (i : Nat) (x : α) : upd g i x i = x := if_pos rfl
theorem upd_other {α : Type} {g : Nat → α} {i j : Nat} {x : α} (h : j ≠ i) : upd g i x j = g j := if_neg h
theorem FilesF.mono {w : World} {f : Nat} {σ : FSt} {S S' : Nat → Prop} {p : Nat → Nat} {dv ev pv : Nat → Value} {lv : Value} (h : FilesF w f σ S p dv ev pv lv) (hs : ∀ k, S k → S' k) : FilesF w f σ S' p dv ev pv lv :=
  { h with own := hs _ h.own, ownl := fun g e => hs _ (h.ownl g e), ownn := fun i e => hs _ (h.ownn i e), ownd := fun i g e e2 => hs _ (h.ownd i g e e2), owne := fun i m e e2 => hs _ (h.owne i m e e2), up := fun k e => hs _ (h.up k e) }
theorem FilesAt.mono {w : World} {f : Nat} {σ : FSt} {S S' : Nat → Prop} {p : Nat → Nat} (h : FilesAt w f σ S p) (hs : ∀ k, S k → S' k) : FilesAt w f σ S' p := by
  obtain ⟨_, _, _, _, h⟩ := h
  exact ⟨_, _, _, _, h.mono hs⟩
theorem kmap_congr {α β : Type} {f g : List UInt8 → α → β} : ∀ {L : KA α}, (∀ q ∈ L, f q.1 q.2 = g q.1 q.2) → kmap f L = kmap g L
  | [], _ => rfl
  | q :: L, h => by
    unfold kmap
    rw [List.map_cons, List.map_cons, h q (by simp)]
    congr 1
    exact kmap_congr (fun q hq => h q (by simp [hq]))
/-- The same, by other numbers for the blocks. -/
theorem NodeF.reptr {w : World} {p p' : Nat → Nat} {b i : Nat} {n : Nd} {dv ev pv : Value} (h : NodeF w p b i n dv ev pv) (he : ∀ q ∈ n.ents, p' q.2 = p q.2) (hp : n.d = true → 0 < n.links → p' n.par = p n.par) : NodeF w p' b i n dv ev pv :=
  { h with
    dir := fun hd => by
      obtain ⟨h0, m, h1, h2⟩ := h.dir hd
      refine ⟨h0, m, h1, ?_⟩
      rw [kmap_congr (g := fun _ k => .pointer (some ⟨p k, 0, none⟩)) (fun q hq => by rw [he q hq])]
      exact h2
    par := fun hd hl => by rw [hp hd hl]; exact h.par hd hl }
theorem ptrOf_isSome {o o' : Option Nd} (h : o.isSome = o'.isSome) (b : Nat) : ptrOf o b = ptrOf o' b := by cases o <;> cases o' <;> first | rfl | cases h
theorem slotV_put {p : Nat → Nat} {σ : FSt} {i : Nat} {n n' : Nd} (hn : σ.nd i = some n) : slotV p (σ.put i (some n')) = slotV p σ := by
  obtain ⟨h0, hl⟩ := FSt.nd_lt (show (σ.nd i).isSome = true by rw [hn]; rfl)
  rw [FSt.nd_at h0 (by omega)] at hn
  unfold slotV
  apply List.ext_getElem
  · simp [FSt.put_length]
  · intro k h1 h2
    rw [List.getElem_mapIdx, List.getElem_mapIdx]
    apply ptrOf_isSome
    unfold FSt.put
    rw [List.getElem_set]
    split
    · rename_i e; subst e; rw [hn]; rfl
    · rfl
/-- Which block holds a row of what. -/
theorem cells_ne {w : World} {a b ta tb : Nat} {ca cb : Array Value} {fa fb : Nat × Nat} (ha : w.heap[a]? = some (.cells ca ta fa)) (hb : w.heap[b]? = some (.cells cb tb fb)) (hne : ta ≠ tb) : a ≠ b := by
  rintro rfl
  rw [ha] at hb
  cases hb
  exact hne rfl
theorem FilesF.lv_blk {w : World} {f : Nat} {σ : FSt} {S : Nat → Prop} {p : Nat → Nat} {dv ev pv : Nat → Value} {lv : Value} (h : FilesF w f σ S p dv ev pv lv) {g : Nat} (hg : lv.ownBlock = some g) : ∃ c, w.heap[g]? = some (.cells c 56 (0, 0)) := by
  rcases h.hl.2 with ⟨h1, _⟩ | ⟨g', cap', cur, h1, _, hc, _⟩
  · rw [h1] at hg; cases hg
  · rw [h1] at hg
    have e' : g' = g := by simpa [Value.ownBlock] using hg
    subst e'
    exact ⟨_, hc⟩
theorem DataV.blk {w : World} {v : Value} {l : List UInt8} (h : DataV w v l) {g : Nat} (hg : v.ownBlock = some g) : ∃ c, w.heap[g]? = some (.cells c 5 (0, 0)) := by
  rcases h with ⟨rfl, _⟩ | ⟨g', cap, cur, rfl, hc, _⟩
  · cases hg
  · have e' : g' = g := by simpa [Value.ownBlock] using hg
    subst e'
    exact ⟨_, hc⟩
theorem NodeF.map_blk {w : World} {p : Nat → Nat} {b i : Nat} {n : Nd} {dv ev pv : Value} (h : NodeF w p b i n dv ev pv) {m : Nat} (he : ev = .map (some m)) : ∃ es clock, w.heap[m]? = some (.map es clock) := by
  cases hn : n.d with
  | true =>
    obtain ⟨_, m', h1, h2⟩ := h.dir hn
    rw [he] at h1
    cases h1
    obtain ⟨es, clock, hb, _⟩ := h2.own
    exact ⟨es, clock, hb⟩
  | false =>
    have := (h.file hn).1
    rw [he] at this
    cases this
/-- An inode changed. -/
theorem FilesF.changed {w w' : World} {f : Nat} {σ : FSt} {S : Nat → Prop} {p : Nat → Nat} {dv ev pv : Nat → Value} {lv : Value} (h : FilesF w f σ S p dv ev pv lv) {T : Nat → Prop} (hf : Fr T w w') {i : Nat} {n n' : Nd} (hn : σ.nd i = some n) {dv' ev' pv' : Value}
    (hT : ∀ k, T k → k = f ∨ k = p i ∨ (dv i).ownBlock = some k ∨ ev i = .map (some k))
    (hb : w'.heap[f]? = some (.cells #[lv, .int .i64 σ.cnt, .pointer (some ⟨p 1, 0, none⟩), .int .i64 (σ.put i (some n')).byts] 77 (0, 0)))
    (hnd : NodeF w' p (p i) i n' dv' ev' pv') (hdv : ∀ g, dv'.ownBlock = some g → (dv i).ownBlock = some g ∨ w.heap.size ≤ g) (hev : ∀ m, ev' = .map (some m) → ev i = .map (some m)) (hlive : Live (σ.put i (some n'))) :
    FilesF w' f (σ.put i (some n')) S p (upd dv i dv') (upd ev i ev') (upd pv i pv') lv := by
  have hs : (σ.nd i).isSome = true := by rw [hn]; rfl
  have hput := FSt.nd_put hs (some n')
  have hi := h.nd i n hn
  have back : ∀ j, ((σ.put i (some n')).nd j).isSome = true → (σ.nd j).isSome = true := fun j hj => by
    rw [hput] at hj
    split at hj
    · rename_i e; rw [e]; exact hs
    · exact hj
  have hcnt : (σ.put i (some n')).cnt = σ.cnt := by have := FSt.cnt_put hs (some n'); simp [one] at this; exact this
  have hTlv : ∀ g, lv.ownBlock = some g → ¬ T g := fun g e ht => by
    obtain ⟨c, hc⟩ := h.lv_blk e
    rcases hT g ht with rfl | rfl | e2 | e2
    · exact cells_ne hc h.hb (by decide) rfl
    · exact cells_ne hc hi.hb (by decide) rfl
    · obtain ⟨c2, hc2⟩ := hi.data.blk e2
      exact cells_ne hc hc2 (by decide) rfl
    · obtain ⟨es, clock, hm⟩ := hi.map_blk e2
      rw [hc] at hm; cases hm
  have hother : ∀ j m, σ.nd j = some m → j ≠ i → NodeF w' p (p j) j m (dv j) (ev j) (pv j) := fun j m hj hne => by
    have hnj := h.nd j m hj
    have hsj : (σ.nd j).isSome = true := by rw [hj]; rfl
    refine hnj.frame hf (fun ht => ?_) (fun g e ht => ?_) (fun mb e ht => ?_)
    · rcases hT _ ht with e2 | e2 | e2 | e2
      · exact cells_ne hnj.hb (e2 ▸ h.hb) (by decide) rfl
      · exact hne (h.inj j i hsj hs e2)
      · obtain ⟨c2, hc2⟩ := hi.data.blk e2
        exact cells_ne hnj.hb hc2 (by decide) rfl
      · obtain ⟨es, clock, hm⟩ := hi.map_blk e2
        rw [hnj.hb] at hm; cases hm
    · obtain ⟨c, hc⟩ := hnj.data.blk e
      rcases hT _ ht with e2 | e2 | e2 | e2
      · exact cells_ne hc (e2 ▸ h.hb) (by decide) rfl
      · exact cells_ne hc (e2 ▸ hi.hb) (by decide) rfl
      · exact hne (h.injd j i g hsj hs e e2)
      · obtain ⟨es, clock, hm⟩ := hi.map_blk e2
        rw [hc] at hm; cases hm
    · obtain ⟨es, clock, hm⟩ := hnj.map_blk e
      rcases hT _ ht with e2 | e2 | e2 | e2
      · rw [e2, h.hb] at hm; cases hm
      · rw [e2, hi.hb] at hm; cases hm
      · obtain ⟨c2, hc2⟩ := hi.data.blk e2
        rw [hc2] at hm; cases hm
      · exact hne (h.inje j i mb hsj hs e e2)
  refine ⟨by rw [hcnt]; exact hb, ?_, ?_, fun j k hj hk => h.inj j k (back j hj) (back k hk), ?_, ?_, h.own, h.ownl, fun j hj => h.ownn j (back j hj), ?_, ?_, fun k hk => h.up k (Nat.le_trans hf.size hk), hlive⟩
  · rw [FSt.put_length, slotV_put hn]
    exact own_frame h.hl hf hTlv
  · intro j m hj
    rw [hput] at hj
    by_cases e : j = i
    · rw [if_pos e] at hj
      cases hj
      subst e
      rw [upd_same, upd_same, upd_same]
      exact hnd
    · rw [if_neg e] at hj
      rw [upd_other e, upd_other e, upd_other e]
      exact hother j m hj e
  · intro j k g hj hk e1 e2
    have hj' := back j hj
    have hk' := back k hk
    have lt : ∀ a, (σ.nd a).isSome = true → (dv a).ownBlock = some g → g < w.heap.size := fun a ha e => by
      obtain ⟨m, hm⟩ := Option.isSome_iff_exists.1 ha
      exact (h.nd a m hm).data.lt e
    by_cases a1 : j = i <;> by_cases a2 : k = i
    · rw [a1, a2]
    · subst a1
      rw [upd_same] at e1
      rw [upd_other a2] at e2
      rcases hdv g e1 with e3 | e3
      · exact h.injd _ _ g hj' hk' e3 e2
      · have := lt k hk' e2; omega
    · subst a2
      rw [upd_same] at e2
      rw [upd_other a1] at e1
      rcases hdv g e2 with e3 | e3
      · exact h.injd _ _ g hj' hk' e1 e3
      · have := lt j hj' e1; omega
    · rw [upd_other a1] at e1
      rw [upd_other a2] at e2
      exact h.injd _ _ g hj' hk' e1 e2
  · intro j k m hj hk e1 e2
    have hj' := back j hj
    have hk' := back k hk
    have f1 : ev j = .map (some m) := by
      by_cases a1 : j = i
      · subst a1; rw [upd_same] at e1; exact hev m e1
      · rwa [upd_other a1] at e1
    have f2 : ev k = .map (some m) := by
      by_cases a1 : k = i
      · subst a1; rw [upd_same] at e2; exact hev m e2
      · rwa [upd_other a1] at e2
    exact h.inje j k m hj' hk' f1 f2
  · intro j g hj e1
    by_cases a1 : j = i
    · subst a1
      rw [upd_same] at e1
      rcases hdv g e1 with e3 | e3
      · exact h.ownd _ g hs e3
      · exact h.up g e3
    · rw [upd_other a1] at e1
      exact h.ownd j g (back j hj) e1
  · intro j m hj e1
    have f1 : ev j = .map (some m) := by
      by_cases a1 : j = i
      · subst a1; rw [upd_same] at e1; exact hev m e1
      · rwa [upd_other a1] at e1
    exact h.owne j m (back j hj) f1
end Go.Proofs.YtlhmmiolnbgloaaGreatDoor

/- files.FS.file, size. Conditions: the contracts' own premises. -/
namespace Go.Proofs.YtlhmmiolnbgloaaGreatDoor
open Go.RowKit

def fileE (σ : FSt) (i : Int) : Int := match σ.ndI i with | none => 9 | some n => if n.d then 21 else 0
theorem fileE_zero {σ : FSt} {i : Int} (h : fileE σ i = 0) : ∃ (k : Nat) (n : Nd), i = k ∧ σ.nd k = some n ∧ n.d = false := by
  unfold fileE at h
  cases hn : σ.ndI i with
  | none => rw [hn] at h; simp at h
  | some n =>
    rw [hn] at h
    unfold FSt.ndI at hn
    split at hn
    · refine ⟨i.toNat, n, by omega, hn, ?_⟩
      cases hd : n.d with
      | false => rfl
      | true => simp [hd] at h
    · cases hn
def resize (l : List UInt8) (k : Nat) : List UInt8 := if k ≤ l.length then l.take k else l ++ List.replicate (k - l.length) 0
theorem resize_length (l : List UInt8) (k : Nat) : (resize l k).length = k := by
  unfold resize
  split
  · rw [List.length_take]; omega
  · simp; omega
def sizeS (σ : FSt) (i : Nat) (n : Nd) (k : Nat) : FSt := σ.put i (some { n with data := resize n.data k })
theorem sizeS_byts {σ : FSt} {i : Nat} {n : Nd} (hn : σ.nd i = some n) (k : Nat) : (sizeS σ i n k).byts + n.data.length = σ.byts + k := by
  have := FSt.byts_put hn (some { n with data := resize n.data k })
  rw [show ndLen (some { n with data := resize n.data k }) = k from resize_length _ _] at this
  exact this
theorem sizeS_live {σ : FSt} {i : Nat} {n : Nd} (h : Live σ) (hn : σ.nd i = some n) (hd : n.d = false) (k : Nat) (hb : σ.byts + k ≤ 65536 + n.data.length) : Live (sizeS σ i n k) := by
  refine h.put hn rfl ?_ (h.ents i n hn) (fun e => by rw [hd] at e; cases e) ?_ (h.names i n hn)
  · intro e
    obtain ⟨r, h1, h2, _⟩ := h.root
    subst e
    rw [hn] at h1
    cases h1
    rw [hd] at h2
    cases h2
  · have := sizeS_byts hn k
    unfold sizeS at this
    omega
theorem cut_hm {a : Option Addr} {n cap k : Nat} (hk : k ≤ n) (hn : n ≤ cap) : ∀ w', (Instr.sliceAt 63 (.slice a n cap) none (some (.int .i64 k)) (some (.int .i64 k))).run Tryz.prog w' = .ok (.slice a k k) w' := by
  intro w'
  have hsz : ∀ w', (sizeOf 5).run Tryz.prog w' = .ok 1 w' := fun w' => by kernel_rfl
  have he : Tryz.prog.elem 63 = 5 := by kernel_rfl
  have ht : Tryz.prog.underlying 63 = some (.slice (Tryz.prog.elem 63)) := by kernel_rfl
  rw [run_sliceAt_slice (h := ht), run_slice_hm (ht := ht) (h0 := by omega) (h2 := by omega) (h3 := by omega), he, hsz]
  cases a <;> simp [sliced, Addr.add]
def SizePost (f : Nat) (σ : FSt) (S : Nat → Prop) (p : Nat → Nat) (i : Nat) (n : Nd) (k : Nat) (w : World) (e : Ending) (w' : World) : Prop :=
  (σ.byts + k ≤ 65536 + n.data.length → e = .returned (.int .i64 0) ∧ FilesAt w' f (sizeS σ i n k) S p ∧ Fr S w w') ∧ (¬ σ.byts + k ≤ 65536 + n.data.length → e = .returned (.int .i64 28) ∧ FilesAt w' f σ S p ∧ Fr S w w')
end Go.Proofs.YtlhmmiolnbgloaaGreatDoor

/- files.FS.Read, Bytes. Conditions: the contracts' own premises. -/
namespace Go.Proofs.YtlhmmiolnbgloaaGreatDoor
open Go.RowKit

def readE (σ : FSt) (i at' n : Int) : Int := if fileE σ i ≠ 0 then fileE σ i else if at' < 0 ∨ n < 0 then 22 else 0
def dataI (σ : FSt) (i : Int) : List UInt8 := match σ.ndI i with | none => [] | some n => n.data
def readB (σ : FSt) (i at' n : Int) : List UInt8 := if readE σ i at' n ≠ 0 then [] else ((dataI σ i).drop at'.toNat).take n.toNat
theorem data_some {w : World} {v : Value} {l : List UInt8} (h : DataV w v l) (h0 : 0 < l.length) : ∃ g cap, v = .slice (some ⟨g, 0, none⟩) l.length cap ∧ l.length ≤ cap ∧ ∀ j (hj : j < l.length), w.cell? ⟨g, j, none⟩ = some (.int .u8 (l[j].toNat : Int)) := by
  rcases h with ⟨_, rfl⟩ | ⟨g, cap, cur, rfl, hg, hc1, hc2, hcur⟩
  · simp at h0
  · refine ⟨g, cap, rfl, hc1, fun j hj => ?_⟩
    rw [blk_cell hg]
    have h1 : (cur.toList.take l.length)[j]? = (l.map fun c => Value.int .u8 c.toNat)[j]? := by rw [hcur]
    rw [List.getElem?_take_of_lt hj, Array.getElem?_toList] at h1
    rw [h1]
    simp [hj]
theorem cut_lh {g n cap a q : Nat} (hq : a + q ≤ n) (ha : a < n) (hn : n ≤ cap) : ∀ w', (Instr.sliceAt 63 (.slice (some ⟨g, 0, none⟩) n cap) (some (.int .i64 a)) (some (.int .i64 ((a : Int) + (q : Int)))) none).run Tryz.prog w' = .ok (.slice (some ⟨g, a, none⟩) q (cap - a)) w' := by
  intro w'
  have hsz : ∀ w', (sizeOf 5).run Tryz.prog w' = .ok 1 w' := fun w' => by kernel_rfl
  have he : Tryz.prog.elem 63 = 5 := by kernel_rfl
  have ht : Tryz.prog.underlying 63 = some (.slice (Tryz.prog.elem 63)) := by kernel_rfl
  rw [run_sliceAt_slice (h := ht), run_slice_lh (ht := ht) (h0 := by omega) (h1 := by omega) (h2 := by omega), he, hsz]
  have e1 : ((a : Int) + (q : Int)).toNat = a + q := by omega
  have e2 : ((a : Int)).toNat = a := by omega
  simp only [Result.andThen_ok, sliced, e1, e2, Nat.mul_one, Option.map_some]
  rw [if_neg (by omega), show a + q - a = q by omega]
  have hadd : (⟨g, 0, none⟩ : Addr).add a = ⟨g, a, none⟩ := by unfold Addr.add; split <;> simp_all
  rw [hadd]
theorem conv_bytes {w : World} {g a : Nat} (l : List UInt8) (hc : ∀ j (hj : j < l.length), w.cell? ⟨g, a + j, none⟩ = some (.int .u8 (l[j].toNat : Int))) (cap : Nat) :
    (convert 63 9 (.slice (some ⟨g, a, none⟩) l.length cap)).run Tryz.prog w = .ok (.string ⟨l.toArray⟩) w :=
  run_convert_bytes_back w 63 9 5 ⟨g, a, none⟩ cap l (by kernel_rfl) (by kernel_rfl) (by kernel_rfl) (fun j hj => by
    have hadd : (⟨g, a, none⟩ : Addr).add j = ⟨g, a + j, none⟩ := by unfold Addr.add; split <;> simp_all
    rw [hadd]
    exact hc j hj)
end Go.Proofs.YtlhmmiolnbgloaaGreatDoor
