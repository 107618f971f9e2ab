/- What a table and the document's table answer to the same call, side by side; the invariant of TableRuns. Conditions: the premises. -/
import Derived.Test.YtcoaggghabdndaaTabCopy
namespace Go.Proofs.Ytcoaggghabdndaa
open Go.RowKit

theorem getV_eq (o : Option (Int × Bool)) : getV o = .tuple #[.int .i64 (rx o), .int .i64 (if o.isSome then 0 else 9)] := by cases o <;> rfl

theorem put_j {w : World} {t : Nat} {st : TSt} {S : Nat → Prop} (ht : TabAt w t st S) (x least : Int) : ∃ (a ev : Int) (st' : TSt),
    Calls Try.prog 11 #[.pointer (some ⟨t, 0, none⟩), .int .i64 x, .int .i64 least] w (fun e w' => e = .returned (.tuple #[.int .i64 a, .int .i64 ev]) ∧ TabAt w' t st' S ∧ Fr S w w') ∧
    ∀ (r : Nat) (w1 : World), RefT w1 r st → Calls Try.prog 28 #[.pointer (some ⟨r, 0, none⟩), .int .i64 x, .int .i64 least] w1 (fun e w' => e = .returned (.tuple #[.int .i64 a, .int .i64 ev]) ∧ RefT w' r st' ∧ Fr (fun k => k = r) w1 w') := by
  cases hi : inB least with
  | false =>
    refine ⟨0, 22, st, (putT_any w t st S ht x least).mono ?_, fun r w1 hr => (rput_any w1 r st hr x least).mono ?_⟩
    · rintro e w' (⟨_, rfl, rfl⟩ | ⟨h, _⟩ | ⟨h, _⟩)
      · exact ⟨rfl, ht, Fr.refl _ _⟩
      · rw [hi] at h; cases h
      · rw [hi] at h; cases h
    · rintro e w' (⟨_, rfl, rfl⟩ | ⟨h, _⟩ | ⟨h, _⟩)
      · exact ⟨rfl, hr, Fr.refl _ _⟩
      · rw [hi] at h; cases h
      · rw [hi] at h; cases h
  | true =>
    cases hf : firstFree st least.toNat with
    | none =>
      refine ⟨0, 24, st, (putT_any w t st S ht x least).mono ?_, fun r w1 hr => (rput_any w1 r st hr x least).mono ?_⟩
      · rintro e w' (⟨h, _⟩ | ⟨_, _, rfl, rfl⟩ | ⟨_, k, _, h, _⟩)
        · rw [hi] at h; cases h
        · exact ⟨rfl, ht, Fr.refl _ _⟩
        · rw [hf] at h; cases h
      · rintro e w' (⟨h, _⟩ | ⟨_, _, rfl, rfl⟩ | ⟨_, k, _, h, _⟩)
        · rw [hi] at h; cases h
        · exact ⟨rfl, hr, Fr.refl _ _⟩
        · rw [hf] at h; cases h
    | some n =>
      refine ⟨n, 0, st.set n (some (x, false)), (putT_any w t st S ht x least).mono ?_, fun r w1 hr => (rput_any w1 r st hr x least).mono ?_⟩
      · rintro e w' (⟨h, _⟩ | ⟨_, h, _⟩ | ⟨_, k, _, h, h1⟩)
        · rw [hi] at h; cases h
        · rw [hf] at h; cases h
        · rw [hf] at h; cases h; exact h1
      · rintro e w' (⟨h, _⟩ | ⟨_, h, _⟩ | ⟨_, k, _, h, h1⟩)
        · rw [hi] at h; cases h
        · rw [hf] at h; cases h
        · rw [hf] at h; cases h; exact h1
theorem set_j {w : World} {t : Nat} {st : TSt} {S : Nat → Prop} (ht : TabAt w t st S) (fd x : Int) : ∃ (a ev : Int) (b : Bool) (st' : TSt),
    Calls Try.prog 29 #[.pointer (some ⟨t, 0, none⟩), .int .i64 fd, .int .i64 x] w (fun e w' => e = .returned (.tuple #[.int .i64 a, .bool b, .int .i64 ev]) ∧ TabAt w' t st' S ∧ Fr S w w') ∧
    ∀ (r : Nat) (w1 : World), RefT w1 r st → Calls Try.prog 30 #[.pointer (some ⟨r, 0, none⟩), .int .i64 fd, .int .i64 x] w1 (fun e w' => e = .returned (.tuple #[.int .i64 a, .bool b, .int .i64 ev]) ∧ RefT w' r st' ∧ Fr (fun k => k = r) w1 w') := by
  cases hi : inB fd with
  | false =>
    refine ⟨0, 9, false, st, (set_any w t st S ht fd x).mono ?_, fun r w1 hr => (rset_any w1 r st hr fd x).mono ?_⟩
    · rintro e w' (⟨_, rfl, rfl⟩ | ⟨h, _⟩)
      · exact ⟨rfl, ht, Fr.refl _ _⟩
      · rw [hi] at h; cases h
    · rintro e w' (⟨_, rfl, rfl⟩ | ⟨h, _⟩)
      · exact ⟨rfl, hr, Fr.refl _ _⟩
      · rw [hi] at h; cases h
  | true =>
    refine ⟨rx (st fd.toNat), 0, (st fd.toNat).isSome, st.set fd.toNat (some (x, false)), (set_any w t st S ht fd x).mono ?_, fun r w1 hr => (rset_any w1 r st hr fd x).mono ?_⟩
    · rintro e w' (⟨h, _⟩ | ⟨_, rfl, h⟩)
      · rw [hi] at h; cases h
      · exact ⟨by rw [setV_eq], h⟩
    · rintro e w' (⟨h, _⟩ | ⟨_, rfl, h⟩)
      · rw [hi] at h; cases h
      · exact ⟨by rw [setV_eq], h⟩
theorem get_j {w : World} {t : Nat} {st : TSt} {S : Nat → Prop} (ht : TabAt w t st S) (fd : Int) : ∃ (a ev : Int),
    Calls Try.prog 31 #[.pointer (some ⟨t, 0, none⟩), .int .i64 fd] w (fun e w' => e = .returned (.tuple #[.int .i64 a, .int .i64 ev]) ∧ w = w') ∧
    ∀ (r : Nat) (w1 : World), RefT w1 r st → Calls Try.prog 32 #[.pointer (some ⟨r, 0, none⟩), .int .i64 fd] w1 (fun e w' => e = .returned (.tuple #[.int .i64 a, .int .i64 ev]) ∧ w1 = w') := by
  refine ⟨rx (st.at fd), (if (st.at fd).isSome then 0 else 9), (get_any w t st S ht fd).mono ?_, fun r w1 hr => (rget_any w1 r st hr fd).mono ?_⟩
  · rintro e w' ⟨rfl, h⟩
    exact ⟨by rw [getV_eq], h⟩
  · rintro e w' ⟨rfl, h⟩
    exact ⟨by rw [getV_eq], h⟩
theorem cut_j {w : World} {t : Nat} {st : TSt} {S : Nat → Prop} (ht : TabAt w t st S) (fd : Int) : ∃ (a ev : Int) (st' : TSt),
    Calls Try.prog 12 #[.pointer (some ⟨t, 0, none⟩), .int .i64 fd] w (fun e w' => e = .returned (.tuple #[.int .i64 a, .int .i64 ev]) ∧ TabAt w' t st' S ∧ Fr S w w') ∧
    ∀ (r : Nat) (w1 : World), RefT w1 r st → Calls Try.prog 33 #[.pointer (some ⟨r, 0, none⟩), .int .i64 fd] w1 (fun e w' => e = .returned (.tuple #[.int .i64 a, .int .i64 ev]) ∧ RefT w' r st' ∧ Fr (fun k => k = r) w1 w') := by
  refine ⟨rx (st.at fd), (if (st.at fd).isSome then 0 else 9), st.set fd.toNat (if inB fd = true then none else st fd.toNat), (cut_any w t st S ht fd).mono ?_, fun r w1 hr => (rcut_any w1 r st hr fd).mono ?_⟩
  · rintro e w' ⟨rfl, h⟩
    exact ⟨by rw [getV_eq], h⟩
  · rintro e w' ⟨rfl, h⟩
    exact ⟨by rw [getV_eq], h⟩
theorem mark_j {w : World} {t : Nat} {st : TSt} {S : Nat → Prop} (ht : TabAt w t st S) (fd : Int) (m : Bool) : ∃ (ev : Int) (st' : TSt),
    Calls Try.prog 34 #[.pointer (some ⟨t, 0, none⟩), .int .i64 fd, .bool m] w (fun e w' => e = .returned (.int .i64 ev) ∧ TabAt w' t st' S ∧ Fr S w w') ∧
    ∀ (r : Nat) (w1 : World), RefT w1 r st → Calls Try.prog 35 #[.pointer (some ⟨r, 0, none⟩), .int .i64 fd, .bool m] w1 (fun e w' => e = .returned (.int .i64 ev) ∧ RefT w' r st' ∧ Fr (fun k => k = r) w1 w') := by
  rcases hg : st.at fd with _ | ⟨x, m0⟩
  · refine ⟨9, st, (mark_any w t st S ht fd m).mono ?_, fun r w1 hr => (rmark_any w1 r st hr fd m).mono ?_⟩
    · intro e w' h
      simp only [MarkPost, hg] at h
      obtain ⟨rfl, rfl⟩ := h
      exact ⟨rfl, ht, Fr.refl _ _⟩
    · intro e w' h
      simp only [RMarkPost, hg] at h
      obtain ⟨rfl, rfl⟩ := h
      exact ⟨rfl, hr, Fr.refl _ _⟩
  · refine ⟨0, st.set fd.toNat (some (x, m)), (mark_any w t st S ht fd m).mono ?_, fun r w1 hr => (rmark_any w1 r st hr fd m).mono ?_⟩
    · intro e w' h
      simp only [MarkPost, hg] at h
      exact h
    · intro e w' h
      simp only [RMarkPost, hg] at h
      exact h
theorem TabAt.some_set {w : World} {t : Nat} {st : TSt} {S : Nat → Prop} (h : TabAt w t st S) : TabAt w t st (fun _ => True) := by
  obtain ⟨p, cs, h⟩ := h
  exact ⟨p, cs, h.hb, h.hcs, h.hc, h.hs, h.inj, h.hne, trivial, fun _ _ _ => trivial, fun _ _ => trivial⟩

/-- A table that was left behind by a copy, and its twin: what they own lies in O. -/
structure OldB (w : World) (O : Nat → Prop) (x : Nat × Nat × TSt) : Prop where
  tab : ∃ p cs, TabF w x.1 p x.2.2 (fun _ => True) cs ∧ O x.1 ∧ ∀ i, i < 32 → (x.2.2 i).isSome = true → O (p i)
  ref : RefT w x.2.1 x.2.2
  own : O x.2.1
theorem OldB.frame {w w' : World} {O S' : Nat → Prop} {x : Nat × Nat × TSt} (h : OldB w O x) (hf : Fr S' w w') (hd : ∀ k, O k → ¬ S' k) : OldB w' O x := by
  obtain ⟨p, cs, h1, h2, h3⟩ := h.tab
  exact ⟨⟨p, cs, h1.frame2 hf (hd _ h2) (fun i hi e => hd _ (h3 i hi e)), h2, h3⟩, h.ref.frame hf (hd _ h.own), h.own⟩
def tptrs (L : List (Nat × Nat × TSt)) : List Value := L.map fun x => .pointer (some ⟨x.1, 0, none⟩)
def rptrs (L : List (Nat × Nat × TSt)) : List Value := L.map fun x => .pointer (some ⟨x.2.1, 0, none⟩)
structure TInv (W w : World) (t r : Nat) (st : TSt) (S : Nat → Prop) (L : List (Nat × Nat × TSt)) (ov wv : Value) : Prop where
  tab : TabAt w t st S
  ref : RefT w r st
  sr : ¬ S r
  sW : ∀ k, S k → W.heap.size ≤ k
  rW : W.heap.size ≤ r
  o1 : w.ownsRow W.heap.size 24 1 ov L.length (tptrs L)
  o2 : w.ownsRow W.heap.size 60 1 wv L.length (rptrs L)
  d1 : ∀ g, ov.ownBlock = some g → ¬ S g ∧ g ≠ r
  d2 : ∀ g, wv.ownBlock = some g → ¬ S g ∧ g ≠ r
  d12 : ∀ g, ov.ownBlock = some g → wv.ownBlock ≠ some g
  olds : ∃ O : Nat → Prop, (∀ g, O g → ¬ S g ∧ g ≠ r ∧ ov.ownBlock ≠ some g ∧ wv.ownBlock ≠ some g) ∧ ∀ x ∈ L, OldB w O x
  hL : L.length ≤ 5
  fr : Fr (fun _ => False) W w
theorem TInv.step {W w w' : World} {t r : Nat} {st st' : TSt} {S : Nat → Prop} {L : List (Nat × Nat × TSt)} {ov wv : Value} (h : TInv W w t r st S L ov wv) (ht : TabAt w' t st' S) (hr : RefT w' r st') (hf : Fr (fun k => S k ∨ k = r) w w') : TInv W w' t r st' S L ov wv := by
  obtain ⟨O, h1, h2⟩ := h.olds
  refine ⟨ht, hr, h.sr, h.sW, h.rW, own_frame h.o1 hf (fun g e => ?_), own_frame h.o2 hf (fun g e => ?_), h.d1, h.d2, h.d12, ⟨O, h1, fun x hx => (h2 x hx).frame hf (fun k hk => ?_)⟩, h.hL, h.fr.trans' hf (fun i hi e => ?_)⟩
  · exact fun h9 => h9.elim (h.d1 g e).1 (h.d1 g e).2
  · exact fun h9 => h9.elim (h.d2 g e).1 (h.d2 g e).2
  · exact fun h9 => h9.elim (h1 k hk).1 (h1 k hk).2.1
  · rcases e with e | e
    · have := h.sW _ e; omega
    · have := h.rW; omega
theorem TInv.both {W w w4 w5 : World} {t r : Nat} {st st' : TSt} {S : Nat → Prop} {L : List (Nat × Nat × TSt)} {ov wv : Value} (h : TInv W w t r st S L ov wv) (ht : TabAt w4 t st' S) (hf : Fr S w w4) (hr : RefT w5 r st') (hf2 : Fr (fun k => k = r) w4 w5) : TInv W w5 t r st' S L ov wv :=
  h.step (ht.frame hf2 (fun k _ h1 h2 => h.sr (h2 ▸ h1))) hr ((hf.mono (fun _ _ h => .inl h)).trans (hf2.mono (fun _ _ h => .inr h)))
theorem TInv.still {W w w' : World} {t r : Nat} {st : TSt} {S : Nat → Prop} {L : List (Nat × Nat × TSt)} {ov wv : Value} (h : TInv W w t r st S L ov wv) (hf : Fr (fun _ => False) w w') : TInv W w' t r st S L ov wv :=
  h.step (h.tab.frame hf (fun _ _ _ e => e)) (h.ref.frame hf (fun e => e)) (hf.mono (fun _ _ e => e.elim))
theorem TabAt.aside {w : World} {t : Nat} {st : TSt} {S : Nat → Prop} (h : TabAt w t st S) (o : Obj) : TabAt (w.alloc o) t st (fun k => S k ∧ k ≠ w.heap.size) := by
  obtain ⟨p, cs, ht⟩ := h
  have ht2 := ht.frame ((Fr.refl (fun _ => False) _).alloc o) (fun _ _ _ e => e)
  exact ⟨p, cs, ht2.hb, ht2.hcs, ht2.hc, ht2.hs, ht2.inj, ht2.hne, ⟨ht2.own, by have := blk_lt ht.hb; omega⟩, fun i hi e => ⟨ht2.owns i hi e, by have := ht.slot_lt i hi e; omega⟩, fun k hk => ⟨ht2.up k (by simpa using hk), by simp at hk; omega⟩⟩
/-- A new block that is not the table's own. -/
theorem TInv.aside {W w : World} {t r : Nat} {st : TSt} {S : Nat → Prop} {L : List (Nat × Nat × TSt)} {ov wv : Value} (h : TInv W w t r st S L ov wv) (o : Obj) : TInv W (w.alloc o) t r st (fun k => S k ∧ k ≠ w.heap.size) L ov wv := by
  have hf : Fr (fun _ => False) w (w.alloc o) := (Fr.refl _ _).alloc _
  obtain ⟨O, h1, h2⟩ := h.olds
  refine ⟨h.tab.aside o,
    h.ref.frame hf (fun e => e), fun e => h.sr e.1, fun k hk => h.sW k hk.1, h.rW, h.o1.alloc _, h.o2.alloc _, fun g e => ⟨fun e2 => (h.d1 g e).1 e2.1, (h.d1 g e).2⟩, fun g e => ⟨fun e2 => (h.d2 g e).1 e2.1, (h.d2 g e).2⟩, h.d12,
    ⟨O, fun g hg => ⟨fun e2 => (h1 g hg).1 e2.1, (h1 g hg).2⟩, fun x hx => (h2 x hx).frame hf (fun _ _ e => e)⟩, h.hL, h.fr.trans hf⟩
theorem ptr_same {o : Option (Int × Bool)} {a b : Nat} (h : ptrOf o a = ptrOf o b) (hs : o.isSome = true) : a = b := by
  cases o with
  | none => cases hs
  | some y => simp only [ptrOf] at h; cases h; rfl
/-- .. and these blocks were there in an earlier world. -/
theorem OldB.shrink' {w w0 : World} {O O' : Nat → Prop} {x : Nat × Nat × TSt} (h : OldB w O x) (hd : ∀ k, O k ∧ k < w0.heap.size → O' k) (h0 : OldB w0 O x) (hblk : w.heap[x.1]? = w0.heap[x.1]?) : OldB w O' x := by
  obtain ⟨p, cs, h1, h2, h3⟩ := h.tab
  obtain ⟨p0, cs0, k1, k2, k3⟩ := h0.tab
  obtain ⟨cr, h4⟩ := h0.ref
  have hcs : cs = cs0 := by
    have e1 := h1.hb
    rw [hblk, k1.hb] at e1
    cases e1; rfl
  refine ⟨⟨p, cs, h1, hd _ ⟨h2, blk_lt k1.hb⟩, fun i hi e => hd _ ⟨h3 i hi e, ?_⟩⟩, h.ref, hd _ ⟨h.own, blk_lt h4.hb⟩⟩
  have e1 := h1.hc i hi
  rw [hcs, k1.hc i hi] at e1
  have : p0 i = p i := ptr_same (Option.some.inj e1) e
  rw [← this]
  exact k1.slot_lt i hi e
theorem ob_eq {g n c k : Nat} (e : (Value.slice (some ⟨g, 0, none⟩) n c).ownBlock = some k) : g = k := by simpa [Value.ownBlock] using e
/-- All its cells are single ones. -/
theorem RefF.ones {w : World} {r : Nat} {st : TSt} {cs : Array Value} (h : RefF w r st cs) : cs.all (·.oneCell') = true := by
  rw [Array.all_eq_true]
  intro i hi
  have hs := h.hcs
  have h3 : i / 3 < 32 := by omega
  have e : i = i / 3 * 3 ∨ i = i / 3 * 3 + 1 ∨ i = i / 3 * 3 + 2 := by omega
  have hv : cs[i]? = some cs[i] := Array.getElem?_eq_getElem hi
  rcases e with e | e | e
  · have := h.hx _ h3; rw [← e, hv] at this; rw [Option.some.inj this]; rfl
  · have := h.hi _ h3; rw [← e, hv] at this; rw [Option.some.inj this]; rfl
  · have := h.hm _ h3; rw [← e, hv] at this; rw [Option.some.inj this]; rfl
theorem TInv.copied {W wa w7 w8 w9 : World} {t r : Nat} {st : TSt} {S : Nat → Prop} {L : List (Nat × Nat × TSt)} {ov wv : Value} (hI : TInv W wa t r st S L ov wv) (hL : L.length < 5) {csr : Array Value} (hr : RefF wa r st csr) {o1 o2 : Obj}
    {g1 cap1 g2 cap2 : Nat} (k1 : w7.ownsRow W.heap.size 24 1 (.slice (some ⟨g1, 0, none⟩) (L.length + 1) cap1) (L.length + 1) (tptrs L ++ [.pointer (some ⟨t, 0, none⟩)]))
    (gr1 : ((wa.alloc (.cells csr 65 (0, 0))).alloc o1).grownBy w7 ov.ownBlock) (l1 : ov.ownBlock = some g1 ∨ g1 = wa.heap.size + 2) 
    (k2 : w8.ownsRow W.heap.size 60 1 (.slice (some ⟨g2, 0, none⟩) (L.length + 1) cap2) (L.length + 1) (rptrs L ++ [.pointer (some ⟨r, 0, none⟩)]))
    (gr2 : (w7.alloc o2).grownBy w8 wv.ownBlock) (l2 : wv.ownBlock = some g2 ∨ g2 = w7.heap.size + 1) (lt2 : g2 < w8.heap.size)
    (ht : TabAt w9 w8.heap.size st (fun k => w8.heap.size ≤ k)) (hf9 : Fr (fun _ => False) w8 w9) :
    TInv W w9 w8.heap.size wa.heap.size st (fun k => w8.heap.size ≤ k) (L ++ [(t, r, st)]) (.slice (some ⟨g1, 0, none⟩) (L.length + 1) cap1) (.slice (some ⟨g2, 0, none⟩) (L.length + 1) cap2) := by
  have hf6 : Fr (fun _ => False) wa ((wa.alloc (.cells csr 65 (0, 0))).alloc o1) := ((Fr.refl _ _).alloc _).alloc _
  have hf7 := Fr.of_grown gr1
  have hf8 : Fr (fun k => wv.ownBlock = some k) w7 w8 := ((Fr.refl _ _).alloc _).trans (Fr.of_grown gr2)
  have lt1 := (k1.lt g1 rfl).2
  have s7 := hf7.size
  have s8 := hf8.size
  have s9 := hf9.size
  have q8 : w7.heap.size + 1 ≤ w8.heap.size := by have := gr2.size; simpa using this
  simp only [World.size_alloc] at s7
  have hlo : ∀ g, ov.ownBlock = some g → g < wa.heap.size := fun g e => (hI.o1.lt g e).2
  have hlw : ∀ g, wv.ownBlock = some g → g < wa.heap.size := fun g e => (hI.o2.lt g e).2
  have hWa := hI.fr.size
  have hA : Fr (fun k => ov.ownBlock = some k ∨ wv.ownBlock = some k) wa w9 :=
    ((((hf6.mono (fun _ _ e => e.elim)).trans (hf7.mono (fun _ _ e => .inl e))).trans (hf8.mono (fun _ _ e => .inr e)))).trans (hf9.mono (fun _ _ e => e.elim))
  have hn1 : ∀ k, k < wa.heap.size → ov.ownBlock ≠ some k → g1 ≠ k := by
    intro k hk hne e
    rcases l1 with l1 | l1
    · exact hne (e ▸ l1)
    · omega
  have hn2 : ∀ k, k < wa.heap.size → wv.ownBlock ≠ some k → g2 ≠ k := by
    intro k hk hne e
    rcases l2 with l2 | l2
    · exact hne (e ▸ l2)
    · omega
  have hr6 : RefT ((wa.alloc (.cells csr 65 (0, 0))).alloc o1) wa.heap.size st := ⟨csr, blk_alloc (blk_new _ _) _, hr.hcs, hr.hx, hr.hi, hr.hm⟩
  obtain ⟨O, h1, h2⟩ := hI.olds
  refine ⟨ht, ?_, fun e => by omega, fun k hk => by omega, by omega, ?_, ?_, ?_, ?_, ?_, ⟨fun g => (O g ∨ S g ∨ g = r) ∧ g < wa.heap.size, ?_, ?_⟩, by simp; omega, hI.fr.trans' hA (fun i hi e => by
    rcases e with e | e
    · have := (hI.o1.lt i e).1; omega
    · have := (hI.o2.lt i e).1; omega)⟩
  · exact ((hr6.frame hf7 (fun e => by have := hlo _ e; omega)).frame hf8 (fun e => by have := hlw _ e; omega)).frame hf9 (fun e => e)
  · rw [show (L ++ [(t, r, st)]).length = L.length + 1 by simp, show tptrs (L ++ [(t, r, st)]) = tptrs L ++ [.pointer (some ⟨t, 0, none⟩)] by simp [tptrs]]
    refine own_frame (own_frame k1 hf8 (fun g e e2 => ?_)) hf9 (fun _ _ e => e)
    have e9 := ob_eq e
    subst e9
    rcases l1 with l1 | l1
    · exact hI.d12 _ l1 e2
    · have := hlw _ e2; omega
  · rw [show (L ++ [(t, r, st)]).length = L.length + 1 by simp, show rptrs (L ++ [(t, r, st)]) = rptrs L ++ [.pointer (some ⟨r, 0, none⟩)] by simp [rptrs]]
    exact own_frame k2 hf9 (fun _ _ e => e)
  · intro g e
    have e9 := ob_eq e
    subst e9
    refine ⟨by omega, ?_⟩
    rcases l1 with l1 | l1
    · have := hlo _ l1; omega
    · omega
  · intro g e
    have e9 := ob_eq e
    subst e9
    refine ⟨by omega, ?_⟩
    rcases l2 with l2 | l2
    · have := hlw _ l2; omega
    · omega
  · intro g e
    have e9 := ob_eq e
    subst e9
    intro e2
    have e8 := ob_eq e2
    subst e8
    rcases l1 with l1 | l1 <;> rcases l2 with l2 | l2
    · exact hI.d12 _ l1 l2
    · have := hlo _ l1; omega
    · have := hlw _ l2; omega
    · omega
  · rintro g ⟨hg, hlt⟩
    have hov : ov.ownBlock ≠ some g := by
      rcases hg with hg | hg | hg
      · exact (h1 g hg).2.2.1
      · exact fun e => (hI.d1 g e).1 hg
      · exact fun e => (hI.d1 g e).2 hg
    have hwv : wv.ownBlock ≠ some g := by
      rcases hg with hg | hg | hg
      · exact (h1 g hg).2.2.2
      · exact fun e => (hI.d2 g e).1 hg
      · exact fun e => (hI.d2 g e).2 hg
    refine ⟨by omega, by omega, fun e => ?_, fun e => ?_⟩
    · exact hn1 _ hlt hov (ob_eq e)
    · exact hn2 _ hlt hwv (ob_eq e)
  · intro x hx
    rcases List.mem_append.1 hx with hx | hx
    · exact ((h2 x hx).frame hA (fun k hk e => e.elim (h1 k hk).2.2.1 (h1 k hk).2.2.2)).shrink' (fun k h3 => ⟨.inl h3.1, h3.2⟩) (h2 x hx) (by
        obtain ⟨p, cs, htf, hO, _⟩ := (h2 x hx).tab
        exact hA.block _ (blk_lt htf.hb) (fun e => e.elim (h1 _ hO).2.2.1 (h1 _ hO).2.2.2))
    · simp only [List.mem_singleton] at hx
      subst hx
      obtain ⟨p, cs, htf⟩ := hI.tab
      have hS1 : ∀ k, S k → ¬ (ov.ownBlock = some k ∨ wv.ownBlock = some k) := fun k hk e => e.elim (fun e => (hI.d1 k e).1 hk) (fun e => (hI.d2 k e).1 hk)
      have ht9 := htf.frame2 hA (hS1 _ htf.own) (fun i hi e => hS1 _ (htf.owns i hi e))
      refine ⟨⟨p, cs, ⟨ht9.hb, ht9.hcs, ht9.hc, ht9.hs, ht9.inj, ht9.hne, trivial, fun _ _ _ => trivial, fun _ _ => trivial⟩, ⟨.inr (.inl htf.own), blk_lt htf.hb⟩, fun i hi e => ⟨.inr (.inl (htf.owns i hi e)), htf.slot_lt i hi e⟩⟩, hI.ref.frame hA (fun e => e.elim (fun e => (hI.d1 _ e).2 rfl) (fun e => (hI.d2 _ e).2 rfl)), ⟨.inr (.inr rfl), blk_lt hr.hb⟩⟩
end Go.Proofs.Ytcoaggghabdndaa
