/- The program's variables and the document's side by side, with those that a copy left behind; the invariant of VarsRuns. Conditions: the premises. -/
import Derived.Test.YtcojeojmodjmdaaVarsSame
import Derived.Test.YtcojeojmodjmdaaVarsRefD
import Derived.Test.YtcojeojmodjmdaaVarsRefE
namespace Go.Proofs.Ytcojeojmodjmdaa
open Go.RowKit

theorem VarsAt.narrow2 {w w' : World} {b : Nat} {M : KA VR} {args : List ByteArray} {S S' T : Nat → Prop} (h : VarsAt w b M args S) (hf : Fr T w w') (hd : ∀ k, k < w.heap.size → S k → ¬ T k) (h1 : ∀ k, k < w.heap.size → S k → S' k) (h2 : ∀ k, w'.heap.size ≤ k → S' k) : VarsAt w' b M args S' := by
  obtain ⟨mb, av, h⟩ := h
  have h' := h.frame hf hd
  refine ⟨mb, av, h'.hb, h'.hm, h'.ne, ?_, h1 _ (blk_lt h.hb) h.own, h1 _ h.hm.lt h.ownm, h2, h.len, h.sz⟩
  obtain ⟨a, cap, k1, k2, k3, k4⟩ := h.ha
  refine ⟨a, cap, k1, k2, k3, k4.imp id ?_⟩
  rintro ⟨g, o, h5, h6, h7, h8⟩
  exact ⟨g, o, h5, h1 _ h7 h6, Nat.lt_of_lt_of_le h7 hf.size, fun k hk => (World.cell?_of_block (w := w) (a := ⟨g, o + k, none⟩) (hf.block g h7 (hd g h7 h6))).trans (h8 k hk)⟩
theorem RvAt.narrow2 {w w' : World} {b : Nat} {M : KA VR} {args : List ByteArray} {S S' T : Nat → Prop} (h : RvAt w b M args S) (hf : Fr T w w') (hd : ∀ k, k < w.heap.size → S k → ¬ T k) (h1 : ∀ k, k < w.heap.size → S k → S' k) (h2 : ∀ k, w'.heap.size ≤ k → S' k) : RvAt w' b M args S' := by
  obtain ⟨lv, av, h⟩ := h
  have h' := h.frame hf hd
  refine ⟨lv, av, h'.hb, h'.hl, fun g e => h1 _ (h.hl.lt g e).2 (h.ownl g e), ?_, h1 _ (blk_lt h.hb) h.own, h2⟩
  obtain ⟨a, cap, k1, k2, k3, k4⟩ := h.ha
  refine ⟨a, cap, k1, k2, k3, k4.imp id ?_⟩
  rintro ⟨g, o, h5, h6, h7, h8⟩
  exact ⟨g, o, h5, h1 _ h7 h6, Nat.lt_of_lt_of_le h7 hf.size, fun k hk => (World.cell?_of_block (w := w) (a := ⟨g, o + k, none⟩) (hf.block g h7 (hd g h7 h6))).trans (h8 k hk)⟩
def rs (S : Nat → Prop) (n m : Nat) : Nat → Prop := fun k => (S k ∧ k < n) ∨ m ≤ k
/-- Variables that a copy left behind, and their twin. -/
abbrev Old := Nat × Nat × KA VR × List ByteArray
structure OldV (w : World) (O : Nat → Prop) (x : Old) : Prop where
  v : VarsAt w x.1 x.2.2.1 x.2.2.2 (fun k => O k ∨ w.heap.size ≤ k)
  rf : RvAt w x.2.1 x.2.2.1 x.2.2.2 (fun k => O k ∨ w.heap.size ≤ k)
  al : x.2.2.2.length ≤ 200
theorem OldV.frame {w w' : World} {O O' T : Nat → Prop} {x : Old} (h : OldV w O x) (hf : Fr T w w') (hd : ∀ k, k < w.heap.size → O k → ¬ T k) (hO : ∀ k, k < w.heap.size → O k → O' k) : OldV w' O' x where
  v := h.v.narrow2 hf (fun k hk e => e.elim (hd k hk) (fun e => by omega)) (fun k hk e => e.elim (fun e => .inl (hO k hk e)) (fun e => by omega)) (fun k hk => .inr hk)
  rf := h.rf.narrow2 hf (fun k hk e => e.elim (hd k hk) (fun e => by omega)) (fun k hk e => e.elim (fun e => .inl (hO k hk e)) (fun e => by omega)) (fun k hk => .inr hk)
  al := h.al
def vptrs (L : List Old) : List Value := L.map fun x => .pointer (some ⟨x.1, 0, none⟩)
def wptrs (L : List Old) : List Value := L.map fun x => .pointer (some ⟨x.2.1, 0, none⟩)
structure VInv (W w : World) (b r : Nat) (M : KA VR) (args : List ByteArray) (S1 S2 O : Nat → Prop) (L : List Old) (ov wv : Value) : Prop where
  v : VarsAt w b M args S1
  rf : RvAt w r M args S2
  dis : ∀ k, k < w.heap.size → S1 k → ¬ S2 k
  lo1 : ∀ k, S1 k → W.heap.size ≤ k
  lo2 : ∀ k, S2 k → W.heap.size ≤ k
  o1 : w.ownsRow W.heap.size 24 1 ov L.length (vptrs L)
  o2 : w.ownsRow W.heap.size 43 1 wv L.length (wptrs L)
  d1 : ∀ g, ov.ownBlock = some g → ¬ S1 g ∧ ¬ S2 g
  d2 : ∀ g, wv.ownBlock = some g → ¬ S1 g ∧ ¬ S2 g
  d12 : ∀ g, ov.ownBlock = some g → wv.ownBlock ≠ some g
  oo : ∀ g, O g → g < w.heap.size ∧ ¬ S1 g ∧ ¬ S2 g ∧ ov.ownBlock ≠ some g ∧ wv.ownBlock ≠ some g
  olds : ∀ x ∈ L, OldV w O x
  hL : L.length ≤ 4
  al : args.length ≤ 200
  fr : Fr (fun _ => False) W w
theorem VInv.step {W w w' : World} {b r b' r' : Nat} {M M' : KA VR} {args args' : List ByteArray} {S1 S2 S1' S2' O T : Nat → Prop} {L : List Old} {ov wv : Value} (h : VInv W w b r M args S1 S2 O L ov wv) (hf : Fr T w w') (hT : ∀ k, k < w.heap.size → T k → S1 k ∨ S2 k)
    (hv : VarsAt w' b' M' args' S1') (hr : RvAt w' r' M' args' S2') (h1 : ∀ k, k < w.heap.size → S1' k → S1 k) (h2 : ∀ k, k < w.heap.size → S2' k → S2 k) (hdis : ∀ k, k < w'.heap.size → S1' k → ¬ S2' k) (hal : args'.length ≤ 200) : VInv W w' b' r' M' args' S1' S2' O L ov wv := by
  have hs := hf.size
  have hW := h.fr.size
  refine ⟨hv, hr, hdis, fun k hk => ?_, fun k hk => ?_, own_frame h.o1 hf (fun g e e2 => ?_), own_frame h.o2 hf (fun g e e2 => ?_), fun g e => ?_, fun g e => ?_, h.d12, fun g e => ?_, fun x hx => (h.olds x hx).frame hf (fun k hk e e2 => ?_) (fun _ _ e => e), h.hL, hal, h.fr.trans' hf (fun i hi e => ?_)⟩
  · rcases Nat.lt_or_ge k w.heap.size with hlt | hge
    · exact h.lo1 k (h1 k hlt hk)
    · omega
  · rcases Nat.lt_or_ge k w.heap.size with hlt | hge
    · exact h.lo2 k (h2 k hlt hk)
    · omega
  · exact (hT g (h.o1.lt g e).2 e2).elim (h.d1 g e).1 (h.d1 g e).2
  · exact (hT g (h.o2.lt g e).2 e2).elim (h.d2 g e).1 (h.d2 g e).2
  · exact ⟨fun e2 => (h.d1 g e).1 (h1 g (h.o1.lt g e).2 e2), fun e2 => (h.d1 g e).2 (h2 g (h.o1.lt g e).2 e2)⟩
  · exact ⟨fun e2 => (h.d2 g e).1 (h1 g (h.o2.lt g e).2 e2), fun e2 => (h.d2 g e).2 (h2 g (h.o2.lt g e).2 e2)⟩
  · obtain ⟨k1, k2, k3, k4⟩ := h.oo g e
    exact ⟨by omega, fun e2 => k2 (h1 g k1 e2), fun e2 => k3 (h2 g k1 e2), k4⟩
  · obtain ⟨_, k2, k3, _⟩ := h.oo k e
    exact (hT k hk e2).elim k2 k3
  · rcases hT i (by omega) e with e | e
    · have := h.lo1 _ e; omega
    · have := h.lo2 _ e; omega
theorem VInv.still {W w w' : World} {b r : Nat} {M : KA VR} {args : List ByteArray} {S1 S2 O : Nat → Prop} {L : List Old} {ov wv : Value} (h : VInv W w b r M args S1 S2 O L ov wv) (hf : Fr (fun _ => False) w w') :
    VInv W w' b r M args (rs S1 w.heap.size w'.heap.size) (rs S2 w.heap.size w'.heap.size) O L ov wv := by
  have hs := hf.size
  refine h.step hf (fun _ _ e => e.elim) (h.v.narrow2 hf (fun _ _ _ e => e) (fun k hk e => .inl ⟨e, hk⟩) (fun k hk => .inr hk)) (h.rf.narrow2 hf (fun _ _ _ e => e) (fun k hk e => .inl ⟨e, hk⟩) (fun k hk => .inr hk)) ?_ ?_ ?_ h.al
  · rintro k hk (e | e)
    · exact e.1
    · omega
  · rintro k hk (e | e)
    · exact e.1
    · omega
  · rintro k hk (e | e) (e2 | e2)
    · exact h.dis k e.2 e.1 e2.1
    · omega
    · omega
    · omega
theorem VInv.mid {W w w1 : World} {b r : Nat} {M : KA VR} {args : List ByteArray} {S1 S2 O : Nat → Prop} {L : List Old} {ov wv : Value} (h : VInv W w b r M args S1 S2 O L ov wv) (hf : Fr S1 w w1) : RvAt w1 r M args (rs S2 w.heap.size w1.heap.size) :=
  h.rf.narrow2 hf (fun k hk e e2 => h.dis k hk e2 e) (fun k hk e => .inl ⟨e, hk⟩) (fun k hk => .inr hk)
theorem RvAt.own' {w : World} {r : Nat} {M : KA VR} {args : List ByteArray} {S : Nat → Prop} (h : RvAt w r M args S) : S r ∧ r < w.heap.size := by
  obtain ⟨_, _, h⟩ := h
  exact ⟨h.own, blk_lt h.hb⟩
theorem VInv.pair {W w w1 w2 : World} {b r : Nat} {M M' : KA VR} {args args' : List ByteArray} {S1 S2 O : Nat → Prop} {L : List Old} {ov wv : Value} (h : VInv W w b r M args S1 S2 O L ov wv) (hv : VarsAt w1 b M' args' S1) (hf : Fr S1 w w1)
    (hr : RvAt w2 r M' args' (rs S2 w.heap.size w1.heap.size)) (hf2 : Fr (fun k => k = r) w1 w2) (hal : args'.length ≤ 200) :
    VInv W w2 b r M' args' (rs S1 w1.heap.size w2.heap.size) (rs S2 w.heap.size w1.heap.size) O L ov wv := by
  have hs := hf.size
  have hs2 := hf2.size
  obtain ⟨hr1, hr2⟩ := h.rf.own'
  have hnr : ¬ S1 r := fun e => h.dis r hr2 e hr1
  refine h.step (T := fun k => S1 k ∨ k = r) ((hf.mono (fun _ _ e => .inl e)).trans (hf2.mono (fun _ _ e => .inr e))) (fun k _ e => e.elim .inl (fun e => .inr (by rw [e]; exact hr1))) (hv.narrow2 hf2 (fun k _ e e2 => hnr (by rw [← e2]; exact e)) (fun k hk e => .inl ⟨e, hk⟩) (fun k hk => .inr hk)) hr ?_ ?_ ?_ hal
  · rintro k hk (e | e)
    · exact e.1
    · omega
  · rintro k hk (e | e)
    · exact e.1
    · omega
  · rintro k hk (e | e) (e2 | e2)
    · exact h.dis k e2.2 e.1 e2.1
    · omega
    · omega
    · omega
theorem VInv.copied {W w w7 w8 w9 w10 : World} {b r b9 r9 : Nat} {M : KA VR} {args : List ByteArray} {S1 S2 O : Nat → Prop} {L : List Old} {ov wv ov' wv' : Value} (h : VInv W w b r M args S1 S2 O L ov wv) (hL : L.length < 4)
    (k1 : w7.ownsRow W.heap.size 24 1 ov' (L.length + 1) (vptrs L ++ [.pointer (some ⟨b, 0, none⟩)])) (f7 : Fr (fun k => ov.ownBlock = some k) w w7) (a1 : ∀ g, ov'.ownBlock = some g → ov.ownBlock = some g ∨ w.heap.size ≤ g)
    (k2 : w8.ownsRow W.heap.size 43 1 wv' (L.length + 1) (wptrs L ++ [.pointer (some ⟨r, 0, none⟩)])) (f8 : Fr (fun k => wv.ownBlock = some k) w7 w8) (a2 : ∀ g, wv'.ownBlock = some g → wv.ownBlock = some g ∨ w7.heap.size ≤ g)
    (hv : VarsAt w9 b9 M args (fun k => w8.heap.size ≤ k)) (f9 : Fr (fun _ => False) w8 w9) (hr : RvAt w10 r9 M args (fun k => w9.heap.size ≤ k)) (f10 : Fr (fun _ => False) w9 w10) :
    VInv W w10 b9 r9 M args (fun k => (w8.heap.size ≤ k ∧ k < w9.heap.size) ∨ w10.heap.size ≤ k) (fun k => w9.heap.size ≤ k) (fun k => (O k ∨ S1 k ∨ S2 k) ∧ k < w.heap.size) (L ++ [(b, r, M, args)]) ov' wv' := by
  have s7 := f7.size
  have s8 := f8.size
  have s9 := f9.size
  have s10 := f10.size
  have hW := h.fr.size
  have t1 := fun g e => k1.lt g e
  have t2 := fun g e => k2.lt g e
  have u1 := fun g e => h.o1.lt g e
  have u2 := fun g e => h.o2.lt g e
  have f910 := f9.trans f10
  have f78 : Fr (fun k => ov.ownBlock = some k ∨ wv.ownBlock = some k) w w8 := (f7.mono (fun _ _ e => .inl e)).trans (f8.mono (fun _ _ e => .inr e))
  have fA : Fr (fun k => ov.ownBlock = some k ∨ wv.ownBlock = some k) w w10 := f78.trans (f910.mono (fun _ _ e => e.elim))
  have hl : (L ++ [(b, r, M, args)]).length = L.length + 1 := by simp
  refine ⟨hv.narrow2 f10 (fun _ _ _ e => e) (fun k hk e => .inl ⟨e, hk⟩) (fun k hk => .inr hk), hr, ?_, ?_, fun k hk => by omega, ?_, ?_, ?_, ?_, ?_, ?_, ?_, by rw [hl]; omega, h.al, h.fr.trans' fA (fun i hi e => ?_)⟩
  · rintro k hk (e | e) e2 <;> omega
  · rintro k (e | e) <;> omega
  · rw [hl, show vptrs (L ++ [(b, r, M, args)]) = vptrs L ++ [.pointer (some ⟨b, 0, none⟩)] by simp [vptrs]]
    refine own_frame (own_frame k1 f8 (fun g e e2 => ?_)) f910 (fun _ _ e => e)
    rcases a1 g e with e3 | e3
    · exact h.d12 g e3 e2
    · have := (u2 g e2).2; omega
  · rw [hl, show wptrs (L ++ [(b, r, M, args)]) = wptrs L ++ [.pointer (some ⟨r, 0, none⟩)] by simp [wptrs]]
    exact own_frame k2 f910 (fun _ _ e => e)
  · intro g e
    have := (t1 g e).2
    exact ⟨by rintro (e | e) <;> omega, by omega⟩
  · intro g e
    have := (t2 g e).2
    exact ⟨by rintro (e | e) <;> omega, by omega⟩
  · intro g e e2
    have h1 := (t1 g e).2
    rcases a1 g e with e3 | e3
    · rcases a2 g e2 with e4 | e4
      · exact h.d12 g e3 e4
      · have := (u1 g e3).2; omega
    · rcases a2 g e2 with e4 | e4
      · have := (u2 g e4).2; omega
      · omega
  · rintro g ⟨e, hg⟩
    refine ⟨by omega, by rintro (e | e) <;> omega, by omega, fun e2 => ?_, fun e2 => ?_⟩
    · rcases a1 g e2 with e3 | e3
      · rcases e with e | e | e
        · exact (h.oo g e).2.2.2.1 e3
        · exact (h.d1 g e3).1 e
        · exact (h.d1 g e3).2 e
      · omega
    · rcases a2 g e2 with e3 | e3
      · rcases e with e | e | e
        · exact (h.oo g e).2.2.2.2 e3
        · exact (h.d2 g e3).1 e
        · exact (h.d2 g e3).2 e
      · omega
  · intro x hx
    rcases List.mem_append.1 hx with hx | hx
    · exact (h.olds x hx).frame fA (fun k hk e e2 => e2.elim (h.oo k e).2.2.2.1 (h.oo k e).2.2.2.2) (fun k hk e => ⟨.inl e, hk⟩)
    · simp only [List.mem_singleton] at hx
      subst hx
      exact ⟨h.v.narrow2 fA (fun k hk e e2 => e2.elim (fun e2 => (h.d1 k e2).1 e) (fun e2 => (h.d2 k e2).1 e)) (fun k hk e => .inl ⟨.inr (.inl e), hk⟩) (fun k hk => .inr hk),
        h.rf.narrow2 fA (fun k hk e e2 => e2.elim (fun e2 => (h.d1 k e2).2 e) (fun e2 => (h.d2 k e2).2 e)) (fun k hk e => .inl ⟨.inr (.inr e), hk⟩) (fun k hk => .inr hk), h.al⟩
  · rcases e with e | e
    · have := (u1 i e).1; omega
    · have := (u2 i e).1; omega
theorem VInv.sorted {W w : World} {b r : Nat} {M : KA VR} {args : List ByteArray} {S1 S2 O : Nat → Prop} {L : List Old} {ov wv : Value} (h : VInv W w b r M args S1 S2 O L ov wv) : KSorted M ∧ M.length ≤ 64 := by
  obtain ⟨_, _, hv⟩ := h.v
  exact ⟨hv.sorted, hv.len⟩
/-- What is written lies outside. -/
theorem VInv.out {W w w' : World} {b r : Nat} {M : KA VR} {args : List ByteArray} {S1 S2 O T : Nat → Prop} {L : List Old} {ov wv : Value} (h : VInv W w b r M args S1 S2 O L ov wv) (hf : Fr T w w')
    (hT : ∀ k, k < w.heap.size → T k → ¬ S1 k ∧ ¬ S2 k ∧ ov.ownBlock ≠ some k ∧ wv.ownBlock ≠ some k ∧ ¬ O k ∧ W.heap.size ≤ k) : VInv W w' b r M args (rs S1 w.heap.size w'.heap.size) (rs S2 w.heap.size w'.heap.size) O L ov wv := by
  have hs := hf.size
  have hW := h.fr.size
  refine ⟨h.v.narrow2 hf (fun k hk e e2 => (hT k hk e2).1 e) (fun k hk e => .inl ⟨e, hk⟩) (fun k hk => .inr hk), h.rf.narrow2 hf (fun k hk e e2 => (hT k hk e2).2.1 e) (fun k hk e => .inl ⟨e, hk⟩) (fun k hk => .inr hk), ?_, ?_, ?_, own_frame h.o1 hf (fun g e e2 => (hT g (h.o1.lt g e).2 e2).2.2.1 e), own_frame h.o2 hf (fun g e e2 => (hT g (h.o2.lt g e).2 e2).2.2.2.1 e), ?_, ?_, h.d12, ?_, fun x hx => (h.olds x hx).frame hf (fun k hk e e2 => (hT k hk e2).2.2.2.2.1 e) (fun _ _ e => e), h.hL, h.al, h.fr.trans' hf (fun i hi e => by have := (hT i (by omega) e).2.2.2.2.2; omega)⟩
  · rintro k hk (e | e) (e2 | e2)
    · exact h.dis k e.2 e.1 e2.1
    · omega
    · omega
    · omega
  · rintro k (e | e)
    · exact h.lo1 k e.1
    · omega
  · rintro k (e | e)
    · exact h.lo2 k e.1
    · omega
  · intro g e
    have := (h.o1.lt g e).2
    exact ⟨by rintro (e2 | e2); exact (h.d1 g e).1 e2.1; omega, by rintro (e2 | e2); exact (h.d1 g e).2 e2.1; omega⟩
  · intro g e
    have := (h.o2.lt g e).2
    exact ⟨by rintro (e2 | e2); exact (h.d2 g e).1 e2.1; omega, by rintro (e2 | e2); exact (h.d2 g e).2 e2.1; omega⟩
  · intro g e
    obtain ⟨k1, k2, k3, k4⟩ := h.oo g e
    exact ⟨by omega, by rintro (e2 | e2); exact k2 e2.1; omega, by rintro (e2 | e2); exact k3 e2.1; omega, k4⟩
/-- Both are asked the same: they answer alike, and stand side by side as before. -/
def Joint (W w : World) (b r : Nat) (S1 S2 O : Nat → Prop) (L : List Old) (ov wv : Value) (f1 f2 : Nat) (a1 a2 : Array Value) : Prop :=
  ∃ (ev : Int) (M' : KA VR) (args' : List ByteArray), Calls Try.prog f1 a1 w (fun e w1 => e = .returned (.int .i64 ev) ∧ VarsAt w1 b M' args' S1 ∧ Fr S1 w w1) ∧
    ∀ w1, VarsAt w1 b M' args' S1 → Fr S1 w w1 → Calls Try.prog f2 a2 w1 (fun e w2 => e = .returned (.int .i64 ev) ∧ VInv W w2 b r M' args' (rs S1 w1.heap.size w2.heap.size) (rs S2 w.heap.size w1.heap.size) O L ov wv ∧ Fr (fun k => k = r) w1 w2)
section
variable {W w : World} {b r : Nat} {M : KA VR} {args : List ByteArray} {S1 S2 O : Nat → Prop} {L : List Old} {ov wv : Value}
theorem set_j (h : VInv W w b r M args S1 S2 O L ov wv) (nm vl : ByteArray) (hn : nm.size ≤ 140737488355328) (hv : vl.size ≤ 9223372036854775807) :
    Joint W w b r S1 S2 O L ov wv 10 20 #[.pointer (some ⟨b, 0, none⟩), .string nm, .string vl] #[.pointer (some ⟨r, 0, none⟩), .string nm, .string vl] := by
  obtain ⟨hS, hM⟩ := h.sorted
  refine ⟨_, _, _, vset_any w b M args S1 h.v nm vl hn hv, fun w1 h1 h2 => (rset_any w1 r M args _ (h.mid h2) hM hS nm vl (by omega) hv).mono ?_⟩
  rintro e w2 ⟨rfl, h3, h4⟩
  exact ⟨rfl, h.pair h1 h2 h3 h4 h.al, h4⟩
theorem unset_j (h : VInv W w b r M args S1 S2 O L ov wv) (nm : ByteArray) (hn : nm.size ≤ 140737488355328) :
    Joint W w b r S1 S2 O L ov wv 12 21 #[.pointer (some ⟨b, 0, none⟩), .string nm] #[.pointer (some ⟨r, 0, none⟩), .string nm] := by
  obtain ⟨hS, hM⟩ := h.sorted
  refine ⟨_, _, _, vunset_any w b M args S1 h.v nm (by omega), fun w1 h1 h2 => (runset_any w1 r M args _ (h.mid h2) hM hS nm (by omega)).mono ?_⟩
  rintro e w2 ⟨rfl, h3, h4⟩
  exact ⟨rfl, h.pair h1 h2 h3 h4 h.al, h4⟩
theorem mark_j (h : VInv W w b r M args S1 S2 O L ov wv) (nm : ByteArray) (hn : nm.size ≤ 140737488355328) (ex ro : Bool) :
    Joint W w b r S1 S2 O L ov wv 11 22 #[.pointer (some ⟨b, 0, none⟩), .string nm, .bool ex, .bool ro] #[.pointer (some ⟨r, 0, none⟩), .string nm, .bool ex, .bool ro] := by
  obtain ⟨hS, hM⟩ := h.sorted
  refine ⟨_, _, _, vmark_any w b M args S1 h.v nm hn ex ro, fun w1 h1 h2 => (rmark_any w1 r M args _ (h.mid h2) hM hS nm (by omega) ex ro).mono ?_⟩
  rintro e w2 ⟨rfl, h3, h4⟩
  exact ⟨rfl, h.pair h1 h2 h3 h4 h.al, h4⟩
theorem VInv.ownb (h : VInv W w b r M args S1 S2 O L ov wv) : S1 b := by
  obtain ⟨_, _, hv⟩ := h.v
  exact hv.own
theorem setargs_j (h : VInv W w b r M args S1 S2 O L ov wv) (v1 v2 : Value) (l : List ByteArray) (S' S'' : Nat → Prop) (hv1 : ArgsV w S' v1 l) (hv2 : ∀ w1, Fr S1 w w1 → ArgsV w1 S'' v2 l) (hl : l.length ≤ 9223372036854775807) :
    Joint W w b r S1 S2 O L ov wv 14 23 #[.pointer (some ⟨b, 0, none⟩), v1] #[.pointer (some ⟨r, 0, none⟩), v2] := by
  refine ⟨setargsE l, M, setargsM l args, (setargs_any w b M args S1 h.v v1 l S' hv1 hl).mono ?_, fun w1 h1 h2 => (rsetargs_any w1 r M args _ (h.mid h2) v2 l S'' (hv2 w1 h2) hl).mono ?_⟩
  · rintro e w1 ⟨rfl, h1, h2⟩
    exact ⟨rfl, h1, h2.mono (fun k _ e => e ▸ h.ownb)⟩
  · rintro e w2 ⟨rfl, h3, h4⟩
    refine ⟨rfl, h.pair h1 h2 h3 h4 ?_, h4⟩
    unfold setargsM
    split
    · exact h.al
    · omega
theorem shift_j (h : VInv W w b r M args S1 S2 O L ov wv) (n : Int) :
    Joint W w b r S1 S2 O L ov wv 15 24 #[.pointer (some ⟨b, 0, none⟩), .int .i64 n] #[.pointer (some ⟨r, 0, none⟩), .int .i64 n] := by
  refine ⟨shiftE n args, M, shiftM n args, (shift_any w b M args S1 h.v n h.al).mono ?_, fun w1 h1 h2 => (rshift_any w1 r M args _ (h.mid h2) n h.al).mono ?_⟩
  · rintro e w1 ⟨rfl, h1, h2⟩
    exact ⟨rfl, h1, h2.mono (fun k _ e => e ▸ h.ownb)⟩
  · rintro e w2 ⟨rfl, h3, h4⟩
    refine ⟨rfl, h.pair h1 h2 h3 h4 ?_, h4⟩
    unfold shiftM
    have := h.al
    split
    · exact h.al
    · simp; omega
end
end Go.Proofs.Ytcojeojmodjmdaa
