/- glob.seeker.paths$1: the paths of a pattern behind a path, told to whoever asks. Conditions: the contract's own premises. -/
import Derived.Test.YtlhmmiolnbgloaaGreatDoorGlobK
import Derived.Test.YtlhmmiolnbgloaaGreatDoorGlobC
import Derived.Test.YtlhmmiolnbgloaaGreatDoorFilesTreeT
namespace Go.Proofs.YtlhmmiolnbgloaaGreatDoor
open Go.RowKit Go.Shelf

attribute [local go_sem] Oper.semAt_some

/-- Between two names. -/
structure OutI (σ : FSt) (d fuel : Nat) (far : List UInt8) (p : List Ch) (L : List (List UInt8)) (J : Nat → (Nat → Prop) → World → Prop) (q f t0 Z : Nat) (w0 : World) (s : Nat) (A : Nat → Prop) (W : World) : Prop where
  le : s ≤ L.length
  j : ∃ Ao, J (offF L (subP σ d fuel far p) s) Ao W ∧ ∀ k, Ao k → A k ∧ k ≠ q ∧ (k < Z ∨ w0.heap.size + 2 ≤ k)
  lo : ∀ k, k < w0.heap.size → A k
  own : ∀ k o, Z ≤ k → w0.heap[k]? = some o → W.heap[k]? = some o
  sk : Seek W q f d (t0 + sumF L (subT σ d fuel far p) s)
theorem OutI.frame {σ : FSt} {d fuel : Nat} {far : List UInt8} {p : List Ch} {L : List (List UInt8)} {J : Nat → (Nat → Prop) → World → Prop} {q f t0 Z : Nat} {w0 : World} (hJf : ∀ s (A : Nat → Prop) W W', J s A W → Fr (fun k => ¬ A k) W W' → J s A W') (hq : q < w0.heap.size) (hZ : Z ≤ w0.heap.size) {s : Nat} {A : Nat → Prop} {W W' : World} (h : OutI σ d fuel far p L J q f t0 Z w0 s A W)
    (hf : Fr (fun k => k = w0.heap.size ∨ k = w0.heap.size + 1 ∨ ¬ A k) W W') : OutI σ d fuel far p L J q f t0 Z w0 s A W' := by
  obtain ⟨le, ⟨Ao, j1, j2⟩, lo, own, sk⟩ := h
  refine ⟨le, ⟨Ao, hJf _ _ _ _ j1 (hf.mono ?_), j2⟩, lo, ?_, ?_⟩
  · intro k _ hk e
    have h9 := (j2 k e)
    rcases hk with hk | hk | hk
    · omega
    · omega
    · exact hk h9.1
  · intro k o hk hw
    have := blk_lt hw
    refine hf.get (own k o hk hw) ?_
    rintro (h9 | h9 | h9)
    · omega
    · omega
    · exact h9 (lo k this)
  · unfold Seek at sk ⊢
    refine hf.get sk ?_
    rintro (h9 | h9 | h9)
    · omega
    · omega
    · exact h9 (lo q hq)
/-- Between two paths behind a name. -/
structure InI (J : Nat → (Nat → Prop) → World → Prop) (base q Z D Z5 : Nat) (Aw : Nat → Prop) (w5 : World) (m : Nat) (j : Nat) (A : Nat → Prop) (W : World) : Prop where
  le : j ≤ m
  j : ∃ Ao, J (base + j) Ao W ∧ ∀ k, Ao k → A k ∧ (k < Z ∨ D + 2 ≤ k) ∧ (k < Z5 ∨ w5.heap.size < k) ∧ (k < w5.heap.size → Aw k)
  nq : ¬ A q
  lo : ∀ k, k < w5.heap.size → k ≠ q → A k
  fr : Fr Aw w5 W
  own : ∀ k o, (Z ≤ k ∧ k < D + 2 ∨ Z5 ≤ k) → w5.heap[k]? = some o → W.heap[k]? = some o
theorem InI.frame {J : Nat → (Nat → Prop) → World → Prop} {base q Z D Z5 : Nat} {Aw : Nat → Prop} {w5 : World} {m : Nat} (hJf : ∀ s (A : Nat → Prop) W W', J s A W → Fr (fun k => ¬ A k) W W' → J s A W') (hq : q < Z) (h5 : Z ≤ Z5 ∧ Z5 ≤ w5.heap.size) (hA : Aw q) {j : Nat} {A : Nat → Prop} {W W' : World} (h : InI J base q Z D Z5 Aw w5 m j A W)
    (hf : Fr (fun k => k = w5.heap.size ∨ ¬ A k) W W') : InI J base q Z D Z5 Aw w5 m j A W' := by
  obtain ⟨le, ⟨Ao, j1, j2⟩, nq, lo, fr, own⟩ := h
  refine ⟨le, ⟨Ao, hJf _ _ _ _ j1 (hf.mono ?_), j2⟩, nq, lo, fr.trans' hf ?_, ?_⟩
  · intro k _ hk e
    have h9 := j2 k e
    rcases hk with hk | hk
    · omega
    · exact hk h9.1
  · intro k hk e
    rcases e with e | e
    · omega
    · by_cases hkq : k = q
      · rw [hkq]; exact hA
      · exact absurd (lo k hk hkq) e
  · intro k o hk hw
    have := blk_lt hw
    refine hf.get (own k o hk hw) ?_
    rintro (h9 | h9)
    · omega
    · exact h9 (lo k this (by omega))
theorem InI.step {J : Nat → (Nat → Prop) → World → Prop} {base q Z D Z5 : Nat} {Aw : Nat → Prop} {w5 : World} {m : Nat} (hJA : ∀ s A W, J s A W → ∀ k, A k → k < W.heap.size) (hq : q < Z) (h5 : Z ≤ Z5 ∧ Z5 ≤ w5.heap.size ∧ D + 2 ≤ w5.heap.size) {j : Nat} {A Ao : Nat → Prop} {W W' : World} (h : InI J base q Z D Z5 Aw w5 m j A W) (hj : j < m) (hsz : w5.heap.size + 1 ≤ W.heap.size)
    (hAo : ∀ k, Ao k → A k ∧ (k < Z ∨ D + 2 ≤ k) ∧ (k < Z5 ∨ w5.heap.size < k) ∧ (k < w5.heap.size → Aw k)) (hf : Fr Ao W W') (hJ : J (base + (j + 1)) (fun k => Ao k ∨ (W.heap.size ≤ k ∧ k < W'.heap.size)) W') :
    Fr A W W' ∧ InI J base q Z D Z5 Aw w5 m (j + 1) (fun k => A k ∨ (W.heap.size ≤ k ∧ k < W'.heap.size)) W' := by
  obtain ⟨le, -, nq, lo, fr, own⟩ := h
  refine ⟨hf.mono fun k _ e => (hAo k e).1, hj, ⟨_, hJ, ?_⟩, ?_, ?_, ?_, ?_⟩
  · rintro k (e | e)
    · exact ⟨.inl (hAo k e).1, (hAo k e).2⟩
    · exact ⟨.inr e, by omega, by omega, fun h => by omega⟩
  · rintro (e | e)
    · exact nq e
    · omega
  · intro k hk hkq; exact .inl (lo k hk hkq)
  · exact fr.trans' hf fun k hk e => (hAo k e).2.2.2 hk
  · intro k o hk hw
    have := blk_lt hw
    exact hf.get (own k o hk hw) fun e => by have := hAo k e; omega
theorem tries_end {σ : FSt} {d fuel : Nat} {far : List UInt8} : triesP σ d (fuel + 1) far [] = 0 := by rw [triesP, if_pos rfl]
/-- The loop behind the slashes. -/
def SkRel (w : World) (b : Nat) (p : List Ch) (gk : Nat) (wr : World) : Prop := ∃ j : Nat, gk + j = skipP p ∧ cutP p ≤ j ∧ wr.heap[b]? = some (.cells #[.int .i64 j] 3 (0, 0)) ∧ Fr (fun k => k = b) w wr
def GCutRel (w : World) (i : Nat) (wx : World) : Prop := wx.heap[w.heap.size]? = some (.cells #[.int .i64 i] 3 (0, 0)) ∧ Fr (fun _ => False) w wx ∧ wx.heap.size = w.heap.size + 1
set_option maxRecDepth 100000 in
set_option maxHeartbeats 400000 in
theorem paths1_step (σ : FSt) (f : Nat) (S : Nat → Prop) (pp : Nat → Nat) (T : Nat → Prop) (q d : Nat) (hcap : CapB σ) (hd : d ≤ 9223372036854775807) (fuel : Nat)
    (ih : Hid (∀ (n bp bf bs : Nat) (pv : Value) (p : List Ch) (far : ByteArray) (t0 l : Nat) (J : Nat → (Nat → Prop) → World → Prop) (W : World) (_ : p.length < fuel) (_ : far.size + 2000 * fuel ≤ 1000000) (_ : t0 + triesP σ d fuel far.data.toList p ≤ 1000)
      (_ : ∀ s A W, J s A W → PtI σ f S pp T q bp bf bs pv p far W ∧ ¬ A q) (_ : ∀ s (A : Nat → Prop) W W', J s A W → Fr (fun k => ¬ A k) W W' → J s A W') (_ : ∀ s A W, J s A W → ∀ k, A k → k < W.heap.size)
      (_ : ∀ s A x s' W, NStep (pathsP σ d fuel far.data.toList p) s x s' → J s A W → YieldAt FW (n - 1) Tryz.prog l #[nenc x] W fun e W' => Fr A W W' ∧ e = .returned (.bool true) ∧ J s' (fun k => A k ∨ (W.heap.size ≤ k ∧ k < W'.heap.size)) W')
      (A0 : Nat → Prop) (_ : J 0 A0 W) (_ : Seek W q f d t0),
      Calls Tryz.prog 39 #[.func (.yield l) #[] #[], .pointer (some ⟨bp, 0, none⟩), .pointer (some ⟨bf, 0, none⟩), .pointer (some ⟨bs, 0, none⟩)] W fun e W' => (∃ v, e = .returned v) ∧ (∃ A, J (pathsP σ d fuel far.data.toList p).length A W') ∧ Seek W' q f d (t0 + triesP σ d fuel far.data.toList p)))
    (n bp bf bs : Nat) (pv : Value) (p : List Ch) (far : ByteArray) (t0 l : Nat) (J : Nat → (Nat → Prop) → World → Prop) (W : World) (hpf : p.length < fuel + 1) (hfar : far.size + 2000 * (fuel + 1) ≤ 1000000) (htr : t0 + triesP σ d (fuel + 1) far.data.toList p ≤ 1000)
    (hJI : ∀ s A W, J s A W → PtI σ f S pp T q bp bf bs pv p far W ∧ ¬ A q) (hJf : ∀ s (A : Nat → Prop) W W', J s A W → Fr (fun k => ¬ A k) W W' → J s A W') (hJA : ∀ s A W, J s A W → ∀ k, A k → k < W.heap.size)
    (hY : ∀ s A x s' W, NStep (pathsP σ d (fuel + 1) far.data.toList p) s x s' → J s A W → YieldAt FW (n - 1) Tryz.prog l #[nenc x] W fun e W' => Fr A W W' ∧ e = .returned (.bool true) ∧ J s' (fun k => A k ∨ (W.heap.size ≤ k ∧ k < W'.heap.size)) W')
    (A0 : Nat → Prop) (h0 : J 0 A0 W) (hs : Seek W q f d t0) :
    Calls Tryz.prog 39 #[.func (.yield l) #[] #[], .pointer (some ⟨bp, 0, none⟩), .pointer (some ⟨bf, 0, none⟩), .pointer (some ⟨bs, 0, none⟩)] W fun e W' => (∃ v, e = .returned v) ∧ (∃ A, J (pathsP σ d (fuel + 1) far.data.toList p).length A W') ∧ Seek W' q f d (t0 + triesP σ d (fuel + 1) far.data.toList p) := by
  obtain ⟨L, hL⟩ : ∃ L, L = pathsP σ d (fuel + 1) far.data.toList p := ⟨_, rfl⟩
  rw [← hL] at hY ⊢
  obtain ⟨tt, htt⟩ : ∃ tt, tt = triesP σ d (fuel + 1) far.data.toList p := ⟨_, rfl⟩
  rw [← htt] at htr ⊢
  have HL := hide hL
  have Htt := hide htt
  clear hL htt
  have hat0 : ∀ W2, Fr (fun _ => False) W W2 → J 0 A0 W2 ∧ Seek W2 q f d t0 := fun W2 hf => ⟨hJf _ _ _ _ h0 (hf.mono fun _ _ e => e.elim), by unfold Seek at hs ⊢; exact hf.get hs (fun e => e)⟩
  have hat := hide hat0
  have hA0 := hide (hJA _ _ _ h0)
  have hqA := hide ((hJI _ _ _ h0).2)
  have hqz : q < W.heap.size := by unfold Seek at hs; exact blk_lt hs
  obtain ⟨pa, pc, rfl⟩ := (hJI _ _ _ h0).1.ch.form
  clear h0 hs hat0
  refine (callsIn_wide (n := n)).1 ?_
  refine callsIn_of_wp_marks Tryz.func39 rfl trivial ?_ rfl
  refine (wpIn_wide (n := n)).2 ?_
  simp only [Tryz.ntmps39, List.size_toArray, List.length_cons, List.length_nil, Nat.reduceAdd, Nat.reduceSub, Array.replicate_succ, Array.replicate_zero, List.push_toArray, List.append_toArray, List.nil_append, List.cons_append]
  go_upto_region 1 with (fail)
  have k4 := blk_new W (.cells #[.func (.yield l) #[] #[]] 88 (0, 0))
  have hf1 : Fr (fun _ => False) W (W.alloc (.cells #[.func (.yield l) #[] #[]] 88 (0, 0))) := (Fr.refl _ _).alloc _
  have hz1 : (W.alloc (.cells #[.func (.yield l) #[] #[]] 88 (0, 0))).heap.size = W.heap.size + 1 := by simp
  generalize (W.alloc (.cells #[.func (.yield l) #[] #[]] 88 (0, 0))) = w1 at *
  have N1 := (hJI _ _ _ (hat.out w1 hf1).1).1
  have c1 := N1.cp
  have c2 := N1.cf
  have c3 := N1.cs
  have c4 : w1.cell? ⟨W.heap.size, 0, none⟩ = some (.func (.yield l) #[] #[]) := by rw [blk_cell k4]; rfl
  have Hf1 := hide hf1
  have K4 := hide k4
  have HN1 := hide N1
  have Hz1 := hide hz1
  clear hf1 k4 N1 hz1
  by_cases hp : p = []
  · subst hp
    have hLe := hide (HL.out.trans paths_end)
    have hte := Htt.out.trans tries_end
    subst hte
    have hba : (⟨far.data.toList.toArray⟩ : ByteArray) = far := rfl
    by_cases hz : far.size ≤ 256
    · have hL1 : L = [far.data.toList] := by rw [hLe.out, if_pos (show far.data.toList.length ≤ 256 from hz)]
      have hl1 : L.length = 1 := by rw [hL1]; rfl
      have hl0 : L[0] = far.data.toList := by simp [hL1]
      have hzi : (far.size : Int) ≤ 256 := by omega
      obtain ⟨fn, tmps, assign, body, hy, hR⟩ := hY 0 A0 far.data.toList 1 w1 ⟨by omega, hl0.symm, rfl⟩ (hat.out w1 Hf1.out).1
      have hy : (Instr.yield l #[.string far]).run Tryz.prog w1 = _ := hy
      have HR := hide hR
      have Hsk := hide (hat.out w1 Hf1.out).2
      clear hR hLe hL1 hl0 hz hba HL Htt
      go_upto_region 3 with (fail)
      refine (wpIn_wide (n := n)).1 ?_
      gi_wp2
      refine ⟨fun h9 => (by cases h9), ?_⟩
      refine HR.out.mono ?_
      rintro e W3 ⟨hf3, rfl, hJ3⟩
      have hout := hide (show (∃ A, J L.length A W3) ∧ Seek W3 q f d t0 from ⟨⟨_, by rw [hl1]; exact hJ3⟩, by have := Hsk.out; unfold Seek at this ⊢; exact hf3.get this hqA.out⟩)
      clear HR hJ3 hf3 Hsk
      gi_wp2
      go_wp2_with fail
      exact ⟨_, results_none rfl _ _ _, ⟨_, rfl⟩, hout.out⟩
    · have hL1 : L = [] := by rw [hLe.out, if_neg (show ¬ far.data.toList.length ≤ 256 from hz)]
      have hzi : ¬ (far.size : Int) ≤ 256 := by omega
      have hout := hide (show (∃ A, J L.length A w1) ∧ Seek w1 q f d t0 from ⟨⟨A0, by rw [hL1]; exact (hat.out w1 Hf1.out).1⟩, (hat.out w1 Hf1.out).2⟩)
      clear hLe hL1 hz hba HL Htt
      go_wp2_with fail
      exact ⟨_, results_none rfl _ _ _, ⟨_, rfl⟩, hout.out⟩
  · have hp1 : p.length ≠ 0 := fun e => hp (List.length_eq_zero_iff.1 e)
    have hp2 : ((p.length : Int) == 0) = false := by rw [beq_eq_false_iff_ne]; omega
    have hLs := hide (HL.out.trans (paths_step hp))
    have hTs := hide (Htt.out.trans (tries_step hp))
    have hsl := hide (slash_any w1 T _ p HN1.out.ch)
    have Hc := hide (show cutP p ≤ p.length ∧ cutP p ≤ skipP p ∧ skipP p ≤ p.length ∧ 0 < skipP p from ⟨cut_le p, skip_ge p, skip_le p, skip_pos hp⟩)
    have Hp := hide hp
    obtain ⟨g, o, hgo⟩ : ∃ g o, pa = some ⟨g, o, none⟩ := by
      obtain ⟨-, -, -, h9⟩ := HN1.out.ch.at
      obtain ⟨g, o, h8, _⟩ := h9.resolve_left hp
      exact ⟨g, o, h8⟩
    subst hgo
    have Hq := hide hqz
    have HY := hide hY
    have HJI := hide hJI
    have HJf := hide hJf
    have HJA := hide hJA
    have Hpf := hide hpf
    have Hfar := hide hfar
    have Htr := hide htr
    have hskl : ∀ j, cutP p ≤ j → j < skipP p → ∃ h : j < p.length, p[j].b = slashB := fun j h1 h2 => skip_in h1 h2
    have hsko : ∀ h : skipP p < p.length, p[skipP p].b ≠ slashB := fun h => skip_out h
    have Hskl := hide hskl
    have Hsko := hide hsko
    clear HL Htt hskl hsko hp hp1 hqz hY hJI hJf hJA hpf hfar htr
    go_wp2_with fail
    refine hsl.out.mono ?_
    rintro e w2 ⟨i, rfl, hi1, hi2, hi3, hf2⟩
    have N2 := (HJI.out _ _ _ (hat.out w2 (Hf1.out.trans hf2)).1).1
    have c1 := N2.cp
    have Hf2 := hide (Hf1.out.trans hf2)
    have K4 := hide (hf2.get K4.out (fun e => e))
    have Hi3 := hide hi3
    have Hz2 := hide (show W.heap.size + 1 ≤ w2.heap.size by have := hf2.size; have := Hz1.out; omega)
    clear hsl hf2 HN1 N2 Hf1 c2 c3 c4 hi3 Hz1
    go_upto_if 22 with (fail)
    go_cut [] from 10 to 45 (fun wx => GCutRel w2 (cutP p) wx)
    case first =>
      have k5 := blk_new w2 (.cells #[.int .i64 i] 3 (0, 0))
      have hf5 : Fr (fun _ => False) w2 (w2.alloc (.cells #[.int .i64 i] 3 (0, 0))) := (Fr.refl _ _).alloc _
      have hz5 : (w2.alloc (.cells #[.int .i64 i] 3 (0, 0))).heap.size = w2.heap.size + 1 := by simp
      generalize (w2.alloc (.cells #[.int .i64 i] 3 (0, 0))) = w5 at *
      have c1 := ((HJI.out _ _ _ (hat.out w5 (Hf2.out.trans hf5)).1).1).cp
      have c5 : w5.cell? ⟨w2.heap.size, 0, none⟩ = some (.int .i64 i) := by rw [blk_cell k5]; rfl
      have z5 := blk_frozen k5 0
      by_cases hneg : i < 0
      · have hi3 := Hi3.out
        rw [if_pos hneg] at hi3
        have hdec : decide (i < 0) = true := decide_eq_true hneg
        rw [hdec]
        have hfin := hide (show GCutRel w2 (cutP p) (w5.setCell ⟨w2.heap.size, 0, none⟩ (.int .i64 p.length)) from ⟨by rw [blk_set k5, hi3]; rfl, hf5.trans' (frSet _ _ _ _) (fun i hi e => by omega), by simp [hz5]⟩)
        clear Hi3 hi3 k5 hf5 hz5
        go_wp2_with fail
        go_meet
        case rel => exact hfin.out
      · have hi3 := Hi3.out
        rw [if_neg hneg] at hi3
        have hdec : decide (i < 0) = false := decide_eq_false hneg
        rw [hdec]
        have hfin := hide (show GCutRel w2 (cutP p) w5 from ⟨by rw [k5, hi3], hf5, hz5⟩)
        clear Hi3 hi3 k5 hf5 hz5
        go_wp2_with fail
        go_meet
        case rel => exact hfin.out
    case rest =>
      clear Hi3 hi1 hi2 c1
      obtain ⟨w4, hw4⟩ : ∃ x, x = wc := ⟨_, rfl⟩
      subst hw4
      obtain ⟨k5, hf5, hz5⟩ := hcut
      have c5 : w4.cell? ⟨w2.heap.size, 0, none⟩ = some (.int .i64 (cutP p : Nat)) := by rw [blk_cell k5]; rfl
      have K5 := hide k5
      have Hf5 := hide (Hf2.out.trans hf5)
      have K4 := hide (hf5.get K4.out (fun e => e))
      have Hz5 := hide hz5
      clear k5 hf5 hz5 Hf2
      go_upto_block 0 with fail
      have k6 := blk_new w4 (.cells #[.int .i64 (cutP p : Nat)] 3 (0, 0))
      have hf6 : Fr (fun _ => False) w4 (w4.alloc (.cells #[.int .i64 (cutP p : Nat)] 3 (0, 0))) := (Fr.refl _ _).alloc _
      have hz6 : (w4.alloc (.cells #[.int .i64 (cutP p : Nat)] 3 (0, 0))).heap.size = w4.heap.size + 1 := by simp
      generalize (w4.alloc (.cells #[.int .i64 (cutP p : Nat)] 3 (0, 0))) = w6 at *
      have H6 := hide (show SkRel w6 w4.heap.size p (skipP p - cutP p) w6 from ⟨cutP p, by have := Hc.out; omega, Nat.le_refl _, k6, Fr.refl _ _⟩)
      have Hf6 := hide (Hf5.out.trans hf6)
      have K4 := hide (hf6.get K4.out (fun e => e))
      have K5 := hide (hf6.get K5.out (fun e => e))
      have Hz6 := hide hz6
      clear k6 hf6 hz6 Hf5 c5
      go_cut [] from 26 to 39 (fun wx => SkRel w6 w4.heap.size p 0 wx)
      case first =>
        go_wp2_with fail
        go_loopg [26] (skipP p - cutP p) (fun gk _ wr => SkRel w6 w4.heap.size p gk wr)
        case atStart => exact H6.out
        case round =>
          clear H6
          obtain ⟨j, hgk, hj1, k6, hf⟩ := hrel
          have hfw : Fr (fun _ => False) W wr := Hf6.out.trans' hf (fun i hi e => by have := Hf6.out.size; have := Hz6.out; have := Hz5.out; have := Hz2.out; omega)
          have Nr := (HJI.out _ _ _ (hat.out wr hfw).1).1
          have c1 := Nr.cp
          have c6 : wr.cell? ⟨w4.heap.size, 0, none⟩ = some (.int .i64 j) := by rw [blk_cell k6]; rfl
          have z6 := blk_frozen k6 0
          have hjs : j ≤ skipP p := by omega
          by_cases hlt : j < p.length
          · obtain ⟨-, hpc1, hpc2, h9⟩ := Nr.ch.at
            obtain ⟨g', o', h8, -, -, hcell⟩ := h9.resolve_left Hp.out
            cases h8
            obtain ⟨e0, -⟩ := hcell j hlt
            have hj0 : (0 : Int) ≤ (j : Int) := by omega
            have hj2 : (j : Int) < (p.length : Int) := by omega
            have hdl : decide ((j : Int) < (p.length : Int)) = true := decide_eq_true hj2
            by_cases e : p[j].b = slashB
            · have hjl : j < skipP p := Nat.lt_of_le_of_ne hjs (fun e9 => by subst e9; exact Hsko.out hlt e)
              have e1 : wr.cell? ⟨g, o + j * 2, none⟩ = some (.int .u8 47) := by rw [e0, e]; rfl
              have hn := hide (show SkRel w6 w4.heap.size p (gk - 1) (wr.setCell ⟨w4.heap.size, 0, none⟩ (.int .i64 ((j : Int) + 1))) from ⟨j + 1, by omega, by omega, by rw [blk_set k6]; rfl, hf.trans (frSet _ _ _ _)⟩)
              have hb1 : ((j : Int) + 1) ≤ 1000000 := by have := Hpf.out; have := Hfar.out; omega
              have hm := hide (show gk - 1 < gk by omega)
              clear hgk hj1 k6 hf hfw Nr hcell e0 e hjl hjs h9
              go_wp2_with fail
              go_roundg (gk - 1)
              case measure => exact hm.out
              case rel => exact hn.out
            · have hjl : j = skipP p := by
                apply Decidable.byContradiction
                intro h
                obtain ⟨h2, h3⟩ := Hskl.out j hj1 (by omega)
                exact e h3
              have hgk0 : gk = 0 := by omega
              have hn := hide (show SkRel w6 w4.heap.size p 0 wr from ⟨j, by omega, hj1, k6, hf⟩)
              generalize hcb : p[j].b = cb at e0 e
              have e1 : ((cb.toNat : Int) == 47) = false := by
                rw [beq_eq_false_iff_ne]
                intro h
                exact e (UInt8.toNat_inj.1 (by show cb.toNat = 47; omega))
              clear hgk hj1 k6 hf hfw Nr hcell e hjl hjs h9 hcb
              go_wp2_with fail
              go_meet
              case rel => exact hn.out
          · have hjl : j = skipP p := by have := Hc.out; omega
            have hgk0 : gk = 0 := by omega
            have hn := hide (show SkRel w6 w4.heap.size p 0 wr from ⟨j, by omega, hj1, k6, hf⟩)
            have hj2 : ¬ (j : Int) < (p.length : Int) := by omega
            clear hgk hj1 k6 hf hfw Nr hjl hjs
            go_wp2_with fail
            go_meet
            case rel => exact hn.out
      case rest =>
        obtain ⟨j, hgk, hj1, k6, hf⟩ := hcut
        have hj : j = skipP p := by omega
        subst hj
        have hs6 := Hf6.out.size
        have hz6 := Hz6.out
        have hz5 := Hz5.out
        have hz2 := Hz2.out
        have hfw : Fr (fun _ => False) W wc := Hf6.out.trans' hf (fun i hi e => by omega)
        have Nr := (HJI.out _ _ _ (hat.out wc hfw).1).1
        have c1 := Nr.cp
        have c2 := Nr.cf
        have c3 := Nr.cs
        have k4 := hf.get K4.out (fun e => by omega)
        have k5 := hf.get K5.out (fun e => by omega)
        have c5 : wc.cell? ⟨w2.heap.size, 0, none⟩ = some (.int .i64 (cutP p : Nat)) := by rw [blk_cell k5]; rfl
        have c6 : wc.cell? ⟨w4.heap.size, 0, none⟩ = some (.int .i64 (skipP p : Nat)) := by rw [blk_cell k6]; rfl
        obtain ⟨hcp1, hcp2, hcp3, hcp4⟩ := Hc.out
        obtain ⟨-, hpc1, hpc2, -⟩ := Nr.ch.at
        have hpc0 : ¬ pc = 0 := by have : p.length ≠ 0 := fun e => Hp.out (List.length_eq_zero_iff.1 e); omega
        have K4 := hide k4
        have K5 := hide k5
        have K6 := hide k6
        have Hfw := hide hfw
        have Hord := hide (show W.heap.size < w2.heap.size ∧ w2.heap.size < w4.heap.size ∧ w4.heap.size < wc.heap.size by have := blk_lt k6; omega)
        have hci1 : (0 : Int) ≤ (cutP p : Nat) := by omega
        have hci2 : ((cutP p : Nat) : Int) ≤ (p.length : Int) := by omega
        have hci3 : ((cutP p : Nat) : Int) ≤ (pc : Int) := by omega
        have hsn := fun a n c => snames_any wc.drew (some ⟨q, 0, none⟩) far a n c
        have Hsn := hide hsn
        clear hsn
        clear hgk hj1 k6 hf hs6 hz6 hz5 hz2 hfw Nr k4 k5 Hf6 Hz6 Hz5 Hz2 hcp1 hcp2 hcp3 hcp4 hpc1 hpc2 Hskl Hsko
        go_upto_region 10 with (fail)
        refine wp_noPanicB ?_
        refine region_mix [] [0, 1, 2, 3, 4] 5 (by kernel_rfl) (by kernel_rfl) (fun _ _ _ _ _ h => h.elim) ?_
        simp only [List.map_cons, List.map_nil, List.getD_cons_zero, List.getD_cons_succ, List.drop_succ_cons, List.drop_zero]
        refine wpQuiet_nil ?_
        repeat go_big_quiet_step (fail)
        refine wpQuiet_nil ?_
        go_wp2_with fail
        refine (Hsn.out _ _ _).mono ?_
        rintro e w10 ⟨rfl, hw10⟩
        have e7 : w10.heap[wc.heap.size]? = some (.cells #[.pointer (some ⟨q, 0, none⟩)] 66 (0, 0)) := by rw [hw10]; exact blk_alloc (blk_alloc (blk_new' wc.drew _ _ rfl) _) _
        have e8 : w10.heap[wc.heap.size + 1]? = some (.cells #[.string far] 9 (0, 0)) := by rw [hw10]; exact blk_alloc (blk_new' _ _ _ (by simp)) _
        have e9 : w10.heap[wc.heap.size + 2]? = some (.cells #[.slice (some ⟨g, o, none⟩) (cutP p) pc] 32 (0, 0)) := by rw [hw10]; exact blk_new' _ _ _ (by simp)
        have hz10 : w10.heap.size = wc.heap.size + 3 := by rw [hw10]; simp
        have hf10 : Fr (fun _ => False) wc w10 := by rw [hw10]; exact (((Fr.refl _ _).drew.alloc _).alloc _).alloc _
        have hwcd : wc.drew.heap.size = wc.heap.size := rfl
        rw [hwcd]
        have Hf10 := hide (Hfw.out.trans hf10)
        have K4 := hide (hf10.get K4.out (fun e => e))
        have K5 := hide (hf10.get K5.out (fun e => e))
        have K6 := hide (hf10.get K6.out (fun e => e))
        have Hz10 := hide hz10
        have E7 := hide e7
        have E8 := hide e8
        have E9 := hide e9
        clear Hsn e7 e8 e9 hz10 hf10 Hfw hw10 hwcd c1 c2 c3 c5 c6
        go_wp2_with fail
        refine noPanicB_normal ?_
        go_upto_block 2 with fail
        refine (wpIn_wide (n := n)).1 ?_
        gi_wp2
        obtain ⟨Ln, hLn⟩ : ∃ Ln, Ln = namesP σ d far.data.toList (p.take (cutP p)) := ⟨_, rfl⟩
        have hLs := hLs.out
        have hTs := hTs.out
        rw [← hLn] at hLs hTs
        have HLn := hide hLn
        have HLs := hide hLs
        have HTs := hide hTs
        clear hLs hTs hLn
        have hord := Hord.out
        have hz10 := Hz10.out
        have hqz := Hq.out
        have hB : q < w10.heap.size ∧ W.heap.size ≤ w10.heap.size ∧ q < W.heap.size := by omega
        have hI0 : OutI σ d fuel far.data.toList p Ln J q f t0 W.heap.size w10 0 (fun k => k < w10.heap.size + 2 ∧ ¬ False) w10 :=
          ⟨Nat.zero_le _, ⟨A0, (hat.out w10 Hf10.out).1, fun k e => ⟨⟨by have := hA0.out k e; omega, fun h => h⟩, fun h => hqA.out (h ▸ e), .inl (hA0.out k e)⟩⟩, fun k hk => ⟨by omega, fun h => h⟩, fun k o _ h => h, (hat.out w10 Hf10.out).2⟩
        have hcut1 : ∀ W1, ChV W1 T (.slice (some ⟨g, o, none⟩) p.length pc) p → ChV W1 T (.slice (some ⟨g, o, none⟩) (cutP p) pc) (p.take (cutP p)) := fun W1 h => by
          have h9 := h.cut (Nat.zero_le (cutP p)) Hc.out.1 (m := cutP p) rfl
          rw [if_neg hpc0] at h9
          simpa using h9
        have Hcut1 := hide hcut1
        have HB := hide hB
        have hp1 : p.length ≤ 1000000 := by have := Hpf.out; have := Hfar.out; omega
        have Hp1 := hide hp1
        clear hcut1 hord hz10 hB hp1 hqz
        refine rf_law4a (α := List UInt8) (σ := Nat) (q := 46) (fun _ => False) (fun _ h => h.elim) 60 #[.pointer (some ⟨wc.heap.size + 2, 0, none⟩), .pointer (some ⟨wc.heap.size, 0, none⟩), .pointer (some ⟨wc.heap.size + 1, 0, none⟩)] rfl (enters_of Tryz.func60 (by kernel_rfl) rfl) nenc 7
          (NStep Ln) (fun s => s = Ln.length) 0 (OutI σ d fuel far.data.toList p Ln J q f t0 W.heap.size w10) (fun s A W1 W2 h1 hf => h1.frame HJf.out HB.out.1 HB.out.2.1 hf) ?hImono hI0 (fun _ => True) (fun _ _ _ _ => trivial) ?hiter ?assign ?body ?done
        case hImono =>
          rintro s A A' W1 ⟨le, ⟨Ao, j1, j2⟩, lo, own, sk⟩ hA _
          exact ⟨le, ⟨Ao, j1, fun k e => ⟨hA k (j2 k e).1, (j2 k e).2⟩⟩, fun k hk => hA k (lo k hk), own, sk⟩
        case hiter =>
          intro l' J' W' hJI' hJf' hJA' hY' h0' _
          refine callsIn_wide.2 ((names1_iter (n - 1) σ f S pp T q d (wc.heap.size + 2) wc.heap.size (wc.heap.size + 1) (.slice (some ⟨g, o, none⟩) (cutP p) pc) (p.take (cutP p)) far hcap hd (by have := Hfar.out; omega) (by have := Hp1.out; rw [List.length_take]; omega) l' J' W' (fun s A W1 h1 => ?nm) hJf' hJA' (by rw [← HLn.out]; exact hY') _ h0').mono ?_)
          case nm =>
            obtain ⟨le, ⟨Ao, j1, j2⟩, lo, own, sk⟩ := hJI' s A W1 h1
            have N := (HJI.out _ _ _ j1).1
            exact ⟨N.fa, N.ml, Hcut1.out W1 N.ch, ⟨_, sk⟩, by rw [blk_cell (own _ _ (by have := Hord.out; omega) E9.out)]; rfl, by rw [blk_cell (own _ _ (by have := Hord.out; omega) E7.out)]; rfl, by rw [blk_cell (own _ _ (by have := Hord.out; omega) E8.out)]; rfl⟩
          rintro e W1 ⟨h1, A, h2⟩
          exact ⟨h1, _, A, rfl, by rw [← HLn.out] at h2; exact h2, trivial⟩
        case assign =>
          intro l' x W1 K hK
          have hK := hide hK
          gi_wp2
          exact hK.out
        case body =>
          clear hI0
          rintro s A x s' X ⟨r0, hr0⟩ ⟨hs, hx, rfl⟩ hI hsz hA0 hA1
          obtain ⟨hle, ⟨Ao, j1, j2⟩, hlo, own, sk⟩ := hI
          have N := (HJI.out _ _ _ j1).1
          have hszn := names_sizes N.fa.live (x := Ln[s]) (by rw [← HLn.out]; exact List.getElem_mem hs)
          have hoff := offF_succ (g := subP σ d fuel far.data.toList p) hs
          have hsum := sumF_succ (g := subT σ d fuel far.data.toList p) hs
          have hsle := sumF_le Ln (subT σ d fuel far.data.toList p) (s + 1)
          rw [← HTs.out] at hsle
          have hfl : ∀ j, j < (subP σ d fuel far.data.toList p x).length → L[offF Ln (subP σ d fuel far.data.toList p) s + j]? = (subP σ d fuel far.data.toList p x)[j]? := by
            intro j hj
            subst hx
            obtain ⟨h2, e⟩ := flat_at (g := subP σ d fuel far.data.toList p) hs hj
            rw [HLs.out, List.getElem?_eq_getElem h2, e, List.getElem?_eq_getElem hj]
          have Hfl := hide hfl
          have Hsle := hide hsle
          clear hfl
          rw [← hx] at hszn hoff hsum
          obtain ⟨tn, htn⟩ : ∃ tn, tn = t0 + sumF Ln (subT σ d fuel far.data.toList p) s := ⟨_, rfl⟩
          rw [← htn] at sk
          have htn1 : tn + 1 ≤ 1000 := by
            have := Htr.out
            have : 1 ≤ subT σ d fuel far.data.toList p x := by unfold subT; omega
            omega
          obtain ⟨sl, hsl⟩ : ∃ sl, sl = (p.take (skipP p)).drop (cutP p) := ⟨_, rfl⟩
          obtain ⟨hcp1, hcp2, hcp3, hcp4⟩ := Hc.out
          have hsll : sl.length = skipP p - cutP p := by rw [hsl, List.length_drop, List.length_take]; omega
          have hcut2 := N.ch.cut hcp2 hcp3 (m := skipP p - cutP p) rfl
          rw [← hsl] at hcut2
          obtain ⟨-, hpc1, hpc2, -⟩ := N.ch.at
          obtain ⟨X3, hX3⟩ : ∃ X3, X3 = (if pc = cutP p then some (⟨g, o, none⟩ : Addr) else some ⟨g, o + cutP p * 2, none⟩) := ⟨_, rfl⟩
          rw [← hX3] at hcut2
          have hX4 : (if pc = cutP p then some (⟨g, o, none⟩ : Addr) else some ⟨g, o + cutP p * 2, none⟩) = X3 := hX3.symm
          have htx := hide (text_any X.drew T _ sl (hcut2.still ((Fr.refl _ _).drew)) (by have := Hp1.out; omega))
          have hq0 := Hord.out
          have c1 := N.cp
          have c2 := N.cf
          have c3 := N.cs
          have c5 : X.cell? ⟨w2.heap.size, 0, none⟩ = some (.int .i64 (cutP p : Nat)) := by rw [blk_cell (own _ _ (by omega) K5.out)]; rfl
          have c6 : X.cell? ⟨w4.heap.size, 0, none⟩ = some (.int .i64 (skipP p : Nat)) := by rw [blk_cell (own _ _ (by omega) K6.out)]; rfl
          have hi1 : (0 : Int) ≤ (cutP p : Nat) := by omega
          have hi2 : ((cutP p : Nat) : Int) ≤ (skipP p : Nat) := by omega
          have hi3 : ((skipP p : Nat) : Int) ≤ (p.length : Int) := by omega
          have hi4 : ((skipP p : Nat) : Int) ≤ (pc : Int) := by omega
          have hi5 : ((cutP p : Nat) : Int) ≤ (pc : Int) := by omega
          have Hszn := hide hszn
          have Hoff := hide hoff
          have Hsum := hide hsum
          have Hsl := hide hsl
          have Hsll := hide hsll
          have Sk := hide sk
          have Own := hide own
          have J1 := hide j1
          have J2 := hide j2
          have HN := hide N
          have Htn := hide htn
          have Hlo := hide hlo
          have Hsz := hide hsz
          have HA0 := hide hA0
          have HA1 := hide hA1
          have Hr0 := hide hr0
          have Hs := hide hs
          clear hx
          clear hszn hoff hsum hsl hsll sk own j1 j2 N htn hlo hsz hA0 hA1 hr0 hs hsle hcut2 hX3 hpc1 hpc2 hcp1 hcp2 hcp3 hcp4 hq0 hle hpc0 hci1 hci2 hci3
          simp only [nenc]
          obtain ⟨xs, hxs⟩ : ∃ xs : ByteArray, xs = ⟨x.toArray⟩ := ⟨_, rfl⟩
          rw [← hxs]
          have hxz : xs.size ≤ p.length + 32 := by
            have h9 := Hszn.out
            rw [List.length_take] at h9
            have : xs.size = x.length := by rw [hxs]; rfl
            omega
          have hl1 : ¬ (9223372036854775807 < far.size + xs.size) := by have := Hfar.out; have := Hpf.out; omega
          have Hxs := hide hxs
          have Hxz := hide hxz
          clear hxs hxz
          gi_wp2
          refine round_any (by kernel_rfl) (by kernel_rfl) ?hlo ?_
          case hlo => exact fun ⟨_, _, h9⟩ => h9
          refine any_calls (fun w' => w'.cell? ⟨bp, 0, none⟩ = some (.slice (some ⟨g, o, none⟩) p.length pc) ∧ w'.cell? ⟨bf, 0, none⟩ = some (.string far) ∧ w'.cell? ⟨w2.heap.size, 0, none⟩ = some (.int .i64 (cutP p : Nat)) ∧ w'.cell? ⟨w4.heap.size, 0, none⟩ = some (.int .i64 (skipP p : Nat))) [0, 1, 2, 3, 4, 5, 6] [7] 8 (by kernel_rfl) (fun _ _ d _ _ h => by cases d <;> exact h) ⟨c1, c2, c5, c6⟩ ?_
          simp only [List.map_cons, List.map_nil, List.getD_cons_zero, List.getD_cons_succ, List.drop_succ_cons, List.drop_zero]
          refine wpQuiet_val (.string far) rfl (fun w' hS => by (have e2 := hS.2.1; go_simp)) ?_
          simp only [Act.put, List.setIfInBounds_toArray, List.set_cons_succ, List.set_cons_zero]
          go_big_quiet_step (fail)
          refine wpQuiet_val (.string (far ++ xs)) rfl (fun w' hS => by (go_simp)) ?_
          simp only [Act.put, List.setIfInBounds_toArray, List.set_cons_succ, List.set_cons_zero]
          refine wpQuiet_val (.slice (some ⟨g, o, none⟩) p.length pc) rfl (fun w' hS => by (have e2 := hS.1; go_simp)) ?_
          simp only [Act.put, List.setIfInBounds_toArray, List.set_cons_succ, List.set_cons_zero]
          refine wpQuiet_val (.int .i64 (cutP p : Nat)) rfl (fun w' hS => by (have e2 := hS.2.2.1; go_simp)) ?_
          simp only [Act.put, List.setIfInBounds_toArray, List.set_cons_succ, List.set_cons_zero]
          refine wpQuiet_val (.int .i64 (skipP p : Nat)) rfl (fun w' hS => by (have e2 := hS.2.2.2; go_simp)) ?_
          simp only [Act.put, List.setIfInBounds_toArray, List.set_cons_succ, List.set_cons_zero]
          refine wpQuiet_val (.slice X3 (skipP p - cutP p) (pc - cutP p)) rfl (fun w' hS => by (go_simp <;> (intro hle; exfalso; omega))) ?_
          simp only [Act.put, List.setIfInBounds_toArray, List.set_cons_succ, List.set_cons_zero]
          refine wpQuiet_nil ?_
          refine chainS_step rfl (fun K hK => ?_)
          go_wp2_with fail
          refine htx.out.mono ?_
          rintro e W2 ⟨rfl, hf2⟩
          have hfX : Fr (fun _ => False) X W2 := ((Fr.refl _ _).drew).trans hf2
          have j12 := HJf.out _ _ _ _ J1.out (hfX.mono fun _ _ e => e.elim)
          have N2 := (HJI.out _ _ _ j12).1
          have own2 : ∀ k o, W.heap.size ≤ k → w10.heap[k]? = some o → W2.heap[k]? = some o := fun k o hk h => hfX.get (Own.out k o hk h) (fun e => e)
          have sk2 : Seek W2 q f d tn := by have := Sk.out; unfold Seek at this ⊢; exact hfX.get this (fun e => e)
          have hq0 := Hord.out
          have c1 := N2.cp
          have c2 := N2.cf
          have c3 := N2.cs
          have c5 : W2.cell? ⟨w2.heap.size, 0, none⟩ = some (.int .i64 (cutP p : Nat)) := by rw [blk_cell (own2 _ _ (by omega) K5.out)]; rfl
          have c6 : W2.cell? ⟨w4.heap.size, 0, none⟩ = some (.int .i64 (skipP p : Nat)) := by rw [blk_cell (own2 _ _ (by omega) K6.out)]; rfl
          refine hK _ _ ⟨c1, c2, c5, c6⟩ ?_
          clear hK K c1 c2 c5 c6 hX4 htx hf2 N2 hq0
          refine chainS_nil ?_
          obtain ⟨ts, hts⟩ : ∃ ts : ByteArray, ts = ⟨(txL sl).toArray⟩ := ⟨_, rfl⟩
          rw [← hts]
          have htz : ts.size ≤ p.length := by
            have h9 := Hsll.out
            have h8 := Hc.out
            have : ts.size = sl.length := by rw [hts]; show (txL sl).toArray.size = _; simp [txL]
            omega
          have hl2 : ¬ (9223372036854775807 < far.size + xs.size + ts.size) := by have := Hfar.out; have := Hpf.out; have := Hxz.out; omega
          obtain ⟨NX, hNX⟩ : ∃ NX, NX = far ++ xs ++ ts := ⟨_, rfl⟩
          have hNXl : NX.data.toList = nextP far.data.toList p x := by
            rw [hNX, ba_append, ba_append, Hxs.out, hts]
            unfold nextP
            rw [← Hsl.out]
            rfl
          have hNXz : NX.size ≤ far.size + 2000 ∧ NX.size ≤ far.size + 2 * p.length + 32 := by
            have h1 : NX.size = far.size + xs.size + ts.size := by rw [hNX, ByteArray.size_append, ByteArray.size_append]
            have := Hfar.out; have := Hpf.out; have := Hxz.out; omega
          have sk3 : Seek (W2.setCell ⟨q, 2, none⟩ (.int .i64 ((tn : Int) + 1))) q f d (tn + 1) := by unfold Seek at sk2 ⊢; rw [blk_set sk2]; rfl
          have hqo : ¬ Ao q := fun e => ((J2.out q e).2.1) rfl
          have j13 := HJf.out _ _ _ _ j12 ((frSet W2 q 2 (.int .i64 ((tn : Int) + 1))).mono fun k _ e h9 => hqo (e ▸ h9))
          have N3 := (HJI.out _ _ _ j13).1
          have hfX3 : Fr (fun k => k = q) X (W2.setCell ⟨q, 2, none⟩ (.int .i64 ((tn : Int) + 1))) := (hfX.mono (fun _ _ e => e.elim)).trans (frSet _ _ _ _)
          have hth := hide (there_any _ q f d (tn + 1) σ S pp sk3 N3.fa N3.ml hd NX (by have := hNXz.1; have := Hfar.out; omega))
          have HJ13 := hide j13
          have Hsk3 := hide sk3
          have HfX3 := hide hfX3
          have HNXl := hide hNXl
          have HNXz := hide hNXz
          have cq0 : W2.cell? ⟨q, 0, none⟩ = some (.pointer (some ⟨f, 0, none⟩)) := by unfold Seek at sk2; rw [blk_cell sk2]; rfl
          have cq2 : W2.cell? ⟨q, 2, none⟩ = some (.int .i64 tn) := by unfold Seek at sk2; rw [blk_cell sk2]; rfl
          have zq : W2.frozen? ⟨q, 2, none⟩ = false := by unfold Seek at sk2; exact blk_frozen sk2 2
          have c33 := N3.cs
          have hgt : ¬ (1000 : Int) < (tn : Int) + 1 := by omega
          have htn2 : (tn : Int) + 1 ≤ 1000 := by omega
          have Hts := hide hts
          clear hfX j12 own2 sk2 hts htz hNXl hNXz sk3 hqo j13 N3 hfX3 hi1 hi2 hi3 hi4 hi5 htn1
          go_wp2_with fail
          rw [← hNX]
          clear hNX
          have hgt2 : ¬ (1000 : Int) ≤ (tn : Int) := by omega
          have hgt3 : ¬ 1000 ≤ tn := by omega
          gi_step
          gi_step
          iterate 33 (first | go_values | gi_guarded | gi_step | gi_upon)
          clear c3 cq0 cq2 zq
          generalize (W2.setCell ⟨q, 2, none⟩ (.int .i64 ((tn : Int) + 1))) = W3 at *
          have cq0 : W3.cell? ⟨q, 0, none⟩ = some (.pointer (some ⟨f, 0, none⟩)) := by have h9 := Hsk3.out; unfold Seek at h9; rw [blk_cell h9]; rfl
          have cq2 : W3.cell? ⟨q, 2, none⟩ = some (.int .i64 ((tn : Int) + 1)) := by have h9 := Hsk3.out; unfold Seek at h9; rw [blk_cell h9]; rfl
          obtain ⟨tm, htm⟩ : ∃ tm : Int, tm = (tn : Int) + 1 := ⟨_, rfl⟩
          rw [← htm] at cq2
          have hdec : decide ((1000 : Int) < tm) = false := decide_eq_false (by omega)
          clear hgt hgt2 hgt3 htn2 htm
          repeat (first | go_values | gi_guarded | gi_step | gi_upon)
          refine ⟨trivial, fun h9 => (by cases h9), (CallsIn.inRound (w10.heap.size + 1) (callsIn_wide.2 hth.out)).mono ?_⟩
          rintro e W4 ⟨rfl, hf4⟩
          have j14 := HJf.out _ _ _ _ HJ13.out (hf4.mono fun _ _ e => e.elim)
          have hfX4 : Fr (fun k => k = q) X W4 := HfX3.out.trans (hf4.mono fun _ _ e => e.elim)
          have own4 : ∀ k o, W.heap.size ≤ k → w10.heap[k]? = some o → W4.heap[k]? = some o := fun k o hk h => hfX4.get (Own.out k o hk h) (fun e => by have := HB.out; omega)
          have sk4 : Seek W4 q f d (tn + 1) := by have := Hsk3.out; unfold Seek at this ⊢; exact hf4.get this (fun e => e)
          have hth1 := there_le ((HJI.out _ _ _ j14).1.fa.live) hd NX.data.toList
          generalize htq : thereL σ d NX.data.toList = th at *
          have hlX := Hsz.out
          by_cases h0t : th = 0
          · have hsub : subP σ d fuel far.data.toList p x = [] := by unfold subP; rw [if_pos (by rw [← HNXl.out, htq, h0t])]
            have hsut : subT σ d fuel far.data.toList p x = 1 := by unfold subT; rw [if_pos (by rw [← HNXl.out, htq, h0t])]
            have ho := Hoff.out
            have hsu := Hsum.out
            rw [hsub] at ho
            rw [hsut] at hsu
            simp only [List.length_nil, Nat.add_zero] at ho
            have hfin := hide (show rfPost3 w10.heap.size A (OutI σ d fuel far.data.toList p Ln J q f t0 W.heap.size w10) (fun _ _ _ => False) (s + 1) X .normal ⟨#[], []⟩ W4 from
              ⟨⟨hfX4.block _ (by omega) (fun e => by have := HB.out; omega), hfX4.block _ (by omega) (fun e => by have := HB.out; omega)⟩, hfX4.mono (fun k _ e => e ▸ Hlo.out q HB.out.1),
                ⟨Hs.out, ⟨Ao, by rw [ho]; exact j14, fun k e => ⟨.inl (J2.out k e).1, (J2.out k e).2⟩⟩, fun k hk => .inl (Hlo.out k hk), own4, by rw [hsu, ← Nat.add_assoc, ← Htn.out]; exact sk4⟩⟩)
            subst h0t
            clear hsub hsut ho hsu j14 hfX4 own4 sk4 hth1 htq hf4 hth hlX cq0 cq2 c33
            gi_wp2
            exact hfin.out
          · have hti : ((th : Int) == 0) = false := by rw [beq_eq_false_iff_ne]; omega
            obtain ⟨M, hM⟩ : ∃ M, M = pathsP σ d fuel NX.data.toList (p.drop (skipP p)) := ⟨_, rfl⟩
            obtain ⟨TT, hTT⟩ : ∃ TT, TT = triesP σ d fuel NX.data.toList (p.drop (skipP p)) := ⟨_, rfl⟩
            have hsub : subP σ d fuel far.data.toList p x = M := by unfold subP; rw [if_neg (by rw [← HNXl.out, htq]; exact h0t), hM, HNXl.out]
            have hsut : subT σ d fuel far.data.toList p x = 1 + TT := by unfold subT; rw [if_neg (by rw [← HNXl.out, htq]; exact h0t), hTT, HNXl.out]
            have ho := Hoff.out
            have hsu := Hsum.out
            have hfl := Hfl.out
            rw [hsub] at ho hfl
            rw [hsut] at hsu
            have Ho := hide ho
            have Hsu := hide hsu
            have Hfl := hide hfl
            have HM := hide hM
            have HTT := hide hTT
            have N4 := (HJI.out _ _ _ j14).1
            have c1 := N4.cp
            have c3 := N4.cs
            have hq0 := Hord.out
            have c6 : W4.cell? ⟨w4.heap.size, 0, none⟩ = some (.int .i64 (skipP p : Nat)) := by rw [blk_cell (own4 _ _ (by omega) K6.out)]; rfl
            obtain ⟨hcp1, hcp2, hcp3, hcp4⟩ := Hc.out
            obtain ⟨-, hpc1, hpc2, -⟩ := N4.ch.at
            have hcut5 := fun (W5 : World) (h : ChV W5 T (.slice (some ⟨g, o, none⟩) p.length pc) p) => h.cut hcp3 (Nat.le_refl _) (m := p.length - skipP p) rfl
            rw [List.take_length] at hcut5
            obtain ⟨X5, hX5⟩ : ∃ X5, X5 = (if pc = skipP p then some (⟨g, o, none⟩ : Addr) else some ⟨g, o + skipP p * 2, none⟩) := ⟨_, rfl⟩
            rw [← hX5] at hcut5
            have hX6 : (if pc = skipP p then some (⟨g, o, none⟩ : Addr) else some ⟨g, o + skipP p * 2, none⟩) = X5 := hX5.symm
            have Hcut5 := hide hcut5
            have hi1 : (0 : Int) ≤ (skipP p : Nat) := by omega
            have hi2 : ((skipP p : Nat) : Int) ≤ (p.length : Int) := by omega
            have hi3 : (p.length : Int) ≤ (pc : Int) := by omega
            have hi4 : ((skipP p : Nat) : Int) ≤ (pc : Int) := by omega
            have hsp := fun a n c => spaths_any W4.drew (some ⟨q, 0, none⟩) NX a n c
            have Hsp := hide hsp
            have J14 := hide j14
            have HfX4 := hide hfX4
            have Own4 := hide own4
            have Sk4 := hide sk4
            clear hsp j14 hfX4 own4 sk4 hsub hsut ho hsu hfl hM hTT N4 hq0 hcp1 hcp2 hcp3 hcp4 hpc1 hpc2 hcut5 hX5 hlX hth1 htq hth hf4 HJ13 Hsk3 HfX3 cq0 cq2 c33
            gi_wp2
            refine round_any (by kernel_rfl) (by kernel_rfl) ?hlo ?_
            case hlo => exact fun ⟨_, _, h9⟩ => h9
            refine any_mix [] [0, 1, 2, 3, 4] 5 (by kernel_rfl) (fun _ _ d _ _ h => by cases d <;> exact h) ?_
            simp only [List.map_cons, List.map_nil, List.getD_cons_zero, List.getD_cons_succ, List.drop_succ_cons, List.drop_zero]
            refine wpQuiet_nil ?_
            repeat go_big_quiet_step (fail)
            refine wpQuiet_nil ?_
            go_wp2_with fail
            refine (Hsp.out _ _ _).mono ?_
            rintro e w5 ⟨rfl, hw5⟩
            have e1 : w5.heap[W4.heap.size]? = some (.cells #[.pointer (some ⟨q, 0, none⟩)] 66 (0, 0)) := by rw [hw5]; exact blk_alloc (blk_alloc (blk_new' W4.drew _ _ rfl) _) _
            have e2 : w5.heap[W4.heap.size + 1]? = some (.cells #[.string NX] 9 (0, 0)) := by rw [hw5]; exact blk_alloc (blk_new' _ _ _ (by simp)) _
            have e3 : w5.heap[W4.heap.size + 2]? = some (.cells #[.slice X5 (p.length - skipP p) (pc - skipP p)] 32 (0, 0)) := by rw [hw5]; exact blk_new' _ _ _ (by simp)
            have hz5 : w5.heap.size = W4.heap.size + 3 := by rw [hw5]; simp
            have hf5 : Fr (fun _ => False) W4 w5 := by rw [hw5]; exact (((Fr.refl _ _).drew.alloc _).alloc _).alloc _
            have hwcd : W4.drew.heap.size = W4.heap.size := rfl
            rw [hwcd]
            have hfX5 : Fr (fun k => k = q) X w5 := HfX4.out.trans (hf5.mono fun _ _ e => e.elim)
            have own5 : ∀ k o, W.heap.size ≤ k → w10.heap[k]? = some o → w5.heap[k]? = some o := fun k o hk h => hf5.get (Own4.out k o hk h) (fun e => e)
            have sk5 : Seek w5 q f d (tn + 1) := by have := Sk4.out; unfold Seek at this ⊢; exact hf5.get this (fun e => e)
            have j15 := HJf.out _ _ _ _ J14.out (hf5.mono fun _ _ e => e.elim)
            have hl5 : w5.heap[w10.heap.size + 1]? = some (.loop r0) := hfX5.get Hr0.out (fun e => by have := HB.out; omega)
            have hsX4 := HfX4.out.size
            have hsX := Hsz.out
            have hB := HB.out
            have hI5 : InI J (offF Ln (subP σ d fuel far.data.toList p) s) q W.heap.size w10.heap.size W4.heap.size A w5 M.length 0 (fun k => k < w5.heap.size + 1 ∧ ¬ k = q) w5 :=
              ⟨Nat.zero_le _, ⟨Ao, j15, fun k e => ⟨⟨by have := HA1.out k (J2.out k e).1; omega, (J2.out k e).2.1⟩, (J2.out k e).2.2, .inl (by have := HA1.out k (J2.out k e).1; omega), fun _ => (J2.out k e).1⟩⟩, fun h => h.2 rfl, fun k hk hne => ⟨by omega, hne⟩, Fr.refl _ _, fun k o _ h => h⟩
            have hB5 : q < w5.heap.size ∧ W.heap.size ≤ W4.heap.size ∧ W4.heap.size ≤ w5.heap.size ∧ w10.heap.size + 2 ≤ w5.heap.size ∧ q < W.heap.size := by omega
            have HB5 := hide hB5
            have E1 := hide e1
            have E2 := hide e2
            have E3 := hide e3
            have HfX5 := hide hfX5
            have Own5 := hide own5
            have Sk5 := hide sk5
            have Hz5 := hide hz5
            have HAq := hide (Hlo.out q HB.out.1)
            clear e1 e2 e3 hz5 hf5 hwcd hfX5 own5 sk5 j15 hsX4 hsX hB hB5 Hsp hw5 c1 c3 c6 hX6 hi1 hi2 hi3 hi4 HfX4 Own4 Sk4 J14
            go_wp2_with fail
            gi_wp2_with fail
            refine rf_law5a (α := List UInt8) (σ := Nat) (q := 78) hl5 (fun k => k = q) (fun k e => by have := HB5.out; omega) 39 #[.pointer (some ⟨W4.heap.size + 2, 0, none⟩), .pointer (some ⟨W4.heap.size + 1, 0, none⟩), .pointer (some ⟨W4.heap.size, 0, none⟩)] rfl (enters_of Tryz.func39 (by kernel_rfl) rfl) nenc 9
              (NStep M) (fun s => s = M.length) 0 (InI J (offF Ln (subP σ d fuel far.data.toList p) s) q W.heap.size w10.heap.size W4.heap.size A w5 M.length) (fun s A W1 W2 h1 hf => h1.frame HJf.out HB5.out.2.2.2.2 ⟨HB5.out.2.1, HB5.out.2.2.1⟩ HAq.out hf) ?hImono5 hI5
              (fun W1 => Seek W1 q f d (tn + 1 + TT)) (fun W1 W2 h1 hf => by unfold Seek at h1 ⊢; exact hf.get h1 (by have := HB5.out; omega)) ?hiter5 ?assign5 ?body5 ?done5
            case hImono5 =>
              rintro s1 A1 A2 W1 ⟨le, ⟨Ao, j1, j2⟩, nq, lo, fr, own⟩ hA hA'
              exact ⟨le, ⟨Ao, j1, fun k e => ⟨hA k (j2 k e).1, (j2 k e).2⟩⟩, fun e => (hA' q e).elim nq (fun e => by have := HB5.out; omega), fun k hk hne => hA k (lo k hk hne), fr, own⟩
            case hiter5 =>
              intro l' J' W' hJI' hJf' hJA' hY' h0' hfw
              have hpl : (p.drop (skipP p)).length < fuel := by have := Hpf.out; have := Hc.out; rw [List.length_drop]; omega
              refine callsIn_wide.2 ((ih.out (n - 1 - 1 - 1) (W4.heap.size + 2) (W4.heap.size + 1) W4.heap.size (.slice X5 (p.length - skipP p) (pc - skipP p)) (p.drop (skipP p)) NX (tn + 1) l' J' W' hpl (by have := HNXz.out.1; have := Hfar.out; omega)
                (by rw [← HTT.out]; have := Hsu.out; have := Hsle.out; have := Htr.out; have := Htn.out; omega) (fun s1 A1 W1 h1 => ?nm5) hJf' hJA' (by rw [← HM.out]; exact hY') _ h0' (by have := Sk5.out; unfold Seek at this ⊢; exact hfw.get this (fun e => e))).mono ?_)
              case nm5 =>
                obtain ⟨le, ⟨Ao1, j1, j2⟩, nq, lo, fr, own⟩ := hJI' s1 A1 W1 h1
                have N := (HJI.out _ _ _ j1).1
                exact ⟨⟨N.fa, N.ml, Hcut5.out W1 N.ch, by rw [blk_cell (own _ _ (.inr (by omega)) E3.out)]; rfl, by rw [blk_cell (own _ _ (.inr (by omega)) E2.out)]; rfl, by rw [blk_cell (own _ _ (.inr (by omega)) E1.out)]; rfl⟩, nq⟩
              rintro e W1 ⟨h1, ⟨A1, h2⟩, h3⟩
              exact ⟨h1, _, A1, rfl, by rw [← HM.out] at h2; exact h2, by rw [← HTT.out] at h3; exact h3⟩
            case assign5 =>
              intro l' y W1 K hK
              have hK := hide hK
              gi_wp2
              exact hK.out
            case body5 =>
              rintro j A5 y j' Y ⟨r1, hr1⟩ ⟨hj, hy0, rfl⟩ hI5' hszY hB0 hB1
              obtain ⟨Ao5, i1, i2⟩ := hI5'.j
              have hg9 : L[offF Ln (subP σ d fuel far.data.toList p) s + j]? = some y := by rw [Hfl.out j hj, List.getElem?_eq_getElem hj, hy0]
              obtain ⟨hlt9, hv9⟩ := List.getElem?_eq_some_iff.1 hg9
              obtain ⟨fn, tmps, assign, body, hy, hR⟩ := HY.out (offF Ln (subP σ d fuel far.data.toList p) s + j) Ao5 y (offF Ln (subP σ d fuel far.data.toList p) s + (j + 1)) Y ⟨hlt9, hv9.symm, by omega⟩ i1
              have c4 : Y.cell? ⟨W.heap.size, 0, none⟩ = some (.func (.yield l) #[] #[]) := by rw [blk_cell (hI5'.own _ _ (.inl ⟨Nat.le_refl _, by have := HB.out; omega⟩) (Own5.out _ _ (Nat.le_refl _) K4.out))]; rfl
              have HR := hide hR
              have HI5 := hide hI5'
              have I2 := hide i2
              have HszY := hide hszY
              have Hj := hide hj
              have HB1 := hide hB1
              simp only [nenc] at hy ⊢
              obtain ⟨ys, hys⟩ : ∃ ys : ByteArray, ys = ⟨y.toArray⟩ := ⟨_, rfl⟩
              rw [← hys] at hy ⊢
              clear hR hI5' i1 i2 hszY hB0 hB1 hr1 hg9 hlt9 hv9 hl5 hI5 hj hys hy0
              gi_wp2_with fail
              refine ⟨fun h9 => (by cases h9), ?_⟩
              refine (roundIn_free w5.heap.size HR.out).mono ?_
              rintro e W3 ⟨hf9, rfl, hJ3⟩
              have hst := HI5.out.step HJA.out HB5.out.2.2.2.2 ⟨HB5.out.2.1, HB5.out.2.2.1, HB5.out.2.2.2.1⟩ Hj.out HszY.out I2.out hf9 hJ3
              have hfin := hide (show rfPost5 w5.heap.size A5 (InI J (offF Ln (subP σ d fuel far.data.toList p) s) q W.heap.size w10.heap.size W4.heap.size A w5 M.length) (j + 1) Y .normal ⟨#[], []⟩ W3 from
                ⟨hf9.block _ (by have := HszY.out; omega) (fun e => by have := I2.out _ e; have := HB5.out; omega), hst.1, hst.2⟩)
              clear HR hf9 hJ3 hst
              gi_wp2
              exact hfin.out
            case done5 =>
              rintro j A5 Y rfl hI5' hsk5
              obtain ⟨le, ⟨Ao5, i1, i2⟩, nq, lo, fr, own⟩ := hI5'
              have hX5s := HfX5.out
              have hB := HB.out
              have hB5 := HB5.out
              have hlX := Hsz.out
              have hsY := fr.size
              have hsX := hX5s.size
              have hd1 : ∀ k, w10.heap.size ≤ k → k < w10.heap.size + 2 → Y.heap[k]? = X.heap[k]? := fun k h1 h2 => by
                have h3 : k < X.heap.size := by omega
                have h4 := Array.getElem?_eq_getElem h3
                rw [h4]
                exact own k _ (.inl ⟨by omega, by omega⟩) (hX5s.get h4 (fun e => by omega))
              have hfin := hide (show rfPost3 w10.heap.size A (OutI σ d fuel far.data.toList p Ln J q f t0 W.heap.size w10) (fun _ _ _ => False) (s + 1) X .normal ⟨#[], []⟩ Y from
                ⟨⟨hd1 _ (by omega) (by omega), hd1 _ (by omega) (by omega)⟩, (hX5s.mono (fun k _ e => e ▸ HAq.out)).trans fr,
                  ⟨Hs.out, ⟨Ao5, by rw [Ho.out]; exact i1, fun k e => ⟨by
                    by_cases hk : k < w5.heap.size
                    · exact .inl ((i2 k e).2.2.2 hk)
                    · exact .inr ⟨by omega, HJA.out _ _ _ i1 k e⟩, fun e2 => nq (e2 ▸ (i2 k e).1), (i2 k e).2.1⟩⟩, fun k hk => .inl (Hlo.out k hk), fun k o hk h => own k o (.inl ⟨hk, by have := blk_lt h; omega⟩) (Own5.out k o hk h), by
                    have e : tn + 1 + TT = t0 + sumF Ln (subT σ d fuel far.data.toList p) (s + 1) := by have := Hsu.out; have := Htn.out; omega
                    rw [← e]; exact hsk5⟩⟩)
              clear i1 i2 nq lo fr own hX5s hB hB5 hlX hsY hsX hd1 hsk5 hl5 hI5
              gi_wp2
              exact hfin.out
        case done =>
          rintro s A X rfl hI _ hK
          obtain ⟨le, ⟨Ao, j1, j2⟩, lo, own, sk⟩ := hI
          rw [offF_end, ← HLs.out] at j1
          rw [sumF_end, ← HTs.out] at sk
          have hput : Fr (fun k => k = w10.heap.size) X (X.putObj w10.heap.size (.deferred none)) := fr_putObj _ rfl
          have hout := hide (show (∃ A, J L.length A (X.putObj w10.heap.size (.deferred none))) ∧ Seek (X.putObj w10.heap.size (.deferred none)) q f d (t0 + tt) from
            ⟨⟨Ao, HJf.out _ _ _ _ j1 (hput.mono fun k _ e h9 => by have := j2 k h9; have := HB.out; omega)⟩, by unfold Seek at sk ⊢; exact hput.get sk (by have := HB.out; omega)⟩)
          clear j1 j2 sk own lo le hput
          gi_wp2
          refine ⟨by simp, .inl ⟨_, _, rfl, run_takeDeferred hK, ?_⟩⟩
          exact ⟨_, results_none rfl _ _ _, ⟨_, rfl⟩, hout.out⟩
theorem paths1_iter (σ : FSt) (f : Nat) (S : Nat → Prop) (pp : Nat → Nat) (T : Nat → Prop) (q d : Nat) (hcap : CapB σ) (hd : d ≤ 9223372036854775807) : ∀ (fuel n bp bf bs : Nat) (pv : Value) (p : List Ch) (far : ByteArray) (t0 l : Nat) (J : Nat → (Nat → Prop) → World → Prop) (W : World) (_ : p.length < fuel) (_ : far.size + 2000 * fuel ≤ 1000000) (_ : t0 + triesP σ d fuel far.data.toList p ≤ 1000)
    (_ : ∀ s A W, J s A W → PtI σ f S pp T q bp bf bs pv p far W ∧ ¬ A q) (_ : ∀ s (A : Nat → Prop) W W', J s A W → Fr (fun k => ¬ A k) W W' → J s A W') (_ : ∀ s A W, J s A W → ∀ k, A k → k < W.heap.size)
    (_ : ∀ s A x s' W, NStep (pathsP σ d fuel far.data.toList p) s x s' → J s A W → YieldAt FW (n - 1) Tryz.prog l #[nenc x] W fun e W' => Fr A W W' ∧ e = .returned (.bool true) ∧ J s' (fun k => A k ∨ (W.heap.size ≤ k ∧ k < W'.heap.size)) W')
    (A0 : Nat → Prop) (_ : J 0 A0 W) (_ : Seek W q f d t0),
    Calls Tryz.prog 39 #[.func (.yield l) #[] #[], .pointer (some ⟨bp, 0, none⟩), .pointer (some ⟨bf, 0, none⟩), .pointer (some ⟨bs, 0, none⟩)] W fun e W' => (∃ v, e = .returned v) ∧ (∃ A, J (pathsP σ d fuel far.data.toList p).length A W') ∧ Seek W' q f d (t0 + triesP σ d fuel far.data.toList p)
  | 0, n, bp, bf, bs, pv, p, far, t0, l, J, W, h1, _, _, _, _, _, _, _, _, _ => absurd h1 (Nat.not_lt_zero _)
  | fuel + 1, n, bp, bf, bs, pv, p, far, t0, l, J, W, h1, h2, h3, h4, h5, h6, h7, A0, h8, h9 =>
    paths1_step σ f S pp T q d hcap hd fuel (hide (paths1_iter σ f S pp T q d hcap hd fuel)) n bp bf bs pv p far t0 l J W h1 h2 h3 h4 h5 h6 h7 A0 h8 h9
end Go.Proofs.YtlhmmiolnbgloaaGreatDoor
