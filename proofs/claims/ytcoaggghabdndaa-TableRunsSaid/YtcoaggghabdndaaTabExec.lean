/- Contract of table.Table[int].Exec. Conditions: the contract's own premises. -/
import Derived.Test.YtcoaggghabdndaaTabRefX
import Derived.OwnWalkIn
namespace Go.Proofs.Ytcoaggghabdndaa
open Go.RowKit Go.Shelf

attribute [local go_sem] Oper.semAt_some

theorem TabF.frame2 {w w' : World} {t : Nat} {p : Nat → Nat} {st : TSt} {S S' : Nat → Prop} {cs : Array Value} (h : TabF w t p st S cs) (hf : Fr S' w w') (ht : ¬ S' t) (hp : ∀ i, i < 32 → (st i).isSome = true → ¬ S' (p i)) : TabF w' t p st S cs where
  hb := hf.get h.hb ht
  hcs := h.hcs
  hc := h.hc
  hs i x m hi e := hf.get (h.hs i x m hi e) (hp i hi (by simp [e]))
  inj := h.inj
  hne := h.hne
  own := h.own
  owns := h.owns
  up k hk := h.up k (Nat.le_trans hf.size hk)
theorem TabF.slot_lt {w : World} {t : Nat} {p : Nat → Nat} {st : TSt} {S : Nat → Prop} {cs : Array Value} (h : TabF w t p st S cs) (i : Nat) (hi : i < 32) (hs : (st i).isSome = true) : p i < w.heap.size := by
  obtain ⟨⟨x, m⟩, e⟩ := Option.isSome_iff_exists.1 hs
  exact blk_lt (h.hs i x m hi e)

theorem exL_skip {st : TSt} {a b : Nat} (hab : a ≤ b) (h : ∀ j, a ≤ j → j < b → st j = none) : exL st b = exL st a := by
  induction b with
  | zero => obtain rfl : a = 0 := by omega
            rfl
  | succ b ih =>
    by_cases e : a = b + 1
    · rw [e]
    · rw [exL_succ, ih (by omega) (fun j h1 h2 => h j h1 (by omega))]
      have : exAt st b = none := by unfold exAt; rw [h b (by omega) (by omega)]
      simp [this]
theorem exSt_skip {st : TSt} {a b : Nat} (hab : a ≤ b) (h : ∀ j, a ≤ j → j < b → st j = none) : exSt st b = exSt st a := by
  induction b with
  | zero => obtain rfl : a = 0 := by omega
            rfl
  | succ b ih =>
    by_cases e : a = b + 1
    · rw [e]
    · rw [exSt_same, ih (by omega) (fun j h1 h2 => h j h1 (by omega))]
      unfold exAt; rw [h b (by omega) (by omega)]

def ExecPost (w : World) (t : Nat) (st : TSt) (S : Nat → Prop) (e : Ending) (w' : World) : Prop :=
  ∃ v, e = .returned v ∧ w'.ownsRow w.heap.size 3 1 v (exL st 32).length (ints (exL st 32)) ∧ TabAt w' t (exSt st 32) S ∧ Fr S w w'
structure ExecI (w : World) (t : Nat) (st : TSt) (S : Nat → Prop) (s : Nat) (W : World) : Prop where
  le : s ≤ 32
  bt : W.heap[w.heap.size]? = some (.cells #[.pointer (some ⟨t, 0, none⟩)] 24 (0, 0))
  bl : ∃ v, W.heap[w.heap.size + 1]? = some (.cells #[v] 22 (0, 0)) ∧ W.ownsRow (w.heap.size + 5) 3 1 v (exL st s).length (ints (exL st s))
  bi : W.heap[w.heap.size + 2]? = some (.cells #[.pointer (some ⟨t, 0, none⟩)] 24 (0, 0))
  tab : ∃ p cs, TabF W t p (exSt st s) S cs ∧ t < w.heap.size ∧ ∀ i, i < 32 → (exSt st s i).isSome = true → p i < w.heap.size
  fr : Fr S w W
theorem ExecI.frame {w W W' : World} {t : Nat} {st : TSt} {S S' : Nat → Prop} {s : Nat} (h : ExecI w t st S s W) (hf : Fr S' W W') (hS : ∀ k, S' k → k = w.heap.size + 3 ∨ k = w.heap.size + 4) : ExecI w t st S s W' := by
  obtain ⟨v, h1, h2⟩ := h.bl
  obtain ⟨p, cs, ht, h3, h4⟩ := h.tab
  refine ⟨h.le, hf.get h.bt (fun e => by have := hS _ e; omega), ⟨v, hf.get h1 (fun e => by have := hS _ e; omega), own_frame h2 hf (fun g e1 e2 => by have := (h2.lt _ e1).1; have := hS _ e2; omega)⟩, hf.get h.bi (fun e => by have := hS _ e; omega),
    ⟨p, cs, ht.frame2 hf (fun e => by have := hS _ e; omega) (fun i hi e1 e2 => by have := hS _ e2; have := h4 i hi e1; omega), h3, h4⟩, h.fr.trans' hf (fun i hi e => by have := hS _ e; omega)⟩
set_option maxRecDepth 100000 in
set_option maxHeartbeats 4000000 in
theorem exec_any (w : World) (t : Nat) (st : TSt) (S : Nat → Prop) (ht : TabAt w t st S) :
    Calls Try.prog 36 #[.pointer (some ⟨t, 0, none⟩)] w (ExecPost w t st S) := by
  obtain ⟨i0, hinf, hz0, hz1, hz2⟩ := info_parts Try.info3
  refine (callsIn_wide (n := 5)).1 ?_
  refine callsIn_of_wp_marks Try.func36 rfl trivial ?_ rfl
  simp only [Try.ntmps36, List.size_toArray, List.length_cons, List.length_nil, Nat.reduceAdd, Nat.reduceSub, Array.replicate_succ, Array.replicate_zero, List.push_toArray, List.append_toArray, List.nil_append, List.cons_append]
  gi_wp2_with (refine ⟨trivial, ?_⟩; gi_at_call 40; refine (callsIn_wide.2 (all_any _ _)).mono ?_; rintro e w' ⟨rfl, rfl⟩)
  have h0 : ExecI w t st S 0 (((w.alloc (.cells #[.pointer (some ⟨t, 0, none⟩)] 24 (0, 0))).alloc (.cells #[.slice none 0 0] 22 (0, 0))).alloc (.cells #[.pointer (some ⟨t, 0, none⟩)] 24 (0, 0))) := by
    obtain ⟨p, cs, htf⟩ := ht
    have hfr : Fr (fun _ => False) w (((w.alloc (.cells #[.pointer (some ⟨t, 0, none⟩)] 24 (0, 0))).alloc (.cells #[.slice none 0 0] 22 (0, 0))).alloc (.cells #[.pointer (some ⟨t, 0, none⟩)] 24 (0, 0))) := (((Fr.refl _ _).alloc _).alloc _).alloc _
    refine ⟨by omega, blk_alloc (blk_alloc (blk_new _ _) _) _, ⟨_, blk_alloc (blk_new' _ _ _ (by simp)) _, by simpa [exL, ints] using World.ownsRow_nil _ _ _ _⟩, blk_new' _ _ _ (by simp),
      ⟨p, cs, by rw [exSt_zero]; exact htf.frame hfr (fun _ _ _ e => e), blk_lt htf.hb, fun i hi e => htf.slot_lt i hi (by rw [exSt_zero] at e; exact e)⟩, hfr.mono (fun _ _ e => e.elim)⟩
  refine rf_law (α := Nat × Int) (σ := Nat) 51 #[.pointer (some ⟨w.heap.size + 2, 0, none⟩)] rfl (enters_of Try.func51 (by kernel_rfl) rfl) tenc (fun _ => rfl)
    (TStep id (exSt st) (fun _ fd => fd + 1)) (TFin id (exSt st)) 0 (ExecI w t st S) (fun _ _ => False)
    (fun s A B h hg => h.frame hg (fun k e => by simp at e; omega)) (fun _ _ _ h _ => h) (fun _ _ _ _ _ h _ _ => h) h0
    (fun l J Jx W hJI _ _ hY h0 => all1_iter _ (by omega) _ (some ⟨t, 0, none⟩) id (exSt st) (fun _ fd => fd + 1) (fun _ _ => rfl) (ExecI w t st S)
      (fun s W h => ⟨.inr ⟨t, S, rfl, by obtain ⟨p, cs, h1, _⟩ := h.tab; exact ⟨p, cs, h1⟩⟩, by rw [blk_cell h.bi]; rfl⟩) 0 rfl l J Jx W hJI hY h0)
    (fun x => { tmps := #[.pointer (some ⟨t, 0, none⟩), .pointer (some ⟨w.heap.size, 0, none⟩), .slice none 0 0, .pointer (some ⟨w.heap.size + 1, 0, none⟩), .int .i64 x.1, .int .i64 x.2, .pointer (some ⟨t, 0, none⟩),
      .func (.func 51) #[] #[.pointer (some ⟨w.heap.size + 2, 0, none⟩)], .int .i64 x.1, .int .i64 x.2, undef, undef, undef, undef, undef, undef, undef, undef, undef, undef, undef, undef, undef, undef, undef, undef, undef, undef, undef], defers := [] }) ?assign ?body ?done ?stop
  case assign =>
    intro l x W K hK
    gi_wp2
    simpa [tenc] using hK
  case body =>
    rintro l s ⟨k, x⟩ s' W ⟨hp1, hp2, hp3, ⟨m, hp4⟩, rfl⟩ hi hsz
    simp only [id] at hp1 hp2 hp3 hp4 ⊢
    have hp3' : ∀ j, s ≤ j → j < k → st j = none := fun j h1 h2 => by have := hp3 j h1 h2; rw [exSt_eq, if_neg (by omega)] at this; exact this
    have hst : st k = some (x, m) := by rw [exSt_eq, if_neg (by omega)] at hp4; exact hp4
    obtain ⟨le, bt, ⟨v, bl, hown⟩, bi, ⟨p, cs, tab, htl, hpl⟩, fr⟩ := hi
    rw [← exL_skip hp1 hp3'] at hown
    rw [← exSt_skip hp1 hp3'] at tab hpl
    clear hp3 hp3' hp4
    have hck := hide (exSt_at st k)
    have c1 : W.cell? ⟨w.heap.size, 0, none⟩ = some (.pointer (some ⟨t, 0, none⟩)) := by rw [blk_cell bt]; rfl
    have c2 : W.cell? ⟨t, k, none⟩ = some (.pointer (some ⟨p k, 0, none⟩)) := by rw [blk_cell tab.hb, tab.hc k hp2, hck.out, hst]; rfl
    have c3 : W.cell? ⟨p k, 1, none⟩ = some (.bool m) := by rw [blk_cell (tab.hs k x m hp2 (by rw [hck.out, hst]))]; rfl
    have c4 : W.cell? ⟨w.heap.size + 1, 0, none⟩ = some v := by rw [blk_cell bl]; rfl
    have z4 := blk_frozen bl
    have hxl := exL_le st k
    have hL := hide (exL_succ st k)
    have Hst := hide hst
    cases m with
    | false =>
      have hex : exAt st k = none := by simp [exAt, hst]
      have hI : ExecI w t st S (k + 1) W := ⟨by omega, bt, ⟨v, bl, by rw [hL.out, hex]; simpa using hown⟩, bi, ⟨p, cs, by rw [exSt_same hex]; exact tab, htl, by rw [exSt_same hex]; exact hpl⟩, fr⟩
      clear hex hst hown z4
      gi_wp2
      exact ⟨⟨rfl, rfl⟩, hI⟩
    | true =>
      have hex : exAt st k = some x := by simp [exAt, hst]
      have Hex := hide hex
      clear hex hst
      gi_wp2_with (gi_at_builtin; refine wpListIn_append_own _ rfl _ _ 22 rfl (w.heap.size + 5) 3 i0 (.int .i64 0) 1 8 Try.underlying22 hinf hz0 hz1 hz2 rfl (by decide) _ _ _ rfl (hown.alloc _) ⟨W.heap.size, 0, none⟩ 1 1 [.int .i64 x] rfl rfl ?c1 ?c2 ?c3 ?c4 ?c5 ?_)
      case c1 => exact cell_one_new _ _ _
      case c2 => intro u hu; simp at hu; subst hu; rfl
      case c3 => unfold maxLen; omega
      case c4 => omega
      case c5 => simp only [World.size_alloc] at hsz ⊢; omega
      intro v' w1 hown' hgrow _
      obtain ⟨va', vc', rfl⟩ := own_form hown'
      have hf1 : Fr (fun q => v.ownBlock = some q) W w1 := ((Fr.refl _ _).alloc _).trans (Fr.of_grown hgrow)
      have hvb : ∀ q, v.ownBlock = some q → w.heap.size + 5 ≤ q := fun q e => (hown.lt _ e).1
      have bt1 := hf1.get bt (fun e => by have := hvb _ e; omega)
      have bl1 := hf1.get bl (fun e => by have := hvb _ e; omega)
      have bi1 := hf1.get bi (fun e => by have := hvb _ e; omega)
      have tab1 := tab.frame2 hf1 (fun e => by have := hvb _ e; omega) (fun i hi e1 e2 => by have := hvb _ e2; have := hpl i hi e1; omega)
      have frW : Fr S w w1 := fr.trans' hf1 (fun i hi e => by have := hvb _ e; omega)
      have hD1 := hf1.block (w.heap.size + 3)
      have hD2 := hf1.block (w.heap.size + 4)
      have hD1 := hD1 (by simp only [World.size_alloc] at hsz; omega) (fun e => by have := hvb _ e; omega)
      have hD2 := hD2 (by simp only [World.size_alloc] at hsz; omega) (fun e => by have := hvb _ e; omega)
      have hD1 := hide hD1
      have hD2 := hide hD2
      have c5 : w1.cell? ⟨w.heap.size + 1, 0, none⟩ = some v := by rw [blk_cell bl1]; rfl
      have z5 := blk_frozen bl1
      have c6 : w1.cell? ⟨w.heap.size, 0, none⟩ = some (.pointer (some ⟨t, 0, none⟩)) := by rw [blk_cell bt1]; rfl
      have c7 : w1.cell? ⟨t, k, none⟩ = some (.pointer (some ⟨p k, 0, none⟩)) := by rw [blk_cell tab1.hb, tab1.hc k hp2, hck.out, Hst.out]; rfl
      have z7 := blk_frozen tab1.hb
      have hI : ExecI w t st S (k + 1) ((w1.setCell ⟨w.heap.size + 1, 0, none⟩ (.slice va' ((exL st k).length + 1) vc')).setCell ⟨t, k, none⟩ (.pointer none)) := by
        have e1 : (exL st (k + 1)).length = (exL st k).length + 1 := by rw [hL.out, Hex.out]; simp
        have e2 : ints (exL st (k + 1)) = ints (exL st k) ++ [.int .i64 x] := by rw [hL.out, Hex.out]; simp [ints]
        have hs1 := fr1 w1 (w.heap.size + 1) 0 (.slice va' ((exL st k).length + 1) vc')
        have hs2 := fr1 (w1.setCell ⟨w.heap.size + 1, 0, none⟩ (.slice va' ((exL st k).length + 1) vc')) t k (.pointer none)
        have tab2 := tab1.frame2 hs1 (fun e => by omega) (fun i hi e1 e2 => by have := hpl i hi e1; omega)
        have tab3 := tab2.cut k hp2
        have hb0 : ∀ q, (Value.slice va' ((exL st k).length + 1) vc').ownBlock = some q → w.heap.size + 5 ≤ q := fun q e => (hown'.lt _ e).1
        have bl2 := blk_set bl1 0 (.slice va' ((exL st k).length + 1) vc')
        refine ⟨by omega, blk_set_other (blk_set_other bt1 _ _ (by simp)) _ _ (by simp; omega), ⟨_, blk_set_other bl2 _ _ (by simp; omega), ?_⟩, blk_set_other (blk_set_other bi1 _ _ (by simp)) _ _ (by simp; omega), ⟨p, cs.setIfInBounds k (.pointer none), ?_, htl, ?_⟩, ?_⟩
        · rw [e1, e2]
          exact own_frame (own_frame hown' hs1 (fun g e1 e2 => by have := hb0 _ e1; omega)) hs2 (fun g e1 e2 => by have := hb0 _ e1; omega)
        · rw [exSt_cut Hst.out]; exact tab3
        · intro i hi e
          rw [exSt_cut Hst.out, set_eq] at e
          by_cases h9 : i = k
          · rw [if_pos h9] at e; cases e
          · rw [if_neg h9] at e; exact hpl i hi e
        · exact (frW.trans' hs1 (fun i hi e => by omega)).trans' hs2 (fun i hi e => by rw [e]; exact tab.own)
      clear hown hown' hgrow hf1 c1 c2 c3 c4 z4
      gi_wp2
      refine ⟨⟨?_, ?_⟩, hI⟩
      · simp only [World.size_alloc]; rw [Below.heap_setCell _ _ _ _ (by simp; omega), Below.heap_setCell _ _ _ _ (by simp; omega)]; exact hD1.out
      · simp only [World.size_alloc]; rw [Below.heap_setCell _ _ _ _ (by simp; omega), Below.heap_setCell _ _ _ _ (by simp; omega)]; exact hD2.out
  case done =>
    rintro s W hfin hi hK
    obtain ⟨v, hl, hown⟩ := hi.bl
    have hc : W.cell? ⟨w.heap.size + 1, 0, none⟩ = some v := by rw [blk_cell hl]; rfl
    gi_wp2
    refine ⟨by simp, .inl ⟨_, _, rfl, run_takeDeferred hK, ?_⟩⟩
    simp only [World.size_alloc]
    obtain ⟨le, _, _, _, ⟨p, cs, tab, htl, hpl⟩, fr⟩ := hi
    have hput := fr_putObj (S := fun k => k = w.heap.size + 3) (W := W) (r := w.heap.size + 3) (.deferred none) rfl
    have h32 : ∀ j, s ≤ j → j < 32 → st j = none := fun j h1 h2 => by have := hfin j h1 h2; rw [exSt_eq, if_neg (by omega)] at this; exact this
    rw [← exL_skip le h32] at hown
    rw [← exSt_skip le h32] at tab hpl
    have hfin9 : Fr S w (W.putObj (w.heap.size + 3) (.deferred none)) := fr.trans' hput (fun i hi e => by omega)
    refine ⟨_, results_tmp rfl _ _ _, v, rfl, ?_, ⟨p, cs, ?_⟩, hfin9⟩
    · exact own_base (own_frame hown hput (fun g e1 e2 => by have := (hown.lt _ e1).1; omega)) (fun g e => by have := (hown.lt _ e).1; omega)
    · exact tab.frame2 hput (fun e => by omega) (fun i hi e1 e2 => by have := hpl i hi e1; omega)
  case stop =>
    rintro c W h _
    exact h.elim
end Go.Proofs.Ytcoaggghabdndaa
