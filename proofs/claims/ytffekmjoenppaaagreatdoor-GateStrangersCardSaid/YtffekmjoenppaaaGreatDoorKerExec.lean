/- Contract of table.Table[*shyard/gate.desc].Exec. Conditions: the contract's own premises. -/
import Derived.Test.YtffekmjoenppaaaGreatDoorGTabX
import Derived.Test.YtffekmjoenppaaaGreatDoorKerL
import Derived.Test.YtffekmjoenppaaaGreatDoorOwn
import Derived.OwnWalk
import Derived.Laws.AppendOwn
import Derived.OwnWalkIn
import Derived.Test.YtffekmjoenppaaaGreatDoorKerOwn
namespace Go.Proofs.YtffekmjoenppaaaGreatDoor
open Go.RowKit Go.Shelf

attribute [local go_sem] Oper.semAt_some

theorem TabF.frame2 {w w' : World} {t : Nat} {p : Nat → Nat} {st : TSt} {S S' : Nat → Prop} {cs : Array Value} (h : TabF w t p st S cs) (hf : Fr S' w w') (ht : ¬ S' t) (hp : ∀ i, i < 32 → (st i).isSome = true → ¬ S' (p i)) : TabF w' t p st S cs where
  hb := hf.get h.hb ht
  hcs := h.hcs
  hc := h.hc
  hs i x m hi e := hf.get (h.hs i x m hi e) (hp i hi (by simp [e]))
  inj := h.inj
  hne := h.hne
  own := h.own
  owns := h.owns
  up k hk := h.up k (Nat.le_trans hf.size hk)
theorem TabF.slot_lt {w : World} {t : Nat} {p : Nat → Nat} {st : TSt} {S : Nat → Prop} {cs : Array Value} (h : TabF w t p st S cs) (i : Nat) (hi : i < 32) (hs : (st i).isSome = true) : p i < w.heap.size := by
  obtain ⟨⟨x, m⟩, e⟩ := Option.isSome_iff_exists.1 hs
  exact blk_lt (h.hs i x m hi e)

theorem exL_skip {st : TSt} {a b : Nat} (hab : a ≤ b) (h : ∀ j, a ≤ j → j < b → st j = none) : exL st b = exL st a := by
  induction b with
  | zero => obtain rfl : a = 0 := by omega
            rfl
  | succ b ih =>
    by_cases e : a = b + 1
    · rw [e]
    · rw [exL_succ, ih (by omega) (fun j h1 h2 => h j h1 (by omega))]
      have : exAt st b = none := by unfold exAt; rw [h b (by omega) (by omega)]
      simp [this]
theorem exSt_skip {st : TSt} {a b : Nat} (hab : a ≤ b) (h : ∀ j, a ≤ j → j < b → st j = none) : exSt st b = exSt st a := by
  induction b with
  | zero => obtain rfl : a = 0 := by omega
            rfl
  | succ b ih =>
    by_cases e : a = b + 1
    · rw [e]
    · rw [exSt_same, ih (by omega) (fun j h1 h2 => h j h1 (by omega))]
      unfold exAt; rw [h b (by omega) (by omega)]

def ExecPost (w : World) (t : Nat) (st : TSt) (S : Nat → Prop) (e : Ending) (w' : World) : Prop :=
  ∃ v, e = .returned v ∧ w'.ownsRow w.heap.size 60 1 v (exL st 32).length (ptrs (exL st 32)) ∧ TabAt w' t (exSt st 32) S ∧ Fr S w w'
structure ExecI (w : World) (t : Nat) (st : TSt) (S : Nat → Prop) (s : Nat) (W : World) : Prop where
  le : s ≤ 32
  bt : W.heap[w.heap.size]? = some (.cells #[.pointer (some ⟨t, 0, none⟩)] 58 (0, 0))
  bl : ∃ v, W.heap[w.heap.size + 1]? = some (.cells #[v] 156 (0, 0)) ∧ W.ownsRow (w.heap.size + 5) 60 1 v (exL st s).length (ptrs (exL st s))
  bi : W.heap[w.heap.size + 2]? = some (.cells #[.pointer (some ⟨t, 0, none⟩)] 58 (0, 0))
  tab : ∃ p cs, TabF W t p (exSt st s) S cs ∧ t < w.heap.size ∧ ∀ i, i < 32 → (exSt st s i).isSome = true → p i < w.heap.size
  fr : Fr S w W
theorem ExecI.frame {w W W' : World} {t : Nat} {st : TSt} {S S' : Nat → Prop} {s : Nat} (h : ExecI w t st S s W) (hf : Fr S' W W') (hS : ∀ k, S' k → k = w.heap.size + 3 ∨ k = w.heap.size + 4) : ExecI w t st S s W' := by
  obtain ⟨v, h1, h2⟩ := h.bl
  obtain ⟨p, cs, ht, h3, h4⟩ := h.tab
  refine ⟨h.le, hf.get h.bt (fun e => by have := hS _ e; omega), ⟨v, hf.get h1 (fun e => by have := hS _ e; omega), own_frame h2 hf (fun g e1 e2 => by have := (h2.lt _ e1).1; have := hS _ e2; omega)⟩, hf.get h.bi (fun e => by have := hS _ e; omega),
    ⟨p, cs, ht.frame2 hf (fun e => by have := hS _ e; omega) (fun i hi e1 e2 => by have := hS _ e2; have := h4 i hi e1; omega), h3, h4⟩, h.fr.trans' hf (fun i hi e => by have := hS _ e; omega)⟩
set_option maxRecDepth 100000 in
set_option maxHeartbeats 4000000 in
theorem exec_any (w : World) (t : Nat) (st : TSt) (S : Nat → Prop) (ht : TabAt w t st S) :
    Calls Tryz.prog 78 #[.pointer (some ⟨t, 0, none⟩)] w (ExecPost w t st S) := by
  obtain ⟨i0, hinf, hz0, hz1, hz2⟩ := info_parts Tryz.info60
  refine (callsIn_wide (n := 5)).1 ?_
  refine callsIn_of_wp_marks Tryz.func78 rfl trivial ?_ rfl
  simp only [Tryz.ntmps78, List.size_toArray, List.length_cons, List.length_nil, Nat.reduceAdd, Nat.reduceSub, Array.replicate_succ, Array.replicate_zero, List.push_toArray, List.append_toArray, List.nil_append, List.cons_append]
  gi_wp2_with (refine ⟨trivial, ?_⟩; gi_at_call 17; refine (callsIn_wide.2 (all_any _ _)).mono ?_; rintro e w' ⟨rfl, rfl⟩)
  have h0 : ExecI w t st S 0 (((w.alloc (.cells #[.pointer (some ⟨t, 0, none⟩)] 58 (0, 0))).alloc (.cells #[.slice none 0 0] 156 (0, 0))).alloc (.cells #[.pointer (some ⟨t, 0, none⟩)] 58 (0, 0))) := by
    obtain ⟨p, cs, htf⟩ := ht
    have hfr : Fr (fun _ => False) w (((w.alloc (.cells #[.pointer (some ⟨t, 0, none⟩)] 58 (0, 0))).alloc (.cells #[.slice none 0 0] 156 (0, 0))).alloc (.cells #[.pointer (some ⟨t, 0, none⟩)] 58 (0, 0))) := (((Fr.refl _ _).alloc _).alloc _).alloc _
    refine ⟨by omega, blk_alloc (blk_alloc (blk_new _ _) _) _, ⟨_, blk_alloc (blk_new' _ _ _ (by simp)) _, by simpa [exL, ptrs] using World.ownsRow_nil _ _ _ _⟩, blk_new' _ _ _ (by simp),
      ⟨p, cs, by rw [exSt_zero]; exact htf.frame hfr (fun _ _ _ e => e), blk_lt htf.hb, fun i hi e => htf.slot_lt i hi (by rw [exSt_zero] at e; exact e)⟩, hfr.mono (fun _ _ e => e.elim)⟩
  refine rf_law (α := Nat × Nat) (σ := Nat) 38 #[.pointer (some ⟨w.heap.size + 2, 0, none⟩)] rfl (enters_of Tryz.func38 (by kernel_rfl) rfl) tenc (fun _ => rfl)
    (TStep id (exSt st) (fun _ fd => fd + 1)) (TFin id (exSt st)) 0 (ExecI w t st S) (fun _ _ => False)
    (fun s A B h hg => h.frame hg (fun k e => by simp at e; omega)) (fun _ _ _ h _ => h) (fun _ _ _ _ _ h _ _ => h) h0
    (fun l J Jx W hJI _ _ hY h0 => all1_iter _ (by omega) _ (some ⟨t, 0, none⟩) id (exSt st) (fun _ fd => fd + 1) (fun _ _ => rfl) (ExecI w t st S)
      (fun s W h => ⟨.inr ⟨t, S, rfl, by obtain ⟨p, cs, h1, _⟩ := h.tab; exact ⟨p, cs, h1⟩⟩, by rw [blk_cell h.bi]; rfl⟩) 0 rfl l J Jx W hJI hY h0)
    (fun x => { tmps := #[.pointer (some ⟨t, 0, none⟩), .pointer (some ⟨w.heap.size, 0, none⟩), .slice none 0 0, .pointer (some ⟨w.heap.size + 1, 0, none⟩), .int .i64 x.1, .pointer (some ⟨x.2, 0, none⟩), .pointer (some ⟨t, 0, none⟩),
      .func (.func 38) #[] #[.pointer (some ⟨w.heap.size + 2, 0, none⟩)], .int .i64 x.1, .pointer (some ⟨x.2, 0, none⟩), undef, undef, undef, undef, undef, undef, undef, undef, undef, undef, undef, undef, undef, undef, undef, undef, undef, undef, undef], defers := [] }) ?assign ?body ?done ?stop
  case assign =>
    intro l x W K hK
    gi_wp2
    simpa [tenc] using hK
  case body =>
    rintro l s ⟨k, x⟩ s' W ⟨hp1, hp2, hp3, ⟨m, hp4⟩, rfl⟩ hi hsz
    simp only [id] at hp1 hp2 hp3 hp4 ⊢
    have hp3' : ∀ j, s ≤ j → j < k → st j = none := fun j h1 h2 => by have := hp3 j h1 h2; rw [exSt_eq, if_neg (by omega)] at this; exact this
    have hst : st k = some (x, m) := by rw [exSt_eq, if_neg (by omega)] at hp4; exact hp4
    obtain ⟨le, bt, ⟨v, bl, hown⟩, bi, ⟨p, cs, tab, htl, hpl⟩, fr⟩ := hi
    rw [← exL_skip hp1 hp3'] at hown
    rw [← exSt_skip hp1 hp3'] at tab hpl
    clear hp3 hp3' hp4
    have hck := hide (exSt_at st k)
    have c1 : W.cell? ⟨w.heap.size, 0, none⟩ = some (.pointer (some ⟨t, 0, none⟩)) := by rw [blk_cell bt]; rfl
    have c2 : W.cell? ⟨t, k, none⟩ = some (.pointer (some ⟨p k, 0, none⟩)) := by rw [blk_cell tab.hb, tab.hc k hp2, hck.out, hst]; rfl
    have c3 : W.cell? ⟨p k, 1, none⟩ = some (.bool m) := by rw [blk_cell (tab.hs k x m hp2 (by rw [hck.out, hst]))]; rfl
    have c4 : W.cell? ⟨w.heap.size + 1, 0, none⟩ = some v := by rw [blk_cell bl]; rfl
    have z4 := blk_frozen bl
    have hxl := exL_le st k
    have hL := hide (exL_succ st k)
    have Hst := hide hst
    cases m with
    | false =>
      have hex : exAt st k = none := by simp [exAt, hst]
      have hI : ExecI w t st S (k + 1) W := ⟨by omega, bt, ⟨v, bl, by rw [hL.out, hex]; simpa using hown⟩, bi, ⟨p, cs, by rw [exSt_same hex]; exact tab, htl, by rw [exSt_same hex]; exact hpl⟩, fr⟩
      clear hex hst hown z4
      gi_wp2
      exact ⟨⟨rfl, rfl⟩, hI⟩
    | true =>
      have hex : exAt st k = some x := by simp [exAt, hst]
      have Hex := hide hex
      clear hex hst
      gi_wp2_with (gi_at_builtin; refine wpListIn_append_own _ rfl _ _ 156 rfl (w.heap.size + 5) 60 i0 (.pointer none) 1 8 Tryz.underlying156 hinf hz0 hz1 hz2 rfl (by decide) _ _ _ rfl (hown.alloc _) ⟨W.heap.size, 0, none⟩ 1 1 [.pointer (some ⟨x, 0, none⟩)] rfl rfl ?c1 ?c2 ?c3 ?c4 ?c5 ?_)
      case c1 => exact cell_one_new _ _ _
      case c2 => intro u hu; simp at hu; subst hu; rfl
      case c3 => unfold maxLen; omega
      case c4 => omega
      case c5 => simp only [World.size_alloc] at hsz ⊢; omega
      intro v' w1 hown' hgrow _
      obtain ⟨va', vc', rfl⟩ := own_form hown'
      have hf1 : Fr (fun q => v.ownBlock = some q) W w1 := ((Fr.refl _ _).alloc _).trans (Fr.of_grown hgrow)
      have hvb : ∀ q, v.ownBlock = some q → w.heap.size + 5 ≤ q := fun q e => (hown.lt _ e).1
      have bt1 := hf1.get bt (fun e => by have := hvb _ e; omega)
      have bl1 := hf1.get bl (fun e => by have := hvb _ e; omega)
      have bi1 := hf1.get bi (fun e => by have := hvb _ e; omega)
      have tab1 := tab.frame2 hf1 (fun e => by have := hvb _ e; omega) (fun i hi e1 e2 => by have := hvb _ e2; have := hpl i hi e1; omega)
      have frW : Fr S w w1 := fr.trans' hf1 (fun i hi e => by have := hvb _ e; omega)
      have hD1 := hf1.block (w.heap.size + 3)
      have hD2 := hf1.block (w.heap.size + 4)
      have hD1 := hD1 (by simp only [World.size_alloc] at hsz; omega) (fun e => by have := hvb _ e; omega)
      have hD2 := hD2 (by simp only [World.size_alloc] at hsz; omega) (fun e => by have := hvb _ e; omega)
      have hD1 := hide hD1
      have hD2 := hide hD2
      have c5 : w1.cell? ⟨w.heap.size + 1, 0, none⟩ = some v := by rw [blk_cell bl1]; rfl
      have z5 := blk_frozen bl1
      have c6 : w1.cell? ⟨w.heap.size, 0, none⟩ = some (.pointer (some ⟨t, 0, none⟩)) := by rw [blk_cell bt1]; rfl
      have c7 : w1.cell? ⟨t, k, none⟩ = some (.pointer (some ⟨p k, 0, none⟩)) := by rw [blk_cell tab1.hb, tab1.hc k hp2, hck.out, Hst.out]; rfl
      have z7 := blk_frozen tab1.hb
      have hI : ExecI w t st S (k + 1) ((w1.setCell ⟨w.heap.size + 1, 0, none⟩ (.slice va' ((exL st k).length + 1) vc')).setCell ⟨t, k, none⟩ (.pointer none)) := by
        have e1 : (exL st (k + 1)).length = (exL st k).length + 1 := by rw [hL.out, Hex.out]; simp
        have e2 : ptrs (exL st (k + 1)) = ptrs (exL st k) ++ [.pointer (some ⟨x, 0, none⟩)] := by rw [hL.out, Hex.out]; simp [ptrs]
        have hs1 := fr1 w1 (w.heap.size + 1) 0 (.slice va' ((exL st k).length + 1) vc')
        have hs2 := fr1 (w1.setCell ⟨w.heap.size + 1, 0, none⟩ (.slice va' ((exL st k).length + 1) vc')) t k (.pointer none)
        have tab2 := tab1.frame2 hs1 (fun e => by omega) (fun i hi e1 e2 => by have := hpl i hi e1; omega)
        have tab3 := tab2.cut k hp2
        have hb0 : ∀ q, (Value.slice va' ((exL st k).length + 1) vc').ownBlock = some q → w.heap.size + 5 ≤ q := fun q e => (hown'.lt _ e).1
        have bl2 := blk_set bl1 0 (.slice va' ((exL st k).length + 1) vc')
        refine ⟨by omega, blk_set_other (blk_set_other bt1 _ _ (by simp)) _ _ (by simp; omega), ⟨_, blk_set_other bl2 _ _ (by simp; omega), ?_⟩, blk_set_other (blk_set_other bi1 _ _ (by simp)) _ _ (by simp; omega), ⟨p, cs.setIfInBounds k (.pointer none), ?_, htl, ?_⟩, ?_⟩
        · rw [e1, e2]
          exact own_frame (own_frame hown' hs1 (fun g e1 e2 => by have := hb0 _ e1; omega)) hs2 (fun g e1 e2 => by have := hb0 _ e1; omega)
        · rw [exSt_cut Hst.out]; exact tab3
        · intro i hi e
          rw [exSt_cut Hst.out, set_eq] at e
          by_cases h9 : i = k
          · rw [if_pos h9] at e; cases e
          · rw [if_neg h9] at e; exact hpl i hi e
        · exact (frW.trans' hs1 (fun i hi e => by omega)).trans' hs2 (fun i hi e => by rw [e]; exact tab.own)
      clear hown hown' hgrow hf1 c1 c2 c3 c4 z4
      gi_wp2
      refine ⟨⟨?_, ?_⟩, hI⟩
      · simp only [World.size_alloc]; rw [Below.heap_setCell _ _ _ _ (by simp; omega), Below.heap_setCell _ _ _ _ (by simp; omega)]; exact hD1.out
      · simp only [World.size_alloc]; rw [Below.heap_setCell _ _ _ _ (by simp; omega), Below.heap_setCell _ _ _ _ (by simp; omega)]; exact hD2.out
  case done =>
    rintro s W hfin hi hK
    obtain ⟨v, hl, hown⟩ := hi.bl
    have hc : W.cell? ⟨w.heap.size + 1, 0, none⟩ = some v := by rw [blk_cell hl]; rfl
    gi_wp2
    refine ⟨by simp, .inl ⟨_, _, rfl, run_takeDeferred hK, ?_⟩⟩
    simp only [World.size_alloc]
    obtain ⟨le, _, _, _, ⟨p, cs, tab, htl, hpl⟩, fr⟩ := hi
    have hput := fr_putObj (S := fun k => k = w.heap.size + 3) (W := W) (r := w.heap.size + 3) (.deferred none) rfl
    have h32 : ∀ j, s ≤ j → j < 32 → st j = none := fun j h1 h2 => by have := hfin j h1 h2; rw [exSt_eq, if_neg (by omega)] at this; exact this
    rw [← exL_skip le h32] at hown
    rw [← exSt_skip le h32] at tab hpl
    have hfin9 : Fr S w (W.putObj (w.heap.size + 3) (.deferred none)) := fr.trans' hput (fun i hi e => by omega)
    refine ⟨_, results_tmp rfl _ _ _, v, rfl, ?_, ⟨p, cs, ?_⟩, hfin9⟩
    · exact own_base (own_frame hown hput (fun g e1 e2 => by have := (hown.lt _ e1).1; omega)) (fun g e => by have := (hown.lt _ e).1; omega)
    · exact tab.frame2 hput (fun e => by omega) (fun i hi e1 e2 => by have := hpl i hi e1; omega)
  case stop =>
    rintro c W h _
    exact h.elim
end Go.Proofs.YtffekmjoenppaaaGreatDoor

/- gate.asked.own, exec: what is marked goes. Conditions: the contract's own premises. -/
namespace Go.Proofs.YtffekmjoenppaaaGreatDoor
open Go.RowKit

attribute [local go_sem] Oper.semAt_some

/-- The descriptions of the descriptors that go. -/
def exJat (t : TSt) (i : Nat) : Option Nat := match t i with | some (j, true) => some j | _ => none
def exJ (t : TSt) (n : Nat) : List Nat := (List.range n).filterMap (exJat t)
theorem exJ_succ (t : TSt) (n : Nat) : exJ t (n + 1) = exJ t n ++ (exJat t n).toList := by
  unfold exJ
  rw [List.range_succ, List.filterMap_append]
  cases h : exJat t n <;> simp [h]
theorem exJ_le (t : TSt) (k : Nat) : (exJ t k).length ≤ k := by
  have := List.length_filterMap_le (exJat t) (List.range k)
  simpa [exJ] using this
theorem exJ_mem {t : TSt} {n j : Nat} (h : j ∈ exJ t n) : ∃ fd, t fd = some (j, true) := by
  obtain ⟨fd, _, e⟩ := List.mem_filterMap.1 h
  unfold exJat at e
  split at e
  · rename_i x hx
    cases e
    exact ⟨fd, hx⟩
  · cases e
theorem exL_tabS (L : KLay) (t : TSt) : ∀ n, exL (tabS L t) n = (exJ t n).map L.db
  | 0 => rfl
  | n + 1 => by
    rw [exL_succ, exJ_succ, List.map_append, exL_tabS L t n]
    congr 1
    unfold exAt exJat tabS
    cases h : t n with
    | none => rfl
    | some p =>
      obtain ⟨j, x⟩ := p
      cases x <;> rfl
theorem exSt_tabS (L : KLay) (t : TSt) (n : Nat) : exSt (tabS L t) n = tabS L (exSt t n) := by
  funext i
  show (if i < n then exO ((t i).map fun x => (L.db x.1, x.2)) else (t i).map fun x => (L.db x.1, x.2)) = (if i < n then exO (t i) else t i).map fun x => (L.db x.1, x.2)
  by_cases e : i < n
  · rw [if_pos e, if_pos e]
    cases h : t i with
    | none => rfl
    | some p =>
      obtain ⟨j, x⟩ := p
      cases x <;> rfl
  · rw [if_neg e, if_neg e]
/-- SysExec. -/
def execQ (K : KQ) (i : Nat) : ResQ × KQ := (noRes, (exJ (K.proc i).fds 32).foldl dropQ (K.fds i (exSt (K.proc i).fds 32)))
section
variable {w w1 w2 : World} {k : Nat} {K K1 : KQ} {L L1 : KLay} {i a : Nat} {c : SysQ} {r : ResV}
/-- A block of another kind is none of a table's. -/
theorem TabAt.but {t : Nat} {st : TSt} {S : Nat → Prop} {g : Nat} {cs : Array Value} (h : TabAt w t st S) (hg : w.heap[g]? = some (.cells cs 60 (0, 0))) : TabAt w t st (fun b => S b ∧ b ≠ g) := by
  obtain ⟨p, cs', h⟩ := h
  refine ⟨p, cs', ⟨h.hb, h.hcs, h.hc, h.hs, h.inj, h.hne, ⟨h.own, fun e => ?_⟩, fun i hi e => ⟨h.owns i hi e, fun e2 => ?_⟩, fun b hb => ⟨h.up b hb, fun e => ?_⟩⟩⟩
  · have := h.hb
    rw [e, hg] at this
    simp at this
  · obtain ⟨⟨x, m⟩, hx⟩ := Option.isSome_iff_exists.1 e
    have := h.hs i x m hi hx
    rw [e2, hg] at this
    simp at this
  · have := blk_lt hg
    omega
/-- A block is nobody's. -/
def KLay.but (L : KLay) (g : Nat) : KLay := { L with o := fun b => if b = g then none else L.o b }
theorem KF.but (h : KF w k K L) {g j : Nat} (hg : L.o g = some (tTab j)) (hj1 : 1 ≤ j) (hj2 : j ≤ K.qn) (hA : TabAt w (L.tb j) (tabS L (K.proc j).fds) (fun b => L.S (tTab j) w b ∧ b ≠ g)) : KF w k K (L.but g) := by
  have off : ∀ {b : Nat} {t : Nat × Nat}, t ≠ tTab j → L.o b = some t → (L.but g).o b = some t := fun ht e => by
    show (if _ = g then none else L.o _) = _
    rw [if_neg (fun e2 => by rw [e2, hg] at e; exact ht (Option.some.inj e).symm)]
    exact e
  have sub : ∀ {t : Nat × Nat} {b : Nat}, t ≠ tTab j → L.S t w b → (L.but g).S t w b := fun ht e => e.imp (off ht) id
  exact
    { hk := h.hk
      files := by obtain ⟨p, hp⟩ := h.files; exact ⟨p, hp.mono fun b e => sub (by simp) e⟩
      pr := h.pr, dr := h.dr, qr := h.qr, hd := h.hd, hq := h.hq
      ht := fun x g1 g2 => by
        by_cases e : x = j
        · rw [e]
          refine hA.mono fun b e2 => ?_
          rcases e2.1 with e3 | e3
          · exact .inl (by show (if b = g then none else L.o b) = _; rw [if_neg e2.2]; exact e3)
          · exact .inr e3
        · exact (h.ht x g1 g2).mono fun b e2 => sub (by simp [e]) e2
      hp := h.hp
      ok := off (by simp) h.ok
      opm := fun g e => off (by simp) (h.opm g e)
      odm := fun g e => off (by simp) (h.odm g e)
      oqm := fun g e => off (by simp) (h.oqm g e)
      od := fun x g1 g2 => off (by simp) (h.od x g1 g2)
      oq := fun x g1 g2 => off (by simp) (h.oq x g1 g2)
      op := fun x g1 g2 => ⟨off (by simp) (h.op x g1 g2).1, off (by simp) (h.op x g1 g2).2⟩
      new := fun b hb => by
        show (if b = g then none else L.o b) = none
        split
        · rfl
        · exact h.new b hb }
/-- The table has turned, and a row was made that is nobody's. -/
theorem KIn.tabRow {t : TSt} {v : Value} {n : Nat} {xs : List Value} (h : KIn w k K L i a c w1 K1 L1 r) {j : Nat} (h1 : 1 ≤ j) (h2 : j ≤ K1.qn) (hf : Fr (L1.S (tTab j) w1) w1 w2) (hA : TabAt w2 (L1.tb j) (tabS L1 t) (L1.S (tTab j) w1)) (hrow : w2.ownsRow w1.heap.size 60 1 v n xs) :
    ∃ L2, KIn w k K L i a c w2 (K1.fds j t) L2 r ∧ L2.db = L1.db ∧ ∀ g, v.ownBlock = some g → L2.o g = none ∧ g < w2.heap.size := by
  have I2 := h.tab h1 h2 hf hA
  rcases hrow.2 with ⟨e1, _⟩ | ⟨g, cap', cur, e1, hb, hg, _⟩
  · exact ⟨_, I2, rfl, fun g e => by rw [e1] at e; cases e⟩
  · have hgl := blk_lt hg
    have hgo : (L1.grow (tTab j) w1 w2).o g = some (tTab j) := if_pos ⟨hb, hgl⟩
    have hA2 := (I2.F.ht j h1 h2).but hg
    refine ⟨(L1.grow (tTab j) w1 w2).but g, ⟨I2.F.but hgo h1 h2 hA2, ⟨I2.E.f, I2.E.pn, I2.E.dn, I2.E.qn, I2.E.pb, I2.E.db, I2.E.qb, I2.E.tb, fun b t' e => ?_⟩, I2.R, fun b e => I2.N b fun e2 => e ?_, I2.A, I2.al, I2.ao⟩, rfl, fun g' e => ?_⟩
    · show (if b = g then none else (L1.grow (tTab j) w1 w2).o b) = some t'
      rw [if_neg (fun e2 => by
        have h3 := h.E.own b t' e
        rw [e2, h.F.new g hb] at h3
        cases h3)]
      exact I2.E.own b t' e
    · show (if b = g then none else (L1.grow (tTab j) w1 w2).o b) = none
      rw [e2]; split <;> rfl
    · rw [e1] at e
      cases e
      exact ⟨if_pos rfl, hgl⟩
/-- As KIn.mut, and what is new is told. -/
theorem KIn.mutN {K2 : KQ} {X Y : Nat → Prop} (h : KIn w k K L i a c w1 K1 L1 r) (hm : KMut k K1 K2 L1 X Y w1 w2) (hX : ∀ b, X b → w.heap.size ≤ b) (hY : ∀ b, Y b → w.heap.size ≤ b) : ∃ L2, KIn w k K L i a c w2 K2 L2 r ∧ LExt K1 K2 L1 L2 ∧ (∀ b, L2.o b ≠ none → L1.o b ≠ none ∨ Y b ∨ w1.heap.size ≤ b) ∧ Fr (fun b => L1.o b ≠ none ∨ X b) w1 w2 := by
  obtain ⟨L2, f, e, g, n⟩ := hm
  refine ⟨L2, ⟨f, h.E.trans e, h.R.trans' g fun b hb x => ?_, fun b x => ?_, g.get h.A fun x => ?_, h.al, h.ao⟩, e, n, g⟩
  · rcases x with x | x
    · rcases h.N b x with y | y
      · exact .inl y
      · omega
    · have := hX b x; omega
  · rcases n b x with y | y | y
    · exact h.N b y
    · exact .inr (hY b y)
    · exact .inr (Nat.le_trans h.R.size y)
  · rcases x with x | x
    · exact x h.a1
    · have := hX a x; have := h.al; omega
end
def ExRel (w : World) (k : Nat) (K : KQ) (L : KLay) (i a : Nat) (c : SysQ) (N : Nat) (K1 : KQ) (l : List Nat) (base : Nat) (v : Value) (gk : Nat) (iv : Value) (wr : World) : Prop :=
  ∃ (n : Nat) (L' : KLay), gk + n = l.length ∧ iv = .int .i64 n ∧ KIn w k K L i a c wr ((l.take n).foldl dropQ K1) L' noResV ∧ (∀ j, 1 ≤ j → j ≤ K.dn → L'.db j = L.db j) ∧ ((l.take n).foldl dropQ K1).dn = K.dn ∧ KOk ((l.take n).foldl dropQ K1) (N + n) ∧
    wr.ownsRow base 60 1 v l.length (ptrs (l.map L.db)) ∧ ∀ g, v.ownBlock = some g → L'.o g = none ∧ g < wr.heap.size
set_option maxRecDepth 100000 in
set_option maxHeartbeats 1000000 in
theorem aown_exec (w : World) (k : Nat) (K : KQ) (L : KLay) (h : KF w k K L) (N : Nat) (hok : KOk K N) (hN : N + 40 ≤ 1000000) (i : Nat) (h1 : 1 ≤ i) (h2 : i ≤ K.qn) (a : Nat) (c : SysQ) (ha : AskAt w a k (L.qb i) c noResV) (hao : L.o a = none) (hno : c.no = 9) :
    Calls Tryz.prog 36 #[ptrAt a] w (KErrPost w k K L i a c (execQ K i)) := by
  have I0 := KIn.start h ha hao
  have hex := exec_any w (L.tb i) _ _ (h.ht i h1 h2)
  have c2 : w.cell? ⟨a, 2, none⟩ = some (.int .i64 9) := by rw [blk_cell ha, ← hno]; rfl
  have c1 : w.cell? ⟨a, 1, none⟩ = some (.pointer (some ⟨L.qb i, 0, none⟩)) := by rw [blk_cell ha]; rfl
  have c6 : w.cell? ⟨L.qb i, 6, none⟩ = some (.pointer (some ⟨L.tb i, 0, none⟩)) := by rw [blk_cell (h.hq i h1 h2)]; rfl
  have hfds : ∀ fd j x, exSt (K.proc i).fds 32 fd = some (j, x) → 1 ≤ j ∧ j ≤ K.dn := fun fd j x e => by
    rw [exSt_eq] at e
    by_cases e1 : fd < 32
    · rw [if_pos e1] at e
      unfold exO at e
      split at e
      · cases e
      · exact hok.fds i fd j x h1 h2 e
    · rw [if_neg e1] at e
      exact hok.fds i fd j x h1 h2 e
  have hl : ∀ j ∈ exJ (K.proc i).fds 32, 1 ≤ j ∧ j ≤ K.dn := fun j e => by
    obtain ⟨fd, e⟩ := exJ_mem e
    exact hok.fds i fd j true h1 h2 e
  obtain ⟨l, hle⟩ : ∃ l, l = exJ (K.proc i).fds 32 := ⟨_, rfl⟩
  have hl32 : l.length ≤ 32 := by rw [hle]; exact exJ_le _ _
  obtain ⟨K1, hK1⟩ : ∃ K1, K1 = K.fds i (exSt (K.proc i).fds 32) := ⟨_, rfl⟩
  have hok1 : KOk K1 N := by rw [hK1]; exact hok.fdsU h1 h2 hfds
  have hst : ∀ v w2, w2.ownsRow w.heap.size 60 1 v (exL (tabS L (K.proc i).fds) 32).length (ptrs (exL (tabS L (K.proc i).fds) 32)) → TabAt w2 (L.tb i) (exSt (tabS L (K.proc i).fds) 32) (L.S (tTab i) w) → Fr (L.S (tTab i) w) w w2 → ExRel w k K L i a c N K1 l w.heap.size v l.length (.int .i64 0) w2 := fun v w2 hrow hA hf => by
    rw [exSt_tabS] at hA
    rw [exL_tabS, ← hle, List.length_map] at hrow
    obtain ⟨L2, I2, hdb, hg⟩ := I0.tabRow h1 h2 hf hA hrow
    exact ⟨0, L2, by omega, rfl, by rw [hK1]; exact I2, fun j _ _ => by rw [hdb], by rw [hK1]; rfl, hok1, hrow, hg⟩
  have hfin : ∀ v wr, ExRel w k K L i a c N K1 l w.heap.size v 0 (.int .i64 l.length) wr → KErrPost w k K L i a c (execQ K i) (.returned (.int .i64 0)) wr := fun v wr hr => by
    obtain ⟨n, L', e1, _, hI, _⟩ := hr
    have e : n = l.length := by omega
    rw [e, List.take_length] at hI
    unfold execQ
    rw [← hle, ← hK1]
    exact ⟨rfl, L', _, hI, rfl⟩
  rw [hle] at hl32
  rw [← hle] at hl hl32
  have Hex := hide hex
  have Hst := hide hst
  have Hfin := hide hfin
  have Hl := hide hl
  clear h hok ha hao I0 hex hfds hle hK1 hok1 hst hfin hno hl
  unfold ptrAt at *
  go_enter Tryz.func36, Tryz.ntmps36
  go_wp2_with fail
  refine Hex.out.mono ?_
  rintro e w2 ⟨v, rfl, hrow, hA, hf⟩
  have h0 := Hst.out v w2 hrow hA hf
  have hrow2 : w2.ownsRow w.heap.size 60 1 v l.length (ptrs (l.map L.db)) := by obtain ⟨_, _, _, _, _, _, _, _, hr, _⟩ := h0; exact hr
  obtain ⟨va, vc, rfl⟩ := own_form hrow2
  have H0 := hide h0
  clear h0 hrow hA hf hrow2 Hst Hex c1 c2 c6
  go_wp2_with fail
  go_loopg [52] l.length (fun gk iv wr => ExRel w k K L i a c N K1 l w.heap.size (.slice va l.length vc) gk iv wr)
  case atStart => exact H0.out
  case round =>
    clear H0
    obtain ⟨n, L', hgk, rfl, hI, hdb, hdn, hok, hrow, hg⟩ := hrel
    by_cases hlt : n < l.length
    · obtain ⟨g, rfl, hg1, hg2, hc⟩ := own_cells hrow (by omega)
      have hck := hc n (.pointer (some ⟨L.db l[n], 0, none⟩)) (by simp [ptrs, hlt])
      have hln := Hl.out l[n] (List.getElem_mem hlt)
      have hd := kdrop_any wr k _ L' hI.F (N + n) hok (by omega) l[n] hln.1 (by rw [hdn]; exact hln.2)
      rw [hdb _ hln.1 hln.2] at hd
      have x0 : wr.cell? ⟨a, 0, none⟩ = some (.pointer (some ⟨k, 0, none⟩)) := by rw [blk_cell hI.A]; rfl
      have htk : (l.take (n + 1)).foldl dropQ K1 = dropQ ((l.take n).foldl dropQ K1) l[n] := by
        rw [List.take_succ_eq_append_getElem hlt, List.foldl_append]; rfl
      have hnext : ∀ w3, KMut k ((l.take n).foldl dropQ K1) (dropQ ((l.take n).foldl dropQ K1) l[n]) L' (fun _ => False) (fun _ => False) wr w3 → ExRel w k K L i a c N K1 l w.heap.size (.slice (some ⟨g, 0, none⟩) l.length vc) (gk - 1) (.int .i64 ((n : Int) + 1)) w3 := fun w3 hm => by
        obtain ⟨L3, I3, hE, hn3, hf3⟩ := hI.mutN hm (fun _ e => e.elim) (fun _ e => e.elim)
        have hg0 := hg g rfl
        refine ⟨n + 1, L3, by omega, by go_num, by rw [htk]; exact I3, fun j b1 b2 => by rw [hE.db j b1 (by rw [hdn]; exact b2)]; exact hdb j b1 b2, by rw [htk, (dropQ_pn _ _).2.1]; exact hdn, by rw [htk]; exact hok.dropQ hln.1 (by rw [hdn]; exact hln.2) I3.F.live, own_frame hrow hf3 (fun g' e x => ?_), fun g' e => ?_⟩
        · rcases x with x | x
          · exact x (hg g' e).1
          · exact x
        · have := hg g' e
          refine ⟨?_, Nat.lt_of_lt_of_le this.2 hf3.size⟩
          by_cases e3 : L3.o g' = none
          · exact e3
          · rcases hn3 g' e3 with x | x | x
            · exact absurd this.1 x
            · exact x.elim
            · omega
      have Hd := hide hd
      have Hnext := hide hnext
      have Hgk := hide hgk
      clear hd hnext hI hdb hdn hok hrow hg htk hc hln hgk
      generalize l[n] = jn at *
      unfold ptrAt at *
      go_wp2_with fail
      refine Hd.out.mono ?_
      rintro e w3 ⟨rfl, hm⟩
      have hr := hide (Hnext.out w3 hm)
      clear hm Hnext Hd
      go_wp2_with fail
      go_roundg (gk - 1)
      case rel => exact hr.out
      case measure => have := Hgk.out; omega
    · have e : n = l.length := by have := hgk; omega
      have hnlt : ¬ (n : Int) < (l.length : Int) := by omega
      have hlast := hide (Hfin.out (.slice va l.length vc) wr ⟨n, L', by omega, by rw [e], hI, hdb, hdn, hok, hrow, hg⟩)
      clear hI hdb hdn hok hrow hg Hfin
      go_wp2_with fail
      go_ret
      exact hlast.out
end Go.Proofs.YtffekmjoenppaaaGreatDoor
