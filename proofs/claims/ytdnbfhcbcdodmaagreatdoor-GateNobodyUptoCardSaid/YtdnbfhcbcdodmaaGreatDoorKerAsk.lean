/- gate.Kernel.open: a new description, with a descriptor of a process. Conditions: the contract's own premises. -/
import Derived.Test.YtdnbfhcbcdodmaaGreatDoorKerH
import Derived.Test.YtdnbfhcbcdodmaaGreatDoorFilesJ
import Derived.Test.YtdnbfhcbcdodmaaGreatDoorRegionIn
import Derived.Test.YtdnbfhcbcdodmaaGreatDoorFilesT
namespace Go.Proofs.YtdnbfhcbcdodmaaGreatDoor
open Go.RowKit

attribute [local go_sem] Oper.semAt_some

/-- Where things lay, they lie. -/
structure LExt (K K' : KQ) (L L' : KLay) : Prop where
  f : L'.f = L.f
  pn : K.pn ≤ K'.pn
  dn : K.dn ≤ K'.dn
  qn : K.qn ≤ K'.qn
  pb : ∀ i, 1 ≤ i → i ≤ K.pn → L'.pb i = L.pb i
  db : ∀ i, 1 ≤ i → i ≤ K.dn → L'.db i = L.db i
  qb : ∀ i, 1 ≤ i → i ≤ K.qn → L'.qb i = L.qb i
  tb : ∀ i, 1 ≤ i → i ≤ K.qn → L'.tb i = L.tb i
  own : ∀ b t, L.o b = some t → L'.o b = some t
theorem LExt.refl (K : KQ) (L : KLay) : LExt K K L L := ⟨rfl, Nat.le_refl _, Nat.le_refl _, Nat.le_refl _, fun _ _ _ => rfl, fun _ _ _ => rfl, fun _ _ _ => rfl, fun _ _ _ => rfl, fun _ _ e => e⟩
theorem LExt.trans {K K' K'' : KQ} {L L' L'' : KLay} (h : LExt K K' L L') (g : LExt K' K'' L' L'') : LExt K K'' L L'' :=
  ⟨g.f.trans h.f, Nat.le_trans h.pn g.pn, Nat.le_trans h.dn g.dn, Nat.le_trans h.qn g.qn, fun i a b => (g.pb i a (Nat.le_trans b h.pn)).trans (h.pb i a b), fun i a b => (g.db i a (Nat.le_trans b h.dn)).trans (h.db i a b),
    fun i a b => (g.qb i a (Nat.le_trans b h.qn)).trans (h.qb i a b), fun i a b => (g.tb i a (Nat.le_trans b h.qn)).trans (h.tb i a b), fun b t e => g.own b t (h.own b t e)⟩
/-- The kernel has turned; of the rest only X; of what was there Y has become its own. -/
def KMut (k : Nat) (K K' : KQ) (L : KLay) (X Y : Nat → Prop) (w w' : World) : Prop :=
  ∃ L', KF w' k K' L' ∧ LExt K K' L L' ∧ Fr (fun b => L.o b ≠ none ∨ X b) w w' ∧ ∀ b, L'.o b ≠ none → L.o b ≠ none ∨ Y b ∨ w.heap.size ≤ b
theorem KF.mut {w : World} {k : Nat} {K : KQ} {L : KLay} (h : KF w k K L) (X Y : Nat → Prop) : KMut k K K L X Y w w := ⟨L, h, .refl K L, Fr.refl _ _, fun _ e => .inl e⟩
theorem grow_ext {K K' : KQ} {L : KLay} {t : Nat × Nat} {w w' : World} {k : Nat} (h : KF w k K L) (hs : w.heap.size ≤ w'.heap.size) (hp : K.pn ≤ K'.pn) (hd : K.dn ≤ K'.dn) (hq : K.qn ≤ K'.qn) : LExt K K' L (L.grow t w w') :=
  ⟨rfl, hp, hd, hq, fun _ _ _ => rfl, fun _ _ _ => rfl, fun _ _ _ => rfl, fun _ _ _ => rfl, fun b t' e => (h.own_grow t hs).old b t' e⟩
theorem grow_new {L : KLay} {t : Nat × Nat} {w w' : World} {b : Nat} (e : (L.grow t w w').o b ≠ none) : L.o b ≠ none ∨ w.heap.size ≤ b := by
  by_cases h : w.heap.size ≤ b ∧ b < w'.heap.size
  · exact .inr h.1
  · exact .inl fun e2 => e ((if_neg h).trans e2)
theorem ff_tabS (L : KLay) (t : TSt) : ∀ (n k : Nat), ff (tabS L t) k n = ff t k n
  | 0, _ => rfl
  | n + 1, k => by
    have e : (tabS L t k).isSome = (t k).isSome := by unfold tabS; cases t k <;> rfl
    rw [ff, ff, e, ff_tabS L t n (k + 1)]
theorem firstFree_tabS (L : KLay) (t : TSt) (l : Nat) : firstFree (tabS L t) l = firstFree t l := ff_tabS L t _ _
theorem tabS_set (L : KLay) (t : TSt) (fd j : Nat) (m : Bool) : tabS L (t.set fd (some (j, m))) = (tabS L t).set fd (some (L.db j, m)) := by
  funext i
  unfold tabS TSt.set
  by_cases e : i = fd
  · rw [if_pos e, if_pos e]; rfl
  · rw [if_neg e, if_neg e]
/-- Descriptors name descriptions that there are. -/
def FdsOk (K : KQ) : Prop := ∀ i fd j x, 1 ≤ i → i ≤ K.qn → (K.proc i).fds fd = some (j, x) → 1 ≤ j ∧ j ≤ K.dn
def rawD (L : KLay) (d : DescQ) (r id : Int) : Array Value := #[.int .i64 d.kind, .int .i64 d.n, .int .i64 d.pos, .int .i64 r, .int .i64 d.flags, pipeV L d, .string d.text, .int .i64 id]
set_option maxRecDepth 100000 in
set_option maxHeartbeats 1000000 in
theorem kopen_any (w : World) (k : Nat) (K : KQ) (L : KLay) (h : KF w k K L) (i : Nat) (h1 : 1 ≤ i) (h2 : i ≤ K.qn) (xb : Nat) (d : DescQ) (hxb : w.heap[xb]? = some (.cells (rawD L d 0 0) 84 (0, 0))) (hxo : L.o xb = none) (hfd : FdsOk K) (hdn : K.dn ≤ 1000000000000) :
    Calls Tryz.prog 25 #[ptrAt k, ptrAt (L.qb i), ptrAt xb] w fun e w' => e = .returned (.int .i64 (openQ K i d).1) ∧ KMut k K (openQ K i d).2 L (fun b => b = xb) (fun b => b = xb) w w' := by
  have hxk : xb ≠ k := fun e => by rw [e, h.ok] at hxo; cases hxo
  have hadd := hide (d_add w k (kerC L K) L.dm (fun j => (K.desc j).inn) L.db K.dn xb h.hk rfl rfl h.dr (fun e => by have := h.odm k e; rw [h.ok] at this; cases this) hdn)
  have H := hide h
  have Hxb := hide hxb
  have Hxo := hide hxo
  have Hfd := hide hfd
  clear h hxb hxo hfd
  unfold ptrAt at *
  go_enter Tryz.func25, Tryz.ntmps25
  go_wp2_with fail
  refine hadd.out.mono ?_
  rintro e w1 ⟨rfl, m, hk1, hr1, hm1, hf1⟩
  have hkc : ((kerC L K).setIfInBounds 3 (.int .i64 ((K.dn : Int) + 1))).setIfInBounds 4 (.map m) = kerC { L with dm := m } { K with dn := K.dn + 1 } := rfl
  rw [hkc] at hk1
  have hmx : ¬ (xb = k ∨ L.dm = some xb) := fun e => by
    rcases e with e | e
    · exact hxk e
    · have := H.out.odm xb e; rw [Hxo.out] at this; cases this
  have x1 : w1.heap[xb]? = some (.cells (rawD L d 0 0) 84 (0, 0)) := hf1.get Hxb.out hmx
  have f1 : w1.frozen? ⟨xb, 7, none⟩ = false := blk_frozen x1 _
  have g1 : w1.cell? ⟨xb, 7, none⟩ = some (.int .i64 0) := by rw [blk_cell x1]; rfl
  obtain ⟨w2, hw2⟩ : ∃ w2, w2 = w1.setCell ⟨xb, 7, none⟩ (.int .i64 ((K.dn : Int) + 1)) := ⟨_, rfl⟩
  have x2 : w2.heap[xb]? = some (.cells (rawD L d 0 ((K.dn : Int) + 1)) 84 (0, 0)) := by rw [hw2]; exact blk_set x1 _ _
  have f2 : w2.frozen? ⟨xb, 3, none⟩ = false := blk_frozen x2 _
  have g2 : w2.cell? ⟨xb, 3, none⟩ = some (.int .i64 0) := by rw [blk_cell x2]; rfl
  obtain ⟨w3, hw3⟩ : ∃ w3, w3 = w2.setCell ⟨xb, 3, none⟩ (.int .i64 1) := ⟨_, rfl⟩
  have x3 : w3.heap[xb]? = some (.cells (rawD L d 1 ((K.dn : Int) + 1)) 84 (0, 0)) := by rw [hw3]; exact blk_set x2 _ _
  have k3 : w3.heap[k]? = some (.cells (kerC { L with dm := m } { K with dn := K.dn + 1 }) 70 (0, 0)) := by
    rw [hw3, hw2]
    exact blk_set_other (blk_set_other hk1 _ _ (Ne.symm hxk)) _ _ (Ne.symm hxk)
  have hf13 : Fr (fun b => b = xb) w1 w3 := by
    rw [hw3, hw2]
    exact ((Fr.refl (fun b => b = xb) w1).setCell (p := ⟨xb, 7, none⟩) (.inl rfl) _).setCell (p := ⟨xb, 3, none⟩) (.inl rfl) _
  have hmg : m = L.dm ∨ ∃ g, m = some g ∧ L.o g = none ∧ g < w1.heap.size ∧ g ≠ xb := by
    rcases hm1 with ⟨e, _⟩ | ⟨e1, e2⟩
    · exact .inl e
    · refine .inr ⟨_, e2, H.out.new _ (Nat.le_refl _), ?_, ?_⟩
      · rw [e2] at hr1; exact hr1.lt
      · have := blk_lt Hxb.out; omega
  have hr3 : RegV w3 m (fun j => if j = K.dn + 1 then true else (K.desc j).inn) (fun j => if j = K.dn + 1 then xb else L.db j) (K.dn + 1) := by
    refine hr1.frame hf13 fun g e e2 => ?_
    rcases hmg with hmg | ⟨g', e3, _, _, e4⟩
    · have := H.out.odm g (hmg ▸ e)
      rw [e2, Hxo.out] at this
      cases this
    · rw [e3] at e; cases e; exact e4 e2
  have hf3 : Fr (fun b => b = k ∨ L.dm = some b ∨ b = xb) w w3 := (hf1.mono fun b _ e => e.elim .inl (fun e => .inr (.inl e))).trans (hf13.mono fun b _ e => .inr (.inr e))
  have hF3 := H.out.addD (d := { d with refs := 1, inn := true }) k3 hr3 rfl x3 Hxo.out (by
    rcases hmg with e | ⟨g, e1, e2, e3, e4⟩
    · exact .inl e
    · exact .inr ⟨g, e1, e2, Nat.lt_of_lt_of_le e3 hf13.size, e4⟩) hf3 (fun b t e1 e2 => by
      rcases e2 with e2 | e2 | e2
      · exact .inl e2
      · exact .inr e2
      · rw [e2, Hxo.out] at e1; cases e1) (fun i fd j x a1 a2 a3 => (Hfd.out i fd j x a1 a2 a3).2)
  have hext : LExt K (K.addD { d with refs := 1, inn := true }) L (L.addD K.dn xb m) :=
    ⟨rfl, Nat.le_refl _, Nat.le_succ _, Nat.le_refl _, fun _ _ _ => rfl, fun j a1 a2 => if_neg (by omega), fun _ _ _ => rfl, fun _ _ _ => rfl, fun b t e => by
      show (if b = xb then some (tDsc (K.dn + 1)) else if m = some b then some (tMap 1) else L.o b) = some t
      rw [if_neg (fun e2 => by rw [e2, Hxo.out] at e; cases e)]
      by_cases e2 : m = some b
      · rw [if_pos e2]
        rcases hmg with hm | ⟨g, g1, g2, _⟩
        · rw [H.out.odm b (hm ▸ e2)] at e; exact e
        · rw [g1] at e2; cases e2; rw [g2] at e; cases e
      · rw [if_neg e2]; exact e⟩
  have hnew3 : ∀ b, (L.addD K.dn xb m).o b ≠ none → L.o b ≠ none ∨ b = xb ∨ w.heap.size ≤ b := fun b e => by
    by_cases e1 : b = xb
    · exact .inr (.inl e1)
    by_cases e2 : m = some b
    · rcases hm1 with ⟨e3, _⟩ | ⟨_, e4⟩
      · exact .inl (by rw [H.out.odm b (e3 ▸ e2)]; simp)
      · rw [e4] at e2; cases e2; exact .inr (.inr (Nat.le_refl _))
    · refine .inl fun e3 => e ?_
      show (if b = xb then some (tDsc (K.dn + 1)) else if m = some b then some (tMap 1) else L.o b) = none
      rw [if_neg e1, if_neg e2, e3]
  have hq3 : w3.heap[L.qb i]? = some (.cells (procC L i (K.proc i)) 76 (0, 0)) := hF3.hq i h1 h2
  have c6 : w3.cell? ⟨L.qb i, 6, none⟩ = some (.pointer (some ⟨L.tb i, 0, none⟩)) := by rw [blk_cell hq3]; rfl
  have htab := hF3.ht i h1 h2
  have hput := putT_any w3 (L.tb i) _ _ htab xb 0
  have Hext := hide hext
  have Hnew3 := hide hnew3
  have HF3 := hide hF3
  have Hf3 := hide hf3
  have Hput := hide hput
  have Hw2 := hide hw2
  have Hw3 := hide hw3
  clear hq3 hadd hk1 hr1 hm1 hf1 hkc x1 x2 x3 k3 hf13 hmg hr3 hext hnew3 hF3 hf3 htab hput hw2 hw3 hmx
  go_upto_region 2 with (fail)
  rw [← Hw2.out]
  go_upto_region 3 with (fail)
  rw [← Hw3.out]
  clear f1 f2 g1 g2 Hw2 Hw3
  go_wp2_with fail
  refine Hput.out.mono ?_
  rintro e w4 hp
  have hst : ∀ fd, firstFree (tabS (L.addD K.dn xb m) (K.proc i).fds) fd = firstFree (K.proc i).fds fd := fun fd => firstFree_tabS _ _ _
  have hL3 : (L.addD K.dn xb m).db (K.dn + 1) = xb := if_pos rfl
  rcases hp with ⟨a1, _⟩ | ⟨_, a2, rfl, rfl⟩ | ⟨_, fd, a1, a2, rfl, a3, a4⟩
  · cases a1
  · have hop : openQ K i d = (0, K.addD { d with refs := 1, inn := true }) := by
      unfold openQ
      have : firstFree (K.proc i).fds 0 = none := (hst 0).symm.trans a2
      rw [this]
    have hfin := hide (show (Ending.returned (.int .i64 (0 : Int)) : Ending) = .returned (.int .i64 (openQ K i d).1) ∧ KMut k K (openQ K i d).2 L (fun b => b = xb) (fun b => b = xb) w w3 by
      rw [hop]
      exact ⟨rfl, _, HF3.out, Hext.out, Hf3.out.mono fun b _ e => by
        rcases e with e | e | e
        · exact .inl (by rw [e, H.out.ok]; simp)
        · exact .inl (by rw [H.out.odm b e]; simp)
        · exact .inr e, Hnew3.out⟩)
    clear HF3 Hf3 Hput Hext Hnew3 hst hL3 hop a2
    go_wp2_with fail
    go_ret
    exact hfin.out
  · have hop : openQ K i d = (fd, (K.addD { d with refs := 1, inn := true }).fds i ((K.proc i).fds.set fd (some (K.dn + 1, false)))) := by
      unfold openQ
      have : firstFree (K.proc i).fds 0 = some fd := (hst 0).symm.trans a2
      rw [this]
    have hF4 := HF3.out.tabU h1 h2 (t := (K.proc i).fds.set fd (some (K.dn + 1, false))) a4 (by rw [tabS_set, hL3]; exact a3)
    have hext4 := Hext.out.trans (grow_ext (t := tTab i) (w' := w4) (K' := (K.addD { d with refs := 1, inn := true }).fds i ((K.proc i).fds.set fd (some (K.dn + 1, false)))) HF3.out a4.size (Nat.le_refl _) (Nat.le_refl _) (Nat.le_refl _))
    have hfin := hide (show (Ending.returned (.int .i64 (fd : Int)) : Ending) = .returned (.int .i64 (openQ K i d).1) ∧ KMut k K (openQ K i d).2 L (fun b => b = xb) (fun b => b = xb) w w4 by
      rw [hop]
      refine ⟨rfl, _, hF4, hext4, (Hf3.out.mono fun b _ e => ?_).trans' a4 fun b hb e => ?_, fun b e => ?_⟩
      · rcases e with e | e | e
        · exact .inl (by rw [e, H.out.ok]; simp)
        · exact .inl (by rw [H.out.odm b e]; simp)
        · exact .inr e
      · rcases e with e | e
        · rcases Hnew3.out b (by rw [e]; simp) with e2 | e2 | e2
          · exact .inl e2
          · exact .inr e2
          · omega
        · have := Hf3.out.size; omega
      · rcases grow_new e with e | e
        · exact Hnew3.out b e
        · exact .inr (.inr (Nat.le_trans Hf3.out.size e)))
    clear HF3 Hf3 Hput Hext Hnew3 hst hL3 hop a2 a3 a4 hF4 hext4
    go_wp2_with fail
    go_ret
    exact hfin.out
end Go.Proofs.YtdnbfhcbcdodmaaGreatDoor

/- files.FS.Link. Conditions: the contract's own premises. -/
namespace Go.Proofs.YtdnbfhcbcdodmaaGreatDoor
open Go.RowKit

def linkE (σ : FSt) (dir : Int) (s t : List UInt8) : Int :=
  if (walkE σ dir s).1 ≠ 0 then (walkE σ dir s).1
  else if dirS σ (walkE σ dir s).2 = true then 21
  else if (aheadE σ dir t).1 ≠ 0 then (aheadE σ dir t).1
  else if slashS t = true then 21
  else openS σ (aheadE σ dir t).2.1 (aheadE σ dir t).2.2
def linkT (σ : FSt) (dir : Int) (s t : List UInt8) : FSt := linkS (relS σ (walkE σ dir s).2 more) (aheadE σ dir t).2.1 (aheadE σ dir t).2.2 (walkE σ dir s).2
def linkR (σ : FSt) (dir : Int) (s t : List UInt8) : Int × FSt := if linkE σ dir s t ≠ 0 then (linkE σ dir s t, σ) else (0, linkT σ dir s t)
end Go.Proofs.YtdnbfhcbcdodmaaGreatDoor

/- The tree of files as plain data: whatever is asked leaves a tree. No program in sight; no condition. -/
namespace Go.Proofs.YtdnbfhcbcdodmaaGreatDoor
open Go.RowKit

theorem ahead_ok {σ : FSt} {dir : Int} {s : List UInt8} (h : (aheadE σ dir s).1 = 0) : ∃ n, σ.nd (aheadE σ dir s).2.1 = some n ∧ n.d = true ∧ (aheadE σ dir s).2.2.length ≤ 32 := by
  have key : ∀ {E : Int} {x y : Int × Nat × List UInt8}, E ≠ 0 → (if E ≠ 0 then (E, 0, []) else y) = x → x.1 = 0 → False := fun h1 h2 h3 => by
    rw [if_pos h1] at h2
    rw [← h2] at h3
    exact h1 h3
  unfold aheadE at h ⊢
  simp only at h ⊢
  by_cases h1 : (startE σ dir s).1 ≠ 0
  · rw [if_pos h1] at h; exact absurd h h1
  rw [if_neg h1] at h ⊢
  by_cases h2 : (overS σ (piecesS s).dropLast (startE σ dir s).2).1 ≠ 0
  · rw [if_pos h2] at h; exact absurd h h2
  rw [if_neg h2] at h ⊢
  by_cases h3 : hereS σ (overS σ (piecesS s).dropLast (startE σ dir s).2).2 ≠ 0
  · rw [if_pos h3] at h; exact absurd h h3
  rw [if_neg h3] at h ⊢
  cases hl : (piecesS s).getLast? with
  | none => rw [hl] at h; exact absurd h (by simp)
  | some q =>
    rw [hl] at h
    simp only at h ⊢
    by_cases h4 : q = dot ∨ q = dots
    · rw [if_pos h4] at h; exact absurd h (by simp)
    rw [if_neg h4] at h ⊢
    by_cases h5 : 32 < q.length
    · rw [if_pos h5] at h; exact absurd h (by simp)
    rw [if_neg h5]
    have h6 : hereS σ (overS σ (piecesS s).dropLast (startE σ dir s).2).2 = 0 := by simpa using h3
    unfold hereS at h6
    cases hn : σ.nd (overS σ (piecesS s).dropLast (startE σ dir s).2).2 with
    | none => rw [hn] at h6; exact absurd h6 (by decide)
    | some n =>
      rw [hn] at h6
      refine ⟨n, rfl, ?_, by show q.length ≤ 32; omega⟩
      cases hd : n.d with
      | true => rfl
      | false => unfold hereE at h6; simp [hd] at h6
theorem overS_ok {σ : FSt} (h : Live σ) : ∀ (l : List (List UInt8)) {a : Nat}, (σ.nd a).isSome = true → (σ.nd (overS σ l a).2).isSome = true
  | [], _, ha => ha
  | q :: r, a, ha => by
    unfold overS
    split
    · exact h.step ha q
    · exact overS_ok h r (h.step ha q)
theorem start_ok {σ : FSt} (h : Live σ) {dir : Int} {s : List UInt8} (h0 : (startE σ dir s).1 = 0) : (σ.nd (startE σ dir s).2).isSome = true := by
  unfold startE at h0 ⊢
  cases hn : σ.ndI dir with
  | none => rw [hn] at h0; exact absurd h0 (by simp)
  | some n =>
    rw [hn] at h0
    simp only at h0 ⊢
    obtain ⟨k, rfl, hk⟩ := ndI_some hn
    by_cases h1 : n.d = false
    · rw [if_pos h1] at h0; exact absurd h0 (by simp)
    rw [if_neg h1] at h0 ⊢
    by_cases h2 : s = []
    · rw [if_pos h2] at h0; exact absurd h0 (by simp)
    rw [if_neg h2] at h0 ⊢
    by_cases h3 : 256 < s.length
    · rw [if_pos h3] at h0; exact absurd h0 (by simp)
    rw [if_neg h3]
    simp only
    split
    · obtain ⟨r, hr, _⟩ := h.root
      rw [hr]; rfl
    · rw [Int.toNat_natCast, hk]; rfl
theorem walk_ok {σ : FSt} (h : Live σ) {dir : Int} {s : List UInt8} (h0 : (walkE σ dir s).1 = 0) : (σ.nd (walkE σ dir s).2).isSome = true := by
  unfold walkE at h0 ⊢
  by_cases h1 : (startE σ dir s).1 ≠ 0
  · rw [if_pos h1] at h0; exact absurd h0 h1
  rw [if_neg h1] at h0 ⊢
  have h3 := overS_ok h (piecesS s) (start_ok h (by simpa using h1))
  by_cases h2 : (overS σ (piecesS s) (startE σ dir s).2).1 ≠ 0
  · rw [if_pos h2] at h0; exact absurd h0 h2
  rw [if_neg h2] at h0 ⊢
  split at h0
  · exact absurd h0 (by simp)
  · rename_i h4
    rw [if_neg h4]
    exact h3
/-- A tree of files with counts of at most so much. -/
structure Good (σ : FSt) (k : Nat) : Prop where
  live : Live σ
  inv : Inv σ 0
  caps : Caps σ k
theorem Good.mono {σ : FSt} {k l : Nat} (h : Good σ k) (hkl : k ≤ l) : Good σ l := ⟨h.live, h.inv, h.caps.mono hkl⟩
theorem Good.b {σ : FSt} {k : Nat} (h : Good σ k) (hk : k ≤ 1000000) : CapB σ := h.caps.b hk
theorem Good.new : Good newT 1 := ⟨(by
    refine ⟨⟨rootN, rfl, rfl, rfl⟩, fun i n h => ?_, fun i n h _ _ => ?_, by decide, by decide, by decide, fun i n h => ?_⟩
    · obtain ⟨_, rfl⟩ := newT_nd h; intro q hq; cases hq
    · obtain ⟨_, rfl⟩ := newT_nd h; rfl
    · obtain ⟨_, rfl⟩ := newT_nd h; (intro q hq; cases hq)), Inv.new, caps_of (by decide)⟩
/-- The two parts that a call keeps (that it is Live is the walk's own word). -/
structure Kept (σ : FSt) (k : Nat) : Prop where
  inv : Inv σ 0
  caps : Caps σ k
theorem Kept.mono {σ : FSt} {k l : Nat} (h : Kept σ k) (hkl : k ≤ l) : Kept σ l := ⟨h.inv, h.caps.mono hkl⟩
theorem Kept.good {σ : FSt} {k : Nat} (h : Kept σ k) (hl : Live σ) : Good σ k := ⟨hl, h.inv, h.caps⟩
theorem Good.kept {σ : FSt} {k : Nat} (h : Good σ k) : Kept σ (k + 1) := ⟨h.inv, h.caps.mono (Nat.le_succ _)⟩
theorem Caps.put {σ : FSt} {k l : Nat} (h : Caps σ k) (hkl : k ≤ l) {a : Nat} {n n' : Nd} (ha : σ.nd a = some n) (h1 : n'.links ≤ l) (h2 : n'.holds ≤ l) (h3 : n'.ents.length ≤ l) : Caps (σ.put a (some n')) l := fun j m hj => by
  rw [put_nd ha] at hj
  by_cases e : j = a
  · rw [if_pos e] at hj
    cases hj
    exact ⟨h1, h2, h3⟩
  · rw [if_neg e] at hj
    have := h j m hj
    omega
theorem Caps.away {σ : FSt} {k : Nat} (h : Caps σ k) {a : Nat} {n : Nd} (ha : σ.nd a = some n) : Caps (σ.put a none) k := fun j m hj => by
  rw [put_nd ha] at hj
  by_cases e : j = a
  · rw [if_pos e] at hj; cases hj
  · rw [if_neg e] at hj; exact h j m hj
theorem Caps.letS {σ : FSt} {k : Nat} (h : Caps σ k) (i : Nat) : Caps (letS σ i) k := by
  unfold YtdnbfhcbcdodmaaGreatDoor.letS
  cases hn : σ.nd i with
  | none => exact h
  | some n =>
    simp only
    split
    · exact h.away hn
    · exact h
theorem Caps.cut {σ : FSt} {k : Nat} (h : Caps σ k) {a : Nat} {n : Nd} (ha : σ.nd a = some n) (nm : List UInt8) : Caps (cutS σ a nm) k := by
  unfold cutS
  rw [entS_some ha]
  have := h a n ha
  exact h.put (Nat.le_refl _) ha this.1 this.2.1 (Nat.le_trans (List.length_filter_le _ _) this.2.2)
theorem kins_len (x : List UInt8 × Nat) : ∀ L : KA Nat, (kins x L).length = L.length + 1
  | [] => rfl
  | y :: r => by
    rw [kins_cons]
    split
    · rfl
    · simp [kins_len x r]
theorem kput_len (s : List UInt8) (k : Nat) (L : KA Nat) : (kput s k L).length ≤ L.length + 1 := by
  unfold kput
  rw [kins_len]
  exact Nat.succ_le_succ (List.length_filter_le _ _)
theorem Caps.link {σ : FSt} {k l : Nat} (h : Caps σ k) (hkl : k < l) {a : Nat} {n : Nd} (ha : σ.nd a = some n) (nm : List UInt8) (i : Nat) : Caps (linkS σ a nm i) l := by
  unfold linkS
  rw [entS_some ha]
  have := h a n ha
  have h2 := kput_len nm i n.ents
  exact h.put (by omega) ha (by show n.links ≤ l; omega) (by show n.holds ≤ l; omega) (by show (kput nm i n.ents).length ≤ l; omega)
theorem Caps.gone {σ : FSt} {k : Nat} (h : Caps σ k) {b o : Nat} {m no : Nd} {y : List UInt8} (hb : σ.nd b = some m) (hy : kget y m.ents = some o) (ho : σ.nd o = some no) (hob : o ≠ b) : Caps (goneS σ b y) k := by
  have h1 : (cutS σ b y).nd o = some no := (cutS_nd hb hob).trans ho
  rw [goneS_some hb hy, relS_some h1]
  have h2 := h o no ho
  exact ((h.cut hb y).put (n' := less no) (Nat.le_refl _) h1 (Nat.le_trans (Nat.sub_le _ _) h2.1) h2.2.1 h2.2.2).letS o
/-- What nothing names may go, when nothing holds it. -/
theorem Inv.free {σ : FSt} (h : Inv σ 0) (hL : Live σ) {i : Nat} {n : Nd} (hn : σ.nd i = some n) (hl : n.links = 0) : Inv (σ.put i none) 0 ∧ Live (σ.put i none) := by
  have hi1 : i ≠ 1 := fun e => by
    obtain ⟨r, h1, _, h2⟩ := hL.root
    rw [e, h1] at hn
    cases hn
    omega
  have hents : n.ents = [] := by cases hd : n.d with
    | true => exact h.dead i n hn hd hl
    | false => exact h.file i n hn hd
  have hr0 : refs σ i = 0 := by have := h.cnt i n hn hi1; rw [if_neg (nd_pos hn)] at this; omega
  have hnd := put_nd hn none
  have hr : ∀ j, refs (σ.put i none) j = refs σ j := fun j => by
    have := refs_put hn none j
    have e : entN j n.ents = 0 := by rw [hents]; rfl
    simp only [refN] at this
    omega
  have cs : ∀ j m, (σ.put i none).nd j = some m → j ≠ i ∧ σ.nd j = some m := fun j m hj => by
    rw [hnd] at hj
    by_cases e : j = i
    · rw [if_pos e] at hj; cases hj
    · rw [if_neg e] at hj; exact ⟨e, hj⟩
  have cf : ∀ j m, σ.nd j = some m → j ≠ i → (σ.put i none).nd j = some m := fun j m hj e => by rw [hnd, if_neg e]; exact hj
  have noP : ∀ j m, σ.nd j = some m → m.d = true → m.links ≠ 0 → j ≠ 1 → m.par ≠ i := fun j m hj h1 h2 h3 e => by
    obtain ⟨q, nm, b1, b2, b3⟩ := h.up j m hj h1 h2 h3 (nd_pos hj)
    rw [e, hn] at b1
    cases b1
    exact kget_nil_none b3 hents
  refine ⟨⟨fun j m hj h1 => ?_, by rw [hr]; exact h.root, fun j m hj h1 => h.one j m (cs j m hj).2 h1, fun j m hj h1 h2 => h.dead j m (cs j m hj).2 h1 h2, fun j m hj h1 h2 h3 h4 => ?_, fun j m hj h1 h2 => ?_, fun j m hj => h.srt j m (cs j m hj).2, fun j m hj h1 => h.file j m (cs j m hj).2 h1, fun j m hj => h.alive j m (cs j m hj).2, by decide, fun m hj => h.rootp m (cs 1 m hj).2⟩, ?_⟩
  · rw [hr]; exact h.cnt j m (cs j m hj).2 h1
  · obtain ⟨e, hj⟩ := cs j m hj
    obtain ⟨q, nm, b1, b2, b3⟩ := h.up j m hj h1 h2 h3 h4
    exact ⟨q, nm, cf _ q b1 (noP j m hj h1 h2 h3), b2, b3⟩
  · obtain ⟨e, hj⟩ := cs j m hj
    obtain ⟨d, hd⟩ := h.to_root hj h1 h2
    exact ⟨1, d, hd.same (.inl rfl) fun i0 n0 b1 b2 b3 b4 b5 => ⟨b2, n0, cf i0 n0 b3 (fun e2 => by
      rw [e2, hn] at b3
      cases b3
      exact b5 hl), b4, b5, rfl⟩⟩
  · refine ⟨?_, fun j m hj q hq => ?_, fun j m hj hd hp => ?_, ?_, by rw [FSt.put_length]; exact hL.len, ?_, fun j m hj => hL.names j m (cs j m hj).2⟩
    · obtain ⟨r, h1, h2, h3⟩ := hL.root
      exact ⟨r, cf 1 r h1 (fun e => hi1 e.symm), h2, h3⟩
    · obtain ⟨e, hj⟩ := cs j m hj
      obtain ⟨x, hx⟩ := Option.isSome_iff_exists.1 (hL.ents j m hj q hq)
      have hqi : q.2 ≠ i := fun e2 => by
        have h1 := refs_ge hj q.2
        have h2 := entN_mem (L := m.ents) (i := q.2) (s := q.1) hq
        rw [e2, hr0] at h1
        rw [e2] at h2
        omega
      rw [cf _ x hx hqi]; rfl
    · obtain ⟨e, hj⟩ := cs j m hj
      obtain ⟨x, hx⟩ := Option.isSome_iff_exists.1 (hL.par j m hj hd hp)
      by_cases j1 : j = 1
      · rw [j1] at hj
        rw [cf _ x hx (by rw [h.rootp m hj]; exact fun e => hi1 e.symm)]; rfl
      · rw [cf _ x hx (noP j m hj hd (by omega) j1)]; rfl
    · have h1 := FSt.cnt_put (show (σ.nd i).isSome = true by rw [hn]; rfl) none
      have h9 := hL.cnt
      have e1 : Go.Proofs.YtdnbfhcbcdodmaaGreatDoor.one none = 0 := rfl
      omega
    · have h1 := FSt.byts_put hn none
      have h9 := hL.byts
      have e1 : ndLen none = 0 := rfl
      omega
/-- A name taken away from a directory. -/
theorem Good.gone {σ : FSt} {k : Nat} (h : Good σ k) {a o : Nat} {n no : Nd} {x : List UInt8} (ha : σ.nd a = some n) (hd : n.d = true) (hx : kget x n.ents = some o) (ho : σ.nd o = some no) (he : no.d = true → no.ents = []) : Kept (goneS σ a x) k := by
  have hob : o ≠ a := fun e => by
    rw [e, ha] at ho
    cases ho
    exact kget_nil_none hx (he hd)
  exact ⟨h.inv.gone h.live ha hd hx ho he, h.caps.gone ha hx ho hob⟩
theorem openE_zero {n : Nd} {s : List UInt8} (h : openE n s = 0) : kget s n.ents = none ∧ n.links ≠ 0 ∧ mayN n.mode 2 = true := by
  unfold openE at h
  by_cases h1 : (kget s n.ents).isSome = true
  · rw [if_pos h1] at h; exact absurd h (by simp)
  rw [if_neg h1] at h
  by_cases h2 : n.links = 0
  · rw [if_pos h2] at h; exact absurd h (by simp)
  rw [if_neg h2] at h
  refine ⟨by simpa using h1, h2, ?_⟩
  cases h3 : mayN n.mode 2 with
  | true => rfl
  | false => rw [h3] at h; simp at h
theorem Good.make {σ : FSt} {k : Nat} (h : Good σ k) (dir : Int) (s : List UInt8) (d : Bool) (m : Int) : Kept (makeR σ dir s d m).2 (k + 1) := by
  unfold makeR
  by_cases hE : addE σ dir s d ≠ 0
  · rw [if_pos hE]; exact h.kept
  rw [if_neg hE]
  have hE : addE σ dir s d = 0 := by simpa using hE
  unfold addE at hE
  by_cases h1 : (aheadE σ dir s).1 ≠ 0
  · rw [if_pos h1] at hE; exact absurd hE h1
  rw [if_neg h1] at hE
  obtain ⟨n, hn, hnd, _⟩ := ahead_ok (by simpa using h1)
  by_cases h2 : slashS s = true ∧ d = false
  · rw [if_pos h2] at hE; exact absurd hE (by simp)
  rw [if_neg h2] at hE
  by_cases h3 : openS σ (aheadE σ dir s).2.1 (aheadE σ dir s).2.2 ≠ 0
  · rw [if_pos h3] at hE; exact absurd hE h3
  have h3 : openE n (aheadE σ dir s).2.2 = 0 := by
    have : openS σ (aheadE σ dir s).2.1 (aheadE σ dir s).2.2 = 0 := by simpa using h3
    unfold openS at this; rw [hn] at this; exact this
  obtain ⟨o1, o2, _⟩ := openE_zero h3
  unfold addS
  generalize (aheadE σ dir s).2.1 = a at *
  generalize (aheadE σ dir s).2.2 = nm at *
  have hI := h.inv.add h.live d m a
  have hna : (σ.add (newNd d m a)).nd a = some n := (FSt.add_other (by rw [hn]; rfl) _).trans hn
  have hnf := FSt.add_same σ (newNd d m a)
  refine ⟨hI.link hnf hna hnd o2 o1 (fun _ => ⟨rfl, ?_⟩), ?_⟩
  · obtain ⟨j, hj⟩ := h.inv.to_root hn hnd o2
    exact ⟨j, hj.same (.inl rfl) fun i n0 b1 b2 b3 b4 b5 => ⟨Live.ne_free (by rw [b3]; rfl), n0, (FSt.add_other (by rw [b3]; rfl) _).trans b3, b4, b5, rfl⟩⟩
  · have hc : Caps (σ.add (newNd d m a)) (max k 1) := fun j q hj => by
      rw [FSt.nd_add] at hj
      by_cases e : j = σ.free
      · rw [if_pos e] at hj
        cases hj
        exact ⟨by show 1 ≤ _; omega, Nat.zero_le _, Nat.zero_le _⟩
      · rw [if_neg e] at hj
        have := h.caps j q hj
        omega
    have h1r := h.live.root
    obtain ⟨r, hr, _, hr1⟩ := h1r
    have := (h.caps 1 r hr).1
    exact hc.link (by omega) hna nm σ.free
theorem Good.link {σ : FSt} {k : Nat} (h : Good σ k) (dir : Int) (s t : List UInt8) : Kept (linkR σ dir s t).2 (k + 2) := by
  unfold linkR
  by_cases hE : linkE σ dir s t ≠ 0
  · rw [if_pos hE]; exact h.kept.mono (Nat.le_succ _)
  rw [if_neg hE]
  have hE : linkE σ dir s t = 0 := by simpa using hE
  unfold linkE at hE
  by_cases h0 : (walkE σ dir s).1 ≠ 0
  · rw [if_pos h0] at hE; exact absurd hE h0
  rw [if_neg h0] at hE
  by_cases hdk : dirS σ (walkE σ dir s).2 = true
  · rw [if_pos hdk] at hE; exact absurd hE (by simp)
  rw [if_neg hdk] at hE
  by_cases h1 : (aheadE σ dir t).1 ≠ 0
  · rw [if_pos h1] at hE; exact absurd hE h1
  rw [if_neg h1] at hE
  obtain ⟨n, hn, hnd, _⟩ := ahead_ok (by simpa using h1)
  by_cases h2 : slashS t = true
  · rw [if_pos h2] at hE; exact absurd hE (by simp)
  rw [if_neg h2] at hE
  have h3 : openE n (aheadE σ dir t).2.2 = 0 := by unfold openS at hE; rw [hn] at hE; exact hE
  obtain ⟨o1, o2, _⟩ := openE_zero h3
  have hw := walk_ok h.live (by simpa using h0)
  unfold linkT
  generalize (aheadE σ dir t).2.1 = a at *
  generalize (aheadE σ dir t).2.2 = nm at *
  generalize (walkE σ dir s).2 = i at *
  cases hi : σ.nd i with
  | none => rw [hi] at hw; cases hw
  | some ni =>
    have hid : ni.d = false := by unfold dirS at hdk; rw [hi] at hdk; simpa using hdk
    have hi1 : i ≠ 1 := fun e => by
      obtain ⟨r, h1, h2, _⟩ := h.live.root
      rw [e, h1] at hi
      cases hi
      rw [hid] at h2
      cases h2
    have hia : i ≠ a := fun e => by rw [e, hn] at hi; cases hi; rw [hid] at hnd; cases hnd
    rw [relS_some hi]
    have hna : (σ.put i (some (more ni))).nd a = some n := by rw [put_nd hi, if_neg (fun e => hia e.symm)]; exact hn
    have hni : (σ.put i (some (more ni))).nd i = some (more ni) := by rw [put_nd hi, if_pos rfl]
    have hc := h.caps i ni hi
    exact ⟨(h.inv.inc hi hid hi1).link hni hna hnd o2 o1 (fun e => by have : ni.d = true := e; rw [hid] at this; cases this),
      (h.caps.put (n' := more ni) (Nat.le_succ _) hi (show ni.links + 1 ≤ _ by omega) (Nat.le_succ_of_le hc.2.1) (Nat.le_succ_of_le hc.2.2)).link (by omega) hna nm i⟩
end Go.Proofs.YtdnbfhcbcdodmaaGreatDoor

/- The tree of files as plain data: what is renamed, written, held, let go leaves a tree. No program in sight; no condition. -/
namespace Go.Proofs.YtdnbfhcbcdodmaaGreatDoor
open Go.RowKit

/-- An inode changed in what the tree doesn't look at. -/
theorem Good.soft {σ : FSt} {k l : Nat} (h : Good σ k) (hkl : k ≤ l) {i : Nat} {n n' : Nd} (hn : σ.nd i = some n) (hd : n'.d = n.d) (hl : n'.links = n.links) (he : n'.ents = n.ents) (hp : n'.par = n.par) (ha : n'.links ≠ 0 ∨ n'.holds ≠ 0) (hh : n'.holds ≤ l) : Kept (σ.put i (some n')) l := by
  have := h.caps i n hn
  exact ⟨h.inv.soft hn hd hl he hp ha, h.caps.put hkl hn (by omega) hh (by rw [he]; omega)⟩
theorem Good.hold {σ : FSt} {k : Nat} (h : Good σ k) (i : Int) : Kept (holdR σ i).2 (k + 1) := by
  unfold holdR
  cases hn : σ.ndI i with
  | none => exact h.kept
  | some n =>
    obtain ⟨j, rfl, hj⟩ := ndI_some hn
    simp only [Int.toNat_natCast]
    have := h.caps j n hj
    exact h.soft (Nat.le_succ _) hj rfl rfl rfl rfl (.inr (Nat.succ_ne_zero _)) (by show n.holds + 1 ≤ _; omega)
theorem Good.write {σ : FSt} {k : Nat} (h : Good σ k) (i m : Int) (s : List UInt8) : Kept (writeR σ i m s).2.2 (k + 1) := by
  unfold writeR
  cases hn : σ.ndI i with
  | none => exact h.kept
  | some n =>
    obtain ⟨j, rfl, hj⟩ := ndI_some hn
    simp only [Int.toNat_natCast]
    have := h.caps j n hj
    split
    · exact h.kept
    split
    · exact h.kept
    split
    · exact h.kept
    split
    · exact h.kept
    split
    · have h1 := put_nd hj (some { n with data := resize n.data (max n.data.length (m.toNat + s.length)) })
      have h2 := h.soft (Nat.le_succ k) hj (n' := { n with data := resize n.data (max n.data.length (m.toNat + s.length)) }) rfl rfl rfl rfl (h.inv.alive j n hj) (by show n.holds ≤ _; omega)
      unfold overS' sizeS
      have h3 : (σ.put j (some { n with data := resize n.data (max n.data.length (m.toNat + s.length)) })).nd j = some { n with data := resize n.data (max n.data.length (m.toNat + s.length)) } := by rw [h1, if_pos rfl]
      exact ⟨h2.inv.soft h3 rfl rfl rfl rfl (h.inv.alive j n hj), h2.caps.put (Nat.le_refl _) h3 (by show n.links ≤ _; omega) (by show n.holds ≤ _; omega) (by show n.ents.length ≤ _; omega)⟩
    · exact h.kept
theorem Good.drop {σ : FSt} {k : Nat} (h : Good σ k) (i : Int) : Kept (dropR σ i).2 (k + 1) := by
  unfold dropR
  cases hn : σ.ndI i with
  | none => exact h.kept
  | some n =>
    obtain ⟨j, rfl, hj⟩ := ndI_some hn
    simp only [Int.toNat_natCast]
    have hc := h.caps j n hj
    split
    · exact h.kept
    · rename_i h0
      have h3 : (σ.put j (some { n with holds := n.holds - 1 })).nd j = some { n with holds := n.holds - 1 } := by rw [put_nd hj, if_pos rfl]
      have hcp : Caps (σ.put j (some { n with holds := n.holds - 1 })) (k + 1) := h.caps.put (Nat.le_succ _) hj (by show n.links ≤ _; omega) (by show n.holds - 1 ≤ _; omega) (by show n.ents.length ≤ _; omega)
      refine ⟨?_, hcp.letS j⟩
      unfold letS
      rw [h3]
      simp only
      split
      · rename_i hz
        have e : ∀ x : Option Nd, (σ.put j x).put j none = σ.put j none := fun x => by unfold FSt.put; rw [List.set_set]
        rw [e]
        exact (h.inv.free h.live hj hz.1).1
      · rename_i hz
        refine h.inv.soft hj rfl rfl rfl rfl ?_
        by_cases hl : n.links = 0
        · exact .inr (fun e => hz ⟨hl, e⟩)
        · exact .inl hl
end Go.Proofs.YtdnbfhcbcdodmaaGreatDoor

/- gate.New: process 1 and the console. Conditions: the contract's own premises. -/
namespace Go.Proofs.YtdnbfhcbcdodmaaGreatDoor
open Go.RowKit

attribute [local go_sem] Oper.semAt_some

def noPipe : PipeQ := ⟨[], 0, 0, false⟩
def noDesc : DescQ := ⟨0, 0, 0, 0, 0, noBy, false⟩
def noProc : ProcQ := ⟨0, false, 0, 0, 0, fun _ => none, false⟩
def zeroK : KQ := ⟨newT, 0, fun _ => noPipe, 0, fun _ => noDesc, 0, fun _ => noProc, noBy, false, fun _ => noBy⟩
def proc1 : ProcQ := ⟨1, false, 0, 1, 18, fun _ => none, true⟩
def heldK : KQ := { zeroK.addQ proc1 with σ := (holdR newT 1).2 }
def conD (n : Nat) : DescQ := ⟨1, n, 0, 0, 0, noBy, false⟩
def conK : Nat → KQ
  | 0 => heldK
  | n + 1 => (openQ (conK n) 1 (conD n)).2
/-- A new kernel. -/
def newK : KQ := conK 3
theorem openQ_qn (K : KQ) (i : Nat) (d : DescQ) : (openQ K i d).2.qn = K.qn := by unfold openQ; split <;> rfl
theorem openQ_dn (K : KQ) (i : Nat) (d : DescQ) : (openQ K i d).2.dn = K.dn + 1 := by unfold openQ; split <;> rfl
theorem openQ_pn (K : KQ) (i : Nat) (d : DescQ) : (openQ K i d).2.pn = K.pn := by unfold openQ; split <;> rfl
theorem set_some {t : TSt} {a fd : Nat} {o : Option (Nat × Bool)} {x : Nat × Bool} (h : t.set a o fd = some x) : o = some x ∨ t fd = some x := by
  unfold TSt.set at h
  by_cases e : fd = a
  · rw [if_pos e] at h; exact .inl h
  · rw [if_neg e] at h; exact .inr h
theorem FdsOk.openQ {K : KQ} (h : FdsOk K) (i : Nat) (d : DescQ) : FdsOk (openQ K i d).2 := fun j fd a x h1 h2 h3 => by
  rw [openQ_qn] at h2
  rw [openQ_dn]
  have key : (K.proc j).fds fd = some (a, x) ∨ (a, x) = (K.dn + 1, false) := by
    unfold Go.Proofs.YtdnbfhcbcdodmaaGreatDoor.openQ at h3
    split at h3
    · exact .inl h3
    · rename_i b _
      have h3 : (if j = i then { K.proc i with fds := (K.proc i).fds.set b (some (K.dn + 1, false)) } else K.proc j : ProcQ).fds fd = some (a, x) := h3
      by_cases e : j = i
      · rw [if_pos e] at h3
        rcases set_some h3 with h3 | h3
        · exact .inr (Option.some.inj h3).symm
        · exact .inl (by rw [e]; exact h3)
      · rw [if_neg e] at h3
        exact .inl h3
  rcases key with e | e
  · have := h j fd a x h1 h2 e
    omega
  · cases e
    omega
theorem conK_qn : ∀ n, (conK n).qn = 1
  | 0 => rfl
  | n + 1 => by rw [conK, openQ_qn, conK_qn n]
theorem conK_dn : ∀ n, (conK n).dn = n
  | 0 => rfl
  | n + 1 => by rw [conK, openQ_dn, conK_dn n]
theorem conK_fds : ∀ n, FdsOk (conK n)
  | 0 => fun j fd a x h1 h2 h3 => by
    have h2 : j ≤ 1 := h2
    have e : j = 1 := by omega
    subst e
    cases h3
  | n + 1 => (conK_fds n).openQ 1 (conD n)
/-- While the console's descriptions are made. -/
def NewI (w : World) (k qb j : Nat) (wr : World) : Prop := ∃ L, KF wr k (conK j) L ∧ L.qb 1 = qb ∧ Fr (fun _ => False) w wr ∧ ∀ b, L.o b ≠ none → w.heap.size ≤ b
def KNewPost (w : World) (e : Ending) (w' : World) : Prop := ∃ k L, e = .returned (ptrAt k) ∧ KF w' k newK L ∧ Fr (fun _ => False) w w' ∧ ∀ b, L.o b ≠ none → w.heap.size ≤ b
set_option maxRecDepth 100000 in
set_option maxHeartbeats 1000000 in
theorem knew_any (w : World) : Calls Tryz.prog 8 #[] w (KNewPost w) := by
  go_enter Tryz.func8, Tryz.ntmps8
  go_wp2_with fail
  refine (New_any w).mono ?_
  rintro e w1 ⟨f, p, rfl, hA1, hf1⟩
  obtain ⟨k, hk⟩ : ∃ k, k = w1.heap.size := ⟨_, rfl⟩
  obtain ⟨w2, hw2⟩ : ∃ w2, w2 = w1.alloc (.cells #[.pointer (some ⟨f, 0, none⟩), .int .i64 0, .map none, .int .i64 0, .map none, .int .i64 0, .map none, .string ⟨#[]⟩, .bool false, .string ⟨#[]⟩, .string ⟨#[]⟩, .string ⟨#[]⟩] 70 (0, 0)) := ⟨_, rfl⟩
  have z2 : w2.heap.size = k + 1 := by rw [hw2, hk]; simp
  have hf12 : Fr (fun _ => False) w1 w2 := by rw [hw2]; exact (Fr.refl _ _).alloc _
  have hF2 : KF w2 k zeroK ⟨f, none, none, none, fun _ => 0, fun _ => 0, fun _ => 0, fun _ => 0, fun _ => 0, fun b => if b = k then some tKer else if w.heap.size ≤ b ∧ b < k then some tFil else none⟩ :=
    { hk := by rw [hw2, hk]; exact blk_new _ _
      files := ⟨p, (hA1.apartsK hf12 (fun _ _ _ e => e)).mono fun b e => by
        show (if b = k then some tKer else if w.heap.size ≤ b ∧ b < k then some tFil else none) = some tFil ∨ w2.heap.size ≤ b
        by_cases e2 : w2.heap.size ≤ b
        · exact .inr e2
        · refine .inl ?_
          have := e.1
          have := e.2
          rw [if_neg (by omega), if_pos (by omega)]⟩
      pr := rfl, dr := rfl, qr := rfl
      hd := fun i a b => (by have b : i ≤ 0 := b; omega)
      hq := fun i a b => (by have b : i ≤ 0 := b; omega)
      ht := fun i a b => (by have b : i ≤ 0 := b; omega)
      hp := fun i a b => (by have b : i ≤ 0 := b; omega)
      ok := if_pos rfl
      opm := fun g e => (by cases e)
      odm := fun g e => (by cases e)
      oqm := fun g e => (by cases e)
      od := fun i a b => (by have b : i ≤ 0 := b; omega)
      oq := fun i a b => (by have b : i ≤ 0 := b; omega)
      op := fun i a b => (by have b : i ≤ 0 := b; omega)
      new := fun b hb => by
        show (if b = k then some tKer else if w.heap.size ≤ b ∧ b < k then some tFil else none) = none
        rw [if_neg (by omega), if_neg (by omega)] }
  have Hw2 := hide hw2
  have HF2 := hide hF2
  have Hf2 := hide (hf1.trans hf12)
  have Hz2 := hide z2
  have Hk := hide hk
  have hkw := hf1.size
  have Hkw := hide (show w.heap.size ≤ k by omega)
  clear hA1 hf1 hf12 hw2 hF2 z2 hkw
  go_upto_region 2 with (fail)
  rw [← Hw2.out, ← Hk.out]
  clear Hw2 Hk hk
  go_wp2_with fail
  refine (new_any w2).mono ?_
  rintro e w3 ⟨rfl, hw3⟩
  obtain ⟨qb, hqb⟩ : ∃ qb, qb = w3.heap.size := ⟨_, rfl⟩
  obtain ⟨w4, hw4⟩ : ∃ w4, w4 = w3.alloc (.cells #[.int .i64 0, .int .i64 0, .bool false, .int .i64 0, .int .i64 1, .int .i64 18, .pointer (some ⟨w2.heap.size, 0, none⟩)] 76 (0, 0)) := ⟨_, rfl⟩
  have z3 : w3.heap.size = w2.heap.size + 1 := by rw [hw3]; simp
  have z4 : w4.heap.size = w3.heap.size + 1 := by rw [hw4]; simp
  have hf23 : Fr (fun _ => False) w2 w3 := by rw [hw3]; exact (Fr.refl _ _).alloc _
  have hf34 : Fr (fun _ => False) w3 w4 := by rw [hw4]; exact (Fr.refl _ _).alloc _
  have hT3 := TabF.new w2 (fun b => w2.heap.size ≤ b) (fun _ e => e) w3 hw3
  have q4 : w4.heap[qb]? = some (.cells #[.int .i64 0, .int .i64 0, .bool false, .int .i64 0, .int .i64 1, .int .i64 18, .pointer (some ⟨w2.heap.size, 0, none⟩)] 76 (0, 0)) := by rw [hw4, hqb]; exact blk_new _ _
  have hF4 := HF2.out.quiet (hf23.trans hf34)
  have hT4 := hT3.aparts hf34 (fun _ _ _ e => e)
  have hqk : qb ≠ k := by have := Hz2.out; omega
  have hadd := hide (q_add w4 k _ none (fun _ => false) (fun _ => 0) 0 qb hF4.hk rfl rfl rfl (by simp) (by decide))
  have HF4 := hide hF4
  have HT4 := hide hT4
  have Hq4 := hide q4
  have Hw4 := hide hw4
  have Hqb := hide hqb
  have Hf4 := hide (hf23.trans hf34)
  have Hz3 := hide z3
  have Hz4 := hide z4
  clear hf23 hf34 hT3 hF4 hT4 hw3 hw4 q4 z3 z4
  unfold ptrAt at *
  go_upto_region 3 with (fail)
  rw [← Hw4.out, ← Hqb.out]
  clear Hw4 hqb
  go_wp2_with fail
  refine hadd.out.mono ?_
  rintro e w5 ⟨rfl, m, hk5, hr5, hm5, hf5⟩
  have q5 : w5.heap[qb]? = _ := hf5.get Hq4.out (fun e => by rcases e with e | e; (· exact hqk e); (· cases e))
  have f5 : w5.frozen? ⟨qb, 0, none⟩ = false := blk_frozen q5 _
  have g5 : w5.cell? ⟨qb, 0, none⟩ = some (.int .i64 0) := by rw [blk_cell q5]; rfl
  obtain ⟨w6, hw6⟩ : ∃ w6, w6 = w5.setCell ⟨qb, 0, none⟩ (.int .i64 1) := ⟨_, rfl⟩
  have q6 : w6.heap[qb]? = some (.cells #[.int .i64 1, .int .i64 0, .bool false, .int .i64 0, .int .i64 1, .int .i64 18, .pointer (some ⟨w2.heap.size, 0, none⟩)] 76 (0, 0)) := by rw [hw6]; exact blk_set q5 _ _
  have c6 : w6.cell? ⟨qb, 0, none⟩ = some (.int .i64 1) := by rw [blk_cell q6]; rfl
  have f6 : w6.frozen? ⟨qb, 1, none⟩ = false := blk_frozen q6 _
  have g6 : w6.cell? ⟨qb, 1, none⟩ = some (.int .i64 0) := by rw [blk_cell q6]; rfl
  obtain ⟨w7, hw7⟩ : ∃ w7, w7 = w6.setCell ⟨qb, 1, none⟩ (.int .i64 1) := ⟨_, rfl⟩
  have q7 : w7.heap[qb]? = some (.cells #[.int .i64 1, .int .i64 1, .bool false, .int .i64 0, .int .i64 1, .int .i64 18, .pointer (some ⟨w2.heap.size, 0, none⟩)] 76 (0, 0)) := by rw [hw7]; exact blk_set q6 _ _
  have hf57 : Fr (fun b => b = qb) w5 w7 := by
    rw [hw7, hw6]
    exact ((Fr.refl (fun b => b = qb) w5).setCell (p := ⟨qb, 0, none⟩) (.inl rfl) _).setCell (p := ⟨qb, 1, none⟩) (.inl rfl) _
  have hmg : m = some w4.heap.size := by
    rcases hm5 with ⟨_, e⟩ | ⟨_, e⟩
    · exact absurd rfl e
    · exact e
  have hs4 := Hz4.out
  have hq3 := Hqb.out
  have hs3 := Hz3.out
  have hs2 := Hz2.out
  have hml : w4.heap.size < w5.heap.size := by rw [hmg] at hr5; exact hr5.lt
  have hqlt := blk_lt Hq4.out
  have hr7 := hr5.frame hf57 (fun g e e2 => by rw [hmg] at e; cases e; omega)
  have hf47 : Fr (fun b => b = k ∨ b = qb) w4 w7 := (hf5.mono fun b _ e => e.imp id fun e => (by cases e)).trans (hf57.mono fun b _ e => .inr e)
  have hT7 := HT4.out.aparts hf47 (fun b hb e e2 => by have := e.1; have := e.2; omega)
  have hk7 : w7.heap[k]? = some _ := hf57.get hk5 (fun e => hqk e.symm)
  have hF7 := HF4.out.addQ (q := proc1) (X := fun b => w2.heap.size ≤ b ∧ b < w3.heap.size) (xb := qb) (tb := w2.heap.size) (m := m) (T := fun b => b = k ∨ b = qb) hk7 hr7 rfl (by
      rw [q7]
      unfold procC KLay.addQ
      simp [proc1, ptrAt, zeroK]) (hT7.mono fun b e => by
      have h1 := e.1.1
      have h2 := e.1.2
      have h3 := e.2
      by_cases hb : b < w3.heap.size
      · exact .inl ⟨h1, hb⟩
      · exact .inr (by omega))
    (HF2.out.new qb (by omega)) (fun b e => ⟨HF2.out.new b e.1, by have := hf47.size; have := e.2; omega, by have := e.2; omega⟩) (.inr ⟨_, hmg, HF2.out.new _ (by omega), Nat.lt_of_lt_of_le hml hf57.size, by omega, by omega⟩)
    hf47 (fun b t e e2 => by
      rcases e2 with e2 | e2
      · exact .inl e2
      · rw [e2, HF2.out.new qb (by omega)] at e; cases e)
  have hA7 := hF7.files
  obtain ⟨p7, hA7⟩ := hA7
  have hho := hide (Hold_any w7 f newT _ p7 hA7 (Good.new.b (by decide)) 1 (by decide))
  have cf7 : w7.cell? ⟨k, 0, none⟩ = some (.pointer (some ⟨f, 0, none⟩)) := by rw [blk_cell hF7.hk]; rfl
  have hnew7 : ∀ b, (KLay.addQ ⟨f, none, none, none, fun _ => 0, fun _ => 0, fun _ => 0, fun _ => 0, fun _ => 0, fun b => if b = k then some tKer else if w.heap.size ≤ b ∧ b < k then some tFil else none⟩ 0 qb w2.heap.size (fun b => w2.heap.size ≤ b ∧ b < w3.heap.size) m).o b ≠ none → w.heap.size ≤ b := fun b e => by
    have := Hkw.out
    rcases addQ_new e with e | e | e | e
    · by_cases hb : w.heap.size ≤ b
      · exact hb
      · refine absurd ?_ e
        show (if b = k then some tKer else if w.heap.size ≤ b ∧ b < k then some tFil else none) = none
        rw [if_neg (by omega), if_neg (by omega)]
    · omega
    · omega
    · rw [hmg] at e; cases e; omega
  have HF7 := hide hF7
  have Hnew7 := hide hnew7
  have Hf7 := hide ((Hf2.out.trans Hf4.out).trans' hf47 fun b hb e => by have := Hkw.out; have := Hf4.out.size; omega)
  have HA7 := hide hA7
  have Hw6 := hide hw6
  have Hw7 := hide hw7
  have hqd : (KLay.addQ ⟨f, none, none, none, fun _ => 0, fun _ => 0, fun _ => 0, fun _ => 0, fun _ => 0, fun b => if b = k then some tKer else if w.heap.size ≤ b ∧ b < k then some tFil else none⟩ 0 qb w2.heap.size (fun b => w2.heap.size ≤ b ∧ b < w3.heap.size) m).qb 1 = qb := by
    show (if (1 : Nat) = 0 + 1 then qb else 0) = qb
    rw [if_pos rfl]
  have Hqd := hide hqd
  clear hadd hk5 hr5 hm5 hf5 q5 q6 q7 hf57 hr7 hf47 hT7 hk7 hF7 hA7 hnew7 hw6 hw7 hqd HT4 HF4 Hq4 hs2 hs3 hs4 hq3 hmg hml hqlt
  go_upto_region 4 with (fail)
  rw [← Hw6.out]
  clear f5 g5
  go_upto_region 5 with (fail)
  rw [← Hw7.out]
  clear f6 g6 c6 Hw6 Hw7
  go_wp2_with fail
  refine hho.out.mono ?_
  rintro e w8 hpost
  obtain ⟨rfl, hA8, hf8⟩ := hpost
  have hF8 := HF7.out.filesU hf8 hA8
  have hext8 := grow_ext (t := tFil) (w' := w8) (K' := heldK) HF7.out hf8.size (Nat.le_refl _) (Nat.le_refl _) (Nat.le_refl _)
  have H0 := hide (show NewI w k qb 0 w8 from ⟨_, hF8, (hext8.qb 1 (by decide) (by decide)).trans Hqd.out, Hf7.out.trans' hf8 (fun b hb e => by
      rcases e with e | e
      · have := Hnew7.out b (fun e2 => by have := e.symm.trans e2; cases this); omega
      · have := Hf7.out.size; omega), fun b e => by
      rcases grow_new e with e | e
      · exact Hnew7.out b e
      · have := Hf7.out.size; omega⟩)
  clear hF8 hext8 hA8 hf8 hho HF7 Hnew7 Hf7 HA7 Hqd
  go_wp2_with fail
  go_loopg [33] 3 (fun gk i wr => ∃ j, gk + j = 3 ∧ i = .int .i64 j ∧ NewI w k qb j wr)
  case atStart => exact ⟨0, rfl, rfl, H0.out⟩
  case round =>
    clear H0
    obtain ⟨j, hgk, rfl, L, hF, hq, hfr, hnw⟩ := hrel
    by_cases hj : j < 3
    · have hji : (j : Int) < 3 := by omega
      obtain ⟨xb, hxb⟩ : ∃ xb, xb = wr.heap.size := ⟨_, rfl⟩
      obtain ⟨wa, hwa⟩ : ∃ wa, wa = wr.alloc (.cells #[.int .i64 1, .int .i64 j, .int .i64 0, .int .i64 0, .int .i64 0, .pointer none, .string ⟨#[]⟩, .int .i64 0] 84 (0, 0)) := ⟨_, rfl⟩
      have hfa : Fr (fun _ => False) wr wa := by rw [hwa]; exact (Fr.refl _ _).alloc _
      have xa : wa.heap[xb]? = some (.cells (rawD L (conD j) 0 0) 84 (0, 0)) := by rw [hwa, hxb]; exact blk_new _ _
      have hqn := conK_qn j
      have hko := hide (kopen_any wa k (conK j) L (hF.quiet hfa) 1 (by decide) (by omega) xb (conD j) xa (hF.new xb (by omega)) (conK_fds j) (by rw [conK_dn]; omega))
      rw [hq] at hko
      have Hwa := hide hwa
      have Hxb := hide hxb
      have Hgk := hide hgk
      have Hfa := hide (hfr.trans hfa)
      have Hnw := hide hnw
      have Hq := hide hq
      have Hza := hide hfr.size
      have hqlt : 1 ≤ (conK j).qn := by omega
      have Hql := hide hqlt
      unfold ptrAt at *
      clear hF hq hfr hnw hgk hfa xa hwa hxb hqn hqlt
      go_wp2_with fail
      rw [← Hwa.out, ← Hxb.out]
      refine hko.out.mono ?_
      rintro e wb ⟨rfl, L', hF', hext, hfb, hnb⟩
      have hn := hide (show NewI w k qb (j + 1) wb from ⟨L', hF', (hext.qb 1 (by decide) Hql.out).trans Hq.out, Hfa.out.trans' hfb (fun b hb e => by
          rcases e with e | e
          · have := Hnw.out b e; omega
          · have := Hxb.out; have := Hza.out; omega), fun b e => by
          rcases hnb b e with e | e | e
          · exact Hnw.out b e
          · have := Hxb.out; have := Hza.out; omega
          · have := Hfa.out.size; omega⟩)
      clear hko hF' hext hfb hnb
      go_wp2_with fail
      go_roundg (gk - 1)
      case measure => have := Hgk.out; omega
      case rel => exact ⟨j + 1, by have := Hgk.out; omega, by go_num, hn.out⟩
    · have hj3 : j = 3 := by omega
      subst hj3
      have hfin := hide (show KNewPost w (.returned (ptrAt k)) wr from ⟨k, L, rfl, hF, hfr, hnw⟩)
      clear hF hq hfr hnw hgk
      unfold ptrAt at hfin
      go_wp2_with fail
      go_ret
      exact hfin.out
end Go.Proofs.YtdnbfhcbcdodmaaGreatDoor

/- What a kernel's data keep; reading, as plain data. No program in sight; no condition. -/
namespace Go.Proofs.YtdnbfhcbcdodmaaGreatDoor
open Go.RowKit

structure DescOk (K : KQ) (N : Nat) (d : DescQ) : Prop where
  kind : 1 ≤ d.kind ∧ d.kind ≤ 5
  con : d.kind = 1 → d.n ≤ 2
  txt : d.kind = 5 → d.pos ≤ d.text.size
  pip : d.kind = 3 ∨ d.kind = 4 → 1 ≤ d.n ∧ d.n ≤ K.pn
  num : d.n ≤ 9223372036854775807
  pos : d.kind ≠ 5 → d.pos ≤ 65536
  flg : d.flags < 64
  refs : d.refs ≤ N ∧ -(N : Int) ≤ d.refs
  tsz : d.text.size ≤ 9223372036854775807
structure ProcOk (N : Nat) (q : ProcQ) : Prop where
  dir : q.dir ≤ 9223372036854775807
  mask : q.mask ≤ 511
  par : q.parent ≤ N
  status : -9223372036854775808 ≤ q.status ∧ q.status ≤ 9223372036854775807
/-- What a kernel's data keep: N bounds what has been asked. -/
structure KOk (K : KQ) (N : Nat) : Prop where
  fds : FdsOk K
  desc : ∀ j, 1 ≤ j → j ≤ K.dn → DescOk K N (K.desc j)
  proc : ∀ i, 1 ≤ i → i ≤ K.qn → ProcOk N (K.proc i)
  pipe : ∀ i, 1 ≤ i → i ≤ K.pn → (K.pipe i).data.length ≤ 64 ∧ (K.pipe i).r ≤ N ∧ (K.pipe i).x ≤ N
  pn : K.pn ≤ N
  dn : K.dn ≤ N
  qn : K.qn ≤ N
  good : Good K.σ N
  typed : K.typed.size ≤ 4096
/-- Which description a descriptor names. -/
def fdQ (K : KQ) (i : Nat) (fd : Int) : Option Nat := ((K.proc i).fds.at fd).map (·.1)
/-- A pipe's bytes are taken. -/
def takeP (p : PipeQ) (n : Nat) : PipeQ := { p with data := p.data.drop n }
/-- SysRead: does it wait, the answer, the kernel. -/
def readQ (K : KQ) (i : Nat) (a b : Int) : Bool × ResQ × KQ :=
  match fdQ K i a with
  | none => (false, errR 9, K)
  | some j =>
    if (K.desc j).reads = false then (false, errR 9, K)
    else if b < 0 then (false, errR 22, K)
    else if (K.desc j).kind = 1 then
      if 0 < b ∧ K.typed.size = 0 ∧ K.closed = false then (true, noRes, K)
      else (false, { noRes with s := K.typed.extract 0 (min b.toNat K.typed.size) }, { K with typed := K.typed.extract (min b.toNat K.typed.size) K.typed.size })
    else if (K.desc j).kind = 2 then
      (false, { noRes with s := ⟨(readB K.σ (K.desc j).n (K.desc j).pos b).toArray⟩, err := readE K.σ (K.desc j).n (K.desc j).pos b }, K.setD j { K.desc j with pos := (K.desc j).pos + (readB K.σ (K.desc j).n (K.desc j).pos b).length })
    else if (K.desc j).kind = 5 then
      (false, { noRes with s := (K.desc j).text.extract (K.desc j).pos ((K.desc j).pos + min b.toNat ((K.desc j).text.size - (K.desc j).pos)) }, K.setD j { K.desc j with pos := (K.desc j).pos + min b.toNat ((K.desc j).text.size - (K.desc j).pos) })
    else if 0 < b ∧ (K.pipe (K.desc j).n).data = [] ∧ 0 < (K.pipe (K.desc j).n).x then (true, noRes, K)
    else (false, { noRes with s := ⟨((K.pipe (K.desc j).n).data.take b.toNat).toArray⟩ }, K.setP (K.desc j).n (takeP (K.pipe (K.desc j).n) b.toNat))
end Go.Proofs.YtdnbfhcbcdodmaaGreatDoor

/- A call under way: its cells, the description of a descriptor, what may be read and written. Conditions: each contract's own premises. -/
namespace Go.Proofs.YtdnbfhcbcdodmaaGreatDoor
open Go.RowKit

attribute [local go_sem] Oper.semAt_some

/-- What is asked. -/
structure SysQ where
  no : Int
  a : Int
  b : Int
  s : ByteArray
  t : ByteArray
  p : Value
/-- What is answered, as it stands in memory. -/
structure ResV where
  n : Int
  m : Int
  s : ByteArray
  list : Value
  st : StQ
  err : Int
def noResV : ResV := ⟨0, 0, noBy, .slice none 0 0, noSt, 0⟩
def askC (k q : Nat) (c : SysQ) (r : ResV) : Array Value := #[ptrAt k, ptrAt q, .int .i64 c.no, .int .i64 c.a, .int .i64 c.b, .string c.s, .string c.t, c.p, .int .i64 r.n, .int .i64 r.m, .string r.s, r.list, .int .i64 r.st.ino, .int .i64 r.st.kind, .int .i64 r.st.mode, .int .i64 r.st.links, .int .i64 r.st.size, .int .i64 r.err]
def AskAt (w : World) (a k q : Nat) (c : SysQ) (r : ResV) : Prop := w.heap[a]? = some (.cells (askC k q c r) 88 (0, 0))
def descV (L : KLay) (o : Option Nat) : Value := match o with | none => .pointer none | some j => ptrAt (L.db j)
def fdE (o : Option Nat) : Int := match o with | none => 9 | some _ => 0
theorem getV_tabS (L : KLay) (K : KQ) (i : Nat) (fd : Int) : getV ((tabS L (K.proc i).fds).at fd) = .tuple #[descV L (fdQ K i fd), .int .i64 (fdE (fdQ K i fd))] := by
  unfold fdQ TSt.at tabS
  by_cases e : inB fd = true
  · rw [if_pos e, if_pos e]
    cases (K.proc i).fds fd.toNat <;> rfl
  · rw [if_neg e, if_neg e]; rfl
theorem fdQ_ok {K : KQ} (h : FdsOk K) {i : Nat} (h1 : 1 ≤ i) (h2 : i ≤ K.qn) {fd : Int} {j : Nat} (e : fdQ K i fd = some j) : 1 ≤ j ∧ j ≤ K.dn := by
  unfold fdQ TSt.at at e
  split at e
  · obtain ⟨⟨a, x⟩, e1, e2⟩ := Option.map_eq_some_iff.1 e
    cases e2
    exact h i _ _ _ h1 h2 e1
  · cases e
set_option maxRecDepth 100000 in
set_option maxHeartbeats 1000000 in
theorem adesc_any (w : World) (k : Nat) (K : KQ) (L : KLay) (h : KF w k K L) (i : Nat) (h1 : 1 ≤ i) (h2 : i ≤ K.qn) (a : Nat) (c : SysQ) (r : ResV) (ha : AskAt w a k (L.qb i) c r) (fd : Int) :
    Calls Tryz.prog 74 #[ptrAt a, .int .i64 fd] w fun e w' => e = .returned (descV L (fdQ K i fd)) ∧ w' = w.setCell ⟨a, 17, none⟩ (.int .i64 (fdE (fdQ K i fd))) := by
  have c1 : w.cell? ⟨a, 1, none⟩ = some (.pointer (some ⟨L.qb i, 0, none⟩)) := by rw [blk_cell ha]; rfl
  have c6 : w.cell? ⟨L.qb i, 6, none⟩ = some (.pointer (some ⟨L.tb i, 0, none⟩)) := by rw [blk_cell (h.hq i h1 h2)]; rfl
  have c17 : w.cell? ⟨a, 17, none⟩ = some (.int .i64 r.err) := by rw [blk_cell ha]; rfl
  have f17 : w.frozen? ⟨a, 17, none⟩ = false := blk_frozen ha _
  have hget := get_any w (L.tb i) _ _ (h.ht i h1 h2) fd
  rw [getV_tabS] at hget
  have Hget := hide hget
  generalize descV L (fdQ K i fd) = v at *
  generalize fdE (fdQ K i fd) = x at *
  clear h ha hget
  unfold ptrAt
  go_enter Tryz.func74, Tryz.ntmps74
  go_wp2_with fail
  refine Hget.out.mono ?_
  rintro e w' ⟨rfl, rfl⟩
  go_wp2_with fail
  go_ret
  exact ⟨rfl, rfl⟩
theorem and_fact1 : ∀ f : Fin 64, bits .and .i64 ((f.val : Nat) : Int) 1 = ((f.val % 2 : Nat) : Int) := by decide +kernel
theorem and_fact2 : ∀ f : Fin 64, bits .and .i64 ((f.val : Nat) : Int) 2 = ((f.val / 2 % 2 * 2 : Nat) : Int) := by decide +kernel
theorem kinds5 {n : Nat} (h : 1 ≤ n ∧ n ≤ 5) : n = 1 ∨ n = 2 ∨ n = 3 ∨ n = 4 ∨ n = 5 := by omega
set_option maxRecDepth 100000 in
set_option maxHeartbeats 1000000 in
theorem dreads_any (w : World) (x : Nat) (L : KLay) (i : Nat) (d : DescQ) (h : w.heap[x]? = some (.cells (descC L i d) 84 (0, 0))) (hk : 1 ≤ d.kind ∧ d.kind ≤ 5) (hfl : d.flags < 64) :
    Calls Tryz.prog 38 #[ptrAt x] w fun e w' => e = .returned (.bool d.reads) ∧ w' = w := by
  obtain ⟨kd, n, pos, refs, fl, tx, inn⟩ := d
  have c0 : w.cell? ⟨x, 0, none⟩ = some (.int .i64 kd) := by rw [blk_cell h]; rfl
  have c1 : w.cell? ⟨x, 1, none⟩ = some (.int .i64 n) := by rw [blk_cell h]; rfl
  have c4 : w.cell? ⟨x, 4, none⟩ = some (.int .i64 fl) := by rw [blk_cell h]; rfl
  have hb : bits .and .i64 (fl : Int) 1 = ((fl % 2 : Nat) : Int) := and_fact1 ⟨fl, hfl⟩
  clear h
  unfold ptrAt
  rcases kinds5 hk with rfl | rfl | rfl | rfl | rfl
  · by_cases hn : n = 0
    · subst hn
      go_enter Tryz.func38, Tryz.ntmps38
      go_wp2_with fail
      go_ret
      exact ⟨by simp [DescQ.reads], rfl⟩
    · have e1 : ((n : Int) == 0) = false := by simp; omega
      go_enter Tryz.func38, Tryz.ntmps38
      go_wp2_with fail
      go_ret
      exact ⟨by simp [DescQ.reads, hn], rfl⟩
  · rcases Nat.mod_two_eq_zero_or_one fl with e | e
    · rw [e] at hb
      go_enter Tryz.func38, Tryz.ntmps38
      go_wp2_with fail
      go_ret
      exact ⟨by simp [DescQ.reads, e], rfl⟩
    · rw [e] at hb
      go_enter Tryz.func38, Tryz.ntmps38
      go_wp2_with fail
      go_ret
      exact ⟨by simp [DescQ.reads, e], rfl⟩
  all_goals
    go_enter Tryz.func38, Tryz.ntmps38
    go_wp2_with fail
    go_ret
    exact ⟨by simp [DescQ.reads], rfl⟩
set_option maxRecDepth 100000 in
set_option maxHeartbeats 1000000 in
theorem dwrites_any (w : World) (x : Nat) (L : KLay) (i : Nat) (d : DescQ) (h : w.heap[x]? = some (.cells (descC L i d) 84 (0, 0))) (hk : 1 ≤ d.kind ∧ d.kind ≤ 5) (hfl : d.flags < 64) :
    Calls Tryz.prog 77 #[ptrAt x] w fun e w' => e = .returned (.bool d.writes) ∧ w' = w := by
  obtain ⟨kd, n, pos, refs, fl, tx, inn⟩ := d
  have c0 : w.cell? ⟨x, 0, none⟩ = some (.int .i64 kd) := by rw [blk_cell h]; rfl
  have c1 : w.cell? ⟨x, 1, none⟩ = some (.int .i64 n) := by rw [blk_cell h]; rfl
  have c4 : w.cell? ⟨x, 4, none⟩ = some (.int .i64 fl) := by rw [blk_cell h]; rfl
  have hb : bits .and .i64 (fl : Int) 2 = ((fl / 2 % 2 * 2 : Nat) : Int) := and_fact2 ⟨fl, hfl⟩
  clear h
  unfold ptrAt
  rcases kinds5 hk with rfl | rfl | rfl | rfl | rfl
  · by_cases hn : n = 0
    · subst hn
      go_enter Tryz.func77, Tryz.ntmps77
      go_wp2_with fail
      go_ret
      exact ⟨by simp [DescQ.writes], rfl⟩
    · have e1 : ((n : Int) != 0) = true := by simp; omega
      go_enter Tryz.func77, Tryz.ntmps77
      go_wp2_with fail
      go_ret
      exact ⟨by simp [DescQ.writes, hn], rfl⟩
  · rcases Nat.mod_two_eq_zero_or_one (fl / 2) with e | e
    · rw [e] at hb
      go_enter Tryz.func77, Tryz.ntmps77
      go_wp2_with fail
      go_ret
      exact ⟨by simp [DescQ.writes, e], rfl⟩
    · rw [e] at hb
      go_enter Tryz.func77, Tryz.ntmps77
      go_wp2_with fail
      go_ret
      exact ⟨by simp [DescQ.writes, e], rfl⟩
  all_goals
    go_enter Tryz.func77, Tryz.ntmps77
    go_wp2_with fail
    go_ret
    exact ⟨by simp [DescQ.writes], rfl⟩
end Go.Proofs.YtdnbfhcbcdodmaaGreatDoor
