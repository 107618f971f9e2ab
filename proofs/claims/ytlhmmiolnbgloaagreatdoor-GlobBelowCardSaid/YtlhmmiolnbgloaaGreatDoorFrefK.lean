/- The document's tree of files in memory behind a change of one inode; shyardref08.FS.change. Conditions: the laws' own premises. -/
import Derived.Test.YtlhmmiolnbgloaaGreatDoorFrefG
import Derived.Deep.MidRow
import Derived.Great.BuildSlice
import Derived.Test.YtlhmmiolnbgloaaGreatDoorStrs
import Derived.Great.Frames
namespace Go.Proofs.YtlhmmiolnbgloaaGreatDoor
open Go.RowKit

theorem nodesR_put {σ τ : FSt} {nv iv nv' iv' : Nat → Value} {i : Nat} (hi : i ≤ σ.length) (hτ : τ.length = σ.length) (hoth : ∀ j, j ≠ i → τ.nd j = σ.nd j ∧ nv' j = nv j ∧ iv' j = iv j) {c0 c1 c2 c3 c4 c5 c6 c7 : Value} (hc : nodeR τ nv' iv' i = [c0, c1, c2, c3, c4, c5, c6, c7]) :
    nodesR τ nv' iv' = ((((((((nodesR σ nv iv).set (i * 8) c0).set (i * 8 + 1) c1).set (i * 8 + 2) c2).set (i * 8 + 3) c3).set (i * 8 + 4) c4).set (i * 8 + 5) c5).set (i * 8 + 6) c6).set (i * 8 + 7) c7 := by
  apply List.ext_getElem?
  intro m
  have hl1 := nodesR_len τ nv' iv'
  have hl2 := nodesR_len σ nv iv
  rw [hτ] at hl1
  by_cases hm : m < (σ.length + 1) * 8
  · obtain ⟨j, r, hr, rfl⟩ : ∃ j r, r < 8 ∧ m = j * 8 + r := ⟨m / 8, m % 8, Nat.mod_lt _ (by decide), by omega⟩
    have hj : j ≤ σ.length := by omega
    rw [nodesR_get τ nv' iv' (by omega) hr]
    simp only [List.getElem?_set, List.length_set, hl2]
    by_cases e : j = i
    · subst e
      rw [hc]
      have h8 : r = 0 ∨ r = 1 ∨ r = 2 ∨ r = 3 ∨ r = 4 ∨ r = 5 ∨ r = 6 ∨ r = 7 := by omega
      rcases h8 with rfl | rfl | rfl | rfl | rfl | rfl | rfl | rfl <;> simp <;> omega
    · rw [if_neg (by omega), if_neg (by omega), if_neg (by omega), if_neg (by omega), if_neg (by omega), if_neg (by omega), if_neg (by omega), if_neg (by omega), nodesR_get σ nv iv hj hr]
      obtain ⟨h1, h2, h3⟩ := hoth j e
      unfold nodeR
      rw [h1, h2, h3]
  · rw [List.getElem?_eq_none (by omega), List.getElem?_eq_none (by simp only [List.length_set]; omega)]
def set8 (w : World) (nb i : Nat) (c0 c1 c2 c3 c4 c5 c6 c7 : Value) : World :=
  (((((((w.setCell ⟨nb, i * 8, none⟩ c0).setCell ⟨nb, i * 8 + 1, none⟩ c1).setCell ⟨nb, i * 8 + 2, none⟩ c2).setCell ⟨nb, i * 8 + 3, none⟩ c3).setCell ⟨nb, i * 8 + 4, none⟩ c4).setCell ⟨nb, i * 8 + 5, none⟩ c5).setCell ⟨nb, i * 8 + 6, none⟩ c6).setCell ⟨nb, i * 8 + 7, none⟩ c7
theorem set8_fr (w : World) (nb i : Nat) (c0 c1 c2 c3 c4 c5 c6 c7 : Value) : Fr (fun q => q = nb) w (set8 w nb i c0 c1 c2 c3 c4 c5 c6 c7) := by
  unfold set8
  exact ((((((((Fr.refl (fun q => q = nb) w).setCell (.inl rfl) _).setCell (.inl rfl) _).setCell (.inl rfl) _).setCell (.inl rfl) _).setCell (.inl rfl) _).setCell (.inl rfl) _).setCell (.inl rfl) _).setCell (.inl rfl) _
/-- One inode written over. -/
theorem RfF.write {w : World} {g : Nat} {σ τ : FSt} {S : Nat → Prop} {nb cap : Nat} {nv iv nv' iv' : Nat → Value} {i : Nat} (h : RfF w g σ S (.slice (some ⟨nb, 0, none⟩) (σ.length + 1) cap) nv iv) (hi : i ≤ σ.length) (hτ : τ.length = σ.length)
    (hoth : ∀ j, j ≠ i → τ.nd j = σ.nd j ∧ nv' j = nv j ∧ iv' j = iv j) (hnm : ∀ n, τ.nd i = some n → ArgsV w (fun k => S k ∧ k ≠ g ∧ k ≠ nb) (nv' i) (namesB n.ents)) (him : ∀ n, τ.nd i = some n → IntsV w (fun k => S k ∧ k ≠ g ∧ k ≠ nb) (iv' i) (n.ents.map (·.2)))
    {c0 c1 c2 c3 c4 c5 c6 c7 : Value} (hc : nodeR τ nv' iv' i = [c0, c1, c2, c3, c4, c5, c6, c7]) : RfF (set8 w nb i c0 c1 c2 c3 c4 c5 c6 c7) g τ S (.slice (some ⟨nb, 0, none⟩) (σ.length + 1) cap) nv' iv' := by
  have hfr := set8_fr w nb i c0 c1 c2 c3 c4 c5 c6 c7
  have hng := (h.ownr nb rfl).2
  have hown : ∀ q, (Value.slice (some ⟨nb, 0, none⟩) (σ.length + 1) cap).ownBlock ≠ some q ↔ q ≠ nb := fun q => by
    show (some nb ≠ some q) ↔ _
    constructor
    · intro h1 h2; exact h1 (by rw [h2])
    · intro h1 h2; exact h1 (Option.some.inj h2).symm
  refine ⟨hfr.get h.hb (fun e => hng e.symm), ?_, fun j n hn => ?_, fun j n hn => ?_, h.own, h.ownr, fun k hk => h.up k (Nat.le_trans hfr.size hk)⟩
  · rw [hτ, nodesR_put hi hτ hoth hc]
    have h1 := h.hr
    exact ((((((((h1.stored (i * 8) c0).1.stored (i * 8 + 1) c1).1.stored (i * 8 + 2) c2).1.stored (i * 8 + 3) c3).1.stored (i * 8 + 4) c4).1.stored (i * 8 + 5) c5).1.stored (i * 8 + 6) c6).1.stored (i * 8 + 7) c7).1
  · by_cases e : j = i
    · subst e
      exact ((hnm n hn).frame hfr (fun k _ h2 e => h2.2.2 e)).mono fun k _ h2 => ⟨h2.1, h2.2.1, (hown k).2 h2.2.2⟩
    · obtain ⟨e1, e2, _⟩ := hoth j e
      rw [e1] at hn
      rw [e2]
      exact (h.nm j n hn).frame hfr (fun k _ h2 e => (hown k).1 h2.2.2 e)
  · by_cases e : j = i
    · subst e
      exact ((him n hn).frame hfr (fun k _ h2 e => h2.2.2 e)).mono fun k _ h2 => ⟨h2.1, h2.2.1, (hown k).2 h2.2.2⟩
    · obtain ⟨e1, _, e3⟩ := hoth j e
      rw [e1] at hn
      rw [e3]
      exact (h.im j n hn).frame hfr (fun k _ h2 e => (hown k).1 h2.2.2 e)
end Go.Proofs.YtlhmmiolnbgloaaGreatDoor

/- shyardref08.FS.change. Conditions: the contract's own premises. -/
namespace Go.Proofs.YtlhmmiolnbgloaaGreatDoor
open Go.RowKit

theorem RfF.there {w : World} {g : Nat} {σ : FSt} {S : Nat → Prop} {nb cap : Nat} {nv iv : Nat → Value} (h : RfF w g σ S (.slice (some ⟨nb, 0, none⟩) (σ.length + 1) cap) nv iv) {i : Nat} (hi : i ≤ σ.length) : w.there nb (i * 8) 8 := by
  obtain ⟨_, _, e, -, -, -, ⟨cur, hcur⟩, hc⟩ := h.row
  cases e
  intro j hj
  refine ⟨?_, blk_frozen hcur _⟩
  rw [hc i hi j hj, List.getElem?_eq_getElem (by rw [nodeR_len]; exact hj)]
  rfl
theorem set8_eq (w : World) (nb i : Nat) (c0 c1 c2 c3 c4 c5 c6 c7 : Value) : w.setCells nb (i * 8) [c0, c1, c2, c3, c4, c5, c6, c7] = set8 w nb i c0 c1 c2 c3 c4 c5 c6 c7 := rfl
def RmutPost (g : Nat) (τ : FSt) (S : Nat → Prop) (v : Value) (w : World) (e : Ending) (w' : World) : Prop := e = .returned v ∧ RfAt w' g τ S ∧ Fr S w w'
theorem put_len (σ : FSt) (i : Nat) (x : Option Nd) : (σ.put i x).length = σ.length := by unfold FSt.put; rw [List.length_set]
end Go.Proofs.YtlhmmiolnbgloaaGreatDoor

/- shyardref08.FS.cut. Conditions: the contract's own premises. -/
namespace Go.Proofs.YtlhmmiolnbgloaaGreatDoor
open Go.RowKit

def intsL (l : List Nat) : List Value := l.map fun k => .int .i64 (k : Nat)
theorem own_ints {w : World} {base n : Nat} {v : Value} {l : List Nat} {S : Nat → Prop} (h : w.ownsRow base 3 1 v n (intsL l)) (hn : n = l.length) (hS : ∀ k, base ≤ k → S k) : IntsV w S v l := by
  subst hn
  have hh := h
  obtain ⟨_, h1 | ⟨g, cap, cur, h1, hb, hg, h2, _⟩⟩ := h
  · exact ⟨none, 0, by rw [h1.1, h1.2], by rw [h1.2]; exact Nat.le_refl _, fun _ => rfl, .inl (List.eq_nil_of_length_eq_zero h1.2)⟩
  · subst h1
    refine ⟨_, _, rfl, h2, fun e => by simp at e, ?_⟩
    by_cases h0 : l.length = 0
    · exact .inl (List.eq_nil_of_length_eq_zero h0)
    · obtain ⟨g', he, h3, h4, h5⟩ := own_cells hh (by omega)
      refine .inr ⟨g', 0, he, hS _ h3, h4, fun k hk => ?_⟩
      rw [Nat.zero_add]
      exact h5 k _ (by simp [intsL, hk])
theorem Tryz.infoInt : (Tryz.prog.info? 3).map (fun i => (i.zero, i.size, i.bytes)) = some (some (.int .i64 0), 1, 8) := by kernel_rfl
theorem kdel_succ {s : List UInt8} {L : KA Nat} {k : Nat} (hk : k < L.length) : kdel s (L.take (k + 1)) = kdel s (L.take k) ++ (if L[k].1 = s then [] else [L[k]]) := by
  unfold kdel
  rw [List.take_add_one, List.getElem?_eq_getElem hk, List.filter_append]
  congr 1
  by_cases e : L[k].1 = s
  · simp [e]
  · simp [e]
theorem kdel_le {s : List UInt8} (L : KA Nat) (k : Nat) : (kdel s (L.take k)).length ≤ k := Nat.le_trans (List.length_filter_le _ _) (by rw [List.length_take]; exact Nat.min_le_left _ _)
def CutRel (L : KA Nat) (s : List UInt8) (w : World) (gk : Nat) (lv nv i : Value) (wr : World) : Prop :=
  ∃ (k : Nat) (D : KA Nat), gk + k = L.length ∧ i = .int .i64 k ∧ D = kdel s (L.take k) ∧ wr.ownsRow w.heap.size 9 1 lv D.length (strs (namesB D)) ∧ wr.ownsRow w.heap.size 3 1 nv D.length (intsL (D.map (·.2))) ∧
    (∀ q, lv.ownBlock = some q → nv.ownBlock ≠ some q) ∧ Fr (fun _ => False) w wr
end Go.Proofs.YtlhmmiolnbgloaaGreatDoor

/- Within a drawn region: append(append(append([]T{}, head...), x), tail...), in every order that is left: one law with one continuation. Conditions: closed facts on the region, by the kernel; the appends' premises. -/
namespace Go.Proofs.YtlhmmiolnbgloaaGreatDoor
open Go.RowKit

section
variable {P : Program} {Q : Exit → Act → World → Prop}
/-- What append may take from. -/
def Src (w : World) (sa : Option Addr) (m c : Nat) (news : List Value) : Prop := (sa = none ∧ m = 0 ∧ c = 0) ∨ ∃ ad, sa = some ad ∧ ∀ j u, news[j]? = some u → w.cell? (ad.add j) = some u
theorem Src.frame {w w' : World} {T : Nat → Prop} {sa : Option Addr} {m c : Nat} {news : List Value} (h : Src w sa m c news) (hf : Fr T w w') (hT : ∀ ad, sa = some ad → ¬ T ad.block) : Src w' sa m c news := by
  refine h.imp id ?_
  rintro ⟨ad, h1, h2⟩
  exact ⟨ad, h1, fun j u hj => (World.cell?_of_block (hf.block _ (World.block_lt_of_cell? _ _ (h2 j u hj)) (fun hh => hT ad h1 (by unfold Addr.add at hh; split at hh <;> exact hh)))).trans (h2 j u hj)⟩
def rd (ops : Array Oper) (listed : Array Bool) (is : List Nat) : Array Bool := listAll is listed
theorem pne {x y : Nat} (h : x ≠ y) : ∀ d, some x = some d → some y ≠ some d := fun d e1 e2 => h (Option.some.inj (e1.trans e2.symm))
/-- The orders that are left. -/
def app3B (ops : Array Oper) (listed : Array Bool) (g n i0 i1 i2 i3 i4 : Nat) : Bool :=
  (Region.ready .any ops listed == [i0, i2]) && (Region.ready .any ops (listed.setIfInBounds i0 true) == [i1, i2]) && (Region.ready .any ops ((listed.setIfInBounds i0 true).setIfInBounds i1 true) == [i2]) &&
  (Region.ready .any ops ((listed.setIfInBounds i0 true).setIfInBounds i2 true) == [i1]) && (Region.ready .any ops (listed.setIfInBounds i2 true) == [i0]) && (Region.ready .any ops ((listed.setIfInBounds i2 true).setIfInBounds i0 true) == [i1]) &&
  (Region.ready .any ops (((listed.setIfInBounds i0 true).setIfInBounds i1 true).setIfInBounds i2 true) == [i3]) && (Region.ready .any ops ((((listed.setIfInBounds i0 true).setIfInBounds i1 true).setIfInBounds i2 true).setIfInBounds i3 true) == [i4]) &&
  Region.seqB .any ops g n (((((listed.setIfInBounds i0 true).setIfInBounds i1 true).setIfInBounds i2 true).setIfInBounds i3 true).setIfInBounds i4 true) &&
  decide (i0 < n ∧ i1 < n ∧ i2 < n ∧ i3 < n ∧ i4 < n ∧ n < ops.size ∧ i0 ≠ i1 ∧ i0 ≠ i2 ∧ i1 ≠ i2)
theorem tree_app3 {l : List Oper} {L : Act → World → Prop} {listed : Array Bool} {a : Act} {w W : World} {n g : Nat} (i0 i1 i2 i3 i4 : Nat) (hB : app3B l.toArray listed g n i0 i1 i2 i3 i4 = true)
    (d0 d1 d2 d3 d4 : Nat) (hd : (decide (d0 < d1 ∧ d1 < d2 ∧ d2 < d3 ∧ d3 < d4)) = true) (hsz : d4 < a.tmps.size)
    (hg0 : (l.getD i0 default).guard = none) (hg1 : (l.getD i1 default).guard = none) (hg2 : (l.getD i2 default).guard = none) (hg3 : (l.getD i3 default).guard = none) (hg4 : (l.getD i4 default).guard = none)
    (ht1 : (l.getD i1 default).dst = some d1) (ht3 : (l.getD i3 default).dst = some d3) (ht4 : (l.getD i4 default).dst = some d4)
    (t e : TypeId) (y1 y4 : Nat) (x2 : Operand) (cl : Array Value)
    (hy1 : ∀ d ∈ [d0, d1, d2, d3, d4], d ≠ y1 ∧ d ≠ y4 ∧ x2 ≠ .tmp d)
    (ho1 : (l.getD i1 default).op = .call { callee := .builtin .append, args := #[.tmp d0, .tmp y1], argTypes := #[t, t] })
    (ho3 : (l.getD i3 default).op = .call { callee := .builtin .append, args := #[.tmp d1, .tmp d2], argTypes := #[t, t] })
    (ho4 : (l.getD i4 default).op = .call { callee := .builtin .append, args := #[.tmp d3, .tmp y4], argTypes := #[t, t] })
    (h0 : ∀ (a1 : Act) (w1 : World) (K : Act → World → Prop), K (a1.put (some d0) (.slice (some ⟨w1.heap.size, 0, none⟩) 0 0)) (w1.alloc (.cells #[] e)) → (l.getD i0 default).wp P a1 w1 K Q)
    (h2 : ∀ (a1 : Act) (w1 : World) (K : Act → World → Prop), a1.eval x2 = a.eval x2 → K (a1.put (some d2) (.slice (some ⟨w1.heap.size, 0, none⟩) 1 1)) (w1.alloc (.cells cl e)) → (l.getD i2 default).wp P a1 w1 K Q)
    (i : TypeInfo) (z : Value) (size bytes : Nat) (hti : P.underlying t = some (.slice e)) (hi : P.info? e = some i) (hz : i.zero = some z)
    (hsize : i.size = size) (hby : i.bytes = bytes) (hzs : z.cells.size = size) (hs0 : 0 < size)
    (sa : Option Addr) (m c : Nat) (xs : List Value) (he1 : a.eval (.tmp y1) = .slice sa m c) (hl1 : xs.length = m * size) (src1 : Src W sa m c xs) (one1 : ∀ u ∈ xs, u.oneCell' = true)
    (hcl : cl.size = size) (one2 : ∀ u ∈ cl.toList, u.oneCell' = true)
    (sb : Option Addr) (m' c' : Nat) (ys : List Value) (he4 : a.eval (.tmp y4) = .slice sb m' c') (hl4 : ys.length = m' * size) (src4 : Src W sb m' c' ys) (one4 : ∀ u ∈ ys, u.oneCell' = true)
    (hm1 : m + 1 + m' ≤ maxLen) (hm2 : (m + 1 + m') * bytes ≤ 140737488355328) (hw : Fr (fun _ => False) W w)
    (h : ∀ v0 v1 v2 v3 v4 w', w'.ownsRow W.heap.size e size v4 (m + 1 + m') (xs ++ cl.toList ++ ys) → Fr (fun _ => False) W w' → L (((((a.put (some d0) v0).put (some d1) v1).put (some d2) v2).put (some d3) v3).put (some d4) v4) w') :
    treeS P l.toArray Q (fun w' => Fr (fun _ => False) W w') n g L 5 listed a w := by
  simp only [app3B, Bool.and_eq_true, decide_eq_true_eq] at hB
  obtain ⟨⟨⟨⟨⟨⟨⟨⟨⟨r0, r1⟩, r2⟩, r3⟩, r4⟩, r5⟩, r6⟩, r7⟩, r8⟩, n0, n1, n2, n3, n4, nn, e01, e02, e12⟩ := hB
  have hn : n < l.length := by simpa using nn
  simp only [decide_eq_true_eq] at hd
  obtain ⟨q01, q12, q23, q34⟩ := hd
  simp only [List.mem_cons, List.not_mem_nil, or_false, forall_eq_or_imp, forall_eq] at hy1
  obtain ⟨⟨b01, b04, b0x⟩, ⟨b11, b14, b1x⟩, ⟨b21, b24, b2x⟩, ⟨b31, b34, b3x⟩, ⟨b41, b44, b4x⟩⟩ := hy1
  have c12 : ((listed.setIfInBounds i0 true).setIfInBounds i2 true).setIfInBounds i1 true = ((listed.setIfInBounds i0 true).setIfInBounds i1 true).setIfInBounds i2 true := (Array.setIfInBounds_comm _ _ e12).symm
  have c02 : (listed.setIfInBounds i2 true).setIfInBounds i0 true = (listed.setIfInBounds i0 true).setIfInBounds i2 true := (Array.setIfInBounds_comm _ _ e02).symm
  have srcCl : ∀ w1 : World, Src (w1.alloc (.cells cl e)) (some ⟨w1.heap.size, 0, none⟩) 1 1 cl.toList := fun w1 => .inr ⟨_, rfl, fun j u hj => by
    rw [Addr.add_lit, Nat.zero_add, blk_cell (blk_new _ _)]
    simpa using hj⟩
  -- the end, for any order of the first three
  have fin : ∀ v0 v1 b2 w3, w3.ownsRow W.heap.size e size v1 m xs → Src w3 (some ⟨b2, 0, none⟩) 1 1 cl.toList → (∀ q, v1.ownBlock = some q → q ≠ b2) → Fr (fun _ => False) W w3 →
      treeS P l.toArray Q (fun w' => Fr (fun _ => False) W w') n g L 2 (((listed.setIfInBounds i0 true).setIfInBounds i1 true).setIfInBounds i2 true) (((a.put (some d0) v0).put (some d1) v1).put (some d2) (.slice (some ⟨b2, 0, none⟩) 1 1)) w3 := by
    intro v0 v1 b2 w3 own1 hs2 hne hf3
    refine tree_one' i3 r6 n3 (by omega) hg3 (fun K hK => ?_)
    refine wp_append_src (.tmp d1) (.tmp d2) t ho3 W.heap.size e i z size bytes hti hi hz hsize hby hzs hs0 v1 m xs ?_ own1 (some ⟨b2, 0, none⟩) 1 1 cl.toList ?_ (by simp [hcl]) hs2 one2 (by omega) (Nat.le_trans (Nat.mul_le_mul_right _ (by omega)) hm2) hf3.size ?_
    · rw [Act.eval_put_ne _ _ _ _ (by omega), Act.eval_put_same _ _ _ (by rw [Act.size_put]; omega)]
    · rw [Act.eval_put_same _ _ _ (by rw [Act.size_put, Act.size_put]; omega)]
    intro v3 w4 own3 fr4 at3
    have hf4 : Fr (fun _ => False) W w4 := hf3.trans' fr4 (fun q _ e => by have := (own1.lt _ e).1; omega)
    rw [ht3]
    refine hK _ _ hf4 ?_
    refine tree_one' i4 r7 n4 (by omega) hg4 (fun K hK => ?_)
    refine wp_append_src (.tmp d3) (.tmp y4) t ho4 W.heap.size e i z size bytes hti hi hz hsize hby hzs hs0 v3 (m + 1) (xs ++ cl.toList) ?_ own3 sb m' c' ys ?_ hl4 (src4.frame hf4 (fun _ _ h => h)) one4 hm1 hm2 hf4.size ?_
    · rw [Act.eval_put_same _ _ _ (by rw [Act.size_put, Act.size_put, Act.size_put]; omega)]
    · rw [Act.eval_put_ne _ _ _ _ b34, Act.eval_put_ne _ _ _ _ b24, Act.eval_put_ne _ _ _ _ b14, Act.eval_put_ne _ _ _ _ b04, he4]
    intro v4 w5 own4 fr5 at4
    have hf5 : Fr (fun _ => False) W w5 := hf4.trans' fr5 (fun q _ e => by have := (own3.lt _ e).1; omega)
    rw [ht4]
    refine hK _ _ hf5 ?_
    exact tree_end r8 (h _ _ _ _ _ _ own4 hf5)
  have own0 : ∀ w1 : World, Fr (fun _ => False) W w1 → (w1.alloc (.cells #[] e)).ownsRow W.heap.size e size (.slice (some ⟨w1.heap.size, 0, none⟩) 0 0) 0 [] := fun w1 hf => World.ownsRow_made w1 #[] 0 hf.size (Nat.zero_le _) (by simp)
  refine tree_two' i0 i2 r0 n0 n2 (by omega) (by omega) hg0 hg2 (fun K hK => ?_) (fun K hK => ?_)
  · refine h0 _ _ _ (hK _ _ (hw.alloc _) ?_)
    refine tree_two' i1 i2 r1 n1 n2 (by omega) (by omega) hg1 hg2 (fun K hK => ?_) (fun K hK => ?_)
    · refine wp_append_src (.tmp d0) (.tmp y1) t ho1 W.heap.size e i z size bytes hti hi hz hsize hby hzs hs0 _ 0 [] ?_ (own0 w hw) sa m c xs ?_ hl1 (src1.frame (hw.alloc _) (fun _ _ h => h)) one1 (by omega) (Nat.le_trans (Nat.mul_le_mul_right _ (by omega)) hm2) (hw.alloc _).size ?_
      · rw [Act.eval_put_same _ _ _ (by omega)]
      · rw [Act.eval_put_ne _ _ _ _ b01, he1]
      intro v1 w2 own1 fr2 at1
      have hf2 : Fr (fun _ => False) W w2 := (hw.alloc _).trans' fr2 (fun q _ e => by have := ((own0 w hw).lt _ e).1; omega)
      rw [ht1]
      refine hK _ _ hf2 ?_
      refine tree_one' i2 r2 n2 (by omega) hg2 (fun K hK => ?_)
      refine h2 _ _ _ ?_ (hK _ _ (hf2.alloc _) ?_)
      · rw [Act.eval_put (fun d hd => by cases hd; exact b1x), Act.eval_put (fun d hd => by cases hd; exact b0x)]
      · refine fin _ _ _ _ (by simpa using own1.alloc _) (srcCl w2) (fun q hq e => by have := (own1.lt _ hq).2; omega) (hf2.alloc _)
    · refine h2 _ _ _ ?_ (hK _ _ ((hw.alloc _).alloc _) ?_)
      · rw [Act.eval_put (fun d hd => by cases hd; exact b0x)]
      refine tree_one' i1 r3 n1 (by omega) hg1 (fun K hK => ?_)
      refine wp_append_src (.tmp d0) (.tmp y1) t ho1 W.heap.size e i z size bytes hti hi hz hsize hby hzs hs0 _ 0 [] ?_ ((own0 w hw).alloc _) sa m c xs ?_ hl1 (src1.frame ((hw.alloc _).alloc _) (fun _ _ h => h)) one1 (by omega) (Nat.le_trans (Nat.mul_le_mul_right _ (by omega)) hm2) ((hw.alloc _).alloc _).size ?_
      · rw [Act.eval_put_ne _ _ _ _ (by omega), Act.eval_put_same _ _ _ (by omega)]
      · rw [Act.eval_put_ne _ _ _ _ b21, Act.eval_put_ne _ _ _ _ b01, he1]
      intro v1 w2 own1 fr2 at1
      have hf2 : Fr (fun _ => False) W w2 := ((hw.alloc _).alloc _).trans' fr2 (fun q _ e => by have := ((own0 w hw).lt _ e).1; omega)
      rw [ht1]
      refine hK _ _ hf2 ?_
      rw [c12, Act.put_comm _ _ _ (fun d hd => by cases hd; simp; omega)]
      refine fin _ _ _ _ (by simpa using own1) ((srcCl _).frame fr2 (fun ad hd e => by cases hd; have := ((own0 w hw).lt _ e).2; simp at this)) (fun q hq e => ?_) hf2
      rcases at1 with h1 | h1
      · rw [h1] at hq
        simp [Value.ownBlock] at hq e
        omega
      · rw [h1] at hq
        simp at hq e
        omega
  · refine h2 _ _ _ rfl (hK _ _ (hw.alloc _) ?_)
    refine tree_one' i0 r4 n0 (by omega) hg0 (fun K hK => ?_)
    refine h0 _ _ _ (hK _ _ ((hw.alloc _).alloc _) ?_)
    refine tree_one' i1 r5 n1 (by omega) hg1 (fun K hK => ?_)
    refine wp_append_src (.tmp d0) (.tmp y1) t ho1 W.heap.size e i z size bytes hti hi hz hsize hby hzs hs0 _ 0 [] ?_ (own0 _ (hw.alloc _)) sa m c xs ?_ hl1 (src1.frame ((hw.alloc _).alloc _) (fun _ _ h => h)) one1 (by omega) (Nat.le_trans (Nat.mul_le_mul_right _ (by omega)) hm2) ((hw.alloc _).alloc _).size ?_
    · rw [Act.eval_put_same _ _ _ (by rw [Act.size_put]; omega)]
    · rw [Act.eval_put_ne _ _ _ _ b01, Act.eval_put_ne _ _ _ _ b21, he1]
    intro v1 w2 own1 fr2 at1
    have hf2 : Fr (fun _ => False) W w2 := ((hw.alloc _).alloc _).trans' fr2 (fun q _ e => by have := ((own0 _ (hw.alloc _)).lt _ e).1; omega)
    rw [ht1]
    refine hK _ _ hf2 ?_
    rw [c02, c12, Act.put_comm a (x := some d2) (y := some d0) _ _ (pne (by omega)), Act.put_comm (a.put (some d0) _) (x := some d2) (y := some d1) _ _ (pne (by omega))]
    refine fin _ _ _ _ (by simpa using own1) (((srcCl w).frame ((Fr.refl (fun _ => False) (w.alloc (.cells cl e))).alloc (.cells #[] e)) (fun _ _ h => h)).frame fr2 (fun ad hd e => by cases hd; simp [Value.ownBlock] at e)) (fun q hq e => ?_) hf2
    rcases at1 with h1 | h1
    · rw [h1] at hq
      simp [Value.ownBlock] at hq e
      omega
    · rw [h1] at hq
      simp at hq e
      omega
end
end Go.Proofs.YtlhmmiolnbgloaaGreatDoor

/- Rows that are cut and appended to; an entry put in its place. Conditions: the laws' own premises. -/
namespace Go.Proofs.YtlhmmiolnbgloaaGreatDoor
open Go.RowKit

variable {α : Type}
theorem less_before : ∀ a b : List UInt8, Op.bytesLess a b = bytesBefore a b
  | [], [] => rfl
  | [], _ :: _ => rfl
  | _ :: _, [] => rfl
  | a :: r, b :: s => by unfold Op.bytesLess bytesBefore; rw [less_before r s]
theorem kins_split {s : List UInt8} {X : α} : ∀ {M : KA α} {k : Nat} (_ : k ≤ M.length), (∀ j (hj : j < M.length), j < k → bytesBefore M[j].1 s = true) → (∀ hk : k < M.length, bytesBefore M[k].1 s = false) → (∀ p ∈ M, p.1 ≠ s) → kins (s, X) M = M.take k ++ (s, X) :: M.drop k
  | [], 0, _, _, _, _ => rfl
  | p :: r, 0, _, _, h2, h3 => by
    rw [kins_cons, if_pos]
    · rfl
    · rcases WideAt.bytes_total p.1 s (h3 p List.mem_cons_self) with h | h
      · have := h2 (by simp); simp only [List.getElem_cons_zero] at this; rw [this] at h; cases h
      · exact h
  | p :: r, k + 1, hk, h1, h2, h3 => by
    rw [kins_cons, if_neg]
    · rw [kins_split (M := r) (k := k) (by simpa using hk) (fun j hj hlt => h1 (j + 1) (by simpa using hj) (by omega)) (fun h => h2 (by simpa using h)) (fun q hq => h3 q (List.mem_cons_of_mem _ hq))]
      rfl
    · intro e
      have h4 := h1 0 (by simp) (by omega)
      have := WideShapes.bytes_trans _ _ _ e h4
      simp only [List.getElem_cons_zero] at this
      rw [WideAt.bytes_irrefl] at this
      cases this
theorem kput_new {s : List UInt8} {X : α} {M : KA α} {k : Nat} (hn : kget s M = none) (hk : k ≤ M.length) (h1 : ∀ j (hj : j < M.length), j < k → bytesBefore M[j].1 s = true) (h2 : ∀ hk : k < M.length, bytesBefore M[k].1 s = false) : kput s X M = M.take k ++ (s, X) :: M.drop k := by
  unfold kput
  rw [kdel_same hn]
  exact kins_split hk h1 h2 fun p hp => kget_none hn p hp
/-- A row of one-cell values that is read. -/
def RowOk (w : World) (a : Option Addr) (n cap : Nat) (cells : List Value) : Prop := n ≤ cap ∧ (a = none → cap = 0) ∧ cells.length = n ∧ ∀ x, a = some x → ∀ j u, cells[j]? = some u → w.cell? (x.add j) = some u
theorem ArgsV.ok {w : World} {S : Nat → Prop} {a : Option Addr} {n cap : Nat} {l : List ByteArray} (h : ArgsV w S (.slice a n cap) l) : RowOk w a n cap (strs l) := by
  obtain ⟨a', cap', h1, h2, h3, h4⟩ := h
  cases h1
  refine ⟨h2, h3, by simp [strs], fun x hx j u hj => ?_⟩
  rcases h4 with h4 | ⟨g, o, h5, -, -, h8⟩
  · subst h4; simp [strs] at hj
  · rw [hx] at h5
    cases h5
    obtain ⟨hj1, rfl⟩ := List.getElem?_eq_some_iff.1 hj
    rw [Addr.add_lit]
    simp only [strs, List.length_map] at hj1
    rw [h8 j hj1]
    simp [strs]
theorem IntsV.ok {w : World} {S : Nat → Prop} {a : Option Addr} {n cap : Nat} {l : List Nat} (h : IntsV w S (.slice a n cap) l) : RowOk w a n cap (intsL l) := by
  obtain ⟨a', cap', h1, h2, h3, h4⟩ := h
  cases h1
  refine ⟨h2, h3, by simp [intsL], fun x hx j u hj => ?_⟩
  rcases h4 with h4 | ⟨g, o, h5, -, -, h8⟩
  · subst h4; simp [intsL] at hj
  · rw [hx] at h5
    cases h5
    obtain ⟨hj1, rfl⟩ := List.getElem?_eq_some_iff.1 hj
    rw [Addr.add_lit]
    simp only [intsL, List.length_map] at hj1
    rw [h8 j hj1]
    simp [intsL]
theorem RowOk.hi {w : World} {a : Option Addr} {n cap : Nat} {cells : List Value} (h : RowOk w a n cap cells) {k : Nat} (hk : k ≤ n) : Src w a k cap (cells.take k) := by
  obtain ⟨h1, h2, h3, h4⟩ := h
  cases a with
  | none => have := h2 rfl; exact .inl ⟨rfl, by omega, by omega⟩
  | some x =>
    refine .inr ⟨x, rfl, fun j u hj => ?_⟩
    rw [List.getElem?_take] at hj
    split at hj
    · exact h4 x rfl j u hj
    · cases hj
theorem RowOk.lo {w : World} {a : Option Addr} {n cap : Nat} {cells : List Value} (h : RowOk w a n cap cells) {k : Nat} (hk : k ≤ n) {sa : Option Addr} {sc : Nat} (hc : (a = none ∧ sa = none ∧ sc = 0) ∨ ∃ x, a = some x ∧ (sa = some (x.add (k * 1)) ∨ (sa = some x ∧ n = k))) : Src w sa (n - k) sc (cells.drop k) := by
  obtain ⟨h1, h2, h3, h4⟩ := h
  rcases hc with ⟨e1, e2, e3⟩ | ⟨x, e1, e2⟩
  · have := h2 e1; exact .inl ⟨e2, by omega, e3⟩
  · right
    rcases e2 with e2 | ⟨e2, e3⟩
    · refine ⟨_, e2, fun j u hj => ?_⟩
      rw [List.getElem?_drop] at hj
      have := h4 x e1 _ u hj
      rw [Nat.mul_one, show (x.add k).add j = x.add (k + j) from by
        by_cases hj0 : j = 0
        · subst hj0; unfold Addr.add; simp
        · by_cases hk0 : k = 0
          · subst hk0; unfold Addr.add; simp [hj0]
          · unfold Addr.add; simp [hj0, hk0, Nat.add_assoc]]
      exact this
    · refine ⟨_, e2, fun j u hj => ?_⟩
      rw [List.drop_of_length_le (by omega)] at hj
      simp at hj
theorem cutLo {T : TypeId} (ht : Tryz.prog.underlying T = some (.slice (Tryz.prog.elem T))) (hsz : ∀ w', (sizeOf (Tryz.prog.elem T)).run Tryz.prog w' = .ok 1 w') {la : Option Addr} {n lc k : Nat} (hk : k ≤ n) (hn : n ≤ lc) (hnone : la = none → lc = 0) : ∃ sa sc, (∀ w', (Instr.sliceAt T (.slice la n lc) (some (.int .i64 k)) none none).run Tryz.prog w' = .ok (.slice sa (n - k) sc) w') ∧
    ((la = none ∧ sa = none ∧ sc = 0) ∨ ∃ x, la = some x ∧ (sa = some (x.add (k * 1)) ∨ (sa = some x ∧ n = k))) := by
  have key : ∀ w', (Instr.sliceAt T (.slice la n lc) (some (.int .i64 k)) none none).run Tryz.prog w' = .ok (sliced la k n lc 1) w' := fun w' => by
    rw [run_sliceAt_slice (h := ht), run_slice_l (ht := ht) (h0 := by omega) (h1 := by omega), hsz]
    simp
  by_cases hc : lc = k
  · refine ⟨la, lc - k, fun w' => by rw [key]; simp [sliced, hc], ?_⟩
    cases la with
    | none => exact .inl ⟨rfl, rfl, by have := hnone rfl; omega⟩
    | some x => exact .inr ⟨x, rfl, .inr ⟨rfl, by omega⟩⟩
  · refine ⟨la.map (·.add (k * 1)), lc - k, fun w' => by rw [key]; simp [sliced, hc], ?_⟩
    cases la with
    | none => exact .inl ⟨rfl, rfl, by have := hnone rfl; omega⟩
    | some x => exact .inr ⟨x, rfl, .inl rfl⟩
theorem cutHi {T : TypeId} (ht : Tryz.prog.underlying T = some (.slice (Tryz.prog.elem T))) (hsz : ∀ w', (sizeOf (Tryz.prog.elem T)).run Tryz.prog w' = .ok 1 w') {la : Option Addr} {n lc k : Nat} (hk : k ≤ n) (hn : n ≤ lc) : ∀ w', (Instr.sliceAt T (.slice la n lc) none (some (.int .i64 k)) none).run Tryz.prog w' = .ok (.slice la k lc) w' := by
  intro w'
  rw [run_sliceAt_slice (h := ht), run_slice_h (ht := ht) (h0 := by omega) (h2 := by omega), hsz]
  cases la <;> simp [sliced, Addr.add]
end Go.Proofs.YtlhmmiolnbgloaaGreatDoor
