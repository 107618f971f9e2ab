/- files.slots.add: a thing more. Conditions: the contract's own premises. -/
import Derived.Test.YthikjdpnlahkfaaDoorFilesH
namespace Go.Proofs.YthikjdpnlahkfaaDoor
open Go.RowKit

def encP (o : Option Nat) : Value := match o with | none => .pointer none | some b => .pointer (some ⟨b, 0, none⟩)
def freeI (l : List (Option Nat)) : Nat := l.findIdx (·.isNone)
theorem freeI_le (l : List (Option Nat)) : freeI l ≤ l.length := List.findIdx_le_length
theorem freeI_some {l : List (Option Nat)} {k : Nat} (hk : k < freeI l) : ∃ b, l[k]'(Nat.lt_of_lt_of_le hk (freeI_le l)) = some b := by
  have := List.not_of_lt_findIdx (p := fun o : Option Nat => o.isNone) hk
  exact Option.isSome_iff_exists.1 (by simpa using this)
theorem freeI_none {l : List (Option Nat)} (h : freeI l < l.length) : l[freeI l] = none := by
  have : (l[freeI l]).isNone = true := List.findIdx_getElem (w := h)
  simpa using this
def idxV (l : List (Option Nat)) : Int := if freeI l < l.length then (freeI l : Int) else -1
theorem eql_nil' {P : Program} (t : TypeId) (w : World) (p : Option Addr) (h : P.underlying t = some (.pointer (P.pointee t))) : (binOp .eql t (.pointer none) (.pointer p)).run P w = .ok (.bool p.isNone) w := by
  have h1 : ∀ d, (Op.equalIn (d + 1) t (.pointer none) (.pointer p)).run P w = .ok p.isNone w := fun d => by
    cases p <;> simp [Op.equalIn, run_underlying h]
  have h2 : (Op.equal t (.pointer none) (.pointer p)).run P w = .ok p.isNone w := h1 9999
  simp only [binOp]
  simp [h2]
theorem eql_nil (a : Option Addr) (w : World) : (binOp .eql 67 (.pointer none) (.pointer a)).run Tryd.prog w = .ok (.bool a.isNone) w := eql_nil' _ w a (by kernel_rfl)
set_option maxRecDepth 100000 in
theorem idx_any (w : World) (a : Option Addr) (cap : Nat) (l : List (Option Nat)) (hc : l.length = 0 ∨ ∃ g, a = some ⟨g, 0, none⟩ ∧ ∀ k u, (l.map encP)[k]? = some u → w.cell? ⟨g, k, none⟩ = some u) (hl : l.length ≤ 1000) :
    Calls Tryd.prog 52 #[.slice a l.length cap, .pointer none] w fun e w' => e = .returned (.int .i64 (idxV l)) ∧ w' = w := by
  have Hc := hide hc
  clear hc
  go_enter Tryd.func52, Tryd.ntmps52
  go_wp2
  go_loop [8] (fun i => ∃ k : Nat, k ≤ freeI l ∧ i = .int .i64 k) (fun i => l.length - (intOf i).toNat)
  case atStart => exact ⟨0, Nat.zero_le _, rfl⟩
  case round =>
    obtain ⟨k, hk, rfl⟩ := hrel
    have hfl := freeI_le l
    by_cases hlt : k < l.length
    · obtain ⟨g, rfl, hcells⟩ := Hc.out.resolve_left (by omega)
      have ck := hcells k (encP l[k]) (by simp [hlt])
      have Hhk := hide hk
      have hkI : (k : Int) < (l.length : Int) := by omega
      have hk0 : (0 : Int) ≤ (k : Int) := by omega
      clear hcells Hc
      rcases Nat.lt_or_ge k (freeI l) with hlt2 | hge
      · obtain ⟨b, hb⟩ := freeI_some hlt2
        rw [hb] at ck
        simp only [encP] at ck
        have he := eql_nil (some ⟨b, 0, none⟩) w
        clear hb hk
        go_wp2
        refine ⟨⟨k + 1, hlt2, by go_num⟩, ?_⟩
        simp [intOf]
        omega
      · have hkf : k = freeI l := by omega
        have hb : l[k] = none := by
          subst hkf
          exact freeI_none hlt
        rw [hb] at ck
        simp only [encP] at ck
        have he := eql_nil none w
        have hres : (k : Int) = idxV l := by unfold idxV; rw [if_pos (by omega), hkf]
        have Hres := hide hres
        clear hb hk hkf hres
        go_wp2
        go_ret
        exact ⟨ret_int Hres.out, rfl⟩
    · have hres : (-1 : Int) = idxV l := by unfold idxV; rw [if_neg (by omega)]
      have Hres := hide hres
      have hkI : ¬ (k : Int) < (l.length : Int) := by omega
      clear hres
      go_wp2
      go_ret
      exact ⟨ret_int Hres.out, rfl⟩
def addI (l : List (Option Nat)) (nb : Nat) : List (Option Nat) := if freeI l < l.length then l.set (freeI l) (some nb) else l ++ [some nb]
def AddPost (w : World) (f nb : Nat) (lv : Value) (cnt : Nat) (rv bv : Value) (l : List (Option Nat)) (e : Ending) (w' : World) : Prop :=
  e = .returned (.int .i64 ((freeI l : Int) + 1)) ∧ ∃ lv', w'.heap[f]? = some (.cells #[lv', .int .i64 ((cnt : Int) + 1), rv, bv] 69 (0, 0)) ∧ w'.ownsRow 0 67 1 lv' (addI l nb).length ((addI l nb).map encP) ∧
    Fr (fun k => k = f ∨ lv.ownBlock = some k) w w' ∧ (lv'.ownBlock = lv.ownBlock ∨ lv'.ownBlock = some (w.heap.size + 1))
set_option maxRecDepth 100000 in
set_option maxHeartbeats 1000000 in
theorem sadd_any (w : World) (f nb : Nat) (lv : Value) (cnt : Nat) (rv bv : Value) (l : List (Option Nat)) (hb : w.heap[f]? = some (.cells #[lv, .int .i64 cnt, rv, bv] 69 (0, 0)))
    (hl : w.ownsRow 0 67 1 lv l.length (l.map encP)) (hcnt : cnt ≤ 1000) (hll : l.length ≤ 1000) :
    Calls Tryd.prog 32 #[.pointer (some ⟨f, 0, none⟩), .pointer (some ⟨nb, 0, none⟩)] w (AddPost w f nb lv cnt rv bv l) := by
  obtain ⟨la, lc, rfl⟩ := own_form hl
  have hlf : ∀ g, (Value.slice la l.length lc).ownBlock = some g → g ≠ f := fun g e => by
    rcases hl.2 with ⟨h1, _⟩ | ⟨g', cap', cur, h1, _, hg, _⟩
    · rw [h1] at e; cases e
    · rw [h1] at e
      have e' : g' = g := by simpa [Value.ownBlock] using e
      subst e'
      intro e2
      subst e2
      rw [hg] at hb
      simp at hb
  obtain ⟨w1, hw1⟩ : ∃ w1, w1 = w.setCell ⟨f, 1, none⟩ (.int .i64 ((cnt : Int) + 1)) := ⟨_, rfl⟩
  have hb1 : w1.heap[f]? = some (.cells #[.slice la l.length lc, .int .i64 ((cnt : Int) + 1), rv, bv] 69 (0, 0)) := by rw [hw1, blk_set hb]; rfl
  have hf1 : Fr (fun k => k = f) w w1 := by rw [hw1]; exact frSet _ _ _ _
  have hl1 := own_frame hl hf1 hlf
  have c1 : w.cell? ⟨f, 1, none⟩ = some (.int .i64 cnt) := by rw [blk_cell hb]; rfl
  have z1 := blk_frozen hb 1
  have c0 : w1.cell? ⟨f, 0, none⟩ = some (.slice la l.length lc) := by rw [blk_cell hb1]; rfl
  have hidx := idx_any w1 la lc l (by
    rcases Nat.eq_zero_or_pos l.length with h | h
    · exact .inl h
    · obtain ⟨g, h1, _, _, h2⟩ := own_cells hl1 h
      exact .inr ⟨g, h1, h2⟩) hll
  have hsz1 : w1.heap.size = w.heap.size := by rw [hw1]; simp [World.setCell]
  obtain ⟨i0, hinf, hz0, hz1, hz2⟩ : ∃ i0, Tryd.prog.info? 67 = some i0 ∧ i0.zero = some (.pointer none) ∧ i0.size = 1 ∧ i0.bytes = 8 := by
    have h : (Tryd.prog.info? 67).map (fun i => (i.zero, i.size, i.bytes)) = some (some (.pointer none), 1, 8) := by kernel_rfl
    cases hq : Tryd.prog.info? 67 with
    | none => rw [hq] at h; cases h
    | some i => rw [hq] at h; simp at h; exact ⟨i, rfl, h.1, h.2.1, h.2.2⟩
  by_cases hfree : freeI l < l.length
  · obtain ⟨g, rfl, _, hgl, _⟩ := own_cells hl1 (by omega)
    obtain ⟨hst, _⟩ := hl1.stored (freeI l) (.pointer (some ⟨nb, 0, none⟩))
    have hgf := hlf g rfl
    have cg : w1.cell? ⟨g, freeI l, none⟩ = some (.pointer none) := by rw [hl1.cellAt (freeI l) (by omega)]; simp [hfree, freeI_none hfree, encP]
    have zg := hl1.frozenAt (freeI l)
    have hres := hide (show AddPost w f nb (.slice (some ⟨g, 0, none⟩) l.length lc) cnt rv bv l (.returned (.int .i64 ((freeI l : Int) + 1))) (w1.setCell ⟨g, freeI l, none⟩ (.pointer (some ⟨nb, 0, none⟩))) from by
      refine ⟨rfl, _, blk_set_other hb1 _ _ (Ne.symm hgf), ?_, (hf1.mono (fun _ _ e => .inl e)).trans' (frSet _ _ _ _) (fun k _ e => .inr (by rw [e]; rfl)), .inl rfl⟩
      unfold addI
      rw [if_pos hfree, List.length_set, List.map_set]
      exact hst)
    rw [show idxV l = (freeI l : Int) by unfold idxV; rw [if_pos hfree]] at hidx
    have hk0 : (0 : Int) ≤ (freeI l : Int) := by omega
    have hk1 : (freeI l : Int) < (l.length : Int) := by omega
    clear hst hl hl1
    generalize freeI l = q at *
    subst hw1
    go_enter Tryd.func32, Tryd.ntmps32
    go_wp2_with fail
    refine hidx.mono ?_
    rintro e w' ⟨rfl, rfl⟩
    clear hidx
    go_wp2_with fail
    go_ret
    exact hres.out
  · have hfe : freeI l = l.length := by have := freeI_le l; omega
    rw [show idxV l = -1 by unfold idxV; rw [if_neg hfree]] at hidx
    obtain ⟨w2, hw2⟩ : ∃ w2, w2 = w1.alloc (.cells #[.pointer (some ⟨nb, 0, none⟩)] 67) := ⟨_, rfl⟩
    have hb2 : w2.heap[w1.heap.size]? = some (.cells #[.pointer (some ⟨nb, 0, none⟩)] 67 (0, 0)) := by rw [hw2]; exact blk_new _ _
    have hl2 : w2.ownsRow 0 67 1 (.slice la l.length lc) l.length (l.map encP) := by rw [hw2]; exact hl1.alloc _
    have hbf2 : w2.heap[f]? = some (.cells #[.slice la l.length lc, .int .i64 ((cnt : Int) + 1), rv, bv] 69 (0, 0)) := by rw [hw2]; exact blk_alloc hb1 _
    have hsz2 : w2.heap.size = w.heap.size + 1 := by rw [hw2]; simp [hsz1]
    have hf2 : Fr (fun k => k = f) w w2 := by rw [hw2]; exact hf1.alloc _
    have hfin := hide (show ∀ v5 w5, w5.ownsRow 0 67 1 v5 (l.length + 1) (l.map encP ++ [.pointer (some ⟨nb, 0, none⟩)]) → Fr (fun k => (Value.slice la l.length lc).ownBlock = some k) w2 w5 → (v5.ownBlock = (Value.slice la l.length lc).ownBlock ∨ v5.ownBlock = some w2.heap.size) →
        AddPost w f nb (.slice la l.length lc) cnt rv bv l (.returned (.int .i64 ((l.length : Int) + 1))) (w5.setCell ⟨f, 0, none⟩ v5) from fun v5 w5 h1 h2 h3 => by
      have hb5 := h2.get hbf2 (fun e => hlf f e rfl)
      have hlt := blk_lt hb1
      have hv5 : ∀ g, v5.ownBlock = some g → g ≠ f := fun g e => by
        rcases h3 with h3 | h3
        · exact hlf g (h3 ▸ e)
        · rw [h3] at e; cases e; omega
      refine ⟨by rw [hfe], v5, by rw [blk_set hb5]; rfl, ?_, ((hf2.mono (fun _ _ e => .inl e)).trans' h2 (fun k _ e => .inr e)).trans' (frSet _ _ _ _) (fun k _ e => .inl e), ?_⟩
      · unfold addI
        rw [if_neg hfree, List.length_append, List.map_append]
        exact own_frame h1 (frSet _ _ _ _) hv5
      · rcases h3 with h3 | h3
        · exact .inl h3
        · exact .inr (by rw [h3, hsz2]))
    clear hfe
    have Hl2 := hide hl2
    obtain ⟨n, hn⟩ : ∃ n, n = l.length := ⟨_, rfl⟩
    have Hn := hide hn
    clear hl hl1 hl2
    subst hw2
    subst hw1
    go_enter Tryd.func32, Tryd.ntmps32
    go_wp2_with fail
    refine hidx.mono ?_
    rintro e w' ⟨rfl, rfl⟩
    clear hidx
    go_wp2_with (at_builtin; refine wpList_append_src rfl _ _ 64 rfl 0 67 i0 _ 1 8 (by kernel_rfl) hinf hz0 hz1 hz2 rfl (by decide) _ _ _ rfl Hl2.out _ 1 1 [.pointer (some ⟨nb, 0, none⟩)] rfl ?qc1 ?qc2 ?qc3 ?qc4 ?qc5 ?qc6 ?_)
    case qc1 => rfl
    case qc2 =>
      refine .inr ⟨_, rfl, fun j u hj => ?_⟩
      rw [Addr.add_lit, Nat.zero_add]
      cases j with
      | zero => cases hj; rw [← hsz1, blk_cell hb2]; rfl
      | succ j => simp at hj
    case qc3 => intro u hu; simp at hu; rw [hu]; rfl
    case qc4 => unfold maxLen; omega
    case qc5 => omega
    case qc6 => exact Nat.zero_le _
    intro v5 w5 hown hfr hat
    have hb5 := hfr.get hbf2 (fun e => hlf f e rfl)
    have c50 : w5.cell? ⟨f, 0, none⟩ = some (.slice la l.length lc) := by rw [blk_cell hb5]; rfl
    have z5 := blk_frozen hb5
    have hfin5 := hide (hfin.out v5 w5 hown hfr (hat.imp id (fun e => e.trans (by rw [hsz2]))))
    obtain ⟨a5, c5, rfl⟩ := own_form hown
    clear hfin hown hfr hat
    go_wp2_with fail
    go_ret
    exact hfin5.out
end Go.Proofs.YthikjdpnlahkfaaDoor
