/- A file's bytes: more zeros behind them, fewer of them, some of them written over. Conditions: the laws' own premises. -/
import Derived.Test.YthikjdpnlahkfaaGreatDoorFilesG
import Derived.Lib.AppendZerosOnto
import Derived.Laws.CopyRow
namespace Go.Proofs.YthikjdpnlahkfaaGreatDoor
open Go.RowKit

def byteV (l : List UInt8) : List Value := l.map fun c => .int .u8 c.toNat
theorem byteV_zeros (k : Nat) : byteV (List.replicate k 0) = List.replicate k (.int .u8 0) := by simp [byteV]
theorem zeroCells_one (k : Nat) : (Builtin.zeroCells (#[.int .u8 0] : Array Value) k) = (List.replicate k (Value.int .u8 0)).toArray := by
  apply Array.toList_inj.1
  apply List.ext_getElem
  · simp [Builtin.zeroCells]
  · intro i h1 h2
    simp [Builtin.zeroCells, Nat.mod_one]
theorem byteV_one (l : List UInt8) : ∀ v ∈ byteV l, v.oneCell' = true := by
  intro v hv
  obtain ⟨c, _, rfl⟩ := List.mem_map.1 hv
  rfl
theorem Fr.setRow (w : World) (g : Nat) (c : Array Value) : Fr (fun k => some g = some k) w (w.setRow g c) :=
  ⟨rfl, rfl, rfl, by simp, fun i _ hn => setRow_other w g i c (fun e => hn (by rw [e]))⟩
theorem DataV.form {w : World} {v : Value} {l : List UInt8} (h : DataV w v l) : ∃ a cap, v = .slice a l.length cap := by
  rcases h with ⟨rfl, rfl⟩ | ⟨g, cap, cur, rfl, _⟩
  · exact ⟨_, _, rfl⟩
  · exact ⟨_, _, rfl⟩
/-- k zeros more. -/
theorem data_grow (w : World) (v : Value) (l : List UInt8) (h : DataV w v l) (k : Nat) (h0 : 0 < k) (hb : l.length + k ≤ 1000000) (ty : TypeId) :
    ∃ v' w', (Builtin.append_ #[56, 3] ty #[v, .int .i64 k]).run Tryz.prog w = .ok v' w' ∧ DataV w' v' (l ++ List.replicate k 0) ∧ Fr (fun b => v.ownBlock = some b) w w' ∧ (v'.ownBlock = v.ownBlock ∨ v'.ownBlock = some w.heap.size) := by
  obtain ⟨i, hi, hz, hs, hby⟩ : ∃ i, Tryz.prog.info? 5 = some i ∧ i.zero = some (.int .u8 0) ∧ i.size = 1 ∧ i.bytes = 1 := by
    have h : (Tryz.prog.info? 5).map (fun i => (i.zero, i.size, i.bytes)) = some (some (.int .u8 0), 1, 1) := by kernel_rfl
    cases hq : Tryz.prog.info? 5 with
    | none => rw [hq] at h; cases h
    | some i => rw [hq] at h; simp at h; exact ⟨i, rfl, h.1, h.2.1, h.2.2⟩
  have ht : Tryz.prog.underlying 56 = some (.slice 5) := by kernel_rfl
  have htn : Tryz.prog.underlying 3 = some (.int .i64) := by kernel_rfl
  have hlen : (l ++ List.replicate k (0 : UInt8)).length = l.length + k := by simp
  have grow : ∀ base cap, cap < l.length + k → (Builtin.firstCells i.size l.length (.slice base l.length cap)).run Tryz.prog w.drew = .ok (byteV l).toArray w.drew →
      ∃ v' w', (Builtin.append_ #[56, 3] ty #[.slice base l.length cap, .int .i64 k]).run Tryz.prog w = .ok v' w' ∧ DataV w' v' (l ++ List.replicate k 0) ∧ Fr (fun b => (Value.slice base l.length cap).ownBlock = some b) w w' ∧ (v'.ownBlock = (Value.slice base l.length cap).ownBlock ∨ v'.ownBlock = some w.heap.size) := fun base cap hg hold => by
    have hr := Lib.run_append_grow_zeros w 56 3 ty 5 i _ .i64 .i64 ht htn hi hz base l.length cap (byteV l) hold k h0 (by omega) hg (by omega) (by rw [hby]; omega)
      (by rw [hby]; have := nextslicecap_le hg; omega)
    refine ⟨_, _, hr, .inr ⟨w.heap.size, _, _, by rw [hlen], blk_new' _ _ _ rfl, by rw [hlen]; exact grownCap_ge _ _ _ _, ?_, ?_⟩, (Fr.refl _ _).drew.alloc _, .inr rfl⟩
    · have := grownCap_ge w (l.length + k) cap 5
      show _ ≤ ((byteV l).toArray ++ Builtin.zeroCells (#[.int .u8 0] : Array Value) k ++ Builtin.zeroCells (#[.int .u8 0] : Array Value) (grownCap w (l.length + k) cap 5 - (l.length + k))).size
      rw [zeroCells_one, zeroCells_one]
      simp [byteV]
      omega
    · show (((byteV l).toArray ++ Builtin.zeroCells (#[.int .u8 0] : Array Value) k ++ Builtin.zeroCells (#[.int .u8 0] : Array Value) (grownCap w (l.length + k) cap 5 - (l.length + k)))).toList.take _ = _
      rw [zeroCells_one, zeroCells_one, hlen]
      simp only [Array.toList_append, List.map_append]
      rw [List.take_append_of_le_length (by simp [byteV]), List.take_of_length_le (by simp [byteV])]
      simp [byteV]
  rcases h with ⟨rfl, rfl⟩ | ⟨g, cap, cur, rfl, hg, hc1, hc2, hcur⟩
  · exact grow none 0 (by simpa using h0) (run_firstCells_none _ _ _ _ _)
  · have hcells : ∀ j v, (byteV l)[j]? = some v → w.cell? ((⟨g, 0, none⟩ : Addr).add j) = some v := fun j v hv => by
      have hadd : (⟨g, 0, none⟩ : Addr).add j = ⟨g, j, none⟩ := by unfold Addr.add; split <;> simp_all
      have hj : j < l.length := by
        have := (List.getElem?_eq_some_iff.1 hv).1
        simpa [byteV] using this
      rw [hadd, blk_cell hg, ← hv]
      show _ = (List.map _ l)[j]?
      rw [← hcur, List.getElem?_take_of_lt hj, Array.getElem?_toList]
    by_cases hfit : l.length + k ≤ cap
    · have hw : IntKind.i64.wrap (k : Int) = k := by rw [IntKind.wrap_i64]; omega
      have hneg : ¬ ((k : Int) < 0) := by omega
      have h48i : ¬ (281474976710656 < (k : Int)) := by omega
      have hns : ¬ (k = 0) := by omega
      have hst := run_storeCells_at (P := Tryz.prog) g l.length 5 (List.replicate k (Value.int .u8 0)) 0 cur w hg (by simp; omega) (by intro v hv; rw [(List.mem_replicate.1 hv).2]; rfl)
      have hadd : (⟨g, 0, none⟩ : Addr).add l.length = ⟨g, l.length, none⟩ := by unfold Addr.add; split <;> simp_all
      refine ⟨.slice (some ⟨g, 0, none⟩) (l.length + k) cap, w.setRow g (cur.toList.take l.length ++ List.replicate k (Value.int .u8 0) ++ cur.toList.drop (l.length + k)).toArray, ?_, ?_, (Fr.setRow w g _).mono (fun _ _ e => e), .inl rfl⟩
      · simp [Builtin.append_, run_underlying ht, run_underlying htn, sizeOf, typeInfo, zeroValue, hi, hz, hs, hby, asInt, asIntOf, hw, hneg, h48i, hns, hfit, hadd, zeroCells_one, Value.cells]
        simp only [Nat.add_zero, List.length_replicate] at hst
        rw [hst, Result.andThen_ok]
        simp only [List.append_assoc]
      · refine .inr ⟨g, cap, _, by rw [hlen], setRow_heap w g cur _ _ _ hg, by rw [hlen]; exact hfit, ?_, ?_⟩
        · simp
          omega
        · rw [hlen]
          rw [List.take_append_of_le_length (by simp; omega), List.take_of_length_le (by simp; omega), hcur]
          simp
    · exact grow _ _ (by omega) (run_firstCells_some w.drew 1 l.length _ _ _ (byteV l) (by simp [byteV]) (fun j v hv => hcells j v hv) |> fun h => by rw [hs]; exact h)
end Go.Proofs.YthikjdpnlahkfaaGreatDoor

/- files.slots.add: a thing more. Conditions: the contract's own premises. -/
namespace Go.Proofs.YthikjdpnlahkfaaGreatDoor
open Go.RowKit

def encP (o : Option Nat) : Value := match o with | none => .pointer none | some b => .pointer (some ⟨b, 0, none⟩)
def freeI (l : List (Option Nat)) : Nat := l.findIdx (·.isNone)
theorem freeI_le (l : List (Option Nat)) : freeI l ≤ l.length := List.findIdx_le_length
theorem freeI_some {l : List (Option Nat)} {k : Nat} (hk : k < freeI l) : ∃ b, l[k]'(Nat.lt_of_lt_of_le hk (freeI_le l)) = some b := by
  have := List.not_of_lt_findIdx (p := fun o : Option Nat => o.isNone) hk
  exact Option.isSome_iff_exists.1 (by simpa using this)
theorem freeI_none {l : List (Option Nat)} (h : freeI l < l.length) : l[freeI l] = none := by
  have : (l[freeI l]).isNone = true := List.findIdx_getElem (w := h)
  simpa using this
def idxV (l : List (Option Nat)) : Int := if freeI l < l.length then (freeI l : Int) else -1
theorem eql_nil' {P : Program} (t : TypeId) (w : World) (p : Option Addr) (h : P.underlying t = some (.pointer (P.pointee t))) : (binOp .eql t (.pointer none) (.pointer p)).run P w = .ok (.bool p.isNone) w := by
  have h1 : ∀ d, (Op.equalIn (d + 1) t (.pointer none) (.pointer p)).run P w = .ok p.isNone w := fun d => by
    cases p <;> simp [Op.equalIn, run_underlying h]
  have h2 : (Op.equal t (.pointer none) (.pointer p)).run P w = .ok p.isNone w := h1 9999
  simp only [binOp]
  simp [h2]
theorem eql_nil (a : Option Addr) (w : World) : (binOp .eql 52 (.pointer none) (.pointer a)).run Tryz.prog w = .ok (.bool a.isNone) w := eql_nil' _ w a (by kernel_rfl)
set_option maxRecDepth 100000 in
theorem idx_any (w : World) (a : Option Addr) (cap : Nat) (l : List (Option Nat)) (hc : l.length = 0 ∨ ∃ g, a = some ⟨g, 0, none⟩ ∧ ∀ k u, (l.map encP)[k]? = some u → w.cell? ⟨g, k, none⟩ = some u) (hl : l.length ≤ 1000) :
    Calls Tryz.prog 61 #[.slice a l.length cap, .pointer none] w fun e w' => e = .returned (.int .i64 (idxV l)) ∧ w' = w := by
  have Hc := hide hc
  clear hc
  go_enter Tryz.func61, Tryz.ntmps61
  go_wp2
  go_loop [8] (fun i => ∃ k : Nat, k ≤ freeI l ∧ i = .int .i64 k) (fun i => l.length - (intOf i).toNat)
  case atStart => exact ⟨0, Nat.zero_le _, rfl⟩
  case round =>
    obtain ⟨k, hk, rfl⟩ := hrel
    have hfl := freeI_le l
    by_cases hlt : k < l.length
    · obtain ⟨g, rfl, hcells⟩ := Hc.out.resolve_left (by omega)
      have ck := hcells k (encP l[k]) (by simp [hlt])
      have Hhk := hide hk
      have hkI : (k : Int) < (l.length : Int) := by omega
      have hk0 : (0 : Int) ≤ (k : Int) := by omega
      clear hcells Hc
      rcases Nat.lt_or_ge k (freeI l) with hlt2 | hge
      · obtain ⟨b, hb⟩ := freeI_some hlt2
        rw [hb] at ck
        simp only [encP] at ck
        have he := eql_nil (some ⟨b, 0, none⟩) w
        clear hb hk
        go_wp2
        refine ⟨⟨k + 1, hlt2, by go_num⟩, ?_⟩
        simp [intOf]
        omega
      · have hkf : k = freeI l := by omega
        have hb : l[k] = none := by
          subst hkf
          exact freeI_none hlt
        rw [hb] at ck
        simp only [encP] at ck
        have he := eql_nil none w
        have hres : (k : Int) = idxV l := by unfold idxV; rw [if_pos (by omega), hkf]
        have Hres := hide hres
        clear hb hk hkf hres
        go_wp2
        go_ret
        exact ⟨ret_int Hres.out, rfl⟩
    · have hres : (-1 : Int) = idxV l := by unfold idxV; rw [if_neg (by omega)]
      have Hres := hide hres
      have hkI : ¬ (k : Int) < (l.length : Int) := by omega
      clear hres
      go_wp2
      go_ret
      exact ⟨ret_int Hres.out, rfl⟩
def addI (l : List (Option Nat)) (nb : Nat) : List (Option Nat) := if freeI l < l.length then l.set (freeI l) (some nb) else l ++ [some nb]
def AddPost (w : World) (f nb : Nat) (lv : Value) (cnt : Nat) (rv bv : Value) (l : List (Option Nat)) (e : Ending) (w' : World) : Prop :=
  e = .returned (.int .i64 ((freeI l : Int) + 1)) ∧ ∃ lv', w'.heap[f]? = some (.cells #[lv', .int .i64 ((cnt : Int) + 1), rv, bv] 54 (0, 0)) ∧ w'.ownsRow 0 52 1 lv' (addI l nb).length ((addI l nb).map encP) ∧
    Fr (fun k => k = f ∨ lv.ownBlock = some k) w w' ∧ (lv'.ownBlock = lv.ownBlock ∨ lv'.ownBlock = some (w.heap.size + 1))
set_option maxRecDepth 100000 in
set_option maxHeartbeats 1000000 in
theorem sadd_any (w : World) (f nb : Nat) (lv : Value) (cnt : Nat) (rv bv : Value) (l : List (Option Nat)) (hb : w.heap[f]? = some (.cells #[lv, .int .i64 cnt, rv, bv] 54 (0, 0)))
    (hl : w.ownsRow 0 52 1 lv l.length (l.map encP)) (hcnt : cnt ≤ 1000) (hll : l.length ≤ 1000) :
    Calls Tryz.prog 22 #[.pointer (some ⟨f, 0, none⟩), .pointer (some ⟨nb, 0, none⟩)] w (AddPost w f nb lv cnt rv bv l) := by
  obtain ⟨la, lc, rfl⟩ := own_form hl
  have hlf : ∀ g, (Value.slice la l.length lc).ownBlock = some g → g ≠ f := fun g e => by
    rcases hl.2 with ⟨h1, _⟩ | ⟨g', cap', cur, h1, _, hg, _⟩
    · rw [h1] at e; cases e
    · rw [h1] at e
      have e' : g' = g := by simpa [Value.ownBlock] using e
      subst e'
      intro e2
      subst e2
      rw [hg] at hb
      simp at hb
  obtain ⟨w1, hw1⟩ : ∃ w1, w1 = w.setCell ⟨f, 1, none⟩ (.int .i64 ((cnt : Int) + 1)) := ⟨_, rfl⟩
  have hb1 : w1.heap[f]? = some (.cells #[.slice la l.length lc, .int .i64 ((cnt : Int) + 1), rv, bv] 54 (0, 0)) := by rw [hw1, blk_set hb]; rfl
  have hf1 : Fr (fun k => k = f) w w1 := by rw [hw1]; exact frSet _ _ _ _
  have hl1 := own_frame hl hf1 hlf
  have c1 : w.cell? ⟨f, 1, none⟩ = some (.int .i64 cnt) := by rw [blk_cell hb]; rfl
  have z1 := blk_frozen hb 1
  have c0 : w1.cell? ⟨f, 0, none⟩ = some (.slice la l.length lc) := by rw [blk_cell hb1]; rfl
  have hidx := idx_any w1 la lc l (by
    rcases Nat.eq_zero_or_pos l.length with h | h
    · exact .inl h
    · obtain ⟨g, h1, _, _, h2⟩ := own_cells hl1 h
      exact .inr ⟨g, h1, h2⟩) hll
  have hsz1 : w1.heap.size = w.heap.size := by rw [hw1]; simp [World.setCell]
  obtain ⟨i0, hinf, hz0, hz1, hz2⟩ : ∃ i0, Tryz.prog.info? 52 = some i0 ∧ i0.zero = some (.pointer none) ∧ i0.size = 1 ∧ i0.bytes = 8 := by
    have h : (Tryz.prog.info? 52).map (fun i => (i.zero, i.size, i.bytes)) = some (some (.pointer none), 1, 8) := by kernel_rfl
    cases hq : Tryz.prog.info? 52 with
    | none => rw [hq] at h; cases h
    | some i => rw [hq] at h; simp at h; exact ⟨i, rfl, h.1, h.2.1, h.2.2⟩
  by_cases hfree : freeI l < l.length
  · obtain ⟨g, rfl, _, hgl, _⟩ := own_cells hl1 (by omega)
    obtain ⟨hst, _⟩ := hl1.stored (freeI l) (.pointer (some ⟨nb, 0, none⟩))
    have hgf := hlf g rfl
    have cg : w1.cell? ⟨g, freeI l, none⟩ = some (.pointer none) := by rw [hl1.cellAt (freeI l) (by omega)]; simp [hfree, freeI_none hfree, encP]
    have zg := hl1.frozenAt (freeI l)
    have hres := hide (show AddPost w f nb (.slice (some ⟨g, 0, none⟩) l.length lc) cnt rv bv l (.returned (.int .i64 ((freeI l : Int) + 1))) (w1.setCell ⟨g, freeI l, none⟩ (.pointer (some ⟨nb, 0, none⟩))) from by
      refine ⟨rfl, _, blk_set_other hb1 _ _ (Ne.symm hgf), ?_, (hf1.mono (fun _ _ e => .inl e)).trans' (frSet _ _ _ _) (fun k _ e => .inr (by rw [e]; rfl)), .inl rfl⟩
      unfold addI
      rw [if_pos hfree, List.length_set, List.map_set]
      exact hst)
    rw [show idxV l = (freeI l : Int) by unfold idxV; rw [if_pos hfree]] at hidx
    have hk0 : (0 : Int) ≤ (freeI l : Int) := by omega
    have hk1 : (freeI l : Int) < (l.length : Int) := by omega
    clear hst hl hl1
    generalize freeI l = q at *
    subst hw1
    go_enter Tryz.func22, Tryz.ntmps22
    go_wp2_with fail
    refine hidx.mono ?_
    rintro e w' ⟨rfl, rfl⟩
    clear hidx
    go_wp2_with fail
    go_ret
    exact hres.out
  · have hfe : freeI l = l.length := by have := freeI_le l; omega
    rw [show idxV l = -1 by unfold idxV; rw [if_neg hfree]] at hidx
    obtain ⟨w2, hw2⟩ : ∃ w2, w2 = w1.alloc (.cells #[.pointer (some ⟨nb, 0, none⟩)] 52) := ⟨_, rfl⟩
    have hb2 : w2.heap[w1.heap.size]? = some (.cells #[.pointer (some ⟨nb, 0, none⟩)] 52 (0, 0)) := by rw [hw2]; exact blk_new _ _
    have hl2 : w2.ownsRow 0 52 1 (.slice la l.length lc) l.length (l.map encP) := by rw [hw2]; exact hl1.alloc _
    have hbf2 : w2.heap[f]? = some (.cells #[.slice la l.length lc, .int .i64 ((cnt : Int) + 1), rv, bv] 54 (0, 0)) := by rw [hw2]; exact blk_alloc hb1 _
    have hsz2 : w2.heap.size = w.heap.size + 1 := by rw [hw2]; simp [hsz1]
    have hf2 : Fr (fun k => k = f) w w2 := by rw [hw2]; exact hf1.alloc _
    have hfin := hide (show ∀ v5 w5, w5.ownsRow 0 52 1 v5 (l.length + 1) (l.map encP ++ [.pointer (some ⟨nb, 0, none⟩)]) → Fr (fun k => (Value.slice la l.length lc).ownBlock = some k) w2 w5 → (v5.ownBlock = (Value.slice la l.length lc).ownBlock ∨ v5.ownBlock = some w2.heap.size) →
        AddPost w f nb (.slice la l.length lc) cnt rv bv l (.returned (.int .i64 ((l.length : Int) + 1))) (w5.setCell ⟨f, 0, none⟩ v5) from fun v5 w5 h1 h2 h3 => by
      have hb5 := h2.get hbf2 (fun e => hlf f e rfl)
      have hlt := blk_lt hb1
      have hv5 : ∀ g, v5.ownBlock = some g → g ≠ f := fun g e => by
        rcases h3 with h3 | h3
        · exact hlf g (h3 ▸ e)
        · rw [h3] at e; cases e; omega
      refine ⟨by rw [hfe], v5, by rw [blk_set hb5]; rfl, ?_, ((hf2.mono (fun _ _ e => .inl e)).trans' h2 (fun k _ e => .inr e)).trans' (frSet _ _ _ _) (fun k _ e => .inl e), ?_⟩
      · unfold addI
        rw [if_neg hfree, List.length_append, List.map_append]
        exact own_frame h1 (frSet _ _ _ _) hv5
      · rcases h3 with h3 | h3
        · exact .inl h3
        · exact .inr (by rw [h3, hsz2]))
    clear hfe
    have Hl2 := hide hl2
    obtain ⟨n, hn⟩ : ∃ n, n = l.length := ⟨_, rfl⟩
    have Hn := hide hn
    clear hl hl1 hl2
    subst hw2
    subst hw1
    go_enter Tryz.func22, Tryz.ntmps22
    go_wp2_with fail
    refine hidx.mono ?_
    rintro e w' ⟨rfl, rfl⟩
    clear hidx
    go_wp2_with (at_builtin; refine wpList_append_src rfl _ _ 49 rfl 0 52 i0 _ 1 8 (by kernel_rfl) hinf hz0 hz1 hz2 rfl (by decide) _ _ _ rfl Hl2.out _ 1 1 [.pointer (some ⟨nb, 0, none⟩)] rfl ?qc1 ?qc2 ?qc3 ?qc4 ?qc5 ?qc6 ?_)
    case qc1 => rfl
    case qc2 =>
      refine .inr ⟨_, rfl, fun j u hj => ?_⟩
      rw [Addr.add_lit, Nat.zero_add]
      cases j with
      | zero => cases hj; rw [← hsz1, blk_cell hb2]; rfl
      | succ j => simp at hj
    case qc3 => intro u hu; simp at hu; rw [hu]; rfl
    case qc4 => unfold maxLen; omega
    case qc5 => omega
    case qc6 => exact Nat.zero_le _
    intro v5 w5 hown hfr hat
    have hb5 := hfr.get hbf2 (fun e => hlf f e rfl)
    have c50 : w5.cell? ⟨f, 0, none⟩ = some (.slice la l.length lc) := by rw [blk_cell hb5]; rfl
    have z5 := blk_frozen hb5
    have hfin5 := hide (hfin.out v5 w5 hown hfr (hat.imp id (fun e => e.trans (by rw [hsz2]))))
    obtain ⟨a5, c5, rfl⟩ := own_form hown
    clear hfin hown hfr hat
    go_wp2_with fail
    go_ret
    exact hfin5.out
end Go.Proofs.YthikjdpnlahkfaaGreatDoor

/- The tree of files as plain data: what put and add do to numbers, counts and bytes; when what is named stays there. No program in sight; no condition. -/
namespace Go.Proofs.YthikjdpnlahkfaaGreatDoor
open Go.RowKit

theorem and511 (n : Int) : bits .and .i64 n 511 = n % 512 := by
  have e1 : IntKind.i64.bits = 64 := rfl
  unfold bits
  rw [e1]
  have key : (BitVec.ofInt 64 n &&& BitVec.ofInt 64 511).toNat = (n % 512).toNat := by
    rw [BitVec.toNat_and, BitVec.toNat_ofInt, BitVec.toNat_ofInt]
    have : ((511 : Int) % ((2 ^ 64 : Nat) : Int)).toNat = 2 ^ 9 - 1 := by decide
    rw [this, Nat.and_two_pow_sub_one_eq_mod]
    have e : ((2 ^ 64 : Nat) : Int) = 18446744073709551616 := by decide
    rw [e]
    omega
  simp only [key]
  rw [IntKind.wrap_i64]
  omega
def modeN (m : Int) : Nat := (m % 512).toNat
theorem modeN_lt (m : Int) : modeN m < 512 := by unfold modeN; omega
theorem modeN_eq (m : Int) : bits .and .i64 m 511 = (modeN m : Int) := by rw [and511]; unfold modeN; omega
theorem FSt.nd_lt {σ : FSt} {i : Nat} (h : (σ.nd i).isSome = true) : 0 < i ∧ i ≤ σ.length := by
  unfold FSt.nd at h
  split at h
  · cases h
  · rename_i h0
    refine ⟨by omega, ?_⟩
    by_cases hi : i - 1 < σ.length
    · omega
    · rw [List.getElem?_eq_none (by omega)] at h; cases h
theorem FSt.nd_at {σ : FSt} {i : Nat} (h0 : 0 < i) (hi : i - 1 < σ.length) : σ.nd i = σ[i - 1] := by
  unfold FSt.nd
  rw [if_neg (by omega), List.getElem?_eq_getElem hi]
  rfl
theorem FSt.nd_put {σ : FSt} {i : Nat} (h : (σ.nd i).isSome = true) (x : Option Nd) (j : Nat) : (σ.put i x).nd j = if j = i then x else σ.nd j := by
  obtain ⟨h0, hl⟩ := FSt.nd_lt h
  unfold FSt.put FSt.nd
  by_cases hj : j = 0
  · rw [if_pos hj, if_neg (by omega), if_pos hj]
  · rw [if_neg hj, if_neg hj, List.getElem?_set]
    by_cases e : j = i
    · rw [if_pos e, if_pos (by omega), if_pos (by omega)]; rfl
    · rw [if_neg e, if_neg (by omega)]
theorem FSt.put_length (σ : FSt) (i : Nat) (x : Option Nd) : (σ.put i x).length = σ.length := by unfold FSt.put; exact List.length_set
theorem FSt.nd_free (σ : FSt) : σ.nd σ.free = none := by
  unfold FSt.nd FSt.free
  rw [if_neg (by omega), Nat.add_sub_cancel]
  by_cases h : σ.findIdx (·.isNone) < σ.length
  · rw [List.getElem?_eq_getElem h]
    have : (σ[σ.findIdx (·.isNone)]).isNone = true := List.findIdx_getElem (w := h)
    simpa using this
  · rw [List.getElem?_eq_none (by omega)]; rfl
theorem FSt.free_pos (σ : FSt) : 0 < σ.free := by unfold FSt.free; omega
theorem FSt.nd_add (σ : FSt) (n : Nd) (j : Nat) : (σ.add n).nd j = if j = σ.free then some n else σ.nd j := by
  have hle : σ.findIdx (·.isNone) ≤ σ.length := List.findIdx_le_length
  unfold FSt.add FSt.nd FSt.free
  by_cases hj : j = 0
  · rw [if_pos hj, if_neg (by omega), if_pos hj]
  · rw [if_neg hj, if_neg hj]
    split
    · rename_i h
      rw [List.getElem?_set]
      by_cases e : j = σ.findIdx (·.isNone) + 1
      · rw [if_pos e, if_pos (by omega), if_pos (by omega)]; rfl
      · rw [if_neg e, if_neg (by omega)]
    · rename_i h
      by_cases e : j = σ.findIdx (·.isNone) + 1
      · rw [if_pos e, List.getElem?_append_right (by omega), show j - 1 - σ.length = 0 by omega]; rfl
      · rw [if_neg e]
        by_cases h2 : j - 1 < σ.length
        · rw [List.getElem?_append_left h2]
        · rw [List.getElem?_eq_none (by simp; omega), List.getElem?_eq_none (by omega)]
theorem sum_set {α : Type} (g : α → Nat) : ∀ (l : List α) (i : Nat) (hi : i < l.length) (x : α), ((l.set i x).map g).sum + g l[i] = (l.map g).sum + g x
  | [], i, hi, x => by simp at hi
  | a :: l, 0, hi, x => by simp; omega
  | a :: l, i + 1, hi, x => by
    have ih := sum_set g l i (by simpa using hi) x
    simp only [List.set_cons_succ, List.map_cons, List.sum_cons, List.getElem_cons_succ]
    omega
def one (o : Option Nd) : Nat := if o.isSome then 1 else 0
theorem FSt.cnt_sum (σ : FSt) : σ.cnt = (σ.map one).sum := by
  unfold FSt.cnt
  induction σ with
  | nil => rfl
  | cons a l ih =>
    rw [List.filter_cons]
    cases h : a.isSome <;> simp [one, h, ih] <;> omega
theorem FSt.cnt_put {σ : FSt} {i : Nat} (h : (σ.nd i).isSome = true) (x : Option Nd) : (σ.put i x).cnt + 1 = σ.cnt + one x := by
  obtain ⟨h0, hl⟩ := FSt.nd_lt h
  rw [FSt.cnt_sum, FSt.cnt_sum]
  have := sum_set one σ (i - 1) (by omega) x
  rw [FSt.nd_at h0 (by omega)] at h
  rw [show one σ[i - 1] = 1 by unfold one; rw [h]; rfl] at this
  exact this
theorem FSt.byts_put {σ : FSt} {i : Nat} {n : Nd} (h : σ.nd i = some n) (x : Option Nd) : (σ.put i x).byts + n.data.length = σ.byts + ndLen x := by
  obtain ⟨h0, hl⟩ := FSt.nd_lt (by rw [h]; rfl)
  have := sum_set ndLen σ (i - 1) (by omega) x
  rw [FSt.nd_at h0 (by omega)] at h
  rw [h] at this
  exact this
theorem FSt.cnt_add (σ : FSt) (n : Nd) : (σ.add n).cnt = σ.cnt + 1 := by
  rw [FSt.cnt_sum, FSt.cnt_sum]
  unfold FSt.add
  split
  · rename_i h
    have h2 := sum_set one σ _ h (some n)
    have h3 : (σ[σ.findIdx (·.isNone)]).isNone = true := List.findIdx_getElem (w := h)
    have h4 : σ[σ.findIdx (·.isNone)] = none := by simpa using h3
    rw [h4] at h2
    simpa [one] using h2
  · simp [one]
theorem FSt.byts_add (σ : FSt) (n : Nd) : (σ.add n).byts = σ.byts + n.data.length := by
  unfold FSt.byts FSt.add
  split
  · rename_i h
    have h2 := sum_set ndLen σ _ h (some n)
    have h3 : (σ[σ.findIdx (·.isNone)]).isNone = true := List.findIdx_getElem (w := h)
    have h4 : σ[σ.findIdx (·.isNone)] = none := by simpa using h3
    rw [h4] at h2
    simpa [ndLen] using h2
  · simp [ndLen]
theorem FSt.cnt_le (σ : FSt) : σ.cnt ≤ σ.length := List.length_filter_le _ _
theorem FSt.add_length {σ : FSt} (n : Nd) (h : σ.cnt < 100) (hl : σ.length ≤ 100) : (σ.add n).length ≤ 100 := by
  unfold FSt.add
  split
  · rw [List.length_set]; exact hl
  · rename_i h2
    have h3 : σ.cnt = σ.length := by
      unfold FSt.cnt
      congr 1
      rw [List.filter_eq_self]
      intro a ha
      have := List.findIdx_eq_length.1 (Nat.le_antisymm List.findIdx_le_length (by omega) : σ.findIdx (·.isNone) = σ.length) a ha
      simpa using this
    simp
    omega
theorem byts_nd {σ : FSt} {i : Nat} {n : Nd} (h : σ.nd i = some n) : n.data.length ≤ σ.byts := by
  have := FSt.byts_put h none
  simp [ndLen] at this
  omega
/-- A changed inode. -/
theorem Live.put {σ : FSt} (h : Live σ) {i : Nat} {n n' : Nd} (hn : σ.nd i = some n) (hd : n'.d = n.d) (h1 : i = 1 → n'.links = 1) (he : ∀ q ∈ n'.ents, (σ.nd q.2).isSome = true)
    (hp : n'.d = true → 0 < n'.links → (σ.nd n'.par).isSome = true) (hb : (σ.put i (some n')).byts ≤ 65536) (hnm : ∀ q ∈ n'.ents, q.1.length ≤ 32) : Live (σ.put i (some n')) := by
  have hs : (σ.nd i).isSome = true := by rw [hn]; rfl
  have hnd := FSt.nd_put hs (some n')
  have sm : ∀ k, (σ.nd k).isSome = true → ((σ.put i (some n')).nd k).isSome = true := fun k hk => by
    rw [hnd]; split
    · rfl
    · exact hk
  have cs : ∀ j m, (σ.put i (some n')).nd j = some m → (j = i ∧ m = n') ∨ σ.nd j = some m := fun j m hj => by
    rw [hnd] at hj
    split at hj
    · rename_i e; cases hj; exact .inl ⟨e, rfl⟩
    · exact .inr hj
  refine ⟨?_, ?_, ?_, ?_, by rw [FSt.put_length]; exact h.len, hb, ?_⟩
  · obtain ⟨r, hr, hr2, hr3⟩ := h.root
    by_cases e : i = 1
    · refine ⟨n', by rw [hnd, if_pos e.symm], ?_, h1 e⟩
      subst e; rw [hn] at hr; cases hr; rw [hd]; exact hr2
    · exact ⟨r, by rw [hnd, if_neg (fun e2 => e e2.symm)]; exact hr, hr2, hr3⟩
  · intro j m hj q hq
    rcases cs j m hj with ⟨_, rfl⟩ | hj
    · exact sm _ (he q hq)
    · exact sm _ (h.ents j m hj q hq)
  · intro j m hj hd2 hl
    rcases cs j m hj with ⟨_, rfl⟩ | hj
    · exact sm _ (hp hd2 hl)
    · exact sm _ (h.par j m hj hd2 hl)
  · have := FSt.cnt_put hs (some n'); have h9 := h.cnt; simp [one] at this; omega
  · intro j m hj
    rcases cs j m hj with ⟨_, rfl⟩ | hj
    · exact hnm
    · exact h.names j m hj
/-- An inode more. -/
theorem Live.add {σ : FSt} (h : Live σ) {n : Nd} (he : n.ents = []) (hdt : n.data = []) (hp : (σ.nd n.par).isSome = true) (hc : σ.cnt < 100) : Live (σ.add n) := by
  have hnd := FSt.nd_add σ n
  have sm : ∀ k, (σ.nd k).isSome = true → ((σ.add n).nd k).isSome = true := fun k hk => by
    rw [hnd]; split
    · rfl
    · exact hk
  have cs : ∀ j m, (σ.add n).nd j = some m → m = n ∨ σ.nd j = some m := fun j m hj => by
    rw [hnd] at hj
    split at hj
    · cases hj; exact .inl rfl
    · exact .inr hj
  refine ⟨?_, ?_, ?_, by rw [FSt.cnt_add]; omega, FSt.add_length n hc h.len, by rw [FSt.byts_add, hdt]; exact h.byts, ?_⟩
  · obtain ⟨r, hr, hr2⟩ := h.root
    refine ⟨r, ?_, hr2⟩
    rw [hnd, if_neg]
    · exact hr
    · intro e; rw [e, FSt.nd_free] at hr; cases hr
  · intro j m hj q hq
    rcases cs j m hj with rfl | hj
    · rw [he] at hq; cases hq
    · exact sm _ (h.ents j m hj q hq)
  · intro j m hj hd hl
    rcases cs j m hj with rfl | hj
    · exact sm _ hp
    · exact sm _ (h.par j m hj hd hl)
  · intro j m hj
    rcases cs j m hj with rfl | hj
    · rw [he]; exact fun q hq => by cases hq
    · exact h.names j m hj
end Go.Proofs.YthikjdpnlahkfaaGreatDoor

/- The tree of files in memory behind a change: an inode changed; an inode more. Conditions: the laws' own premises. -/
namespace Go.Proofs.YthikjdpnlahkfaaGreatDoor
open Go.RowKit

def upd {α : Type} (g : Nat → α) (i : Nat) (x : α) (j : Nat) : α := if j = i then x else g j
theorem upd_same {α : Type} (g : Nat → α) (i : Nat) (x : α) : upd g i x i = x := if_pos rfl
theorem upd_other {α : Type} {g : Nat → α} {i j : Nat} {x : α} (h : j ≠ i) : upd g i x j = g j := if_neg h
theorem FilesF.mono {w : World} {f : Nat} {σ : FSt} {S S' : Nat → Prop} {p : Nat → Nat} {dv ev pv : Nat → Value} {lv : Value} (h : FilesF w f σ S p dv ev pv lv) (hs : ∀ k, S k → S' k) : FilesF w f σ S' p dv ev pv lv :=
  { h with own := hs _ h.own, ownl := fun g e => hs _ (h.ownl g e), ownn := fun i e => hs _ (h.ownn i e), ownd := fun i g e e2 => hs _ (h.ownd i g e e2), owne := fun i m e e2 => hs _ (h.owne i m e e2), up := fun k e => hs _ (h.up k e) }
theorem FilesAt.mono {w : World} {f : Nat} {σ : FSt} {S S' : Nat → Prop} {p : Nat → Nat} (h : FilesAt w f σ S p) (hs : ∀ k, S k → S' k) : FilesAt w f σ S' p := by
  obtain ⟨_, _, _, _, h⟩ := h
  exact ⟨_, _, _, _, h.mono hs⟩
theorem kmap_congr {α β : Type} {f g : List UInt8 → α → β} : ∀ {L : KA α}, (∀ q ∈ L, f q.1 q.2 = g q.1 q.2) → kmap f L = kmap g L
  | [], _ => rfl
  | q :: L, h => by
    unfold kmap
    rw [List.map_cons, List.map_cons, h q (by simp)]
    congr 1
    exact kmap_congr (fun q hq => h q (by simp [hq]))
/-- The same, by other numbers for the blocks. -/
theorem NodeF.reptr {w : World} {p p' : Nat → Nat} {b i : Nat} {n : Nd} {dv ev pv : Value} (h : NodeF w p b i n dv ev pv) (he : ∀ q ∈ n.ents, p' q.2 = p q.2) (hp : n.d = true → 0 < n.links → p' n.par = p n.par) : NodeF w p' b i n dv ev pv :=
  { h with
    dir := fun hd => by
      obtain ⟨h0, m, h1, h2⟩ := h.dir hd
      refine ⟨h0, m, h1, ?_⟩
      rw [kmap_congr (g := fun _ k => .pointer (some ⟨p k, 0, none⟩)) (fun q hq => by rw [he q hq])]
      exact h2
    par := fun hd hl => by rw [hp hd hl]; exact h.par hd hl }
theorem ptrOf_isSome {o o' : Option Nd} (h : o.isSome = o'.isSome) (b : Nat) : ptrOf o b = ptrOf o' b := by cases o <;> cases o' <;> first | rfl | cases h
theorem slotV_put {p : Nat → Nat} {σ : FSt} {i : Nat} {n n' : Nd} (hn : σ.nd i = some n) : slotV p (σ.put i (some n')) = slotV p σ := by
  obtain ⟨h0, hl⟩ := FSt.nd_lt (show (σ.nd i).isSome = true by rw [hn]; rfl)
  rw [FSt.nd_at h0 (by omega)] at hn
  unfold slotV
  apply List.ext_getElem
  · simp [FSt.put_length]
  · intro k h1 h2
    rw [List.getElem_mapIdx, List.getElem_mapIdx]
    apply ptrOf_isSome
    unfold FSt.put
    rw [List.getElem_set]
    split
    · rename_i e; subst e; rw [hn]; rfl
    · rfl
/-- Which block holds a row of what. -/
theorem cells_ne {w : World} {a b ta tb : Nat} {ca cb : Array Value} {fa fb : Nat × Nat} (ha : w.heap[a]? = some (.cells ca ta fa)) (hb : w.heap[b]? = some (.cells cb tb fb)) (hne : ta ≠ tb) : a ≠ b := by
  rintro rfl
  rw [ha] at hb
  cases hb
  exact hne rfl
theorem FilesF.lv_blk {w : World} {f : Nat} {σ : FSt} {S : Nat → Prop} {p : Nat → Nat} {dv ev pv : Nat → Value} {lv : Value} (h : FilesF w f σ S p dv ev pv lv) {g : Nat} (hg : lv.ownBlock = some g) : ∃ c, w.heap[g]? = some (.cells c 52 (0, 0)) := by
  rcases h.hl.2 with ⟨h1, _⟩ | ⟨g', cap', cur, h1, _, hc, _⟩
  · rw [h1] at hg; cases hg
  · rw [h1] at hg
    have e' : g' = g := by simpa [Value.ownBlock] using hg
    subst e'
    exact ⟨_, hc⟩
theorem DataV.blk {w : World} {v : Value} {l : List UInt8} (h : DataV w v l) {g : Nat} (hg : v.ownBlock = some g) : ∃ c, w.heap[g]? = some (.cells c 5 (0, 0)) := by
  rcases h with ⟨rfl, _⟩ | ⟨g', cap, cur, rfl, hc, _⟩
  · cases hg
  · have e' : g' = g := by simpa [Value.ownBlock] using hg
    subst e'
    exact ⟨_, hc⟩
theorem NodeF.map_blk {w : World} {p : Nat → Nat} {b i : Nat} {n : Nd} {dv ev pv : Value} (h : NodeF w p b i n dv ev pv) {m : Nat} (he : ev = .map (some m)) : ∃ es clock, w.heap[m]? = some (.map es clock) := by
  cases hn : n.d with
  | true =>
    obtain ⟨_, m', h1, h2⟩ := h.dir hn
    rw [he] at h1
    cases h1
    obtain ⟨es, clock, hb, _⟩ := h2.own
    exact ⟨es, clock, hb⟩
  | false =>
    have := (h.file hn).1
    rw [he] at this
    cases this
/-- An inode changed. -/
theorem FilesF.changed {w w' : World} {f : Nat} {σ : FSt} {S : Nat → Prop} {p : Nat → Nat} {dv ev pv : Nat → Value} {lv : Value} (h : FilesF w f σ S p dv ev pv lv) {T : Nat → Prop} (hf : Fr T w w') {i : Nat} {n n' : Nd} (hn : σ.nd i = some n) {dv' ev' pv' : Value}
    (hT : ∀ k, T k → k = f ∨ k = p i ∨ (dv i).ownBlock = some k ∨ ev i = .map (some k))
    (hb : w'.heap[f]? = some (.cells #[lv, .int .i64 σ.cnt, .pointer (some ⟨p 1, 0, none⟩), .int .i64 (σ.put i (some n')).byts] 54 (0, 0)))
    (hnd : NodeF w' p (p i) i n' dv' ev' pv') (hdv : ∀ g, dv'.ownBlock = some g → (dv i).ownBlock = some g ∨ w.heap.size ≤ g) (hev : ∀ m, ev' = .map (some m) → ev i = .map (some m)) (hlive : Live (σ.put i (some n'))) :
    FilesF w' f (σ.put i (some n')) S p (upd dv i dv') (upd ev i ev') (upd pv i pv') lv := by
  have hs : (σ.nd i).isSome = true := by rw [hn]; rfl
  have hput := FSt.nd_put hs (some n')
  have hi := h.nd i n hn
  have back : ∀ j, ((σ.put i (some n')).nd j).isSome = true → (σ.nd j).isSome = true := fun j hj => by
    rw [hput] at hj
    split at hj
    · rename_i e; rw [e]; exact hs
    · exact hj
  have hcnt : (σ.put i (some n')).cnt = σ.cnt := by have := FSt.cnt_put hs (some n'); simp [one] at this; exact this
  have hTlv : ∀ g, lv.ownBlock = some g → ¬ T g := fun g e ht => by
    obtain ⟨c, hc⟩ := h.lv_blk e
    rcases hT g ht with rfl | rfl | e2 | e2
    · exact cells_ne hc h.hb (by decide) rfl
    · exact cells_ne hc hi.hb (by decide) rfl
    · obtain ⟨c2, hc2⟩ := hi.data.blk e2
      exact cells_ne hc hc2 (by decide) rfl
    · obtain ⟨es, clock, hm⟩ := hi.map_blk e2
      rw [hc] at hm; cases hm
  have hother : ∀ j m, σ.nd j = some m → j ≠ i → NodeF w' p (p j) j m (dv j) (ev j) (pv j) := fun j m hj hne => by
    have hnj := h.nd j m hj
    have hsj : (σ.nd j).isSome = true := by rw [hj]; rfl
    refine hnj.frame hf (fun ht => ?_) (fun g e ht => ?_) (fun mb e ht => ?_)
    · rcases hT _ ht with e2 | e2 | e2 | e2
      · exact cells_ne hnj.hb (e2 ▸ h.hb) (by decide) rfl
      · exact hne (h.inj j i hsj hs e2)
      · obtain ⟨c2, hc2⟩ := hi.data.blk e2
        exact cells_ne hnj.hb hc2 (by decide) rfl
      · obtain ⟨es, clock, hm⟩ := hi.map_blk e2
        rw [hnj.hb] at hm; cases hm
    · obtain ⟨c, hc⟩ := hnj.data.blk e
      rcases hT _ ht with e2 | e2 | e2 | e2
      · exact cells_ne hc (e2 ▸ h.hb) (by decide) rfl
      · exact cells_ne hc (e2 ▸ hi.hb) (by decide) rfl
      · exact hne (h.injd j i g hsj hs e e2)
      · obtain ⟨es, clock, hm⟩ := hi.map_blk e2
        rw [hc] at hm; cases hm
    · obtain ⟨es, clock, hm⟩ := hnj.map_blk e
      rcases hT _ ht with e2 | e2 | e2 | e2
      · rw [e2, h.hb] at hm; cases hm
      · rw [e2, hi.hb] at hm; cases hm
      · obtain ⟨c2, hc2⟩ := hi.data.blk e2
        rw [hc2] at hm; cases hm
      · exact hne (h.inje j i mb hsj hs e e2)
  refine ⟨by rw [hcnt]; exact hb, ?_, ?_, fun j k hj hk => h.inj j k (back j hj) (back k hk), ?_, ?_, h.own, h.ownl, fun j hj => h.ownn j (back j hj), ?_, ?_, fun k hk => h.up k (Nat.le_trans hf.size hk), hlive⟩
  · rw [FSt.put_length, slotV_put hn]
    exact own_frame h.hl hf hTlv
  · intro j m hj
    rw [hput] at hj
    by_cases e : j = i
    · rw [if_pos e] at hj
      cases hj
      subst e
      rw [upd_same, upd_same, upd_same]
      exact hnd
    · rw [if_neg e] at hj
      rw [upd_other e, upd_other e, upd_other e]
      exact hother j m hj e
  · intro j k g hj hk e1 e2
    have hj' := back j hj
    have hk' := back k hk
    have lt : ∀ a, (σ.nd a).isSome = true → (dv a).ownBlock = some g → g < w.heap.size := fun a ha e => by
      obtain ⟨m, hm⟩ := Option.isSome_iff_exists.1 ha
      exact (h.nd a m hm).data.lt e
    by_cases a1 : j = i <;> by_cases a2 : k = i
    · rw [a1, a2]
    · subst a1
      rw [upd_same] at e1
      rw [upd_other a2] at e2
      rcases hdv g e1 with e3 | e3
      · exact h.injd _ _ g hj' hk' e3 e2
      · have := lt k hk' e2; omega
    · subst a2
      rw [upd_same] at e2
      rw [upd_other a1] at e1
      rcases hdv g e2 with e3 | e3
      · exact h.injd _ _ g hj' hk' e1 e3
      · have := lt j hj' e1; omega
    · rw [upd_other a1] at e1
      rw [upd_other a2] at e2
      exact h.injd _ _ g hj' hk' e1 e2
  · intro j k m hj hk e1 e2
    have hj' := back j hj
    have hk' := back k hk
    have f1 : ev j = .map (some m) := by
      by_cases a1 : j = i
      · subst a1; rw [upd_same] at e1; exact hev m e1
      · rwa [upd_other a1] at e1
    have f2 : ev k = .map (some m) := by
      by_cases a1 : k = i
      · subst a1; rw [upd_same] at e2; exact hev m e2
      · rwa [upd_other a1] at e2
    exact h.inje j k m hj' hk' f1 f2
  · intro j g hj e1
    by_cases a1 : j = i
    · subst a1
      rw [upd_same] at e1
      rcases hdv g e1 with e3 | e3
      · exact h.ownd _ g hs e3
      · exact h.up g e3
    · rw [upd_other a1] at e1
      exact h.ownd j g (back j hj) e1
  · intro j m hj e1
    have f1 : ev j = .map (some m) := by
      by_cases a1 : j = i
      · subst a1; rw [upd_same] at e1; exact hev m e1
      · rwa [upd_other a1] at e1
    exact h.owne j m (back j hj) f1
end Go.Proofs.YthikjdpnlahkfaaGreatDoor

/- files.FS.file, size. Conditions: the contracts' own premises. -/
namespace Go.Proofs.YthikjdpnlahkfaaGreatDoor
open Go.RowKit

def fileE (σ : FSt) (i : Int) : Int := match σ.ndI i with | none => 9 | some n => if n.d then 21 else 0
set_option maxRecDepth 100000 in
theorem file_any (w : World) (f : Nat) (σ : FSt) (S : Nat → Prop) (p : Nat → Nat) (h : FilesAt w f σ S p) (i : Int) (hi : -9223372036854775808 ≤ i ∧ i ≤ 9223372036854775807) :
    Calls Tryz.prog 58 #[.pointer (some ⟨f, 0, none⟩), .int .i64 i] w fun e w' => ∃ a, e = .returned (.tuple #[.pointer a, .int .i64 (fileE σ i)]) ∧ w = w' ∧ (fileE σ i = 0 → a = some ⟨p i.toNat, 0, none⟩) := by
  have hget := fget_any w f σ S p h i hi
  cases hn : σ.ndI i with
  | none =>
    rw [show ptrI σ p i = .pointer none by unfold ptrI; rw [hn]] at hget
    rw [show fileE σ i = 9 by unfold fileE; rw [hn]]
    go_enter Tryz.func58, Tryz.ntmps58
    go_wp2_with fail
    refine hget.mono ?_
    rintro e w' ⟨rfl, rfl⟩
    clear hget
    go_wp2_with fail
    go_returns
    exact ⟨_, rfl, rfl, fun e => by cases e⟩
  | some n =>
    obtain ⟨k, rfl, hk⟩ : ∃ k : Nat, i = k ∧ σ.nd k = some n := by
      unfold FSt.ndI at hn
      split at hn
      · exact ⟨i.toNat, by omega, hn⟩
      · cases hn
    rw [show ptrI σ p (k : Int) = .pointer (some ⟨p k, 0, none⟩) by unfold ptrI; rw [hn]; simp] at hget
    obtain ⟨dvn, evn, pvn, hnd⟩ := h.node hk
    have hdir := dir_any w p (p k) k n dvn evn pvn hnd
    cases hd : n.d with
    | true =>
      rw [show fileE σ (k : Int) = 21 by unfold fileE; rw [hn]; simp [hd]]
      rw [hd] at hdir
      go_enter Tryz.func58, Tryz.ntmps58
      go_wp2_with fail
      refine hget.mono ?_
      rintro e w' ⟨rfl, rfl⟩
      clear hget
      go_wp2_with fail
      refine hdir.mono ?_
      rintro e w' ⟨rfl, rfl⟩
      clear hdir
      go_wp2_with fail
      go_returns
      exact ⟨_, rfl, rfl, fun e => by cases e⟩
    | false =>
      rw [show fileE σ (k : Int) = 0 by unfold fileE; rw [hn]; simp [hd]]
      rw [hd] at hdir
      go_enter Tryz.func58, Tryz.ntmps58
      go_wp2_with fail
      refine hget.mono ?_
      rintro e w' ⟨rfl, rfl⟩
      clear hget
      go_wp2_with fail
      refine hdir.mono ?_
      rintro e w' ⟨rfl, rfl⟩
      clear hdir
      go_wp2_with fail
      go_returns
      exact ⟨_, rfl, rfl, fun e => by simp⟩
theorem fileE_zero {σ : FSt} {i : Int} (h : fileE σ i = 0) : ∃ (k : Nat) (n : Nd), i = k ∧ σ.nd k = some n ∧ n.d = false := by
  unfold fileE at h
  cases hn : σ.ndI i with
  | none => rw [hn] at h; simp at h
  | some n =>
    rw [hn] at h
    unfold FSt.ndI at hn
    split at hn
    · refine ⟨i.toNat, n, by omega, hn, ?_⟩
      cases hd : n.d with
      | false => rfl
      | true => simp [hd] at h
    · cases hn
def resize (l : List UInt8) (k : Nat) : List UInt8 := if k ≤ l.length then l.take k else l ++ List.replicate (k - l.length) 0
theorem resize_length (l : List UInt8) (k : Nat) : (resize l k).length = k := by
  unfold resize
  split
  · rw [List.length_take]; omega
  · simp; omega
def sizeS (σ : FSt) (i : Nat) (n : Nd) (k : Nat) : FSt := σ.put i (some { n with data := resize n.data k })
theorem sizeS_byts {σ : FSt} {i : Nat} {n : Nd} (hn : σ.nd i = some n) (k : Nat) : (sizeS σ i n k).byts + n.data.length = σ.byts + k := by
  have := FSt.byts_put hn (some { n with data := resize n.data k })
  rw [show ndLen (some { n with data := resize n.data k }) = k from resize_length _ _] at this
  exact this
theorem sizeS_live {σ : FSt} {i : Nat} {n : Nd} (h : Live σ) (hn : σ.nd i = some n) (hd : n.d = false) (k : Nat) (hb : σ.byts + k ≤ 65536 + n.data.length) : Live (sizeS σ i n k) := by
  refine h.put hn rfl ?_ (h.ents i n hn) (fun e => by rw [hd] at e; cases e) ?_ (h.names i n hn)
  · intro e
    obtain ⟨r, h1, h2, _⟩ := h.root
    subst e
    rw [hn] at h1
    cases h1
    rw [hd] at h2
    cases h2
  · have := sizeS_byts hn k
    unfold sizeS at this
    omega
theorem cut_hm {a : Option Addr} {n cap k : Nat} (hk : k ≤ n) (hn : n ≤ cap) : ∀ w', (Instr.sliceAt 56 (.slice a n cap) none (some (.int .i64 k)) (some (.int .i64 k))).run Tryz.prog w' = .ok (.slice a k k) w' := by
  intro w'
  have hsz : ∀ w', (sizeOf 5).run Tryz.prog w' = .ok 1 w' := fun w' => by kernel_rfl
  have he : Tryz.prog.elem 56 = 5 := by kernel_rfl
  have ht : Tryz.prog.underlying 56 = some (.slice (Tryz.prog.elem 56)) := by kernel_rfl
  rw [run_sliceAt_slice (h := ht), run_slice_hm (ht := ht) (h0 := by omega) (h2 := by omega) (h3 := by omega), he, hsz]
  cases a <;> simp [sliced, Addr.add]
def SizePost (f : Nat) (σ : FSt) (S : Nat → Prop) (p : Nat → Nat) (i : Nat) (n : Nd) (k : Nat) (w : World) (e : Ending) (w' : World) : Prop :=
  (σ.byts + k ≤ 65536 + n.data.length → e = .returned (.int .i64 0) ∧ FilesAt w' f (sizeS σ i n k) S p ∧ Fr S w w') ∧ (¬ σ.byts + k ≤ 65536 + n.data.length → e = .returned (.int .i64 28) ∧ FilesAt w' f σ S p ∧ Fr S w w')
set_option maxRecDepth 100000 in
set_option maxHeartbeats 4000000 in
theorem size_any (w : World) (f : Nat) (σ : FSt) (S : Nat → Prop) (p : Nat → Nat) (h : FilesAt w f σ S p) (i : Nat) (n : Nd) (hn : σ.nd i = some n) (hnf : n.d = false) (k : Nat) (hk : k ≤ 200000) :
    Calls Tryz.prog 59 #[.pointer (some ⟨f, 0, none⟩), .pointer (some ⟨p i, 0, none⟩), .int .i64 k] w (SizePost f σ S p i n k w) := by
  have hh := h
  obtain ⟨dv, ev, pv, lv, hF⟩ := h
  have hN := hF.nd i n hn
  obtain ⟨da, dc, hdv⟩ := hN.data.form
  have hlive := hF.live
  have hbyts := hlive.byts
  have hdl := byts_nd hn
  have c3 : w.cell? ⟨f, 3, none⟩ = some (.int .i64 σ.byts) := by rw [blk_cell hF.hb]; rfl
  have c5 : w.cell? ⟨p i, 5, none⟩ = some (.slice da n.data.length dc) := by rw [blk_cell hN.hb, hdv]; rfl
  have c3d : w.drew.cell? ⟨f, 3, none⟩ = some (.int .i64 σ.byts) := c3
  have c5d : w.drew.cell? ⟨p i, 5, none⟩ = some (.slice da n.data.length dc) := c5
  by_cases hfit : σ.byts + k ≤ 65536 + n.data.length
  · have hB : ((sizeS σ i n k).byts : Int) = (σ.byts : Int) + ((k : Int) - (n.data.length : Int)) := by have := sizeS_byts hn k; omega
    have hfI : ¬ ((65536 : Int) < (σ.byts : Int) - (n.data.length : Int) + (k : Int)) := by omega
    have hfin := hide (show ∀ (W : World) (dv' : Value), Fr (fun b => b = f ∨ b = p i ∨ (dv i).ownBlock = some b) w W → W.heap[f]? = some (.cells #[lv, .int .i64 σ.cnt, .pointer (some ⟨p 1, 0, none⟩), .int .i64 ((σ.byts : Int) + ((k : Int) - (n.data.length : Int)))] 54 (0, 0)) →
        W.heap[p i]? = some (.cells #[.int .i64 i, .int .i64 (if n.d then 2 else 1), .int .i64 n.mode, .int .i64 n.links, .int .i64 n.holds, dv', ev i, pv i] 58 (0, 0)) → DataV W dv' (resize n.data k) → (∀ g, dv'.ownBlock = some g → (dv i).ownBlock = some g ∨ w.heap.size ≤ g) →
        SizePost f σ S p i n k w (.returned (.int .i64 0)) W from fun W dv' h1 h2 h3 h4 h5 => by
      refine ⟨fun _ => ⟨rfl, ⟨_, _, _, _, hF.changed h1 hn (n' := { n with data := resize n.data k }) (fun b hb => hb.imp id (fun h => h.imp id .inl)) (by show W.heap[f]? = some (Obj.cells #[lv, .int .i64 σ.cnt, .pointer (some ⟨p 1, 0, none⟩), .int .i64 ((sizeS σ i n k).byts : Int)] 54 (0, 0)); rw [hB]; exact h2)
        ⟨h3, h4, fun hd => (by have hd' : n.d = true := hd; rw [hnf] at hd'; cases hd'), hN.file, hN.par, hN.ptr, hN.md⟩ h5 (fun m e => e) (sizeS_live hlive hn hnf k hfit)⟩, h1.mono (fun b _ hb => ?_)⟩, fun e => absurd hfit e⟩
      rcases hb with rfl | rfl | hb
      · exact hF.own
      · exact hF.ownn i (by rw [hn]; rfl)
      · exact hF.ownd i b (by rw [hn]; rfl) hb)
    have hfp : p i ≠ f := cells_ne hN.hb hF.hb (by decide)
    obtain ⟨W0, hW0⟩ : ∃ W0, W0 = w.drew.drew.setCell ⟨f, 3, none⟩ (.int .i64 ((σ.byts : Int) + ((k : Int) - (n.data.length : Int)))) := ⟨_, rfl⟩
    have hfr0 : Fr (fun b => b = f ∨ b = p i ∨ (dv i).ownBlock = some b) w W0 := by rw [hW0]; exact (Fr.refl _ _).drew.drew.setCell (.inl (.inl rfl)) _
    have hbf0 : W0.heap[f]? = some (.cells #[lv, .int .i64 σ.cnt, .pointer (some ⟨p 1, 0, none⟩), .int .i64 ((σ.byts : Int) + ((k : Int) - (n.data.length : Int)))] 54 (0, 0)) := by
      rw [hW0, blk_set (w := w.drew.drew) hF.hb]; rfl
    have hbp0 : W0.heap[p i]? = some (.cells #[.int .i64 i, .int .i64 (if n.d then 2 else 1), .int .i64 n.mode, .int .i64 n.links, .int .i64 n.holds, dv i, ev i, pv i] 58 (0, 0)) := by
      rw [hW0]; exact blk_set_other (w := w.drew.drew) hN.hb _ _ hfp
    have hD0 : DataV W0 (dv i) n.data := by
      refine hN.data.frame (T := fun b => b = f) (by rw [hW0]; exact (Fr.refl (fun b => b = f) w).drew.drew.setCell (.inl rfl) _) (fun g e e2 => ?_)
      obtain ⟨c, hc⟩ := hN.data.blk e
      exact cells_ne hc (e2 ▸ hF.hb) (by decide) rfl
    have c50 : W0.cell? ⟨p i, 5, none⟩ = some (.slice da n.data.length dc) := by rw [blk_cell hbp0, hdv]; rfl
    have z30 : w.drew.drew.frozen? ⟨f, 3, none⟩ = false := blk_frozen (w := w.drew.drew) hF.hb 3
    have c3dd : w.drew.drew.cell? ⟨f, 3, none⟩ = some (.int .i64 σ.byts) := c3
    have c5dd : w.drew.drew.cell? ⟨p i, 5, none⟩ = some (.slice da n.data.length dc) := c5
    have z50 := blk_frozen hbp0 5
    have z5w := blk_frozen hN.hb 5
    have z3w := blk_frozen hF.hb 3
    have hfp2 : ¬ f = p i := fun e => hfp e.symm
    have hcap : n.data.length ≤ dc := by
      have := hD0
      rw [hdv] at this
      rcases this with ⟨e, e2⟩ | ⟨g, cap, cur, e, _, e3, _⟩
      · rw [e2]; exact Nat.zero_le _
      · cases e; exact e3
    have HW0 := hide hW0
    by_cases hle : k ≤ n.data.length
    · have hcut := cut_hm (a := da) hle hcap
      have hleI : (k : Int) ≤ (n.data.length : Int) := by omega
      have hres := hide (hfin.out (W0.setCell ⟨p i, 5, none⟩ (.slice da k k)) (.slice da k k) (hfr0.setCell (.inl (.inr (.inl rfl))) _) (blk_set_other hbf0 _ _ (Ne.symm hfp)) (by rw [blk_set hbp0]; rfl) (by
          have hD1 : DataV (W0.setCell ⟨p i, 5, none⟩ (.slice da k k)) (dv i) n.data := hD0.frame (frSet W0 (p i) 5 (.slice da k k)) (fun g e e2 => by
            obtain ⟨c, hc⟩ := hD0.blk e
            exact cells_ne hc (e2 ▸ hbp0) (by decide) rfl)
          unfold resize
          rw [if_pos hle]
          rw [hdv] at hD1
          rcases hD1 with ⟨e, e2⟩ | ⟨g, cap, cur, e, e1, e3, e4, e5⟩
          · simp only [Value.slice.injEq] at e
            obtain ⟨rfl, _, _⟩ := e
            rw [e2] at hle ⊢
            have hk0 : k = 0 := by simpa using hle
            subst hk0
            exact .inl ⟨rfl, rfl⟩
          · cases e
            refine .inr ⟨g, k, cur, by rw [List.length_take, Nat.min_eq_left hle], e1, by rw [List.length_take]; omega, by omega, ?_⟩
            rw [List.length_take, Nat.min_eq_left hle, List.map_take, ← e5, List.take_take, Nat.min_eq_left hle]) (fun g e => .inl (by rw [hdv]; cases da <;> exact e)))
      clear hfin hfr0 hD0 hfit
      go_enter Tryz.func59, Tryz.ntmps59
      go_wp2_with fail
      refine region_still (by kernel_rfl) (by kernel_rfl) ?_
      repeat go_big_quiet_step (fail)
      refine wpQuiet_nil ?_
      go_wp2_with fail
      refine region_tail 14 (by kernel_rfl) (by kernel_rfl) ?_
      simp only [List.take_succ_cons, List.take_zero, List.drop_succ_cons, List.drop_zero]
      repeat go_big_quiet_step (fail)
      refine wpQuiet_nil ?_
      go_wp2_with fail
      go_ret
      have h9 := hres.out
      rw [HW0.out] at h9
      exact h9
    · have hleI : ¬ (k : Int) ≤ (n.data.length : Int) := by omega
      have e0 : (w.setCell ⟨f, 3, none⟩ (.int .i64 ((σ.byts : Int) + ((k : Int) - (n.data.length : Int))))).drew.drew = W0 := by rw [hW0]; rfl
      have Key := hide (show ∀ w', Fr (fun b => (dv i).ownBlock = some b) W0 w' → w'.cell? ⟨p i, 5, none⟩ = some (.slice da n.data.length dc) from fun w' hw => by
        rw [blk_cell (hw.get hbp0 (fun e => by
          obtain ⟨c, hc⟩ := hN.data.blk e
          exact cells_ne hc hN.hb (by decide) rfl)), hdv]
        rfl)
      have hgrow := hide (fun W (hW : DataV W (dv i) n.data) ty => data_grow W (dv i) n.data hW (k - n.data.length) (by omega) (by omega) ty)
      clear hfit hW0
      go_enter Tryz.func59, Tryz.ntmps59
      go_wp2_with fail
      refine region_still (by kernel_rfl) (by kernel_rfl) ?_
      repeat go_big_quiet_step (fail)
      refine wpQuiet_nil ?_
      go_wp2_with fail
      refine region_tail 14 (by kernel_rfl) (by kernel_rfl) ?_
      simp only [List.take_succ_cons, List.take_zero, List.drop_succ_cons, List.drop_zero]
      repeat go_big_quiet_step (fail)
      refine wpQuiet_nil ?_
      go_wp2_with fail
      refine region_tree (fun w' => Fr (fun b => (dv i).ownBlock = some b) W0 w') [0, 1, 2, 3, 4, 5, 6, 7, 8, 9] 3 13 (by kernel_rfl) (by kernel_rfl) (fun _ _ d _ _ h => by cases d <;> exact h) (Fr.refl _ _).drew ?_
      simp only [List.map_cons, List.map_nil, List.getD_cons_zero, List.getD_cons_succ, List.drop_succ_cons, List.drop_zero]
      go_big_quiet_step (fail)
      go_big_quiet_step (fail)
      refine wpQuiet_val (.pointer (some ⟨p i, 0, none⟩)) rfl (fun w' hS => by (go_simp)) ?_
      simp only [Act.put, List.setIfInBounds_toArray, List.set_cons_succ, List.set_cons_zero]
      refine wpQuiet_val (.pointer (some ⟨p i, 5, none⟩)) rfl (fun w' hS => by (go_simp)) ?_
      simp only [Act.put, List.setIfInBounds_toArray, List.set_cons_succ, List.set_cons_zero]
      refine wpQuiet_val (.slice da n.data.length dc) rfl (fun w' hS => by (have e2 := Key.out w' hS; go_simp)) ?_
      simp only [Act.put, List.setIfInBounds_toArray, List.set_cons_succ, List.set_cons_zero]
      go_big_quiet_step (fail)
      go_big_quiet_step (fail)
      refine wpQuiet_val (.pointer (some ⟨p i, 0, none⟩)) rfl (fun w' hS => by (go_simp)) ?_
      simp only [Act.put, List.setIfInBounds_toArray, List.set_cons_succ, List.set_cons_zero]
      refine wpQuiet_val (.pointer (some ⟨p i, 5, none⟩)) rfl (fun w' hS => by (go_simp)) ?_
      simp only [Act.put, List.setIfInBounds_toArray, List.set_cons_succ, List.set_cons_zero]
      refine wpQuiet_val (.slice da n.data.length dc) rfl (fun w' hS => by (have e2 := Key.out w' hS; go_simp)) ?_
      simp only [Act.put, List.setIfInBounds_toArray, List.set_cons_succ, List.set_cons_zero]
      refine wpQuiet_nil ?_
      generalize hX0e : W0.drew = X0
      have hX0 : Fr (fun b => (dv i).ownBlock = some b) W0 X0 := by rw [← hX0e]; exact (Fr.refl _ _).drew
      have hD1 : DataV X0 (dv i) n.data := by rw [← hX0e]; exact hD0.frame (Fr.refl (fun _ => False) _).drew (fun _ _ e => e)
      have hsX0 : X0.heap.size = W0.heap.size := by rw [← hX0e]; rfl
      clear hX0e
      refine tree_one' 10 (by kernel_rfl) (by decide) (by simp) rfl (fun K hK => ?_)
      simp only [List.getD_cons_zero, List.getD_cons_succ]
      go_wp2_with fail
      refine hK _ _ hX0 ?_
      clear hK K
      refine tree_one' 11 (by kernel_rfl) (by decide) (by simp) rfl (fun K hK => ?_)
      simp only [List.getD_cons_zero, List.getD_cons_succ]
      have eK : (k : Int) - (n.data.length : Int) = ((k - n.data.length : Nat) : Int) := by omega
      go_wp2_with fail
      refine hK _ _ hX0 ?_
      clear hK K
      refine tree_one' 12 (by kernel_rfl) (by decide) (by simp) rfl (fun K hK => ?_)
      simp only [List.getD_cons_zero, List.getD_cons_succ]
      obtain ⟨v2, X2, hrun, hD2, hf2, hv2⟩ := hgrow.out X0 hD1 56
      refine Lib.wp_append_run X0 _ _ 56 3 rfl (dv i) (.int .i64 ((k - n.data.length : Nat) : Int)) ?ca ?cb v2 X2 hrun ?_
      case ca => rw [hdv]; rfl
      case cb => rfl
      have hX2 : Fr (fun b => (dv i).ownBlock = some b) W0 X2 := hX0.trans hf2
      refine hK _ _ hX2 ?_
      clear hK K
      refine tree_end (by kernel_rfl) ?_
      have hdvn : ∀ g, (dv i).ownBlock = some g → g ≠ p i ∧ g ≠ f := fun g e => by
        obtain ⟨c, hc⟩ := hN.data.blk e
        exact ⟨cells_ne hc hN.hb (by decide), cells_ne hc hF.hb (by decide)⟩
      have hbp2 := hX2.get hbp0 (fun e => (hdvn _ e).1 rfl)
      have hbf2 := hX2.get hbf0 (fun e => (hdvn _ e).2 rfl)
      have hv2n : ∀ g, v2.ownBlock = some g → g ≠ p i := fun g e => by
        obtain ⟨c, hc⟩ := hD2.blk e
        exact cells_ne hc hbp2 (by decide)
      have hres := hide (hfin.out (X2.setCell ⟨p i, 5, none⟩ v2) v2 ((hfr0.trans' hX2 (fun b _ e => .inr (.inr e))).setCell (.inl (.inr (.inl rfl))) _) (blk_set_other hbf2 _ _ (Ne.symm hfp)) (by rw [blk_set hbp2]; rfl) (by
        unfold resize
        rw [if_neg hle]
        exact hD2.frame (frSet X2 (p i) 5 v2) (fun g e e2 => hv2n g e e2)) (fun g e => by
          rcases hv2 with h9 | h9
          · exact .inl (h9 ▸ e)
          · rw [h9] at e
            cases e
            exact .inr (by rw [hsX0]; exact hfr0.size)))
      have c52 : X2.cell? ⟨p i, 5, none⟩ = some (.slice da n.data.length dc) := by rw [blk_cell hbp2, hdv]; rfl
      have z52 := blk_frozen hbp2 5
      obtain ⟨a2, c2, rfl⟩ := hD2.form
      generalize (n.data ++ List.replicate (k - n.data.length) 0).length = L2 at *
      clear hfin hfr0 hX2 hf2 hrun hgrow Key hD1
      simp only [Act.put, List.setIfInBounds_toArray, List.set_cons_succ, List.set_cons_zero, List.drop_succ_cons, List.drop_zero]
      go_wp2
      go_ret
      exact hres.out
  · have hfI : ((65536 : Int) < (σ.byts : Int) - (n.data.length : Int) + (k : Int)) := by omega
    have hres := hide (show SizePost f σ S p i n k w (.returned (.int .i64 28)) w.drew from ⟨fun e => absurd e hfit, fun _ => ⟨rfl, hh.frame (Fr.refl (fun _ => False) _).drew (fun _ _ _ e => e), (Fr.refl _ _).drew⟩⟩)
    clear hfit
    go_enter Tryz.func59, Tryz.ntmps59
    go_wp2_with fail
    refine region_still (by kernel_rfl) (by kernel_rfl) ?_
    repeat go_big_quiet_step (fail)
    refine wpQuiet_nil ?_
    go_wp2_with fail
    go_ret
    exact hres.out
end Go.Proofs.YthikjdpnlahkfaaGreatDoor
