/- files.place.node, open. Conditions: the contract's own premises. -/
import Derived.Test.YtffekmjoenppaaaGreatDoorFilesF
import Derived.Test.YtffekmjoenppaaaGreatDoorFilesA
import Derived.Lib.AppendZerosOnto
import Derived.Laws.CopyRow
namespace Go.Proofs.YtffekmjoenppaaaGreatDoor
open Go.RowKit

def nodePtr (p : Nat → Nat) (o : Option Nat) : Value := match o with | none => .pointer none | some k => .pointer (some ⟨p k, 0, none⟩)
def placeV (p : Nat → Nat) (a : Nat) (nm : ByteArray) (sl : Bool) : Value := .agg #[.pointer (some ⟨p a, 0, none⟩), .string nm, .bool sl]
theorem Hlook {w : World} {p : Nat → Nat} {b i : Nat} {n : Nd} {dv ev pv : Value} (h : NodeF w p b i n dv ev pv) (hd : n.d = true) : ∃ m, ev = .map (some m) ∧ ∀ nm : ByteArray, nm.size ≤ maxLen → ∀ w', Fr (fun _ => False) w w' → (Instr.lookup 87 (.map (some m)) (.string nm) false).run Tryz.prog w' = .ok (nodePtr p (kget nm.data.toList n.ents)) w' := by
  obtain ⟨-, mb, hev, hmp⟩ := h.dir hd
  refine ⟨mb, hev, fun nm hn w' hf => ?_⟩
  have := (hmp.frame hf (fun e => e)).look (t := 87) (e := 84) false Tryz.underlying9 Tryz.underlying87 (show (zeroValue 84).run Tryz.prog w' = .ok (.pointer none) w' by kernel_rfl) nm hn
  rw [if_neg (by simp), kget_kmap] at this
  rw [this]
  cases kget nm.data.toList n.ents <;> rfl
set_option maxRecDepth 100000 in
theorem placeNode_any (w : World) (p : Nat → Nat) (a : Nat) (n : Nd) (dv ev pv : Value) (h : NodeF w p (p a) a n dv ev pv) (hd : n.d = true) (nm : ByteArray) (hn : nm.size ≤ 32) (sl : Bool) :
    Calls Tryz.prog 69 #[placeV p a nm sl] w fun e w' => e = .returned (nodePtr p (kget nm.data.toList n.ents)) ∧ Fr (fun _ => False) w w' := by
  obtain ⟨m, rfl, hl⟩ := Hlook h hd
  have hl := hl nm (by unfold maxLen; omega)
  obtain ⟨v, hv⟩ : ∃ v, v = nodePtr p (kget nm.data.toList n.ents) := ⟨_, rfl⟩
  rw [← hv] at hl ⊢
  have hf1 : Fr (fun _ => False) w (w.alloc (.cells #[.pointer (some ⟨p a, 0, none⟩), .string nm, .bool sl] 145 (0, 0))) := (Fr.refl _ _).alloc _
  have hl1 := hl _ hf1.drew
  have c6 : (w.alloc (.cells #[.pointer (some ⟨p a, 0, none⟩), .string nm, .bool sl] 145 (0, 0))).cell? ⟨p a, 6, none⟩ = some (.map (some m)) := by rw [blk_cell (blk_alloc h.hb _)]; rfl
  clear hl hv
  unfold placeV
  go_enter Tryz.func69, Tryz.ntmps69
  go_wp2_with fail
  refine region_still (by kernel_rfl) (by kernel_rfl) ?_
  repeat go_big_quiet_step (fail)
  refine wpQuiet_nil ?_
  go_wp2_with fail
  go_ret
  exact ⟨rfl, hf1.drew⟩
def openE (n : Nd) (s : List UInt8) : Int := if (kget s n.ents).isSome = true then 17 else if n.links = 0 then 2 else if mayN n.mode 2 = false then 13 else 0
set_option maxRecDepth 100000 in
theorem placeOpen_any (w : World) (p : Nat → Nat) (a : Nat) (n : Nd) (dv ev pv : Value) (h : NodeF w p (p a) a n dv ev pv) (hd : n.d = true) (nm : ByteArray) (hn : nm.size ≤ 32) (sl : Bool) :
    Calls Tryz.prog 76 #[placeV p a nm sl] w fun e w' => e = .returned (.int .i64 (openE n nm.data.toList)) ∧ Fr (fun _ => False) w w' := by
  obtain ⟨w1, hw1⟩ : ∃ w1, w1 = w.alloc (.cells #[.pointer (some ⟨p a, 0, none⟩), .string nm, .bool sl] 145 (0, 0)) := ⟨_, rfl⟩
  have hf1 : Fr (fun _ => False) w w1 := by rw [hw1]; exact (Fr.refl _ _).alloc _
  have h1 := h.frame hf1 (fun e => e) (fun _ _ e => e) (fun _ _ e => e)
  have hnode := placeNode_any w1 p a n dv ev pv h1 hd nm hn sl
  unfold openE
  unfold placeV at hnode ⊢
  cases hk : kget nm.data.toList n.ents with
  | some k =>
    rw [hk] at hnode
    simp only [nodePtr] at hnode
    simp only [Option.isSome_some, if_true]
    subst hw1
    go_enter Tryz.func76, Tryz.ntmps76
    go_wp2_with fail
    refine hnode.mono ?_
    rintro e w2 ⟨rfl, hf2⟩
    clear hnode
    go_wp2_with fail
    go_ret
    exact ⟨rfl, hf1.trans hf2⟩
  | none =>
    rw [hk] at hnode
    simp only [nodePtr] at hnode
    simp only [Option.isSome_none, if_false, Bool.false_eq_true]
    have hb1 : w1.heap[w.heap.size]? = some (.cells #[.pointer (some ⟨p a, 0, none⟩), .string nm, .bool sl] 145 (0, 0)) := by rw [hw1]; exact blk_new _ _
    have Hnode := hide hnode
    by_cases hl : n.links = 0
    · rw [if_pos hl]
      subst hw1
      go_enter Tryz.func76, Tryz.ntmps76
      go_wp2_with fail
      refine hnode.mono ?_
      rintro e w2 ⟨rfl, hf2⟩
      have h2 := h1.frame hf2 (fun e => e) (fun _ _ e => e) (fun _ _ e => e)
      have c0 : w2.cell? ⟨w.heap.size, 0, none⟩ = some (.pointer (some ⟨p a, 0, none⟩)) := by rw [blk_cell (hf2.get hb1 (fun e => e))]; rfl
      have c3 : w2.cell? ⟨p a, 3, none⟩ = some (.int .i64 n.links) := by rw [blk_cell h2.hb]; rfl
      rw [hl] at c3
      clear hnode
      go_wp2_with fail
      go_ret
      exact ⟨rfl, hf1.trans hf2⟩
    · rw [if_neg hl]
      have hlI : ¬ (n.links : Int) = 0 := by omega
      cases hm : mayN n.mode 2 with
      | false =>
        simp only [if_true]
        subst hw1
        go_enter Tryz.func76, Tryz.ntmps76
        go_wp2_with fail
        refine hnode.mono ?_
        rintro e w2 ⟨rfl, hf2⟩
        have h2 := h1.frame hf2 (fun e => e) (fun _ _ e => e) (fun _ _ e => e)
        have c0 : w2.cell? ⟨w.heap.size, 0, none⟩ = some (.pointer (some ⟨p a, 0, none⟩)) := by rw [blk_cell (hf2.get hb1 (fun e => e))]; rfl
        have c3 : w2.cell? ⟨p a, 3, none⟩ = some (.int .i64 n.links) := by rw [blk_cell h2.hb]; rfl
        have hmay := may_any w2 p (p a) a n dv ev pv h2 2 (by omega)
        rw [hm] at hmay
        clear hnode
        go_wp2_with fail
        refine hmay.mono ?_
        rintro e w3 ⟨rfl, rfl⟩
        clear hmay
        go_wp2_with fail
        go_ret
        exact ⟨rfl, hf1.trans hf2⟩
      | true =>
        simp only [if_false, Bool.true_eq_false]
        subst hw1
        go_enter Tryz.func76, Tryz.ntmps76
        go_wp2_with fail
        refine hnode.mono ?_
        rintro e w2 ⟨rfl, hf2⟩
        have h2 := h1.frame hf2 (fun e => e) (fun _ _ e => e) (fun _ _ e => e)
        have c0 : w2.cell? ⟨w.heap.size, 0, none⟩ = some (.pointer (some ⟨p a, 0, none⟩)) := by rw [blk_cell (hf2.get hb1 (fun e => e))]; rfl
        have c3 : w2.cell? ⟨p a, 3, none⟩ = some (.int .i64 n.links) := by rw [blk_cell h2.hb]; rfl
        have hmay := may_any w2 p (p a) a n dv ev pv h2 2 (by omega)
        rw [hm] at hmay
        clear hnode
        go_wp2_with fail
        refine hmay.mono ?_
        rintro e w3 ⟨rfl, rfl⟩
        clear hmay
        go_wp2_with fail
        go_ret
        exact ⟨rfl, hf1.trans hf2⟩
end Go.Proofs.YtffekmjoenppaaaGreatDoor

/- A file's bytes: more zeros behind them, fewer of them, some of them written over. Conditions: the laws' own premises. -/
namespace Go.Proofs.YtffekmjoenppaaaGreatDoor
open Go.RowKit

def byteV (l : List UInt8) : List Value := l.map fun c => .int .u8 c.toNat
theorem Fr.setRow (w : World) (g : Nat) (c : Array Value) : Fr (fun k => some g = some k) w (w.setRow g c) :=
  ⟨rfl, rfl, rfl, by simp, fun i _ hn => setRow_other w g i c (fun e => hn (by rw [e]))⟩
theorem DataV.form {w : World} {v : Value} {l : List UInt8} (h : DataV w v l) : ∃ a cap, v = .slice a l.length cap := by
  rcases h with ⟨rfl, rfl⟩ | ⟨g, cap, cur, rfl, _⟩
  · exact ⟨_, _, rfl⟩
  · exact ⟨_, _, rfl⟩
end Go.Proofs.YtffekmjoenppaaaGreatDoor

/- files.slots.add: a thing more. Conditions: the contract's own premises. -/
namespace Go.Proofs.YtffekmjoenppaaaGreatDoor
open Go.RowKit

def encP (o : Option Nat) : Value := match o with | none => .pointer none | some b => .pointer (some ⟨b, 0, none⟩)
def freeI (l : List (Option Nat)) : Nat := l.findIdx (·.isNone)
theorem freeI_le (l : List (Option Nat)) : freeI l ≤ l.length := List.findIdx_le_length
theorem freeI_some {l : List (Option Nat)} {k : Nat} (hk : k < freeI l) : ∃ b, l[k]'(Nat.lt_of_lt_of_le hk (freeI_le l)) = some b := by
  have := List.not_of_lt_findIdx (p := fun o : Option Nat => o.isNone) hk
  exact Option.isSome_iff_exists.1 (by simpa using this)
theorem freeI_none {l : List (Option Nat)} (h : freeI l < l.length) : l[freeI l] = none := by
  have : (l[freeI l]).isNone = true := List.findIdx_getElem (w := h)
  simpa using this
def idxV (l : List (Option Nat)) : Int := if freeI l < l.length then (freeI l : Int) else -1
theorem eql_nil' {P : Program} (t : TypeId) (w : World) (p : Option Addr) (h : P.underlying t = some (.pointer (P.pointee t))) : (binOp .eql t (.pointer none) (.pointer p)).run P w = .ok (.bool p.isNone) w := by
  have h1 : ∀ d, (Op.equalIn (d + 1) t (.pointer none) (.pointer p)).run P w = .ok p.isNone w := fun d => by
    cases p <;> simp [Op.equalIn, run_underlying h]
  have h2 : (Op.equal t (.pointer none) (.pointer p)).run P w = .ok p.isNone w := h1 9999
  simp only [binOp]
  simp [h2]
theorem eql_nil (a : Option Addr) (w : World) : (binOp .eql 84 (.pointer none) (.pointer a)).run Tryz.prog w = .ok (.bool a.isNone) w := eql_nil' _ w a (by kernel_rfl)
set_option maxRecDepth 100000 in
theorem idx_any (w : World) (a : Option Addr) (cap : Nat) (l : List (Option Nat)) (hc : l.length = 0 ∨ ∃ g, a = some ⟨g, 0, none⟩ ∧ ∀ k u, (l.map encP)[k]? = some u → w.cell? ⟨g, k, none⟩ = some u) (hl : l.length ≤ 1000) :
    Calls Tryz.prog 40 #[.slice a l.length cap, .pointer none] w fun e w' => e = .returned (.int .i64 (idxV l)) ∧ w' = w := by
  have Hc := hide hc
  clear hc
  go_enter Tryz.func40, Tryz.ntmps40
  go_wp2
  go_loop [8] (fun i => ∃ k : Nat, k ≤ freeI l ∧ i = .int .i64 k) (fun i => l.length - (intOf i).toNat)
  case atStart => exact ⟨0, Nat.zero_le _, rfl⟩
  case round =>
    obtain ⟨k, hk, rfl⟩ := hrel
    have hfl := freeI_le l
    by_cases hlt : k < l.length
    · obtain ⟨g, rfl, hcells⟩ := Hc.out.resolve_left (by omega)
      have ck := hcells k (encP l[k]) (by simp [hlt])
      have Hhk := hide hk
      have hkI : (k : Int) < (l.length : Int) := by omega
      have hk0 : (0 : Int) ≤ (k : Int) := by omega
      clear hcells Hc
      rcases Nat.lt_or_ge k (freeI l) with hlt2 | hge
      · obtain ⟨b, hb⟩ := freeI_some hlt2
        rw [hb] at ck
        simp only [encP] at ck
        have he := eql_nil (some ⟨b, 0, none⟩) w
        clear hb hk
        go_wp2
        refine ⟨⟨k + 1, hlt2, by go_num⟩, ?_⟩
        simp [intOf]
        omega
      · have hkf : k = freeI l := by omega
        have hb : l[k] = none := by
          subst hkf
          exact freeI_none hlt
        rw [hb] at ck
        simp only [encP] at ck
        have he := eql_nil none w
        have hres : (k : Int) = idxV l := by unfold idxV; rw [if_pos (by omega), hkf]
        have Hres := hide hres
        clear hb hk hkf hres
        go_wp2
        go_ret
        exact ⟨ret_int Hres.out, rfl⟩
    · have hres : (-1 : Int) = idxV l := by unfold idxV; rw [if_neg (by omega)]
      have Hres := hide hres
      have hkI : ¬ (k : Int) < (l.length : Int) := by omega
      clear hres
      go_wp2
      go_ret
      exact ⟨ret_int Hres.out, rfl⟩
def addI (l : List (Option Nat)) (nb : Nat) : List (Option Nat) := if freeI l < l.length then l.set (freeI l) (some nb) else l ++ [some nb]
def AddPost (w : World) (f nb : Nat) (lv : Value) (cnt : Nat) (rv bv : Value) (l : List (Option Nat)) (e : Ending) (w' : World) : Prop :=
  e = .returned (.int .i64 ((freeI l : Int) + 1)) ∧ ∃ lv', w'.heap[f]? = some (.cells #[lv', .int .i64 ((cnt : Int) + 1), rv, bv] 86 (0, 0)) ∧ w'.ownsRow 0 84 1 lv' (addI l nb).length ((addI l nb).map encP) ∧
    Fr (fun k => k = f ∨ lv.ownBlock = some k) w w' ∧ (lv'.ownBlock = lv.ownBlock ∨ lv'.ownBlock = some (w.heap.size + 1))
set_option maxRecDepth 100000 in
set_option maxHeartbeats 1000000 in
theorem sadd_any (w : World) (f nb : Nat) (lv : Value) (cnt : Nat) (rv bv : Value) (l : List (Option Nat)) (hb : w.heap[f]? = some (.cells #[lv, .int .i64 cnt, rv, bv] 86 (0, 0)))
    (hl : w.ownsRow 0 84 1 lv l.length (l.map encP)) (hcnt : cnt ≤ 1000) (hll : l.length ≤ 1000) :
    Calls Tryz.prog 18 #[.pointer (some ⟨f, 0, none⟩), .pointer (some ⟨nb, 0, none⟩)] w (AddPost w f nb lv cnt rv bv l) := by
  obtain ⟨la, lc, rfl⟩ := own_form hl
  have hlf : ∀ g, (Value.slice la l.length lc).ownBlock = some g → g ≠ f := fun g e => by
    rcases hl.2 with ⟨h1, _⟩ | ⟨g', cap', cur, h1, _, hg, _⟩
    · rw [h1] at e; cases e
    · rw [h1] at e
      have e' : g' = g := by simpa [Value.ownBlock] using e
      subst e'
      intro e2
      subst e2
      rw [hg] at hb
      simp at hb
  obtain ⟨w1, hw1⟩ : ∃ w1, w1 = w.setCell ⟨f, 1, none⟩ (.int .i64 ((cnt : Int) + 1)) := ⟨_, rfl⟩
  have hb1 : w1.heap[f]? = some (.cells #[.slice la l.length lc, .int .i64 ((cnt : Int) + 1), rv, bv] 86 (0, 0)) := by rw [hw1, blk_set hb]; rfl
  have hf1 : Fr (fun k => k = f) w w1 := by rw [hw1]; exact frSet _ _ _ _
  have hl1 := own_frame hl hf1 hlf
  have c1 : w.cell? ⟨f, 1, none⟩ = some (.int .i64 cnt) := by rw [blk_cell hb]; rfl
  have z1 := blk_frozen hb 1
  have c0 : w1.cell? ⟨f, 0, none⟩ = some (.slice la l.length lc) := by rw [blk_cell hb1]; rfl
  have hidx := idx_any w1 la lc l (by
    rcases Nat.eq_zero_or_pos l.length with h | h
    · exact .inl h
    · obtain ⟨g, h1, _, _, h2⟩ := own_cells hl1 h
      exact .inr ⟨g, h1, h2⟩) hll
  have hsz1 : w1.heap.size = w.heap.size := by rw [hw1]; simp [World.setCell]
  obtain ⟨i0, hinf, hz0, hz1, hz2⟩ : ∃ i0, Tryz.prog.info? 84 = some i0 ∧ i0.zero = some (.pointer none) ∧ i0.size = 1 ∧ i0.bytes = 8 := by
    have h : (Tryz.prog.info? 84).map (fun i => (i.zero, i.size, i.bytes)) = some (some (.pointer none), 1, 8) := by kernel_rfl
    cases hq : Tryz.prog.info? 84 with
    | none => rw [hq] at h; cases h
    | some i => rw [hq] at h; simp at h; exact ⟨i, rfl, h.1, h.2.1, h.2.2⟩
  by_cases hfree : freeI l < l.length
  · obtain ⟨g, rfl, _, hgl, _⟩ := own_cells hl1 (by omega)
    obtain ⟨hst, _⟩ := hl1.stored (freeI l) (.pointer (some ⟨nb, 0, none⟩))
    have hgf := hlf g rfl
    have cg : w1.cell? ⟨g, freeI l, none⟩ = some (.pointer none) := by rw [hl1.cellAt (freeI l) (by omega)]; simp [hfree, freeI_none hfree, encP]
    have zg := hl1.frozenAt (freeI l)
    have hres := hide (show AddPost w f nb (.slice (some ⟨g, 0, none⟩) l.length lc) cnt rv bv l (.returned (.int .i64 ((freeI l : Int) + 1))) (w1.setCell ⟨g, freeI l, none⟩ (.pointer (some ⟨nb, 0, none⟩))) from by
      refine ⟨rfl, _, blk_set_other hb1 _ _ (Ne.symm hgf), ?_, (hf1.mono (fun _ _ e => .inl e)).trans' (frSet _ _ _ _) (fun k _ e => .inr (by rw [e]; rfl)), .inl rfl⟩
      unfold addI
      rw [if_pos hfree, List.length_set, List.map_set]
      exact hst)
    rw [show idxV l = (freeI l : Int) by unfold idxV; rw [if_pos hfree]] at hidx
    have hk0 : (0 : Int) ≤ (freeI l : Int) := by omega
    have hk1 : (freeI l : Int) < (l.length : Int) := by omega
    clear hst hl hl1
    generalize freeI l = q at *
    subst hw1
    go_enter Tryz.func18, Tryz.ntmps18
    go_wp2_with fail
    refine hidx.mono ?_
    rintro e w' ⟨rfl, rfl⟩
    clear hidx
    go_wp2_with fail
    go_ret
    exact hres.out
  · have hfe : freeI l = l.length := by have := freeI_le l; omega
    rw [show idxV l = -1 by unfold idxV; rw [if_neg hfree]] at hidx
    obtain ⟨w2, hw2⟩ : ∃ w2, w2 = w1.alloc (.cells #[.pointer (some ⟨nb, 0, none⟩)] 84) := ⟨_, rfl⟩
    have hb2 : w2.heap[w1.heap.size]? = some (.cells #[.pointer (some ⟨nb, 0, none⟩)] 84 (0, 0)) := by rw [hw2]; exact blk_new _ _
    have hl2 : w2.ownsRow 0 84 1 (.slice la l.length lc) l.length (l.map encP) := by rw [hw2]; exact hl1.alloc _
    have hbf2 : w2.heap[f]? = some (.cells #[.slice la l.length lc, .int .i64 ((cnt : Int) + 1), rv, bv] 86 (0, 0)) := by rw [hw2]; exact blk_alloc hb1 _
    have hsz2 : w2.heap.size = w.heap.size + 1 := by rw [hw2]; simp [hsz1]
    have hf2 : Fr (fun k => k = f) w w2 := by rw [hw2]; exact hf1.alloc _
    have hfin := hide (show ∀ v5 w5, w5.ownsRow 0 84 1 v5 (l.length + 1) (l.map encP ++ [.pointer (some ⟨nb, 0, none⟩)]) → Fr (fun k => (Value.slice la l.length lc).ownBlock = some k) w2 w5 → (v5.ownBlock = (Value.slice la l.length lc).ownBlock ∨ v5.ownBlock = some w2.heap.size) →
        AddPost w f nb (.slice la l.length lc) cnt rv bv l (.returned (.int .i64 ((l.length : Int) + 1))) (w5.setCell ⟨f, 0, none⟩ v5) from fun v5 w5 h1 h2 h3 => by
      have hb5 := h2.get hbf2 (fun e => hlf f e rfl)
      have hlt := blk_lt hb1
      have hv5 : ∀ g, v5.ownBlock = some g → g ≠ f := fun g e => by
        rcases h3 with h3 | h3
        · exact hlf g (h3 ▸ e)
        · rw [h3] at e; cases e; omega
      refine ⟨by rw [hfe], v5, by rw [blk_set hb5]; rfl, ?_, ((hf2.mono (fun _ _ e => .inl e)).trans' h2 (fun k _ e => .inr e)).trans' (frSet _ _ _ _) (fun k _ e => .inl e), ?_⟩
      · unfold addI
        rw [if_neg hfree, List.length_append, List.map_append]
        exact own_frame h1 (frSet _ _ _ _) hv5
      · rcases h3 with h3 | h3
        · exact .inl h3
        · exact .inr (by rw [h3, hsz2]))
    clear hfe
    have Hl2 := hide hl2
    obtain ⟨n, hn⟩ : ∃ n, n = l.length := ⟨_, rfl⟩
    have Hn := hide hn
    clear hl hl1 hl2
    subst hw2
    subst hw1
    go_enter Tryz.func18, Tryz.ntmps18
    go_wp2_with fail
    refine hidx.mono ?_
    rintro e w' ⟨rfl, rfl⟩
    clear hidx
    go_wp2_with (at_builtin; refine wpList_append_src rfl _ _ 81 rfl 0 84 i0 _ 1 8 (by kernel_rfl) hinf hz0 hz1 hz2 rfl (by decide) _ _ _ rfl Hl2.out _ 1 1 [.pointer (some ⟨nb, 0, none⟩)] rfl ?qc1 ?qc2 ?qc3 ?qc4 ?qc5 ?qc6 ?_)
    case qc1 => rfl
    case qc2 =>
      refine .inr ⟨_, rfl, fun j u hj => ?_⟩
      rw [Addr.add_lit, Nat.zero_add]
      cases j with
      | zero => cases hj; rw [← hsz1, blk_cell hb2]; rfl
      | succ j => simp at hj
    case qc3 => intro u hu; simp at hu; rw [hu]; rfl
    case qc4 => unfold maxLen; omega
    case qc5 => omega
    case qc6 => exact Nat.zero_le _
    intro v5 w5 hown hfr hat
    have hb5 := hfr.get hbf2 (fun e => hlf f e rfl)
    have c50 : w5.cell? ⟨f, 0, none⟩ = some (.slice la l.length lc) := by rw [blk_cell hb5]; rfl
    have z5 := blk_frozen hb5
    have hfin5 := hide (hfin.out v5 w5 hown hfr (hat.imp id (fun e => e.trans (by rw [hsz2]))))
    obtain ⟨a5, c5, rfl⟩ := own_form hown
    clear hfin hown hfr hat
    go_wp2_with fail
    go_ret
    exact hfin5.out
end Go.Proofs.YtffekmjoenppaaaGreatDoor

/- The tree of files as plain data: what put and add do to numbers, counts and bytes; when what is named stays there. No program in sight; no condition. -/
namespace Go.Proofs.YtffekmjoenppaaaGreatDoor
open Go.RowKit

theorem and511 (n : Int) : bits .and .i64 n 511 = n % 512 := by
  have e1 : IntKind.i64.bits = 64 := rfl
  unfold bits
  rw [e1]
  have key : (BitVec.ofInt 64 n &&& BitVec.ofInt 64 511).toNat = (n % 512).toNat := by
    rw [BitVec.toNat_and, BitVec.toNat_ofInt, BitVec.toNat_ofInt]
    have : ((511 : Int) % ((2 ^ 64 : Nat) : Int)).toNat = 2 ^ 9 - 1 := by decide
    rw [this, Nat.and_two_pow_sub_one_eq_mod]
    have e : ((2 ^ 64 : Nat) : Int) = 18446744073709551616 := by decide
    rw [e]
    omega
  simp only [key]
  rw [IntKind.wrap_i64]
  omega
def modeN (m : Int) : Nat := (m % 512).toNat
theorem modeN_lt (m : Int) : modeN m < 512 := by unfold modeN; omega
theorem modeN_eq (m : Int) : bits .and .i64 m 511 = (modeN m : Int) := by rw [and511]; unfold modeN; omega
theorem FSt.nd_lt {σ : FSt} {i : Nat} (h : (σ.nd i).isSome = true) : 0 < i ∧ i ≤ σ.length := by
  unfold FSt.nd at h
  split at h
  · cases h
  · rename_i h0
    refine ⟨by omega, ?_⟩
    by_cases hi : i - 1 < σ.length
    · omega
    · rw [List.getElem?_eq_none (by omega)] at h; cases h
theorem FSt.nd_at {σ : FSt} {i : Nat} (h0 : 0 < i) (hi : i - 1 < σ.length) : σ.nd i = σ[i - 1] := by
  unfold FSt.nd
  rw [if_neg (by omega), List.getElem?_eq_getElem hi]
  rfl
theorem FSt.nd_put {σ : FSt} {i : Nat} (h : (σ.nd i).isSome = true) (x : Option Nd) (j : Nat) : (σ.put i x).nd j = if j = i then x else σ.nd j := by
  obtain ⟨h0, hl⟩ := FSt.nd_lt h
  unfold FSt.put FSt.nd
  by_cases hj : j = 0
  · rw [if_pos hj, if_neg (by omega), if_pos hj]
  · rw [if_neg hj, if_neg hj, List.getElem?_set]
    by_cases e : j = i
    · rw [if_pos e, if_pos (by omega), if_pos (by omega)]; rfl
    · rw [if_neg e, if_neg (by omega)]
theorem FSt.put_length (σ : FSt) (i : Nat) (x : Option Nd) : (σ.put i x).length = σ.length := by unfold FSt.put; exact List.length_set
theorem FSt.nd_free (σ : FSt) : σ.nd σ.free = none := by
  unfold FSt.nd FSt.free
  rw [if_neg (by omega), Nat.add_sub_cancel]
  by_cases h : σ.findIdx (·.isNone) < σ.length
  · rw [List.getElem?_eq_getElem h]
    have : (σ[σ.findIdx (·.isNone)]).isNone = true := List.findIdx_getElem (w := h)
    simpa using this
  · rw [List.getElem?_eq_none (by omega)]; rfl
theorem FSt.nd_add (σ : FSt) (n : Nd) (j : Nat) : (σ.add n).nd j = if j = σ.free then some n else σ.nd j := by
  have hle : σ.findIdx (·.isNone) ≤ σ.length := List.findIdx_le_length
  unfold FSt.add FSt.nd FSt.free
  by_cases hj : j = 0
  · rw [if_pos hj, if_neg (by omega), if_pos hj]
  · rw [if_neg hj, if_neg hj]
    split
    · rename_i h
      rw [List.getElem?_set]
      by_cases e : j = σ.findIdx (·.isNone) + 1
      · rw [if_pos e, if_pos (by omega), if_pos (by omega)]; rfl
      · rw [if_neg e, if_neg (by omega)]
    · rename_i h
      by_cases e : j = σ.findIdx (·.isNone) + 1
      · rw [if_pos e, List.getElem?_append_right (by omega), show j - 1 - σ.length = 0 by omega]; rfl
      · rw [if_neg e]
        by_cases h2 : j - 1 < σ.length
        · rw [List.getElem?_append_left h2]
        · rw [List.getElem?_eq_none (by simp; omega), List.getElem?_eq_none (by omega)]
theorem sum_set {α : Type} (g : α → Nat) : ∀ (l : List α) (i : Nat) (hi : i < l.length) (x : α), ((l.set i x).map g).sum + g l[i] = (l.map g).sum + g x
  | [], i, hi, x => by simp at hi
  | a :: l, 0, hi, x => by simp; omega
  | a :: l, i + 1, hi, x => by
    have ih := sum_set g l i (by simpa using hi) x
    simp only [List.set_cons_succ, List.map_cons, List.sum_cons, List.getElem_cons_succ]
    omega
def one (o : Option Nd) : Nat := if o.isSome then 1 else 0
theorem FSt.cnt_sum (σ : FSt) : σ.cnt = (σ.map one).sum := by
  unfold FSt.cnt
  induction σ with
  | nil => rfl
  | cons a l ih =>
    rw [List.filter_cons]
    cases h : a.isSome <;> simp [one, h, ih] <;> omega
theorem FSt.cnt_put {σ : FSt} {i : Nat} (h : (σ.nd i).isSome = true) (x : Option Nd) : (σ.put i x).cnt + 1 = σ.cnt + one x := by
  obtain ⟨h0, hl⟩ := FSt.nd_lt h
  rw [FSt.cnt_sum, FSt.cnt_sum]
  have := sum_set one σ (i - 1) (by omega) x
  rw [FSt.nd_at h0 (by omega)] at h
  rw [show one σ[i - 1] = 1 by unfold one; rw [h]; rfl] at this
  exact this
theorem FSt.byts_put {σ : FSt} {i : Nat} {n : Nd} (h : σ.nd i = some n) (x : Option Nd) : (σ.put i x).byts + n.data.length = σ.byts + ndLen x := by
  obtain ⟨h0, hl⟩ := FSt.nd_lt (by rw [h]; rfl)
  have := sum_set ndLen σ (i - 1) (by omega) x
  rw [FSt.nd_at h0 (by omega)] at h
  rw [h] at this
  exact this
theorem FSt.cnt_add (σ : FSt) (n : Nd) : (σ.add n).cnt = σ.cnt + 1 := by
  rw [FSt.cnt_sum, FSt.cnt_sum]
  unfold FSt.add
  split
  · rename_i h
    have h2 := sum_set one σ _ h (some n)
    have h3 : (σ[σ.findIdx (·.isNone)]).isNone = true := List.findIdx_getElem (w := h)
    have h4 : σ[σ.findIdx (·.isNone)] = none := by simpa using h3
    rw [h4] at h2
    simpa [one] using h2
  · simp [one]
theorem FSt.byts_add (σ : FSt) (n : Nd) : (σ.add n).byts = σ.byts + n.data.length := by
  unfold FSt.byts FSt.add
  split
  · rename_i h
    have h2 := sum_set ndLen σ _ h (some n)
    have h3 : (σ[σ.findIdx (·.isNone)]).isNone = true := List.findIdx_getElem (w := h)
    have h4 : σ[σ.findIdx (·.isNone)] = none := by simpa using h3
    rw [h4] at h2
    simpa [ndLen] using h2
  · simp [ndLen]
theorem FSt.add_length {σ : FSt} (n : Nd) (h : σ.cnt < 100) (hl : σ.length ≤ 100) : (σ.add n).length ≤ 100 := by
  unfold FSt.add
  split
  · rw [List.length_set]; exact hl
  · rename_i h2
    have h3 : σ.cnt = σ.length := by
      unfold FSt.cnt
      congr 1
      rw [List.filter_eq_self]
      intro a ha
      have := List.findIdx_eq_length.1 (Nat.le_antisymm List.findIdx_le_length (by omega) : σ.findIdx (·.isNone) = σ.length) a ha
      simpa using this
    simp
    omega
theorem byts_nd {σ : FSt} {i : Nat} {n : Nd} (h : σ.nd i = some n) : n.data.length ≤ σ.byts := by
  have := FSt.byts_put h none
  simp [ndLen] at this
  omega
/-- A changed inode. -/
theorem Live.put {σ : FSt} (h : Live σ) {i : Nat} {n n' : Nd} (hn : σ.nd i = some n) (hd : n'.d = n.d) (h1 : i = 1 → n'.links = 1) (he : ∀ q ∈ n'.ents, (σ.nd q.2).isSome = true)
    (hp : n'.d = true → 0 < n'.links → (σ.nd n'.par).isSome = true) (hb : (σ.put i (some n')).byts ≤ 65536) (hnm : ∀ q ∈ n'.ents, q.1.length ≤ 32) : Live (σ.put i (some n')) := by
  have hs : (σ.nd i).isSome = true := by rw [hn]; rfl
  have hnd := FSt.nd_put hs (some n')
  have sm : ∀ k, (σ.nd k).isSome = true → ((σ.put i (some n')).nd k).isSome = true := fun k hk => by
    rw [hnd]; split
    · rfl
    · exact hk
  have cs : ∀ j m, (σ.put i (some n')).nd j = some m → (j = i ∧ m = n') ∨ σ.nd j = some m := fun j m hj => by
    rw [hnd] at hj
    split at hj
    · rename_i e; cases hj; exact .inl ⟨e, rfl⟩
    · exact .inr hj
  refine ⟨?_, ?_, ?_, ?_, by rw [FSt.put_length]; exact h.len, hb, ?_⟩
  · obtain ⟨r, hr, hr2, hr3⟩ := h.root
    by_cases e : i = 1
    · refine ⟨n', by rw [hnd, if_pos e.symm], ?_, h1 e⟩
      subst e; rw [hn] at hr; cases hr; rw [hd]; exact hr2
    · exact ⟨r, by rw [hnd, if_neg (fun e2 => e e2.symm)]; exact hr, hr2, hr3⟩
  · intro j m hj q hq
    rcases cs j m hj with ⟨_, rfl⟩ | hj
    · exact sm _ (he q hq)
    · exact sm _ (h.ents j m hj q hq)
  · intro j m hj hd2 hl
    rcases cs j m hj with ⟨_, rfl⟩ | hj
    · exact sm _ (hp hd2 hl)
    · exact sm _ (h.par j m hj hd2 hl)
  · have := FSt.cnt_put hs (some n'); have h9 := h.cnt; simp [one] at this; omega
  · intro j m hj
    rcases cs j m hj with ⟨_, rfl⟩ | hj
    · exact hnm
    · exact h.names j m hj
/-- An inode more. -/
theorem Live.add {σ : FSt} (h : Live σ) {n : Nd} (he : n.ents = []) (hdt : n.data = []) (hp : (σ.nd n.par).isSome = true) (hc : σ.cnt < 100) : Live (σ.add n) := by
  have hnd := FSt.nd_add σ n
  have sm : ∀ k, (σ.nd k).isSome = true → ((σ.add n).nd k).isSome = true := fun k hk => by
    rw [hnd]; split
    · rfl
    · exact hk
  have cs : ∀ j m, (σ.add n).nd j = some m → m = n ∨ σ.nd j = some m := fun j m hj => by
    rw [hnd] at hj
    split at hj
    · cases hj; exact .inl rfl
    · exact .inr hj
  refine ⟨?_, ?_, ?_, by rw [FSt.cnt_add]; omega, FSt.add_length n hc h.len, by rw [FSt.byts_add, hdt]; exact h.byts, ?_⟩
  · obtain ⟨r, hr, hr2⟩ := h.root
    refine ⟨r, ?_, hr2⟩
    rw [hnd, if_neg]
    · exact hr
    · intro e; rw [e, FSt.nd_free] at hr; cases hr
  · intro j m hj q hq
    rcases cs j m hj with rfl | hj
    · rw [he] at hq; cases hq
    · exact sm _ (h.ents j m hj q hq)
  · intro j m hj hd hl
    rcases cs j m hj with rfl | hj
    · exact sm _ hp
    · exact sm _ (h.par j m hj hd hl)
  · intro j m hj
    rcases cs j m hj with rfl | hj
    · rw [he]; exact fun q hq => by cases hq
    · exact h.names j m hj
end Go.Proofs.YtffekmjoenppaaaGreatDoor

/- The tree of files in memory behind a change: an inode changed; an inode more. Conditions: the laws' own premises. -/
namespace Go.Proofs.YtffekmjoenppaaaGreatDoor
open Go.RowKit

def upd {α : Type} (g : Nat → α) (i : Nat) (x : α) (j : Nat) : α := if j = i then x else g j
theorem upd_same {α : Type} (g : Nat → α) (i : Nat) (x : α) : upd g i x i = x := if_pos rfl
theorem upd_other {α : Type} {g : Nat → α} {i j : Nat} {x : α} (h : j ≠ i) : upd g i x j = g j := if_neg h
theorem FilesF.mono {w : World} {f : Nat} {σ : FSt} {S S' : Nat → Prop} {p : Nat → Nat} {dv ev pv : Nat → Value} {lv : Value} (h : FilesF w f σ S p dv ev pv lv) (hs : ∀ k, S k → S' k) : FilesF w f σ S' p dv ev pv lv :=
  { h with own := hs _ h.own, ownl := fun g e => hs _ (h.ownl g e), ownn := fun i e => hs _ (h.ownn i e), ownd := fun i g e e2 => hs _ (h.ownd i g e e2), owne := fun i m e e2 => hs _ (h.owne i m e e2), up := fun k e => hs _ (h.up k e) }
theorem FilesAt.mono {w : World} {f : Nat} {σ : FSt} {S S' : Nat → Prop} {p : Nat → Nat} (h : FilesAt w f σ S p) (hs : ∀ k, S k → S' k) : FilesAt w f σ S' p := by
  obtain ⟨_, _, _, _, h⟩ := h
  exact ⟨_, _, _, _, h.mono hs⟩
theorem kmap_congr {α β : Type} {f g : List UInt8 → α → β} : ∀ {L : KA α}, (∀ q ∈ L, f q.1 q.2 = g q.1 q.2) → kmap f L = kmap g L
  | [], _ => rfl
  | q :: L, h => by
    unfold kmap
    rw [List.map_cons, List.map_cons, h q (by simp)]
    congr 1
    exact kmap_congr (fun q hq => h q (by simp [hq]))
/-- The same, by other numbers for the blocks. -/
theorem NodeF.reptr {w : World} {p p' : Nat → Nat} {b i : Nat} {n : Nd} {dv ev pv : Value} (h : NodeF w p b i n dv ev pv) (he : ∀ q ∈ n.ents, p' q.2 = p q.2) (hp : n.d = true → 0 < n.links → p' n.par = p n.par) : NodeF w p' b i n dv ev pv :=
  { h with
    dir := fun hd => by
      obtain ⟨h0, m, h1, h2⟩ := h.dir hd
      refine ⟨h0, m, h1, ?_⟩
      rw [kmap_congr (g := fun _ k => .pointer (some ⟨p k, 0, none⟩)) (fun q hq => by rw [he q hq])]
      exact h2
    par := fun hd hl => by rw [hp hd hl]; exact h.par hd hl }
theorem ptrOf_isSome {o o' : Option Nd} (h : o.isSome = o'.isSome) (b : Nat) : ptrOf o b = ptrOf o' b := by cases o <;> cases o' <;> first | rfl | cases h
theorem slotV_put {p : Nat → Nat} {σ : FSt} {i : Nat} {n n' : Nd} (hn : σ.nd i = some n) : slotV p (σ.put i (some n')) = slotV p σ := by
  obtain ⟨h0, hl⟩ := FSt.nd_lt (show (σ.nd i).isSome = true by rw [hn]; rfl)
  rw [FSt.nd_at h0 (by omega)] at hn
  unfold slotV
  apply List.ext_getElem
  · simp [FSt.put_length]
  · intro k h1 h2
    rw [List.getElem_mapIdx, List.getElem_mapIdx]
    apply ptrOf_isSome
    unfold FSt.put
    rw [List.getElem_set]
    split
    · rename_i e; subst e; rw [hn]; rfl
    · rfl
/-- Which block holds a row of what. -/
theorem cells_ne {w : World} {a b ta tb : Nat} {ca cb : Array Value} {fa fb : Nat × Nat} (ha : w.heap[a]? = some (.cells ca ta fa)) (hb : w.heap[b]? = some (.cells cb tb fb)) (hne : ta ≠ tb) : a ≠ b := by
  rintro rfl
  rw [ha] at hb
  cases hb
  exact hne rfl
theorem FilesF.lv_blk {w : World} {f : Nat} {σ : FSt} {S : Nat → Prop} {p : Nat → Nat} {dv ev pv : Nat → Value} {lv : Value} (h : FilesF w f σ S p dv ev pv lv) {g : Nat} (hg : lv.ownBlock = some g) : ∃ c, w.heap[g]? = some (.cells c 84 (0, 0)) := by
  rcases h.hl.2 with ⟨h1, _⟩ | ⟨g', cap', cur, h1, _, hc, _⟩
  · rw [h1] at hg; cases hg
  · rw [h1] at hg
    have e' : g' = g := by simpa [Value.ownBlock] using hg
    subst e'
    exact ⟨_, hc⟩
theorem DataV.blk {w : World} {v : Value} {l : List UInt8} (h : DataV w v l) {g : Nat} (hg : v.ownBlock = some g) : ∃ c, w.heap[g]? = some (.cells c 5 (0, 0)) := by
  rcases h with ⟨rfl, _⟩ | ⟨g', cap, cur, rfl, hc, _⟩
  · cases hg
  · have e' : g' = g := by simpa [Value.ownBlock] using hg
    subst e'
    exact ⟨_, hc⟩
theorem NodeF.map_blk {w : World} {p : Nat → Nat} {b i : Nat} {n : Nd} {dv ev pv : Value} (h : NodeF w p b i n dv ev pv) {m : Nat} (he : ev = .map (some m)) : ∃ es clock, w.heap[m]? = some (.map es clock) := by
  cases hn : n.d with
  | true =>
    obtain ⟨_, m', h1, h2⟩ := h.dir hn
    rw [he] at h1
    cases h1
    obtain ⟨es, clock, hb, _⟩ := h2.own
    exact ⟨es, clock, hb⟩
  | false =>
    have := (h.file hn).1
    rw [he] at this
    cases this
/-- An inode changed. -/
theorem FilesF.changed {w w' : World} {f : Nat} {σ : FSt} {S : Nat → Prop} {p : Nat → Nat} {dv ev pv : Nat → Value} {lv : Value} (h : FilesF w f σ S p dv ev pv lv) {T : Nat → Prop} (hf : Fr T w w') {i : Nat} {n n' : Nd} (hn : σ.nd i = some n) {dv' ev' pv' : Value}
    (hT : ∀ k, T k → k = f ∨ k = p i ∨ (dv i).ownBlock = some k ∨ ev i = .map (some k))
    (hb : w'.heap[f]? = some (.cells #[lv, .int .i64 σ.cnt, .pointer (some ⟨p 1, 0, none⟩), .int .i64 (σ.put i (some n')).byts] 86 (0, 0)))
    (hnd : NodeF w' p (p i) i n' dv' ev' pv') (hdv : ∀ g, dv'.ownBlock = some g → (dv i).ownBlock = some g ∨ w.heap.size ≤ g) (hev : ∀ m, ev' = .map (some m) → ev i = .map (some m)) (hlive : Live (σ.put i (some n'))) :
    FilesF w' f (σ.put i (some n')) S p (upd dv i dv') (upd ev i ev') (upd pv i pv') lv := by
  have hs : (σ.nd i).isSome = true := by rw [hn]; rfl
  have hput := FSt.nd_put hs (some n')
  have hi := h.nd i n hn
  have back : ∀ j, ((σ.put i (some n')).nd j).isSome = true → (σ.nd j).isSome = true := fun j hj => by
    rw [hput] at hj
    split at hj
    · rename_i e; rw [e]; exact hs
    · exact hj
  have hcnt : (σ.put i (some n')).cnt = σ.cnt := by have := FSt.cnt_put hs (some n'); simp [one] at this; exact this
  have hTlv : ∀ g, lv.ownBlock = some g → ¬ T g := fun g e ht => by
    obtain ⟨c, hc⟩ := h.lv_blk e
    rcases hT g ht with rfl | rfl | e2 | e2
    · exact cells_ne hc h.hb (by decide) rfl
    · exact cells_ne hc hi.hb (by decide) rfl
    · obtain ⟨c2, hc2⟩ := hi.data.blk e2
      exact cells_ne hc hc2 (by decide) rfl
    · obtain ⟨es, clock, hm⟩ := hi.map_blk e2
      rw [hc] at hm; cases hm
  have hother : ∀ j m, σ.nd j = some m → j ≠ i → NodeF w' p (p j) j m (dv j) (ev j) (pv j) := fun j m hj hne => by
    have hnj := h.nd j m hj
    have hsj : (σ.nd j).isSome = true := by rw [hj]; rfl
    refine hnj.frame hf (fun ht => ?_) (fun g e ht => ?_) (fun mb e ht => ?_)
    · rcases hT _ ht with e2 | e2 | e2 | e2
      · exact cells_ne hnj.hb (e2 ▸ h.hb) (by decide) rfl
      · exact hne (h.inj j i hsj hs e2)
      · obtain ⟨c2, hc2⟩ := hi.data.blk e2
        exact cells_ne hnj.hb hc2 (by decide) rfl
      · obtain ⟨es, clock, hm⟩ := hi.map_blk e2
        rw [hnj.hb] at hm; cases hm
    · obtain ⟨c, hc⟩ := hnj.data.blk e
      rcases hT _ ht with e2 | e2 | e2 | e2
      · exact cells_ne hc (e2 ▸ h.hb) (by decide) rfl
      · exact cells_ne hc (e2 ▸ hi.hb) (by decide) rfl
      · exact hne (h.injd j i g hsj hs e e2)
      · obtain ⟨es, clock, hm⟩ := hi.map_blk e2
        rw [hc] at hm; cases hm
    · obtain ⟨es, clock, hm⟩ := hnj.map_blk e
      rcases hT _ ht with e2 | e2 | e2 | e2
      · rw [e2, h.hb] at hm; cases hm
      · rw [e2, hi.hb] at hm; cases hm
      · obtain ⟨c2, hc2⟩ := hi.data.blk e2
        rw [hc2] at hm; cases hm
      · exact hne (h.inje j i mb hsj hs e e2)
  refine ⟨by rw [hcnt]; exact hb, ?_, ?_, fun j k hj hk => h.inj j k (back j hj) (back k hk), ?_, ?_, h.own, h.ownl, fun j hj => h.ownn j (back j hj), ?_, ?_, fun k hk => h.up k (Nat.le_trans hf.size hk), hlive⟩
  · rw [FSt.put_length, slotV_put hn]
    exact own_frame h.hl hf hTlv
  · intro j m hj
    rw [hput] at hj
    by_cases e : j = i
    · rw [if_pos e] at hj
      cases hj
      subst e
      rw [upd_same, upd_same, upd_same]
      exact hnd
    · rw [if_neg e] at hj
      rw [upd_other e, upd_other e, upd_other e]
      exact hother j m hj e
  · intro j k g hj hk e1 e2
    have hj' := back j hj
    have hk' := back k hk
    have lt : ∀ a, (σ.nd a).isSome = true → (dv a).ownBlock = some g → g < w.heap.size := fun a ha e => by
      obtain ⟨m, hm⟩ := Option.isSome_iff_exists.1 ha
      exact (h.nd a m hm).data.lt e
    by_cases a1 : j = i <;> by_cases a2 : k = i
    · rw [a1, a2]
    · subst a1
      rw [upd_same] at e1
      rw [upd_other a2] at e2
      rcases hdv g e1 with e3 | e3
      · exact h.injd _ _ g hj' hk' e3 e2
      · have := lt k hk' e2; omega
    · subst a2
      rw [upd_same] at e2
      rw [upd_other a1] at e1
      rcases hdv g e2 with e3 | e3
      · exact h.injd _ _ g hj' hk' e1 e3
      · have := lt j hj' e1; omega
    · rw [upd_other a1] at e1
      rw [upd_other a2] at e2
      exact h.injd _ _ g hj' hk' e1 e2
  · intro j k m hj hk e1 e2
    have hj' := back j hj
    have hk' := back k hk
    have f1 : ev j = .map (some m) := by
      by_cases a1 : j = i
      · subst a1; rw [upd_same] at e1; exact hev m e1
      · rwa [upd_other a1] at e1
    have f2 : ev k = .map (some m) := by
      by_cases a1 : k = i
      · subst a1; rw [upd_same] at e2; exact hev m e2
      · rwa [upd_other a1] at e2
    exact h.inje j k m hj' hk' f1 f2
  · intro j g hj e1
    by_cases a1 : j = i
    · subst a1
      rw [upd_same] at e1
      rcases hdv g e1 with e3 | e3
      · exact h.ownd _ g hs e3
      · exact h.up g e3
    · rw [upd_other a1] at e1
      exact h.ownd j g (back j hj) e1
  · intro j m hj e1
    have f1 : ev j = .map (some m) := by
      by_cases a1 : j = i
      · subst a1; rw [upd_same] at e1; exact hev m e1
      · rwa [upd_other a1] at e1
    exact h.owne j m (back j hj) f1
end Go.Proofs.YtffekmjoenppaaaGreatDoor
