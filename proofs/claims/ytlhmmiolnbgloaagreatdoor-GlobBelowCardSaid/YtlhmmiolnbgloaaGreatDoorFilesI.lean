/- files.place.node, open. Conditions: the contract's own premises. -/
import Derived.Test.YtlhmmiolnbgloaaGreatDoorFilesF
import Derived.Test.YtlhmmiolnbgloaaGreatDoorStrs
import Derived.Lib.AppendZerosOnto
import Derived.Laws.CopyRow
namespace Go.Proofs.YtlhmmiolnbgloaaGreatDoor
open Go.RowKit

def nodePtr (p : Nat → Nat) (o : Option Nat) : Value := match o with | none => .pointer none | some k => .pointer (some ⟨p k, 0, none⟩)
def placeV (p : Nat → Nat) (a : Nat) (nm : ByteArray) (sl : Bool) : Value := .agg #[.pointer (some ⟨p a, 0, none⟩), .string nm, .bool sl]
theorem Hlook {w : World} {p : Nat → Nat} {b i : Nat} {n : Nd} {dv ev pv : Value} (h : NodeF w p b i n dv ev pv) (hd : n.d = true) : ∃ m, ev = .map (some m) ∧ ∀ nm : ByteArray, nm.size ≤ maxLen → ∀ w', Fr (fun _ => False) w w' → (Instr.lookup 62 (.map (some m)) (.string nm) false).run Tryz.prog w' = .ok (nodePtr p (kget nm.data.toList n.ents)) w' := by
  obtain ⟨-, mb, hev, hmp⟩ := h.dir hd
  refine ⟨mb, hev, fun nm hn w' hf => ?_⟩
  have := (hmp.frame hf (fun e => e)).look (t := 62) (e := 56) false Tryz.underlying9 Tryz.underlying62 (show (zeroValue 56).run Tryz.prog w' = .ok (.pointer none) w' by kernel_rfl) nm hn
  rw [if_neg (by simp), kget_kmap] at this
  rw [this]
  cases kget nm.data.toList n.ents <;> rfl
set_option maxRecDepth 100000 in
theorem placeNode_any (w : World) (p : Nat → Nat) (a : Nat) (n : Nd) (dv ev pv : Value) (h : NodeF w p (p a) a n dv ev pv) (hd : n.d = true) (nm : ByteArray) (hn : nm.size ≤ 32) (sl : Bool) :
    Calls Tryz.prog 71 #[placeV p a nm sl] w fun e w' => e = .returned (nodePtr p (kget nm.data.toList n.ents)) ∧ Fr (fun _ => False) w w' := by
  obtain ⟨m, rfl, hl⟩ := Hlook h hd
  have hl := hl nm (by unfold maxLen; omega)
  obtain ⟨v, hv⟩ : ∃ v, v = nodePtr p (kget nm.data.toList n.ents) := ⟨_, rfl⟩
  rw [← hv] at hl ⊢
  have hf1 : Fr (fun _ => False) w (w.alloc (.cells #[.pointer (some ⟨p a, 0, none⟩), .string nm, .bool sl] 103 (0, 0))) := (Fr.refl _ _).alloc _
  have hl1 := hl _ hf1.drew
  have c6 : (w.alloc (.cells #[.pointer (some ⟨p a, 0, none⟩), .string nm, .bool sl] 103 (0, 0))).cell? ⟨p a, 6, none⟩ = some (.map (some m)) := by rw [blk_cell (blk_alloc h.hb _)]; rfl
  clear hl hv
  unfold placeV
  go_enter Tryz.func71, Tryz.ntmps71
  go_wp2_with fail
  refine region_still (by kernel_rfl) (by kernel_rfl) ?_
  repeat go_big_quiet_step (fail)
  refine wpQuiet_nil ?_
  go_wp2_with fail
  go_ret
  exact ⟨rfl, hf1.drew⟩
def openE (n : Nd) (s : List UInt8) : Int := if (kget s n.ents).isSome = true then 17 else if n.links = 0 then 2 else if mayN n.mode 2 = false then 13 else 0
set_option maxRecDepth 100000 in
theorem placeOpen_any (w : World) (p : Nat → Nat) (a : Nat) (n : Nd) (dv ev pv : Value) (h : NodeF w p (p a) a n dv ev pv) (hd : n.d = true) (nm : ByteArray) (hn : nm.size ≤ 32) (sl : Bool) :
    Calls Tryz.prog 49 #[placeV p a nm sl] w fun e w' => e = .returned (.int .i64 (openE n nm.data.toList)) ∧ Fr (fun _ => False) w w' := by
  obtain ⟨w1, hw1⟩ : ∃ w1, w1 = w.alloc (.cells #[.pointer (some ⟨p a, 0, none⟩), .string nm, .bool sl] 103 (0, 0)) := ⟨_, rfl⟩
  have hf1 : Fr (fun _ => False) w w1 := by rw [hw1]; exact (Fr.refl _ _).alloc _
  have h1 := h.frame hf1 (fun e => e) (fun _ _ e => e) (fun _ _ e => e)
  have hnode := placeNode_any w1 p a n dv ev pv h1 hd nm hn sl
  unfold openE
  unfold placeV at hnode ⊢
  cases hk : kget nm.data.toList n.ents with
  | some k =>
    rw [hk] at hnode
    simp only [nodePtr] at hnode
    simp only [Option.isSome_some, if_true]
    subst hw1
    go_enter Tryz.func49, Tryz.ntmps49
    go_wp2_with fail
    refine hnode.mono ?_
    rintro e w2 ⟨rfl, hf2⟩
    clear hnode
    go_wp2_with fail
    go_ret
    exact ⟨rfl, hf1.trans hf2⟩
  | none =>
    rw [hk] at hnode
    simp only [nodePtr] at hnode
    simp only [Option.isSome_none, if_false, Bool.false_eq_true]
    have hb1 : w1.heap[w.heap.size]? = some (.cells #[.pointer (some ⟨p a, 0, none⟩), .string nm, .bool sl] 103 (0, 0)) := by rw [hw1]; exact blk_new _ _
    have Hnode := hide hnode
    by_cases hl : n.links = 0
    · rw [if_pos hl]
      subst hw1
      go_enter Tryz.func49, Tryz.ntmps49
      go_wp2_with fail
      refine hnode.mono ?_
      rintro e w2 ⟨rfl, hf2⟩
      have h2 := h1.frame hf2 (fun e => e) (fun _ _ e => e) (fun _ _ e => e)
      have c0 : w2.cell? ⟨w.heap.size, 0, none⟩ = some (.pointer (some ⟨p a, 0, none⟩)) := by rw [blk_cell (hf2.get hb1 (fun e => e))]; rfl
      have c3 : w2.cell? ⟨p a, 3, none⟩ = some (.int .i64 n.links) := by rw [blk_cell h2.hb]; rfl
      rw [hl] at c3
      clear hnode
      go_wp2_with fail
      go_ret
      exact ⟨rfl, hf1.trans hf2⟩
    · rw [if_neg hl]
      have hlI : ¬ (n.links : Int) = 0 := by omega
      cases hm : mayN n.mode 2 with
      | false =>
        simp only [if_true]
        subst hw1
        go_enter Tryz.func49, Tryz.ntmps49
        go_wp2_with fail
        refine hnode.mono ?_
        rintro e w2 ⟨rfl, hf2⟩
        have h2 := h1.frame hf2 (fun e => e) (fun _ _ e => e) (fun _ _ e => e)
        have c0 : w2.cell? ⟨w.heap.size, 0, none⟩ = some (.pointer (some ⟨p a, 0, none⟩)) := by rw [blk_cell (hf2.get hb1 (fun e => e))]; rfl
        have c3 : w2.cell? ⟨p a, 3, none⟩ = some (.int .i64 n.links) := by rw [blk_cell h2.hb]; rfl
        have hmay := may_any w2 p (p a) a n dv ev pv h2 2 (by omega)
        rw [hm] at hmay
        clear hnode
        go_wp2_with fail
        refine hmay.mono ?_
        rintro e w3 ⟨rfl, rfl⟩
        clear hmay
        go_wp2_with fail
        go_ret
        exact ⟨rfl, hf1.trans hf2⟩
      | true =>
        simp only [if_false, Bool.true_eq_false]
        subst hw1
        go_enter Tryz.func49, Tryz.ntmps49
        go_wp2_with fail
        refine hnode.mono ?_
        rintro e w2 ⟨rfl, hf2⟩
        have h2 := h1.frame hf2 (fun e => e) (fun _ _ e => e) (fun _ _ e => e)
        have c0 : w2.cell? ⟨w.heap.size, 0, none⟩ = some (.pointer (some ⟨p a, 0, none⟩)) := by rw [blk_cell (hf2.get hb1 (fun e => e))]; rfl
        have c3 : w2.cell? ⟨p a, 3, none⟩ = some (.int .i64 n.links) := by rw [blk_cell h2.hb]; rfl
        have hmay := may_any w2 p (p a) a n dv ev pv h2 2 (by omega)
        rw [hm] at hmay
        clear hnode
        go_wp2_with fail
        refine hmay.mono ?_
        rintro e w3 ⟨rfl, rfl⟩
        clear hmay
        go_wp2_with fail
        go_ret
        exact ⟨rfl, hf1.trans hf2⟩
end Go.Proofs.YtlhmmiolnbgloaaGreatDoor

/- A file's bytes: more zeros behind them, fewer of them, some of them written over. Conditions: the laws' own premises. -/
namespace Go.Proofs.YtlhmmiolnbgloaaGreatDoor
open Go.RowKit

def byteV (l : List UInt8) : List Value := l.map fun c => .int .u8 c.toNat
theorem byteV_zeros (k : Nat) : byteV (List.replicate k 0) = List.replicate k (.int .u8 0) := by simp [byteV]
theorem zeroCells_one (k : Nat) : (Builtin.zeroCells (#[.int .u8 0] : Array Value) k) = (List.replicate k (Value.int .u8 0)).toArray := by
  apply Array.toList_inj.1
  apply List.ext_getElem
  · simp [Builtin.zeroCells]
  · intro i h1 h2
    simp [Builtin.zeroCells, Nat.mod_one]
theorem byteV_one (l : List UInt8) : ∀ v ∈ byteV l, v.oneCell' = true := by
  intro v hv
  obtain ⟨c, _, rfl⟩ := List.mem_map.1 hv
  rfl
theorem Fr.setRow (w : World) (g : Nat) (c : Array Value) : Fr (fun k => some g = some k) w (w.setRow g c) :=
  ⟨rfl, rfl, rfl, by simp, fun i _ hn => setRow_other w g i c (fun e => hn (by rw [e]))⟩
theorem DataV.form {w : World} {v : Value} {l : List UInt8} (h : DataV w v l) : ∃ a cap, v = .slice a l.length cap := by
  rcases h with ⟨rfl, rfl⟩ | ⟨g, cap, cur, rfl, _⟩
  · exact ⟨_, _, rfl⟩
  · exact ⟨_, _, rfl⟩
/-- k zeros more. -/
theorem data_grow (w : World) (v : Value) (l : List UInt8) (h : DataV w v l) (k : Nat) (h0 : 0 < k) (hb : l.length + k ≤ 1000000) (ty : TypeId) :
    ∃ v' w', (Builtin.append_ #[63, 3] ty #[v, .int .i64 k]).run Tryz.prog w = .ok v' w' ∧ DataV w' v' (l ++ List.replicate k 0) ∧ Fr (fun b => v.ownBlock = some b) w w' ∧ (v'.ownBlock = v.ownBlock ∨ v'.ownBlock = some w.heap.size) := by
  obtain ⟨i, hi, hz, hs, hby⟩ : ∃ i, Tryz.prog.info? 5 = some i ∧ i.zero = some (.int .u8 0) ∧ i.size = 1 ∧ i.bytes = 1 := by
    have h : (Tryz.prog.info? 5).map (fun i => (i.zero, i.size, i.bytes)) = some (some (.int .u8 0), 1, 1) := by kernel_rfl
    cases hq : Tryz.prog.info? 5 with
    | none => rw [hq] at h; cases h
    | some i => rw [hq] at h; simp at h; exact ⟨i, rfl, h.1, h.2.1, h.2.2⟩
  have ht : Tryz.prog.underlying 63 = some (.slice 5) := by kernel_rfl
  have htn : Tryz.prog.underlying 3 = some (.int .i64) := by kernel_rfl
  have hlen : (l ++ List.replicate k (0 : UInt8)).length = l.length + k := by simp
  have grow : ∀ base cap, cap < l.length + k → (Builtin.firstCells i.size l.length (.slice base l.length cap)).run Tryz.prog w.drew = .ok (byteV l).toArray w.drew →
      ∃ v' w', (Builtin.append_ #[63, 3] ty #[.slice base l.length cap, .int .i64 k]).run Tryz.prog w = .ok v' w' ∧ DataV w' v' (l ++ List.replicate k 0) ∧ Fr (fun b => (Value.slice base l.length cap).ownBlock = some b) w w' ∧ (v'.ownBlock = (Value.slice base l.length cap).ownBlock ∨ v'.ownBlock = some w.heap.size) := fun base cap hg hold => by
    have hr := Lib.run_append_grow_zeros w 63 3 ty 5 i _ .i64 .i64 ht htn hi hz base l.length cap (byteV l) hold k h0 (by omega) hg (by omega) (by rw [hby]; omega)
      (by rw [hby]; have := nextslicecap_le hg; omega)
    refine ⟨_, _, hr, .inr ⟨w.heap.size, _, _, by rw [hlen], blk_new' _ _ _ rfl, by rw [hlen]; exact grownCap_ge _ _ _ _, ?_, ?_⟩, (Fr.refl _ _).drew.alloc _, .inr rfl⟩
    · have := grownCap_ge w (l.length + k) cap 5
      show _ ≤ ((byteV l).toArray ++ Builtin.zeroCells (#[.int .u8 0] : Array Value) k ++ Builtin.zeroCells (#[.int .u8 0] : Array Value) (grownCap w (l.length + k) cap 5 - (l.length + k))).size
      rw [zeroCells_one, zeroCells_one]
      simp [byteV]
      omega
    · show (((byteV l).toArray ++ Builtin.zeroCells (#[.int .u8 0] : Array Value) k ++ Builtin.zeroCells (#[.int .u8 0] : Array Value) (grownCap w (l.length + k) cap 5 - (l.length + k)))).toList.take _ = _
      rw [zeroCells_one, zeroCells_one, hlen]
      simp only [Array.toList_append, List.map_append]
      rw [List.take_append_of_le_length (by simp [byteV]), List.take_of_length_le (by simp [byteV])]
      simp [byteV]
  rcases h with ⟨rfl, rfl⟩ | ⟨g, cap, cur, rfl, hg, hc1, hc2, hcur⟩
  · exact grow none 0 (by simpa using h0) (run_firstCells_none _ _ _ _ _)
  · have hcells : ∀ j v, (byteV l)[j]? = some v → w.cell? ((⟨g, 0, none⟩ : Addr).add j) = some v := fun j v hv => by
      have hadd : (⟨g, 0, none⟩ : Addr).add j = ⟨g, j, none⟩ := by unfold Addr.add; split <;> simp_all
      have hj : j < l.length := by
        have := (List.getElem?_eq_some_iff.1 hv).1
        simpa [byteV] using this
      rw [hadd, blk_cell hg, ← hv]
      show _ = (List.map _ l)[j]?
      rw [← hcur, List.getElem?_take_of_lt hj, Array.getElem?_toList]
    by_cases hfit : l.length + k ≤ cap
    · have hw : IntKind.i64.wrap (k : Int) = k := by rw [IntKind.wrap_i64]; omega
      have hneg : ¬ ((k : Int) < 0) := by omega
      have h48i : ¬ (281474976710656 < (k : Int)) := by omega
      have hns : ¬ (k = 0) := by omega
      have hst := run_storeCells_at (P := Tryz.prog) g l.length 5 (List.replicate k (Value.int .u8 0)) 0 cur w hg (by simp; omega) (by intro v hv; rw [(List.mem_replicate.1 hv).2]; rfl)
      have hadd : (⟨g, 0, none⟩ : Addr).add l.length = ⟨g, l.length, none⟩ := by unfold Addr.add; split <;> simp_all
      refine ⟨.slice (some ⟨g, 0, none⟩) (l.length + k) cap, w.setRow g (cur.toList.take l.length ++ List.replicate k (Value.int .u8 0) ++ cur.toList.drop (l.length + k)).toArray, ?_, ?_, (Fr.setRow w g _).mono (fun _ _ e => e), .inl rfl⟩
      · simp [Builtin.append_, run_underlying ht, run_underlying htn, sizeOf, typeInfo, zeroValue, hi, hz, hs, hby, asInt, asIntOf, hw, hneg, h48i, hns, hfit, hadd, zeroCells_one, Value.cells]
        simp only [Nat.add_zero, List.length_replicate] at hst
        rw [hst, Result.andThen_ok]
        simp only [List.append_assoc]
      · refine .inr ⟨g, cap, _, by rw [hlen], setRow_heap w g cur _ _ _ hg, by rw [hlen]; exact hfit, ?_, ?_⟩
        · simp
          omega
        · rw [hlen]
          rw [List.take_append_of_le_length (by simp; omega), List.take_of_length_le (by simp; omega), hcur]
          simp
    · exact grow _ _ (by omega) (run_firstCells_some w.drew 1 l.length _ _ _ (byteV l) (by simp [byteV]) (fun j v hv => hcells j v hv) |> fun h => by rw [hs]; exact h)
end Go.Proofs.YtlhmmiolnbgloaaGreatDoor

/- files.slots.add: a thing more. Conditions: the contract's own premises. -/
namespace Go.Proofs.YtlhmmiolnbgloaaGreatDoor
open Go.RowKit

def encP (o : Option Nat) : Value := match o with | none => .pointer none | some b => .pointer (some ⟨b, 0, none⟩)
def freeI (l : List (Option Nat)) : Nat := l.findIdx (·.isNone)
theorem freeI_le (l : List (Option Nat)) : freeI l ≤ l.length := List.findIdx_le_length
theorem freeI_some {l : List (Option Nat)} {k : Nat} (hk : k < freeI l) : ∃ b, l[k]'(Nat.lt_of_lt_of_le hk (freeI_le l)) = some b := by
  have := List.not_of_lt_findIdx (p := fun o : Option Nat => o.isNone) hk
  exact Option.isSome_iff_exists.1 (by simpa using this)
theorem freeI_none {l : List (Option Nat)} (h : freeI l < l.length) : l[freeI l] = none := by
  have : (l[freeI l]).isNone = true := List.findIdx_getElem (w := h)
  simpa using this
def idxV (l : List (Option Nat)) : Int := if freeI l < l.length then (freeI l : Int) else -1
theorem eql_nil' {P : Program} (t : TypeId) (w : World) (p : Option Addr) (h : P.underlying t = some (.pointer (P.pointee t))) : (binOp .eql t (.pointer none) (.pointer p)).run P w = .ok (.bool p.isNone) w := by
  have h1 : ∀ d, (Op.equalIn (d + 1) t (.pointer none) (.pointer p)).run P w = .ok p.isNone w := fun d => by
    cases p <;> simp [Op.equalIn, run_underlying h]
  have h2 : (Op.equal t (.pointer none) (.pointer p)).run P w = .ok p.isNone w := h1 9999
  simp only [binOp]
  simp [h2]
theorem eql_nil (a : Option Addr) (w : World) : (binOp .eql 56 (.pointer none) (.pointer a)).run Tryz.prog w = .ok (.bool a.isNone) w := eql_nil' _ w a (by kernel_rfl)
set_option maxRecDepth 100000 in
theorem idx_any (w : World) (a : Option Addr) (cap : Nat) (l : List (Option Nat)) (hc : l.length = 0 ∨ ∃ g, a = some ⟨g, 0, none⟩ ∧ ∀ k u, (l.map encP)[k]? = some u → w.cell? ⟨g, k, none⟩ = some u) (hl : l.length ≤ 1000) :
    Calls Tryz.prog 47 #[.slice a l.length cap, .pointer none] w fun e w' => e = .returned (.int .i64 (idxV l)) ∧ w' = w := by
  have Hc := hide hc
  clear hc
  go_enter Tryz.func47, Tryz.ntmps47
  go_wp2
  go_loop [8] (fun i => ∃ k : Nat, k ≤ freeI l ∧ i = .int .i64 k) (fun i => l.length - (intOf i).toNat)
  case atStart => exact ⟨0, Nat.zero_le _, rfl⟩
  case round =>
    obtain ⟨k, hk, rfl⟩ := hrel
    have hfl := freeI_le l
    by_cases hlt : k < l.length
    · obtain ⟨g, rfl, hcells⟩ := Hc.out.resolve_left (by omega)
      have ck := hcells k (encP l[k]) (by simp [hlt])
      have Hhk := hide hk
      have hkI : (k : Int) < (l.length : Int) := by omega
      have hk0 : (0 : Int) ≤ (k : Int) := by omega
      clear hcells Hc
      rcases Nat.lt_or_ge k (freeI l) with hlt2 | hge
      · obtain ⟨b, hb⟩ := freeI_some hlt2
        rw [hb] at ck
        simp only [encP] at ck
        have he := eql_nil (some ⟨b, 0, none⟩) w
        clear hb hk
        go_wp2
        refine ⟨⟨k + 1, hlt2, by go_num⟩, ?_⟩
        simp [intOf]
        omega
      · have hkf : k = freeI l := by omega
        have hb : l[k] = none := by
          subst hkf
          exact freeI_none hlt
        rw [hb] at ck
        simp only [encP] at ck
        have he := eql_nil none w
        have hres : (k : Int) = idxV l := by unfold idxV; rw [if_pos (by omega), hkf]
        have Hres := hide hres
        clear hb hk hkf hres
        go_wp2
        go_ret
        exact ⟨ret_int Hres.out, rfl⟩
    · have hres : (-1 : Int) = idxV l := by unfold idxV; rw [if_neg (by omega)]
      have Hres := hide hres
      have hkI : ¬ (k : Int) < (l.length : Int) := by omega
      clear hres
      go_wp2
      go_ret
      exact ⟨ret_int Hres.out, rfl⟩
def addI (l : List (Option Nat)) (nb : Nat) : List (Option Nat) := if freeI l < l.length then l.set (freeI l) (some nb) else l ++ [some nb]
def AddPost (w : World) (f nb : Nat) (lv : Value) (cnt : Nat) (rv bv : Value) (l : List (Option Nat)) (e : Ending) (w' : World) : Prop :=
  e = .returned (.int .i64 ((freeI l : Int) + 1)) ∧ ∃ lv', w'.heap[f]? = some (.cells #[lv', .int .i64 ((cnt : Int) + 1), rv, bv] 77 (0, 0)) ∧ w'.ownsRow 0 56 1 lv' (addI l nb).length ((addI l nb).map encP) ∧
    Fr (fun k => k = f ∨ lv.ownBlock = some k) w w' ∧ (lv'.ownBlock = lv.ownBlock ∨ lv'.ownBlock = some (w.heap.size + 1))
set_option maxRecDepth 100000 in
set_option maxHeartbeats 1000000 in
theorem sadd_any (w : World) (f nb : Nat) (lv : Value) (cnt : Nat) (rv bv : Value) (l : List (Option Nat)) (hb : w.heap[f]? = some (.cells #[lv, .int .i64 cnt, rv, bv] 77 (0, 0)))
    (hl : w.ownsRow 0 56 1 lv l.length (l.map encP)) (hcnt : cnt ≤ 1000) (hll : l.length ≤ 1000) :
    Calls Tryz.prog 29 #[.pointer (some ⟨f, 0, none⟩), .pointer (some ⟨nb, 0, none⟩)] w (AddPost w f nb lv cnt rv bv l) := by
  obtain ⟨la, lc, rfl⟩ := own_form hl
  have hlf : ∀ g, (Value.slice la l.length lc).ownBlock = some g → g ≠ f := fun g e => by
    rcases hl.2 with ⟨h1, _⟩ | ⟨g', cap', cur, h1, _, hg, _⟩
    · rw [h1] at e; cases e
    · rw [h1] at e
      have e' : g' = g := by simpa [Value.ownBlock] using e
      subst e'
      intro e2
      subst e2
      rw [hg] at hb
      simp at hb
  obtain ⟨w1, hw1⟩ : ∃ w1, w1 = w.setCell ⟨f, 1, none⟩ (.int .i64 ((cnt : Int) + 1)) := ⟨_, rfl⟩
  have hb1 : w1.heap[f]? = some (.cells #[.slice la l.length lc, .int .i64 ((cnt : Int) + 1), rv, bv] 77 (0, 0)) := by rw [hw1, blk_set hb]; rfl
  have hf1 : Fr (fun k => k = f) w w1 := by rw [hw1]; exact frSet _ _ _ _
  have hl1 := own_frame hl hf1 hlf
  have c1 : w.cell? ⟨f, 1, none⟩ = some (.int .i64 cnt) := by rw [blk_cell hb]; rfl
  have z1 := blk_frozen hb 1
  have c0 : w1.cell? ⟨f, 0, none⟩ = some (.slice la l.length lc) := by rw [blk_cell hb1]; rfl
  have hidx := idx_any w1 la lc l (by
    rcases Nat.eq_zero_or_pos l.length with h | h
    · exact .inl h
    · obtain ⟨g, h1, _, _, h2⟩ := own_cells hl1 h
      exact .inr ⟨g, h1, h2⟩) hll
  have hsz1 : w1.heap.size = w.heap.size := by rw [hw1]; simp [World.setCell]
  obtain ⟨i0, hinf, hz0, hz1, hz2⟩ : ∃ i0, Tryz.prog.info? 56 = some i0 ∧ i0.zero = some (.pointer none) ∧ i0.size = 1 ∧ i0.bytes = 8 := by
    have h : (Tryz.prog.info? 56).map (fun i => (i.zero, i.size, i.bytes)) = some (some (.pointer none), 1, 8) := by kernel_rfl
    cases hq : Tryz.prog.info? 56 with
    | none => rw [hq] at h; cases h
    | some i => rw [hq] at h; simp at h; exact ⟨i, rfl, h.1, h.2.1, h.2.2⟩
  by_cases hfree : freeI l < l.length
  · obtain ⟨g, rfl, _, hgl, _⟩ := own_cells hl1 (by omega)
    obtain ⟨hst, _⟩ := hl1.stored (freeI l) (.pointer (some ⟨nb, 0, none⟩))
    have hgf := hlf g rfl
    have cg : w1.cell? ⟨g, freeI l, none⟩ = some (.pointer none) := by rw [hl1.cellAt (freeI l) (by omega)]; simp [hfree, freeI_none hfree, encP]
    have zg := hl1.frozenAt (freeI l)
    have hres := hide (show AddPost w f nb (.slice (some ⟨g, 0, none⟩) l.length lc) cnt rv bv l (.returned (.int .i64 ((freeI l : Int) + 1))) (w1.setCell ⟨g, freeI l, none⟩ (.pointer (some ⟨nb, 0, none⟩))) from by
      refine ⟨rfl, _, blk_set_other hb1 _ _ (Ne.symm hgf), ?_, (hf1.mono (fun _ _ e => .inl e)).trans' (frSet _ _ _ _) (fun k _ e => .inr (by rw [e]; rfl)), .inl rfl⟩
      unfold addI
      rw [if_pos hfree, List.length_set, List.map_set]
      exact hst)
    rw [show idxV l = (freeI l : Int) by unfold idxV; rw [if_pos hfree]] at hidx
    have hk0 : (0 : Int) ≤ (freeI l : Int) := by omega
    have hk1 : (freeI l : Int) < (l.length : Int) := by omega
    clear hst hl hl1
    generalize freeI l = q at *
    subst hw1
    go_enter Tryz.func29, Tryz.ntmps29
    go_wp2_with fail
    refine hidx.mono ?_
    rintro e w' ⟨rfl, rfl⟩
    clear hidx
    go_wp2_with fail
    go_ret
    exact hres.out
  · have hfe : freeI l = l.length := by have := freeI_le l; omega
    rw [show idxV l = -1 by unfold idxV; rw [if_neg hfree]] at hidx
    obtain ⟨w2, hw2⟩ : ∃ w2, w2 = w1.alloc (.cells #[.pointer (some ⟨nb, 0, none⟩)] 56) := ⟨_, rfl⟩
    have hb2 : w2.heap[w1.heap.size]? = some (.cells #[.pointer (some ⟨nb, 0, none⟩)] 56 (0, 0)) := by rw [hw2]; exact blk_new _ _
    have hl2 : w2.ownsRow 0 56 1 (.slice la l.length lc) l.length (l.map encP) := by rw [hw2]; exact hl1.alloc _
    have hbf2 : w2.heap[f]? = some (.cells #[.slice la l.length lc, .int .i64 ((cnt : Int) + 1), rv, bv] 77 (0, 0)) := by rw [hw2]; exact blk_alloc hb1 _
    have hsz2 : w2.heap.size = w.heap.size + 1 := by rw [hw2]; simp [hsz1]
    have hf2 : Fr (fun k => k = f) w w2 := by rw [hw2]; exact hf1.alloc _
    have hfin := hide (show ∀ v5 w5, w5.ownsRow 0 56 1 v5 (l.length + 1) (l.map encP ++ [.pointer (some ⟨nb, 0, none⟩)]) → Fr (fun k => (Value.slice la l.length lc).ownBlock = some k) w2 w5 → (v5.ownBlock = (Value.slice la l.length lc).ownBlock ∨ v5.ownBlock = some w2.heap.size) →
        AddPost w f nb (.slice la l.length lc) cnt rv bv l (.returned (.int .i64 ((l.length : Int) + 1))) (w5.setCell ⟨f, 0, none⟩ v5) from fun v5 w5 h1 h2 h3 => by
      have hb5 := h2.get hbf2 (fun e => hlf f e rfl)
      have hlt := blk_lt hb1
      have hv5 : ∀ g, v5.ownBlock = some g → g ≠ f := fun g e => by
        rcases h3 with h3 | h3
        · exact hlf g (h3 ▸ e)
        · rw [h3] at e; cases e; omega
      refine ⟨by rw [hfe], v5, by rw [blk_set hb5]; rfl, ?_, ((hf2.mono (fun _ _ e => .inl e)).trans' h2 (fun k _ e => .inr e)).trans' (frSet _ _ _ _) (fun k _ e => .inl e), ?_⟩
      · unfold addI
        rw [if_neg hfree, List.length_append, List.map_append]
        exact own_frame h1 (frSet _ _ _ _) hv5
      · rcases h3 with h3 | h3
        · exact .inl h3
        · exact .inr (by rw [h3, hsz2]))
    clear hfe
    have Hl2 := hide hl2
    obtain ⟨n, hn⟩ : ∃ n, n = l.length := ⟨_, rfl⟩
    have Hn := hide hn
    clear hl hl1 hl2
    subst hw2
    subst hw1
    go_enter Tryz.func29, Tryz.ntmps29
    go_wp2_with fail
    refine hidx.mono ?_
    rintro e w' ⟨rfl, rfl⟩
    clear hidx
    go_wp2_with (at_builtin; refine wpList_append_src rfl _ _ 73 rfl 0 56 i0 _ 1 8 (by kernel_rfl) hinf hz0 hz1 hz2 rfl (by decide) _ _ _ rfl Hl2.out _ 1 1 [.pointer (some ⟨nb, 0, none⟩)] rfl ?qc1 ?qc2 ?qc3 ?qc4 ?qc5 ?qc6 ?_)
    case qc1 => rfl
    case qc2 =>
      refine .inr ⟨_, rfl, fun j u hj => ?_⟩
      rw [Addr.add_lit, Nat.zero_add]
      cases j with
      | zero => cases hj; rw [← hsz1, blk_cell hb2]; rfl
      | succ j => simp at hj
    case qc3 => intro u hu; simp at hu; rw [hu]; rfl
    case qc4 => unfold maxLen; omega
    case qc5 => omega
    case qc6 => exact Nat.zero_le _
    intro v5 w5 hown hfr hat
    have hb5 := hfr.get hbf2 (fun e => hlf f e rfl)
    have c50 : w5.cell? ⟨f, 0, none⟩ = some (.slice la l.length lc) := by rw [blk_cell hb5]; rfl
    have z5 := blk_frozen hb5
    have hfin5 := hide (hfin.out v5 w5 hown hfr (hat.imp id (fun e => e.trans (by rw [hsz2]))))
    obtain ⟨a5, c5, rfl⟩ := own_form hown
    clear hfin hown hfr hat
    go_wp2_with fail
    go_ret
    exact hfin5.out
end Go.Proofs.YtlhmmiolnbgloaaGreatDoor
