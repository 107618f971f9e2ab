/- slices.Repeat of one number, as gate.Kernel.Table calls it. Conditions: the contract's own premises. -/
import Derived.Test.YtffekmjoenppaaaGreatDoorKerDrop
import Derived.Laws.CopyRow
import Derived.Test.YtffekmjoenppaaaGreatDoorKerKeepB
namespace Go.Proofs.YtffekmjoenppaaaGreatDoor
open Go.RowKit

attribute [local go_sem] Oper.semAt_some

set_option maxRecDepth 100000 in
set_option maxHeartbeats 1000000 in
theorem mul64_32 (w : World) : Calls Tryz.prog 83 #[.int .u64 1, .int .u64 32] w fun e w' => e = .returned (.tuple #[.int .u64 0, .int .u64 32]) ∧ Fr (fun _ => False) w w' := by
  have g1 : bits .and .u64 1 4294967295 = 1 := by decide +kernel
  have g2 : bits .and .u64 32 4294967295 = 32 := by decide +kernel
  have g3 : bits .and .u64 0 4294967295 = 0 := by decide +kernel
  go_enter Tryz.func83, Tryz.ntmps83
  go_wp2_with fail
  go_returns
  exact ⟨rfl, Fr.refl _ _⟩
set_option maxRecDepth 100000 in
set_option maxHeartbeats 1000000 in
theorem mul_32 (w : World) : Calls Tryz.prog 37 #[.int .u64 1, .int .u64 32] w fun e w' => e = .returned (.tuple #[.int .u64 0, .int .u64 32]) ∧ Fr (fun _ => False) w w' := by
  have hm := hide (mul64_32 w)
  go_enter Tryz.func37, Tryz.ntmps37
  go_wp2_with fail
  refine hm.out.mono ?_
  rintro e w1 ⟨rfl, hf1⟩
  go_wp2_with fail
  go_returns
  exact ⟨rfl, hf1⟩
def neg1 : Value := .int .i64 (-1)
def repC (n : Nat) : Array Value := (List.replicate n neg1 ++ List.replicate (32 - n) (Value.int .i64 0)).toArray
theorem repC_size {n : Nat} (h : n ≤ 32) : (repC n).size = 32 := by unfold repC; simp; omega
theorem repC_get {n j : Nat} (h : j < n) : (repC n)[j]? = some neg1 := by
  unfold repC
  rw [List.getElem?_toArray, List.getElem?_append_left (by simpa using h), List.getElem?_replicate, if_pos h]
theorem repC_more {n m : Nat} (h : n + m ≤ 32) : ((repC n).toList.take n ++ List.replicate m neg1 ++ (repC n).toList.drop (n + m)).toArray = repC (n + m) := by
  unfold repC
  congr 1
  rw [List.toList_toArray, List.take_left' (by simp), List.drop_append, List.drop_of_length_le (by simp), List.length_replicate, List.nil_append, List.drop_replicate, ← List.replicate_append_replicate]
  congr 2
  omega
theorem copy_rep {W : World} {b n m dLen dCap sLen sCap : Nat} {a : Addr} (hb : W.heap[b]? = some (.cells (repC n) 3 (0, 0))) (h : n + m ≤ 32) (hm : m = Nat.min sLen dLen) (hs : ∀ j, j < m → W.cell? (a.add j) = some neg1) (ty : TypeId) :
    (Builtin.copy_ #[22, 22] ty #[.slice (some ⟨b, n, none⟩) dLen dCap, .slice (some a) sLen sCap]).run Tryz.prog W = .ok (.int .i64 m) (W.setRow b (repC (n + m))) := by
  have := run_copy_row (P := Tryz.prog) W 22 22 ty 3 b n dLen dCap a sLen sCap (repC n) 3 (List.replicate m neg1) Tryz.underlying22 (by kernel_rfl) hb (by simpa using hm)
    (fun j v e => by
      rw [List.getElem?_replicate] at e
      split at e
      · cases e; rename_i h1; exact hs j h1
      · cases e) (by rw [repC_size (by omega)]; simp; omega) (fun v e => by rw [List.eq_of_mem_replicate e]; rfl)
  rw [List.length_replicate, repC_more h] at this
  exact this
theorem addr_add (b j : Nat) : (⟨b, 0, none⟩ : Addr).add j = ⟨b, j, none⟩ := by
  unfold Addr.add
  split <;> simp_all
theorem cut_lI {g n cap a : Nat} (ha : a < n) (hn : n ≤ cap) : ∀ w', (Instr.sliceAt 22 (.slice (some ⟨g, 0, none⟩) n cap) (some (.int .i64 a)) none none).run Tryz.prog w' = .ok (.slice (some ⟨g, a, none⟩) (n - a) (cap - a)) w' := by
  intro w'
  have hsz : ∀ w', (sizeOf 3).run Tryz.prog w' = .ok 1 w' := fun w' => by kernel_rfl
  have he : Tryz.prog.elem 22 = 3 := by kernel_rfl
  have ht : Tryz.prog.underlying 22 = some (.slice (Tryz.prog.elem 22)) := by kernel_rfl
  rw [run_sliceAt_slice (h := ht), run_slice_l (ht := ht) (h0 := by omega) (h1 := by omega), he, hsz]
  have e2 : ((a : Int)).toNat = a := by omega
  simp only [Result.andThen_ok, sliced, e2, Nat.mul_one, Option.map_some]
  rw [if_neg (by omega)]
  have hadd : (⟨g, 0, none⟩ : Addr).add a = ⟨g, a, none⟩ := by unfold Addr.add; split <;> simp_all
  rw [hadd]
theorem cut_hI {a : Option Addr} {n cap k : Nat} (hk : k ≤ n) (hn : n ≤ cap) : ∀ w', (Instr.sliceAt 22 (.slice a n cap) none (some (.int .i64 k)) none).run Tryz.prog w' = .ok (.slice a k cap) w' := by
  intro w'
  have hsz : ∀ w', (sizeOf 3).run Tryz.prog w' = .ok 1 w' := fun w' => by kernel_rfl
  have he : Tryz.prog.elem 22 = 3 := by kernel_rfl
  have ht : Tryz.prog.underlying 22 = some (.slice (Tryz.prog.elem 22)) := by rw [he]; exact Tryz.underlying22
  rw [run_sliceAt_slice (h := ht), run_slice_h (ht := ht) (h0 := by omega) (h2 := by omega), he, hsz]
  cases a <;> simp [sliced, Addr.add]
def RepRel (w : World) (b : Nat) (i : Value) (wr : World) : Prop :=
  ∃ n : Nat, i = .int .i64 n ∧ (n = 1 ∨ n = 2 ∨ n = 4 ∨ n = 8 ∨ n = 16 ∨ n = 32) ∧ wr.heap[b]? = some (.cells (repC n) 3 (0, 0)) ∧ Fr (fun _ => False) w wr
set_option maxRecDepth 100000 in
set_option maxHeartbeats 1000000 in
theorem rep_any (w : World) (g : Nat) (hg : w.cell? ⟨g, 0, none⟩ = some neg1) : Calls Tryz.prog 16 #[.slice (some ⟨g, 0, none⟩) 1 1, .int .i64 32] w fun e w' => ∃ b, e = .returned (.slice (some ⟨b, 0, none⟩) 32 32) ∧ w.heap.size ≤ b ∧ w'.heap[b]? = some (.cells (repC 32) 3 (0, 0)) ∧ Fr (fun _ => False) w w' := by
  have hm := hide (mul_32 w)
  have hmk : ∀ w : World, (Instr.makeSlice 22 (.int .i64 32) (.int .i64 32)).run Tryz.prog w = .ok (.slice (some ⟨w.heap.size, 0, none⟩) 32 32) (w.alloc (.cells (madeCells #[.int .i64 0] 32) 3)) := fun w => run_make_row' (P := Tryz.prog) 22 3 (.int .i64 0) 8 Tryz.underlying22 (by kernel_rfl) rfl .i64 .i64 32 (by omega) (by omega) w
  go_enter Tryz.func16, Tryz.ntmps16
  go_wp2_with fail
  refine hm.out.mono ?_
  rintro e w1 ⟨rfl, hf1⟩
  obtain ⟨W2, hW2⟩ : ∃ W2, W2 = w1.alloc (.cells (madeCells #[.int .i64 0] 32) 3) := ⟨_, rfl⟩
  have b2 : W2.heap[w1.heap.size]? = some (.cells (repC 0) 3 (0, 0)) := by
    rw [hW2, show repC 0 = madeCells #[.int .i64 0] 32 by kernel_rfl]
    exact blk_new _ _
  have hg2 : W2.cell? ⟨g, 0, none⟩ = some neg1 := by
    rw [World.cell?_of_block (w := w) ((hf1.trans (show Fr (fun _ => False) w1 W2 by rw [hW2]; exact (Fr.refl _ _).alloc _)).block _ (World.block_lt_of_cell? _ _ hg) (fun h => h))]
    exact hg
  have hc0 : ∀ ty, (Builtin.copy_ #[22, 22] ty #[.slice (some ⟨w1.heap.size, 0, none⟩) 32 32, .slice (some ⟨g, 0, none⟩) 1 1]).run Tryz.prog W2 = .ok (.int .i64 1) (W2.setRow w1.heap.size (repC 1)) := fun ty =>
    copy_rep (n := 0) (m := 1) b2 (by decide) rfl (fun j hj => by rw [addr_add, show j = 0 by omega]; exact hg2) ty
  have hfw := hf1.size
  have h1r : RepRel w w1.heap.size (.int .i64 1) (W2.setRow w1.heap.size (repC 1)) := ⟨1, rfl, .inl rfl, setRow_heap _ _ _ _ _ _ b2, (hf1.trans (show Fr (fun _ => False) w1 W2 by rw [hW2]; exact (Fr.refl _ _).alloc _)).trans' (setRow_fr W2 _ _ _ _ b2 (fun b => w.heap.size ≤ b) hfw) (fun i hi e => by omega)⟩
  have H1r := hide h1r
  have HW2 := hide hW2
  rw [hW2] at hc0
  clear h1r b2 hg2 hf1 hm hW2
  go_wp2_with fail
  rw [← HW2.out]
  go_loopg [8] 32 (fun gk i wr => ∃ n : Nat, gk + n = 33 ∧ i = .int .i64 n ∧ (n = 1 ∨ n = 2 ∨ n = 4 ∨ n = 8 ∨ n = 16 ∨ n = 32) ∧ wr.heap[w1.heap.size]? = some (.cells (repC n) 3 (0, 0)) ∧ Fr (fun _ => False) w wr)
  case atStart =>
    obtain ⟨n, e, r⟩ := H1r.out
    cases e
    exact ⟨1, rfl, rfl, r⟩
  case round =>
    clear hc0 H1r hmk hg HW2
    obtain ⟨n, hgk, rfl, hn, hb, hfr⟩ := hrel
    by_cases hn32 : n = 32
    · subst hn32
      have hl := hide hb
      have hl2 := hide hfr
      clear hb hfr hn hgk
      go_wp2_with fail
      go_returns
      exact ⟨_, rfl, hfw, hl.out, hl2.out⟩
    · have hn16 : n ≤ 16 := by omega
      have hn1 : 1 ≤ n := by omega
      have hcp : ∀ ty, (Builtin.copy_ #[22, 22] ty #[.slice (some ⟨w1.heap.size, n, none⟩) (32 - n) (32 - n), .slice (some ⟨w1.heap.size, 0, none⟩) n 32]).run Tryz.prog wr.drew = .ok (.int .i64 n) (wr.drew.setRow w1.heap.size (repC (n + n))) := fun ty =>
        copy_rep (blk_drew hb) (by omega) (by show n = min n (32 - n); omega) (fun j hj => by rw [addr_add, blk_cell (blk_drew hb)]; exact repC_get hj) ty
      have hfin : ∃ n' : Nat, (33 - (n + n)) + n' = 33 ∧ (.int .i64 ((n : Int) + n) : Value) = .int .i64 n' ∧ (n' = 1 ∨ n' = 2 ∨ n' = 4 ∨ n' = 8 ∨ n' = 16 ∨ n' = 32) ∧ (wr.drew.setRow w1.heap.size (repC (n + n))).heap[w1.heap.size]? = some (.cells (repC n') 3 (0, 0)) ∧ Fr (fun _ => False) w (wr.drew.setRow w1.heap.size (repC (n + n))) :=
        ⟨n + n, by omega, by rw [Int.natCast_add], by omega, setRow_heap _ _ _ _ _ _ (blk_drew hb), hfr.drew.trans' (setRow_fr wr.drew _ _ _ _ (blk_drew hb) (fun b => w.heap.size ≤ b) hfw) (fun i hi e => by omega)⟩
      have Hfin := hide hfin
      have hs1 := cut_lI (g := w1.heap.size) (n := 32) (cap := 32) (a := n) (by omega) (by omega)
      have hs2 := cut_hI (a := some ⟨w1.heap.size, 0, none⟩) (n := 32) (cap := 32) (k := n) (by omega) (by omega)
      have hlt : (n : Int) < 32 := by omega
      clear hb hfr hn hfin
      go_upto_region 9 with (fail)
      refine region_tree (fun _ => True) [0, 1, 2, 3, 4, 5, 6] 1 8 (by kernel_rfl) (by kernel_rfl) (fun _ _ d _ _ h => by cases d <;> exact h) trivial ?_
      simp only [List.map_cons, List.map_nil, List.getD_cons_zero, List.getD_cons_succ, List.drop_succ_cons, List.drop_zero]
      repeat go_big_quiet_step (fail)
      refine wpQuiet_nil ?_
      refine tree_one' 7 (by kernel_rfl) (by decide) (by simp) rfl (fun Kc hK => ?_)
      simp only [List.getD_cons_zero, List.getD_cons_succ]
      go_wp2_with fail
      refine hK _ _ trivial ?_
      refine tree_end (by kernel_rfl) ?_
      go_wp2_with fail
      go_roundg (33 - (n + n))
      case rel => exact Hfin.out
      case measure => omega
end Go.Proofs.YtffekmjoenppaaaGreatDoor

/- gate.Kernel.Table. Conditions: the contract's own premises. -/
namespace Go.Proofs.YtffekmjoenppaaaGreatDoor
open Go.RowKit Go.Shelf

attribute [local go_sem] Oper.semAt_some

/-- Which descriptions descriptors name, as far as p. -/
def tabN (t : TSt) (p fd : Nat) : Int := if fd < p then (match t fd with | none => -1 | some (j, _) => (j : Int)) else -1
def tabI (t : TSt) (p : Nat) : Array Value := ((List.range 32).map fun fd => Value.int .i64 (tabN t p fd)).toArray
theorem tabI_get (t : TSt) (p fd : Nat) : (tabI t p)[fd]? = if fd < 32 then some (.int .i64 (tabN t p fd)) else none := by
  unfold tabI
  rw [List.getElem?_toArray, List.getElem?_map]
  by_cases e : fd < 32
  · rw [if_pos e, List.getElem?_range e]; rfl
  · rw [if_neg e, List.getElem?_eq_none (by simpa using e)]; rfl
theorem tabI_zero (t : TSt) : tabI t 0 = repC 32 := by
  apply Array.ext_getElem?
  intro fd
  rw [tabI_get]
  unfold tabN
  rw [if_neg (Nat.not_lt_zero _)]
  by_cases e : fd < 32
  · rw [if_pos e, repC_get e]; rfl
  · rw [if_neg e, Array.getElem?_eq_none (by rw [repC_size (Nat.le_refl _)]; omega)]
theorem tabI_step {t : TSt} {p x j : Nat} {m : Bool} (hp : p ≤ x) (hx : x < 32) (hn : ∀ y, p ≤ y → y < x → t y = none) (hj : t x = some (j, m)) : (tabI t p).setIfInBounds x (.int .i64 j) = tabI t (x + 1) := by
  apply Array.ext_getElem?
  intro fd
  have hs : (tabI t p).size = 32 := by unfold tabI; simp
  by_cases e : fd = x
  · rw [e, Array.getElem?_setIfInBounds_self_of_lt (by omega), tabI_get, if_pos hx]
    unfold tabN
    rw [if_pos (Nat.lt_succ_self _), hj]
  · rw [Array.getElem?_setIfInBounds_ne (Ne.symm e), tabI_get, tabI_get]
    by_cases e32 : fd < 32
    · rw [if_pos e32, if_pos e32]
      unfold tabN
      by_cases e1 : fd < p
      · rw [if_pos e1, if_pos (by omega)]
      · rw [if_neg e1]
        by_cases e2 : fd < x + 1
        · rw [if_pos e2, hn fd (by omega) (by omega)]
        · rw [if_neg e2]
    · rw [if_neg e32, if_neg e32]
theorem tabI_end {t : TSt} {p : Nat} (hp : p ≤ 32) (hn : ∀ y, p ≤ y → y < 32 → t y = none) : tabI t p = tabI t 32 := by
  apply Array.ext_getElem?
  intro fd
  rw [tabI_get, tabI_get]
  by_cases e32 : fd < 32
  · rw [if_pos e32, if_pos e32]
    unfold tabN
    rw [if_pos e32]
    by_cases e1 : fd < p
    · rw [if_pos e1]
    · rw [if_neg e1, hn fd (by omega) e32]
  · rw [if_neg e32, if_neg e32]
structure TabRI (w : World) (k : Nat) (K : KQ) (L : KLay) (t : TSt) (tb rb vb box s : Nat) (W : World) : Prop where
  le : s ≤ 32
  F : KF W k K L
  r : W.heap[rb]? = some (.cells (tabI t s) 3 (0, 0))
  v : W.heap[vb]? = some (.cells #[.slice (some ⟨rb, 0, none⟩) 32 32] 22 (0, 0))
  bx : W.heap[box]? = some (.cells #[.pointer (some ⟨tb, 0, none⟩)] 58 (0, 0))
  fr : Fr (fun _ => False) w W
def TablePost (w : World) (t : TSt) (e : Ending) (w' : World) : Prop :=
  ∃ b, e = .returned (.slice (some ⟨b, 0, none⟩) 32 32) ∧ w.heap.size ≤ b ∧ w'.heap[b]? = some (.cells (tabI t 32) 3 (0, 0)) ∧ Fr (fun _ => False) w w'
theorem TabRI.frame {T : Nat → Prop} {w W W' : World} {k : Nat} {K : KQ} {L : KLay} {t : TSt} {tb rb vb box s z : Nat} (h : TabRI w k K L t tb rb vb box s W) (hf : Fr T W W') (hT : ∀ b, T b → z ≤ b) (h1 : rb < z) (h2 : vb < z) (h3 : box < z) (h4 : w.heap.size ≤ z) (hn : ∀ b, w.heap.size ≤ b → L.o b = none) : TabRI w k K L t tb rb vb box s W' :=
  ⟨h.le, h.F.still hf (fun b u e x => by have := hn b (Nat.le_trans h4 (hT b x)); rw [this] at e; cases e), hf.get h.r (fun e => by have := hT _ e; omega), hf.get h.v (fun e => by have := hT _ e; omega), hf.get h.bx (fun e => by have := hT _ e; omega),
    h.fr.trans' hf fun b hb e => by have := hT b e; omega⟩
set_option maxRecDepth 100000 in
set_option maxHeartbeats 2000000 in
theorem ktable_any (w : World) (k : Nat) (K : KQ) (L : KLay) (h : KF w k K L) (hfd : FdsOk K) (pid : Int) (hp : -9223372036854775808 ≤ pid ∧ pid ≤ 9223372036854775807) (hl : livesB K pid = true) (i : Nat) (hi : pid = i) (h1 : 1 ≤ i) (h2 : i ≤ K.qn) :
    Calls Tryz.prog 8 #[ptrAt k, .int .i64 pid] w (TablePost w (K.proc i).fds) := by
  have hlv := lives_any w k K L h (Nat.le_trans h1 h2) pid hp
  unfold livesV at hlv
  rw [if_pos hl, hi, show ((i : Int)).toNat = i from rfl] at hlv
  have Hlv := hide hlv
  have H := hide h
  have Hfd := hide hfd
  clear hlv h hfd
  rw [hi]
  unfold ptrAt at *
  refine (callsIn_wide (n := 5)).1 ?_
  refine callsIn_of_wp_marks Tryz.func8 rfl trivial ?_ rfl
  simp only [Tryz.ntmps8, List.size_toArray, List.length_cons, List.length_nil, Nat.reduceAdd, Nat.reduceSub, Array.replicate_succ, Array.replicate_zero, List.push_toArray, List.append_toArray, List.nil_append, List.cons_append]
  gi_wp2
  refine ⟨trivial, (callsIn_wide.2 Hlv.out).mono ?_⟩
  rintro e w1 ⟨rfl, rfl⟩
  obtain ⟨wa, hwa⟩ : ∃ wa, wa = w1.alloc (.cells #[neg1] 3 (0, 0)) := ⟨_, rfl⟩
  have hga : wa.cell? ⟨w1.heap.size, 0, none⟩ = some neg1 := by rw [hwa, blk_cell (blk_new _ _)]; rfl
  have hrep := hide (rep_any wa w1.heap.size hga)
  have Hwa := hide hwa
  have hfa := hide (show Fr (fun _ => False) w1 wa by rw [hwa]; exact (Fr.refl _ _).alloc _)
  unfold neg1 at Hwa
  clear hwa hga
  gi_wp2
  rw [← Hwa.out]
  refine ⟨trivial, (callsIn_wide.2 hrep.out).mono ?_⟩
  rintro e w2 ⟨rb, rfl, hrb, hr2, hf2⟩
  have hf12 : Fr (fun _ => False) w1 w2 := hfa.out.trans hf2
  obtain ⟨wv, hwv⟩ : ∃ wv, wv = w2.alloc (.cells #[.slice (some ⟨rb, 0, none⟩) 32 32] 22 (0, 0)) := ⟨_, rfl⟩
  have hf1v : Fr (fun _ => False) w1 wv := by rw [hwv]; exact hf12.alloc _
  have q6 : wv.cell? ⟨L.qb i, 6, none⟩ = some (.pointer (some ⟨L.tb i, 0, none⟩)) := by rw [blk_cell ((H.out.quiet hf1v).hq i h1 h2)]; rfl
  rw [hwv] at q6
  have Hv := hide (show wv.heap[w2.heap.size]? = some (.cells #[.slice (some ⟨rb, 0, none⟩) 32 32] 22 (0, 0)) by rw [hwv]; exact blk_new _ _)
  have Hr := hide (show wv.heap[rb]? = some (.cells (repC 32) 3 (0, 0)) by rw [hwv]; exact blk_alloc hr2 _)
  have Hwv := hide hwv
  have Hf1v := hide hf1v
  have Hrb := hide (And.intro (Nat.le_trans hfa.out.size hrb) (blk_lt hr2))
  have Hzv := hide (show wv.heap.size = w2.heap.size + 1 by rw [hwv]; simp)
  clear hrb hr2 hf2 hf12 hwv hf1v hfa hrep Hwa Hlv
  gi_wp2
  rw [← Hwv.out]
  refine ⟨trivial, (callsIn_wide.2 (all_any _ _)).mono ?_⟩
  rintro e w' ⟨rfl, rfl⟩
  obtain ⟨W0, hW0⟩ : ∃ W0, W0 = wv.alloc (.cells #[.pointer (some ⟨L.tb i, 0, none⟩)] 58 (0, 0)) := ⟨_, rfl⟩
  have z0 : W0.heap.size = wv.heap.size + 1 := by rw [hW0]; simp
  have hzv := Hzv.out
  have hrb := Hrb.out
  have hsz1 : w1.heap.size ≤ wv.heap.size := Hf1v.out.size
  have hn : ∀ b, w1.heap.size ≤ b → L.o b = none := H.out.new
  have h0 : TabRI w1 k K L (K.proc i).fds (L.tb i) rb w2.heap.size (w2.heap.size + 1) 0 W0 := by
    have hf : Fr (fun _ => False) wv W0 := by rw [hW0]; exact (Fr.refl _ _).alloc _
    refine ⟨Nat.zero_le _, (H.out.quiet Hf1v.out).quiet hf, hf.get ?_ (fun e => e), hf.get Hv.out (fun e => e), ?_, Hf1v.out.trans hf⟩
    · rw [tabI_zero]; exact Hr.out
    · rw [hW0]; exact blk_new' _ _ _ hzv.symm
  have H0 := hide h0
  have Hfd' := Hfd.out
  have Hn := hide hn
  clear h0 hn Hr Hv Hwv Hfd
  gi_wp2
  try rw [← hW0]
  clear hW0 q6
  have Hz := hide (And.intro z0 (And.intro hzv (And.intro hrb hsz1)))
  clear z0 hzv hrb hsz1
  refine rf_law (α := Nat × Nat) (σ := Nat) 38 #[.pointer (some ⟨(w2.heap.size + 1), 0, none⟩)] rfl (enters_of Tryz.func38 (by kernel_rfl) rfl) tenc (fun _ => rfl)
    (TStep id (fun _ => tabS L (K.proc i).fds) (fun _ fd => fd + 1)) (TFin id (fun _ => tabS L (K.proc i).fds)) 0 (TabRI w1 k K L (K.proc i).fds (L.tb i) rb w2.heap.size (w2.heap.size + 1)) (fun _ _ => False)
    (fun s A B h hg => h.frame (z := W0.heap.size) hg (fun b e => by rcases e with e | e <;> omega) (by have := Hz.out; omega) (by have := Hz.out; omega) (by have := Hz.out; omega) (by have := Hz.out; omega) Hn.out) (fun _ _ _ h _ => h) (fun _ _ _ _ _ h _ _ => h) H0.out
    (fun l J Jx W hJI _ _ hY h0 => all1_iter _ (by omega) _ (some ⟨L.tb i, 0, none⟩) id (fun _ => tabS L (K.proc i).fds) (fun _ fd => fd + 1) (fun _ _ => rfl) (TabRI w1 k K L (K.proc i).fds (L.tb i) rb w2.heap.size (w2.heap.size + 1))
      (fun s W h => ⟨.inr ⟨L.tb i, _, rfl, h.F.ht i h1 h2⟩, by rw [blk_cell h.bx]; rfl⟩) 0 rfl l J Jx W hJI hY h0)
    (fun x => { tmps := #[.pointer (some ⟨k, 0, none⟩), .int .i64 i, undef, undef, .slice none 0 0, .pointer (some ⟨L.qb i, 0, none⟩), .pointer (some ⟨w2.heap.size, 0, none⟩), .int .i64 x.1, .pointer (some ⟨x.2, 0, none⟩), .pointer (some ⟨k, 0, none⟩), .int .i64 i, .pointer (some ⟨L.qb i, 0, none⟩), .pointer (some ⟨L.qb i, 0, none⟩), .bool false, .slice (some ⟨w1.heap.size, 0, none⟩) 1 1, .slice (some ⟨rb, 0, none⟩) 32 32, .pointer (some ⟨L.qb i, 0, none⟩), .pointer (some ⟨L.qb i, 0, none⟩), .pointer (some ⟨L.qb i, 6, none⟩), .pointer (some ⟨L.tb i, 0, none⟩), .func (.func 38) #[] #[.pointer (some ⟨(w2.heap.size + 1), 0, none⟩)], .int .i64 x.1, .pointer (some ⟨x.2, 0, none⟩), undef, undef, undef, undef, undef, undef, undef, undef], defers := [] }) ?assign ?body ?done ?stop
  case assign =>
    intro l x W Kc hK
    gi_wp2
    simpa [tenc] using hK
  case body =>
    rintro l s x s' W ⟨hp1, hp2, hp3, ⟨m, hp4⟩, rfl⟩ hi hsz
    simp only [id] at hp1 hp3
    obtain ⟨j, hj, hxj⟩ := tabS_some hp4
    obtain ⟨hj1, hj2⟩ := Hfd' i x.1 j m h1 h2 hj
    have e7 : W.drew.cell? ⟨x.2, 7, none⟩ = some (.int .i64 j) := by rw [hxj, blk_cell (blk_drew (hi.F.hd j hj1 hj2))]; rfl
    have ev : W.drew.cell? ⟨w2.heap.size, 0, none⟩ = some (.slice (some ⟨rb, 0, none⟩) 32 32) := by rw [blk_cell (blk_drew hi.v)]; rfl
    have er : W.drew.cell? ⟨rb, x.1, none⟩ = some (.int .i64 (tabN (K.proc i).fds s x.1)) := by rw [blk_cell (blk_drew hi.r), tabI_get, if_pos hp2]
    have zr : W.drew.frozen? ⟨rb, x.1, none⟩ = false := blk_frozen (blk_drew hi.r) _
    have hz := Hz.out
    have hnext : TabRI w1 k K L (K.proc i).fds (L.tb i) rb w2.heap.size (w2.heap.size + 1) (x.1 + 1) (W.drew.setCell ⟨rb, x.1, none⟩ (.int .i64 j)) := by
      have hf : Fr (fun b => b = rb) W (W.drew.setCell ⟨rb, x.1, none⟩ (.int .i64 j)) := ((Fr.refl (fun b => b = rb) W).drew).setCell (p := ⟨rb, x.1, none⟩) (.inl rfl) _
      have hr2 := blk_set (blk_drew hi.r) x.1 (.int .i64 (j : Int))
      rw [tabI_step hp1 hp2 (fun y a1 a2 => tabS_none.1 (hp3 y a1 a2)) hj] at hr2
      have hne1 : w2.heap.size ≠ rb := by omega
      have hne2 : (w2.heap.size + 1) ≠ rb := by omega
      exact ⟨by omega, hi.F.still hf (fun b u e1 e2 => by rw [e2, Hn.out rb hz.2.2.1.1] at e1; cases e1), hr2, hf.get hi.v hne1, hf.get hi.bx hne2, hi.fr.trans' hf (fun b hb e => by rw [e] at hb; omega)⟩
    have hk0 : (W.drew.setCell ⟨rb, x.1, none⟩ (.int .i64 j)).heap[W0.heap.size]? = W.heap[W0.heap.size]? := Below.heap_setCell _ _ _ _ (by simp; omega)
    have hk1 : (W.drew.setCell ⟨rb, x.1, none⟩ (.int .i64 j)).heap[W0.heap.size + 1]? = W.heap[W0.heap.size + 1]? := Below.heap_setCell _ _ _ _ (by simp; omega)
    have hlt : ((x.1 : Nat) : Int) < 32 := by omega
    have hlt' : x.1 < 32 := hp2
    have Hnext := hide (And.intro hk0 (And.intro hk1 hnext))
    generalize tabN (K.proc i).fds s x.1 = tn at *
    clear hnext hk0 hk1 hi hj hp3 hp4 hxj hp2
    gi_wp2_with fail
    refine round_any (by kernel_rfl) (by kernel_rfl) ?hlo ?_
    case hlo => exact fun ⟨_, _, h9⟩ => h9
    refine any_mix [] [0, 1, 2, 3, 4, 5, 6] 7 (by kernel_rfl) (fun _ _ d _ _ h => by cases d <;> exact h) ?_
    simp only [List.map_cons, List.map_nil, List.getD_cons_zero, List.getD_cons_succ, List.drop_succ_cons, List.drop_zero]
    refine wpQuiet_nil ?_
    repeat go_big_quiet_step (fail)
    refine wpQuiet_nil ?_
    go_wp2
    have hzz : W0.heap.size = w2.heap.size + 1 + 1 := by omega
    have hn0 := Hnext.out.1
    have hn1 := Hnext.out.2.1
    rw [hzz] at hn0 hn1
    exact ⟨⟨hn0, hn1⟩, Hnext.out.2.2⟩
  case done =>
    rintro s W hfin hi hK
    have ev : W.cell? ⟨w2.heap.size, 0, none⟩ = some (.slice (some ⟨rb, 0, none⟩) 32 32) := by rw [blk_cell hi.v]; rfl
    have hr := hi.r
    rw [tabI_end hi.le (fun y a1 a2 => tabS_none.1 (hfin y a1 a2))] at hr
    have Hr := hide hr
    have Hf := hide hi.fr
    have hz := Hz.out
    clear hi hr hfin
    gi_wp2
    refine ⟨by simp, .inl ⟨_, _, rfl, run_takeDeferred hK, ?_⟩⟩
    refine ⟨_, results_tmp rfl _ _ _, rb, rfl, hz.2.2.1.1, (World.putObj_heap_other (by omega)).trans Hr.out, Hf.out.trans' (fr_putObj (S := fun b => b = W0.heap.size) _ rfl) (fun b hb e => by omega)⟩
  case stop =>
    intro c W h
    exact h.elim
end Go.Proofs.YtffekmjoenppaaaGreatDoor
