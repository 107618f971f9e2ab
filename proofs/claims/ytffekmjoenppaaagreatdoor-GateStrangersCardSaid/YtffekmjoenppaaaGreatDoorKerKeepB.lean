/- Contract of table.Table[*shyard/gate.desc].Copy. Conditions: the contract's own premises. -/
import Derived.Test.YtffekmjoenppaaaGreatDoorGTabX
import Derived.Test.YtffekmjoenppaaaGreatDoorOwn
import Derived.Deep.RegionHeld3
import Derived.Deep.Cut
import Derived.Laws.Rows
import Derived.Laws.PanicsMore
import Derived.Test.YtffekmjoenppaaaGreatDoorFilesA
import Derived.Test.YtffekmjoenppaaaGreatDoorKerL
import Derived.OwnWalkIn
import Derived.Test.YtffekmjoenppaaaGreatDoorKerDrop
import Derived.Test.YtffekmjoenppaaaGreatDoorKerDropC
import Derived.Test.YtffekmjoenppaaaGreatDoorKerOpenA
import Derived.Test.YtffekmjoenppaaaGreatDoorKerDup
namespace Go.Proofs.YtffekmjoenppaaaGreatDoor
open Go.RowKit

/-- An element of an array by value, one cell an element. -/
theorem run_index_arr {P : Program} (t e : TypeId) (n : Nat) (cs : Array Value) (i : Nat) (v : Value) (w : World) (h : P.underlying t = some (.array n e)) (hs : ∀ w, (sizeOf e).run P w = .ok 1 w) (ha : ∀ w, (isAgg e).run P w = .ok false w)
    (hi : i < n) (hv : cs[i]? = some v) : (Instr.index t (.agg cs) (.int .i64 i)).run P w = .ok v w := by
  have hn : (0 : Int) ≤ (i : Int) ∧ (i : Int) < (n : Int) := by omega
  simp [Instr.index, run_underlying h, asIntOf, hi, hv, hs, ha, go_sem]
def stTo (st : TSt) (k : Nat) : TSt := fun i => if i < k then st i else none
theorem stTo_eq (st : TSt) (k i : Nat) : stTo st k i = if i < k then st i else none := rfl
theorem stTo_same {st : TSt} {k : Nat} (h : st k = none) : stTo st (k + 1) = stTo st k := by
  funext i
  rw [stTo_eq, stTo_eq]
  by_cases h1 : i < k
  · rw [if_pos h1, if_pos (by omega)]
  · by_cases h2 : i < k + 1
    · have : i = k := by omega
      subst this
      rw [if_pos h2, if_neg h1, h]
    · rw [if_neg h1, if_neg h2]
theorem stTo_set (st : TSt) (k : Nat) : stTo st (k + 1) = (stTo st k).set k (st k) := by
  funext i
  rw [stTo_eq, set_eq, stTo_eq]
  by_cases h1 : i < k
  · rw [if_pos h1, if_pos (by omega), if_neg (by omega)]
  · by_cases h2 : i < k + 1
    · have : i = k := by omega
      subst this
      rw [if_pos h2, if_pos rfl]
    · rw [if_neg h1, if_neg h2, if_neg (by omega)]
def CopyPost (w : World) (st : TSt) (e : Ending) (w' : World) : Prop :=
  e = .returned (.pointer (some ⟨w.heap.size, 0, none⟩)) ∧ TabAt w' w.heap.size st (fun k => w.heap.size ≤ k) ∧ Fr (fun _ => False) w w'
def CopyRel (w : World) (st : TSt) (i : Value) (wr : World) : Prop :=
  ∃ k : Nat, k ≤ 32 ∧ i = .int .i64 k ∧ TabAt wr w.heap.size (stTo st k) (fun k => w.heap.size ≤ k) ∧ Fr (fun _ => False) w wr
set_option maxRecDepth 100000 in
set_option maxHeartbeats 2000000 in
theorem copy_any (w : World) (t : Nat) (st : TSt) (S : Nat → Prop) (ht : TabAt w t st S) :
    Calls Tryz.prog 63 #[.pointer (some ⟨t, 0, none⟩)] w (CopyPost w st) := by
  obtain ⟨p, cs, htf⟩ := ht
  go_enter Tryz.func63, Tryz.ntmps63
  go_wp2_with fail
  refine (new_any w).mono ?_
  rintro e w1 ⟨rfl, hw1⟩
  have ht1 := TabF.new w (fun k => w.heap.size ≤ k) (fun _ h => h) w1 hw1
  have hf1 : Fr (fun _ => False) w w1 := by rw [hw1]; exact (Fr.refl _ _).alloc _
  have htf1 := htf.frame hf1 (fun _ _ _ e => e)
  clear hw1
  go_upto_region 4 with fail
  have hi32 : (Tryz.prog.info? 93).map (·.size) = some cs.size := by rw [htf.hcs]; kernel_rfl
  have hi32 := hide hi32
  go_wp2_with (refine wpList_load_row rfl 93 _ rfl t rfl 95 cs (0, 0) _ htf1.hb Tryz.underlying93 rfl hi32.out ?_)
  have hcs := htf.hcs
  have hcc := hide htf.hc
  clear hi32 htf1
  go_loopw [14] (fun i wr => CopyRel w st i wr) (fun i _ => 32 - (intOf i).toNat)
  case atStart => exact ⟨0, by omega, rfl, by obtain ⟨p, cs, h⟩ := ht1; exact ⟨p, cs, h.ext (fun i _ => by rw [stTo_eq, if_neg (by omega)])⟩, hf1⟩
  case round =>
    clear ht1 hf1
    obtain ⟨k, hk, rfl, ⟨pc, cc, htc⟩, hfr⟩ := hrel
    by_cases h1 : k < 32
    · have hck := hcc.out k h1
      have htw := htf.frame hfr (fun _ _ _ e => e)
      have hidx := run_index_arr (P := Tryz.prog) 93 92 32 cs k _ wr Tryz.underlying93 (fun _ => by kernel_rfl) (fun _ => by kernel_rfl) h1 hck
      have hst' := hide (stTo_set st k)
      rcases hst : st k with _ | ⟨x, m⟩
      · rw [hst] at hidx
        simp only [tptrOf] at hidx
        clear hck
        have hrel' : CopyRel w st (.int .i64 ((k : Int) + 1)) wr := ⟨k + 1, by omega, by go_num, by rw [stTo_same hst]; exact ⟨pc, cc, htc⟩, hfr⟩
        have hrel' := hide hrel'
        go_wp2
        go_roundw
        case rel => exact hrel'.out
        case measure => simp [intOf]; omega
      · rw [hst] at hidx
        simp only [tptrOf] at hidx
        clear hck
        have hsl := htw.hs k x m h1 hst
        have c1 : wr.cell? ⟨p k, 0, none⟩ = some (.pointer (some ⟨x, 0, none⟩)) := by rw [blk_cell hsl]; rfl
        have c2 : wr.cell? ⟨p k, 1, none⟩ = some (.bool m) := by rw [blk_cell hsl]; rfl
        have hsz := hfr.size
        have hbt := blk_lt htc.hb
        have c3 : wr.cell? ⟨w.heap.size, k, none⟩ = some (tptrOf (stTo st k k) (pc k)) := by rw [blk_cell htc.hb]; exact htc.hc k h1
        rw [stTo_eq, if_neg (by omega)] at c3
        simp only [tptrOf] at c3
        have hfz := blk_frozen htc.hb
        have hnew := htc.putNew k h1 x m rfl
        rw [← hst, ← stTo_set] at hnew
        rw [World.setCell_alloc_past _ _ _ _ hbt] at hnew
        have hrel' : CopyRel w st (.int .i64 ((k : Int) + 1)) ((wr.setCell ⟨w.heap.size, k, none⟩ (.pointer (some ⟨wr.heap.size, 0, none⟩))).alloc (.cells #[.pointer (some ⟨x, 0, none⟩), .bool m] 112 (0, 0))) :=
          ⟨k + 1, by omega, by go_num, hnew, (hfr.setCell (.inr (Nat.le_refl _)) _).alloc _⟩
        have hrel' := hide hrel'
        clear hnew hst hsl
        go_wp2
        go_roundw
        case rel => exact hrel'.out
        case measure => simp [intOf]; omega
    · have e : k = 32 := by omega
      subst e
      have hfin : CopyPost w st (.returned (.pointer (some ⟨w.heap.size, 0, none⟩))) wr := ⟨rfl, ⟨pc, cc, htc.ext (fun i hi => by rw [stTo_eq, if_pos hi])⟩, hfr⟩
      clear htc
      go_wp2
      go_ret
      exact hfin
end Go.Proofs.YtffekmjoenppaaaGreatDoor

/- A region that draws its order, inside the wide fence: what looks at no world first, what only reads next, then a tail in a forced order that may hand a value to a loop's body. Conditions: closed facts on the region, by the kernel. -/
namespace Go.Proofs.YtffekmjoenppaaaGreatDoor
open Go.RowKit

section
variable {P : Program} {ops : Array Oper} {w : World}

theorem valueOp_plain {o : Oper} (h : valueOp o = true) : ∀ c, o.op ≠ .defer c := by
  intro c hc
  unfold valueOp at h
  rw [hc] at h
  cases h
theorem opIn_of_stOp {n i : Nat} {o : Oper} (ho : ops[i]? = some o) (hv : valueOp o = true) {K : Act → Prop} {K' : Act → World → Prop} {Q : Exit → Act → World → Prop} {a : Act} (h : ∀ a', K a' → K' a' w) (hh : stOp P ops w i K a) : wpOpIn FW n P ops Q i K' a w := by
  unfold stOp at hh
  unfold wpOpIn
  simp only [ho] at hh ⊢
  split
  · rename_i hw
    rw [if_pos hw] at hh
    refine ⟨fun _ _ => trivial, ?_⟩
    rw [Oper.semAt_plain _ _ _ (valueOp_plain hv)]
    unfold Oper.still at hh
    cases hr : (execOp a.eval o).run P w with
    | ok nx w' =>
      obtain ⟨v, rfl⟩ := valueOp_value hv hr
      rw [hr] at hh
      simp only [Oper.stillUpon] at hh
      obtain ⟨rfl, hk⟩ := hh
      exact h _ hk
    | halt x w' =>
      rw [hr] at hh
      exact hh.elim
  · rename_i hw
    rw [if_neg hw] at hh
    exact ⟨fun _ _ => trivial, h _ hh⟩
theorem anyIn_of_head {n m g : Nat} {L : Array Bool → Act → Prop} {Q : Exit → Act → World → Prop} (hv : ∀ i o, i < m → ops[i]? = some o → valueOp o = true) (hL : ∀ listed a, L listed a → wpAnyIn FW n P .any ops Q g listed a w) :
    ∀ (f : Nat) (listed : Array Bool) (a : Act), wpAnyL P .any ops w m L f listed a → wpAnyIn FW n P .any ops Q (f + g) listed a w
  | 0, listed, a, h => by rw [Nat.zero_add]; exact hL _ _ h
  | f + 1, listed, a, h => by
    rw [show f + 1 + g = (f + g) + 1 by omega]
    refine ⟨fun h0 => absurd h0 h.1, fun i hi => ?_⟩
    obtain ⟨hin, hst⟩ := h.2 i hi
    obtain ⟨_, o, ho, _⟩ := mem_ready.1 hi
    exact opIn_of_stOp ho (hv i o hin ho) (fun a' h' => anyIn_of_head hv hL f _ a' h') hst
theorem anyIn_of_seq {n : Nat} {Q : Exit → Act → World → Prop} : ∀ (l : List Oper) (k : Nat) (listed : Array Bool) (a : Act) (w : World), (∀ j, l[j]? = ops[k + j]?) →
    Region.seqB .any ops l.length k listed = true → wpListIn FW n P ops Q l a w → wpAnyIn FW n P .any ops Q l.length listed a w
  | [], _, _, _, _, _, hB, h => ⟨by simpa [Region.seqB] using hB, h⟩
  | o :: l, k, listed, a, w, hl, hB, h => by
    have h0 : ops[k]? = some o := by simpa using (hl 0).symm
    simp only [List.length_cons, Region.seqB, Bool.and_eq_true, decide_eq_true_eq] at hB
    refine ⟨fun h1 => (by rw [hB.1] at h1; cases h1), fun i hi => ?_⟩
    rw [hB.1] at hi
    have hik : i = k := by simpa using hi
    subst hik
    have hw : wpOpIn FW n P ops Q i (wpListIn FW n P ops Q l) a w := by unfold wpOpIn; simp only [h0]; exact h
    exact wpOpIn_mono (fun a' w' h' => anyIn_of_seq l (i + 1) _ a' w' (fun j => by have := hl (j + 1); simpa [Nat.add_assoc, Nat.add_comm 1 j] using this) hB.2 h') hw
end
end Go.Proofs.YtffekmjoenppaaaGreatDoor

/- A region that draws its order, inside the wide fence: what only reads first, then a tail in a forced order; whatever follows. Conditions: closed facts on the region, by the kernel. -/
namespace Go.Proofs.YtffekmjoenppaaaGreatDoor
open Go.RowKit

section
variable {P : Program} {w : World}
theorem region_rd_in {n id : Nat} {Q : Exit → Act → World → Prop} {a : Act} {l : List Oper} (rd : List Nat) (m : Nat) (hm : P.follows .mixedOrders = true) (hB : mixB l.toArray [] rd m = true) (hV : (List.range m).all (fun i => (l.toArray[i]?.map valueOp).getD false) = true)
    (h0 : wpQuiet P l.toArray (fun w' => w' = w.drew) (fun a2 => wpListIn FW n P l.toArray Q (l.drop m) a2 w.drew) (rd.map (fun i => l.getD i default)) a) :
    (Code.region id l.toArray true).wpIn FW n P Q a w := by
  simp only [mixB, Bool.and_eq_true, decide_eq_true_eq, List.all_eq_true] at hB
  obtain ⟨⟨⟨⟨⟨⟨⟨⟨hs, hn⟩, hc⟩, hlen⟩, hbl⟩, hl1⟩, hrd⟩, hl2⟩, hq⟩ := hB
  have hn2 : m < l.length := by simpa using hn
  have h := h0
  rw [← pickOps_map l rd (fun i hi => by have := (hrd i hi).1; omega)] at h
  have inv0 : MixInv l.toArray m (Array.replicate l.toArray.size false) :=
    ⟨by simp, fun j oj _ hl => (by rw [getD_replicate_false] at hl; cases hl), fun t _ ht => getD_in (by simpa using ht) (getD_replicate_false _ _)⟩
  have hlen : rd.length = m := by simpa using hlen
  have hsz : l.toArray.size = rd.length + (l.drop m).length := by simp at hn ⊢; omega
  have hg : l.toArray.size - m = (l.drop m).length := by simp
  refine wpIn_region_any hm ?_
  have key : wpAnyIn FW n P .any l.toArray Q (rd.length + (l.drop m).length) (Array.replicate l.toArray.size false) a w.drew := by
    refine anyIn_of_head (m := m) (L := fun listed' a' => Region.seqB .any l.toArray (l.drop m).length m listed' = true ∧ wpListIn FW n P l.toArray Q (l.drop m) a' w.drew) ?_ ?_ rd.length _ _ ?_
    · intro i o hi ho
      have h9 := List.all_eq_true.1 hV i (List.mem_range.2 hi)
      rw [ho] at h9
      simpa using h9
    · intro listed a' hL
      exact anyIn_of_seq (l.drop m) m listed a' w.drew (fun j => by simp) hL.1 hL.2
    · exact any_reads hs hc hn rd _ a inv0 (fun i hi => by have := hrd i hi; exact ⟨this.1, by simpa using this.2⟩) hl2 (by rw [← hg]; exact hq) (still_of_quiet _ _ h)
  rw [← hsz] at key
  exact key
end
end Go.Proofs.YtffekmjoenppaaaGreatDoor

/- gate.asked.fork. Conditions: the contract's own premises. -/
namespace Go.Proofs.YtffekmjoenppaaaGreatDoor
open Go.RowKit Go.Shelf

attribute [local go_sem] Oper.semAt_some

theorem TabAt.keep {w w' : World} {t : Nat} {st : TSt} {X T : Nat → Prop} (h : TabAt w t st (fun b => X b ∨ w.heap.size ≤ b)) (hf : Fr T w w') (hT : ∀ b, T b → b < w.heap.size → ¬ X b) : TabAt w' t st (fun b => X b ∨ w'.heap.size ≤ b) :=
  (h.aparts hf (fun b hb e e2 => by rcases e with e | e; (· exact hT b e2 hb e); (· omega))).mono fun b e => by
    rcases e.1 with x | x
    · exact .inl x
    · exact .inr (by have := e.2; omega)
open Classical in
theorem addQ_ext {w : World} {k : Nat} {K : KQ} {L : KLay} {xb tb : Nat} {X : Nat → Prop} {m : Option Nat} (h : KF w k K L) (q : ProcQ) (hxo : L.o xb = none) (hXo : ∀ b, X b → L.o b = none) (hm : m = L.qm ∨ ∃ g, m = some g ∧ L.o g = none) : LExt K (K.addQ q) L (L.addQ K.qn xb tb X m) :=
  ⟨rfl, Nat.le_refl _, Nat.le_refl _, Nat.le_succ _, fun _ _ _ => rfl, fun _ _ _ => rfl, fun j a1 a2 => if_neg (by omega), fun j a1 a2 => if_neg (by omega), fun b t e => by
      show (if b = xb then some (tPrc (K.qn + 1)) else if X b then some (tTab (K.qn + 1)) else if m = some b then some (tMap 2) else L.o b) = some t
      rw [if_neg (fun e2 => by rw [e2, hxo] at e; cases e), if_neg (fun e2 => by rw [hXo b e2] at e; cases e)]
      by_cases e2 : m = some b
      · rw [if_pos e2]
        rcases hm with hm | ⟨g, g1, g2⟩
        · rw [h.oqm b (hm ▸ e2)] at e; exact e
        · rw [g1] at e2; cases e2; rw [g2] at e; cases e
      · rw [if_neg e2]; exact e⟩
/-- While the copy's descriptions are counted. -/
structure ForkI (w : World) (k : Nat) (K : KQ) (L : KLay) (i a : Nat) (c : SysQ) (st : TSt) (qc : Array Value) (g t lo hi box : Nat) (s : Nat) (W : World) : Prop where
  le : s ≤ 32
  I : KIn w k K L i a c W (refsQ K st s) L noResV
  q : W.heap[g]? = some (.cells qc 64 (0, 0))
  tt : TabAt W t (tabS L st) (fun b => (lo ≤ b ∧ b < hi) ∨ W.heap.size ≤ b)
  bb : W.heap[box]? = some (.cells #[.pointer (some ⟨t, 0, none⟩)] 58 (0, 0))
section
variable {w W W' : World} {k : Nat} {K : KQ} {L : KLay} {i a : Nat} {c : SysQ} {st : TSt} {qc : Array Value} {g t lo hi box s : Nat}
theorem ForkI.frame {T : Nat → Prop} {z : Nat} (h : ForkI w k K L i a c st qc g t lo hi box s W) (hf : Fr T W W') (hT : ∀ b, T b → z ≤ b) (h1 : g < z) (h2 : box < z) (h3 : hi ≤ z) (h4 : w.heap.size ≤ z) (hn : ∀ b, w.heap.size ≤ b → L.o b = none) : ForkI w k K L i a c st qc g t lo hi box s W' :=
  ⟨h.le, h.I.still hf fun b e _ => ⟨Nat.le_trans h4 (hT b e), hn b (Nat.le_trans h4 (hT b e))⟩, hf.get h.q (fun e => by have := hT _ e; omega), h.tt.keep hf (fun b e _ x => by have := hT b e; omega), hf.get h.bb (fun e => by have := hT _ e; omega)⟩
theorem ForkI.step {fd j : Nat} {m : Bool} (h : ForkI w k K L i a c st qc g t lo hi box s W) (hst : st fd = some (j, m)) (hs : s ≤ fd) (hfd : fd < 32) (hno : ∀ x, s ≤ x → x < fd → st x = none) (h1 : 1 ≤ j) (h2 : j ≤ K.dn) (hg : w.heap.size ≤ g) (hlo : w.heap.size ≤ lo) (hb : w.heap.size ≤ box) (hn : ∀ b, w.heap.size ≤ b → L.o b = none) :
    ForkI w k K L i a c st qc g t lo hi box (fd + 1) (W.setCell ⟨L.db j, 3, none⟩ (.int .i64 (((refsQ K st s).desc j).refs + 1))) := by
  have hj2 : j ≤ (refsQ K st s).dn := by rw [(refsQ_eq K st s).dn]; exact h2
  have ho := h.I.F.od j h1 hj2
  have hne : ∀ b, w.heap.size ≤ b → b ≠ L.db j := fun b e e2 => by rw [← e2, hn b e] at ho; cases ho
  have hf : Fr (fun b => b = L.db j) W (W.setCell ⟨L.db j, 3, none⟩ (.int .i64 (((refsQ K st s).desc j).refs + 1))) := (Fr.refl (fun b => b = L.db j) W).setCell (p := ⟨L.db j, 3, none⟩) (.inl rfl) _
  refine ⟨hfd, ?_, hf.get h.q (hne g hg), h.tt.keep hf (fun b e _ x => hne b (Nat.le_trans hlo x.1) e), hf.get h.bb (hne box hb)⟩
  rw [refsQ_step hs hno, hst, refQ_some]
  exact h.I.desc h1 hj2 hf (by rw [blk_set (h.I.F.hd j h1 hj2)]; rfl) rfl
theorem tabS_none {t : TSt} {fd : Nat} : tabS L t fd = none ↔ t fd = none := by unfold tabS; cases t fd <;> simp
theorem tabS_some {t : TSt} {fd b : Nat} {m : Bool} (h : tabS L t fd = some (b, m)) : ∃ j, t fd = some (j, m) ∧ b = L.db j := by
  unfold tabS at h
  obtain ⟨⟨j, x⟩, e1, e2⟩ := Option.map_eq_some_iff.1 h
  cases e2
  exact ⟨j, e1, rfl⟩
end
theorem lenV {w : World} {k : Nat} {K : KQ} {L : KLay} (h : KF w k K L) (hq : 1 ≤ K.qn) : ∃ g, L.qm = some g ∧ ∀ ty, (Builtin.len_ #[51] ty #[.map (some g)]).run Tryz.prog w = .ok (.int .i64 (procsN K)) w := by
  obtain ⟨g, hg, hm⟩ := h.qmap hq
  refine ⟨g, hg, fun ty => ?_⟩
  have := hm.len (t := 51) (e := 57) Tryz.underlying51 ty
  rw [regL_len_any _ _ (fun _ => ())] at this
  exact this
set_option maxRecDepth 100000 in
set_option maxHeartbeats 1000000 in
theorem afork_full (w : World) (k : Nat) (K : KQ) (L : KLay) (h : KF w k K L) (i : Nat) (h1 : 1 ≤ i) (h2 : i ≤ K.qn) (a : Nat) (c : SysQ) (ha : AskAt w a k (L.qb i) c noResV) (hao : L.o a = none) (hfull : 24 ≤ procsN K) :
    Calls Tryz.prog 28 #[ptrAt a] w (KErrPost w k K L i a c (forkQ K i)) := by
  have I0 := KIn.start h ha hao
  obtain ⟨g, hg, hlen⟩ := lenV h (Nat.le_trans h1 h2)
  have hfin : KErrPost w k K L i a c (forkQ K i) (.returned (.int .i64 11)) w := by
    unfold forkQ
    rw [if_pos hfull]
    exact ⟨rfl, L, _, I0, rfl⟩
  have Hfin := hide hfin
  have c0 : w.cell? ⟨a, 0, none⟩ = some (.pointer (some ⟨k, 0, none⟩)) := by rw [blk_cell ha]; rfl
  have c6 : w.cell? ⟨k, 6, none⟩ = some (.map (some g)) := by rw [blk_cell h.hk, ← hg]; rfl
  have hnn : ¬ ((procsN K : Nat) : Int) < 24 := by omega
  generalize procsN K = pn at *
  clear h ha hao I0 hfin hg h1 h2
  unfold ptrAt
  refine (callsIn_wide (n := 5)).1 ?_
  refine callsIn_of_wp_marks Tryz.func28 rfl trivial ?_ rfl
  simp only [Tryz.ntmps28, List.size_toArray, List.length_cons, List.length_nil, Nat.reduceAdd, Nat.reduceSub, Array.replicate_succ, Array.replicate_zero, List.push_toArray, List.append_toArray, List.nil_append, List.cons_append]
  gi_wp2
  exact ⟨_, results_tmp rfl _ _ _, Eq.subst (motive := fun v => KErrPost w k K L i a c (forkQ K i) (.returned v) w) (show Value.int .i64 11 = _ by first | kernel_rfl | rfl) Hfin.out⟩
set_option maxRecDepth 100000 in
set_option maxHeartbeats 1000000 in
theorem afork_ok (w : World) (k : Nat) (K : KQ) (L : KLay) (h : KF w k K L) (N : Nat) (hok : KOk K N) (hN : N ≤ 1000000) (i : Nat) (h1 : 1 ≤ i) (h2 : i ≤ K.qn) (a : Nat) (c : SysQ) (ha : AskAt w a k (L.qb i) c noResV) (hao : L.o a = none) (hfull : ¬ 24 ≤ procsN K) :
    Calls Tryz.prog 28 #[ptrAt a] w (KErrPost w k K L i a c (forkQ K i)) := by
  have I0 := KIn.start h ha hao
  obtain ⟨g, hg, hlen⟩ := lenV h (Nat.le_trans h1 h2)
  have c0 : w.cell? ⟨a, 0, none⟩ = some (.pointer (some ⟨k, 0, none⟩)) := by rw [blk_cell ha]; rfl
  have c1 : w.cell? ⟨a, 1, none⟩ = some (.pointer (some ⟨L.qb i, 0, none⟩)) := by rw [blk_cell ha]; rfl
  have c6 : w.cell? ⟨k, 6, none⟩ = some (.map (some g)) := by rw [blk_cell h.hk, ← hg]; rfl
  have hqb := h.hq i h1 h2
  have q0 : w.cell? ⟨L.qb i, 0, none⟩ = some (.int .i64 i) := by rw [blk_cell hqb]; rfl
  have q1 : w.cell? ⟨L.qb i, 1, none⟩ = some (.int .i64 (K.proc i).parent) := by rw [blk_cell hqb]; rfl
  have q2 : w.cell? ⟨L.qb i, 2, none⟩ = some (.bool (K.proc i).ended) := by rw [blk_cell hqb]; rfl
  have q3 : w.cell? ⟨L.qb i, 3, none⟩ = some (.int .i64 (K.proc i).status) := by rw [blk_cell hqb]; rfl
  have q4 : w.cell? ⟨L.qb i, 4, none⟩ = some (.int .i64 (K.proc i).dir) := by rw [blk_cell hqb]; rfl
  have q5 : w.cell? ⟨L.qb i, 5, none⟩ = some (.int .i64 (K.proc i).mask) := by rw [blk_cell hqb]; rfl
  have q6 : w.cell? ⟨L.qb i, 6, none⟩ = some (.pointer (some ⟨L.tb i, 0, none⟩)) := by rw [blk_cell hqb]; rfl
  have hnn : ((procsN K : Nat) : Int) < 24 := by omega
  obtain ⟨w1, hw1⟩ : ∃ w1, w1 = w.alloc (.cells #[.int .i64 i, .int .i64 (K.proc i).parent, .bool (K.proc i).ended, .int .i64 (K.proc i).status, .int .i64 (K.proc i).dir, .int .i64 (K.proc i).mask, .pointer (some ⟨L.tb i, 0, none⟩)] 64 (0, 0)) := ⟨_, rfl⟩
  have I1 : KIn w k K L i a c w1 K L noResV := by rw [hw1]; exact I0.alloc _
  have hcopy := hide (copy_any w1 (L.tb i) _ _ (I1.ht h1 h2))
  have bq1 : w1.heap[w.heap.size]? = some (.cells #[.int .i64 i, .int .i64 (K.proc i).parent, .bool (K.proc i).ended, .int .i64 (K.proc i).status, .int .i64 (K.proc i).dir, .int .i64 (K.proc i).mask, .pointer (some ⟨L.tb i, 0, none⟩)] 64 (0, 0)) := by rw [hw1]; exact blk_new _ _
  have z1 : w1.heap.size = w.heap.size + 1 := by rw [hw1]; simp
  have d1 : w1.cell? ⟨a, 1, none⟩ = some (.pointer (some ⟨L.qb i, 0, none⟩)) := by rw [blk_cell I1.A]; rfl
  have d6 : w1.cell? ⟨L.qb i, 6, none⟩ = some (.pointer (some ⟨L.tb i, 0, none⟩)) := by rw [blk_cell (I1.hq h1 h2)]; rfl
  rw [hw1] at d1 d6
  have Hw1 := hide hw1
  have HI1 := hide I1
  have Hnew := hide (fun b (e : w.heap.size ≤ b) => h.new b e)
  have Hok := hide hok
  have Hfq := hide (show forkQ K i = ({ noRes with n := (K.qn : Int) + 1 }, forkK K i) from if_neg hfull)
  have Hbq1 := hide bq1
  have Hz1 := hide z1
  generalize procsN K = pn at *
  clear h hok ha hao I0 hg hqb I1 bq1 z1 hw1
  unfold ptrAt
  refine (callsIn_wide (n := 5)).1 ?_
  refine callsIn_of_wp_marks Tryz.func28 rfl trivial ?_ rfl
  simp only [Tryz.ntmps28, List.size_toArray, List.length_cons, List.length_nil, Nat.reduceAdd, Nat.reduceSub, Array.replicate_succ, Array.replicate_zero, List.push_toArray, List.append_toArray, List.nil_append, List.cons_append]
  gi_wp2_with (refine ⟨trivial, ?_⟩; first
    | (gi_at_call 63; rw [← Hw1.out]; refine (callsIn_wide.2 hcopy.out).mono ?_; rintro e w2 ⟨rfl, ht2, hf2⟩; have b2 := hf2.get Hbq1.out (fun e => e); have e26 := blk_cell b2 6; have z26 := blk_frozen b2 6; simp only [List.getElem?_toArray, List.getElem?_cons_succ, List.getElem?_cons_zero] at e26; have Hb2 := hide b2; have Ht2 := hide ht2; have Hf2 := hide hf2; clear b2 ht2 hf2)
    | (gi_at_call 17; refine (callsIn_wide.2 (all_any _ _)).mono ?_; rintro e w' ⟨rfl, rfl⟩))
  obtain ⟨W0, hW0⟩ : ∃ W0, W0 = (w2.setCell ⟨w.heap.size, 6, none⟩ (.pointer (some ⟨w1.heap.size, 0, none⟩))).alloc (.cells #[.pointer (some ⟨w1.heap.size, 0, none⟩)] 58 (0, 0)) := ⟨_, rfl⟩
  rw [← hW0]
  have z2 : w1.heap.size ≤ w2.heap.size := Hf2.out.size
  have z0 : W0.heap.size = w2.heap.size + 1 := by rw [hW0]; simp
  have hz1 := Hz1.out
  have f20 : Fr (fun b => b = w.heap.size) w2 W0 := by rw [hW0]; exact ((Fr.refl (fun b => b = w.heap.size) w2).setCell (p := ⟨w.heap.size, 6, none⟩) (.inl rfl) _).alloc _
  have h0 : ForkI w k K L i a c (K.proc i).fds #[.int .i64 i, .int .i64 (K.proc i).parent, .bool (K.proc i).ended, .int .i64 (K.proc i).status, .int .i64 (K.proc i).dir, .int .i64 (K.proc i).mask, .pointer (some ⟨w1.heap.size, 0, none⟩)] w.heap.size w1.heap.size w1.heap.size w2.heap.size w2.heap.size 0 W0 := by
    refine ⟨Nat.zero_le _, (HI1.out.quiet Hf2.out).still f20 fun b e _ => by rw [e]; exact ⟨Nat.le_refl _, Hnew.out _ (Nat.le_refl _)⟩, ?_, ?_, ?_⟩
    · rw [hW0]; exact blk_alloc (blk_set Hb2.out 6 _) _
    · exact (Ht2.out.mono fun b e => by by_cases x : b < w2.heap.size; (· exact .inl ⟨e, x⟩); (· exact .inr (by omega))).keep f20 fun b e _ x => by omega
    · rw [hW0]; exact blk_new' _ _ _ (by simp)
  have H0 := hide h0
  have Hz := hide (And.intro hz1 (And.intro z2 z0))
  clear h0 hW0 z2 z0 hz1 f20 Ht2 Hb2 Hf2 HI1 Hbq1 Hz1 Hw1 e26 z26 c0 c1 c6 q0 q1 q2 q3 q4 q5 q6 d1 d6 hcopy hlen
  refine rf_law (α := Nat × Nat) (σ := Nat) 38 #[.pointer (some ⟨w2.heap.size, 0, none⟩)] rfl (enters_of Tryz.func38 (by kernel_rfl) rfl) tenc (fun _ => rfl)
    (TStep id (fun _ => tabS L (K.proc i).fds) (fun _ fd => fd + 1)) (TFin id (fun _ => tabS L (K.proc i).fds)) 0 (ForkI w k K L i a c (K.proc i).fds #[.int .i64 i, .int .i64 (K.proc i).parent, .bool (K.proc i).ended, .int .i64 (K.proc i).status, .int .i64 (K.proc i).dir, .int .i64 (K.proc i).mask, .pointer (some ⟨w1.heap.size, 0, none⟩)] w.heap.size w1.heap.size w1.heap.size w2.heap.size w2.heap.size) (fun _ _ => False)
    (fun s A B h hg => h.frame (z := W0.heap.size) hg (fun b e => by rcases e with e | e <;> omega) (by have := Hz.out; omega) (by have := Hz.out; omega) (by have := Hz.out; omega) (by have := Hz.out; omega) Hnew.out) (fun _ _ _ h _ => h) (fun _ _ _ _ _ h _ _ => h) H0.out
    (fun l J Jx W hJI _ _ hY h0 => all1_iter _ (by omega) _ (some ⟨w1.heap.size, 0, none⟩) id (fun _ => tabS L (K.proc i).fds) (fun _ fd => fd + 1) (fun _ _ => rfl) (ForkI w k K L i a c (K.proc i).fds #[.int .i64 i, .int .i64 (K.proc i).parent, .bool (K.proc i).ended, .int .i64 (K.proc i).status, .int .i64 (K.proc i).dir, .int .i64 (K.proc i).mask, .pointer (some ⟨w1.heap.size, 0, none⟩)] w.heap.size w1.heap.size w1.heap.size w2.heap.size w2.heap.size)
      (fun s W h => ⟨.inr ⟨w1.heap.size, _, rfl, h.tt⟩, by rw [blk_cell h.bb]; rfl⟩) 0 rfl l J Jx W hJI hY h0)
    (fun x => { tmps := #[.pointer (some ⟨a, 0, none⟩), undef, .int .i64 0, .pointer (some ⟨w.heap.size, 0, none⟩), undef, .pointer (some ⟨x.2, 0, none⟩), .pointer (some ⟨a, 0, none⟩), .pointer (some ⟨a, 0, none⟩), .pointer (some ⟨a, 0, none⟩), .pointer (some ⟨k, 0, none⟩), .pointer (some ⟨k, 0, none⟩), .pointer (some ⟨k, 5, none⟩), .pointer (some ⟨k, 6, none⟩), .map (some g), .int .i64 pn, .bool (decide ((24 : Int) ≤ (pn : Int))), .pointer (some ⟨a, 0, none⟩), .pointer (some ⟨a, 0, none⟩), .pointer (some ⟨a, 1, none⟩), .pointer (some ⟨L.qb i, 0, none⟩), .pointer (some ⟨L.qb i, 0, none⟩), .agg #[.int .i64 i, .int .i64 (K.proc i).parent, .bool (K.proc i).ended, .int .i64 (K.proc i).status, .int .i64 (K.proc i).dir, .int .i64 (K.proc i).mask, .pointer (some ⟨L.tb i, 0, none⟩)], .pointer (some ⟨a, 0, none⟩), .pointer (some ⟨a, 0, none⟩), .pointer (some ⟨a, 1, none⟩), .pointer (some ⟨L.qb i, 0, none⟩), .pointer (some ⟨L.qb i, 0, none⟩), .pointer (some ⟨L.qb i, 6, none⟩), .pointer (some ⟨L.tb i, 0, none⟩), .pointer (some ⟨w1.heap.size, 0, none⟩), .pointer (some ⟨w.heap.size, 6, none⟩), .pointer (some ⟨w.heap.size, 6, none⟩), .pointer (some ⟨w1.heap.size, 0, none⟩), .func (.func 38) #[] #[.pointer (some ⟨w2.heap.size, 0, none⟩)], .int .i64 x.1, .pointer (some ⟨x.2, 0, none⟩), undef, undef, undef, undef, undef, undef, undef, undef, undef, undef, undef, undef, undef, undef, undef, undef, undef, undef, undef, undef, undef, undef, undef, undef, undef, undef, undef, undef, undef, undef, undef, undef, undef, undef, undef, undef, undef, undef, undef, undef, undef, undef, undef, undef, undef], defers := [] }) ?assign ?body ?done ?stop
  case assign =>
    intro l x W Kc hK
    gi_wp2
    simpa [tenc] using hK
  case body =>
    rintro l s x s' W ⟨hp1, hp2, hp3, ⟨m, hp4⟩, rfl⟩ hi _
    obtain ⟨j, hj, hxj⟩ := tabS_some hp4
    obtain ⟨hj1, hj2⟩ := Hok.out.fds i x.1 j m h1 h2 hj
    have hst := hi.step hj hp1 hp2 (fun y a1 a2 => tabS_none.1 (hp3 y a1 a2)) hj1 hj2 (Nat.le_refl _) (by have := Hz.out; omega) (by have := Hz.out; omega) Hnew.out
    have hb := hi.I.F.hd j hj1 (by rw [(refsQ_eq K _ s).dn]; exact hj2)
    have hrb : ((refsQ K (K.proc i).fds s).desc j).refs ≤ 2000000 ∧ -2000000 ≤ ((refsQ K (K.proc i).fds s).desc j).refs := by
      obtain ⟨r, a1, a2, a3⟩ := (refsQ_eq K (K.proc i).fds s).desc j
      rw [a3]
      have := (Hok.out.desc j hj1 hj2).refs
      have hp1 : s ≤ x.1 := hp1
      show r ≤ 2000000 ∧ -2000000 ≤ r
      omega
    have hr1 := hrb.1
    have hr2 := hrb.2
    have hlt := blk_lt hb
    have e3 : W.cell? ⟨x.2, 3, none⟩ = some (.int .i64 ((refsQ K (K.proc i).fds s).desc j).refs) := by rw [hxj, blk_cell hb]; rfl
    have z3 : W.frozen? ⟨x.2, 3, none⟩ = false := by rw [hxj]; exact blk_frozen hb 3
    have hlw : L.db j < W0.heap.size := by
      have ho := hi.I.F.od j hj1 (by rw [(refsQ_eq K _ s).dn]; exact hj2)
      by_cases e : L.db j < W0.heap.size
      · exact e
      · rw [Hnew.out _ (by have := Hz.out; omega)] at ho; cases ho
    rw [← hxj] at hst hlt hlw
    have Hst := hide hst
    generalize ((refsQ K (K.proc i).fds s).desc j).refs = rr at *
    clear hst hb hi hrb hj hp3 hp4 hxj
    gi_wp2
    exact ⟨⟨Below.heap_setCell _ _ _ _ (by simp; omega), Below.heap_setCell _ _ _ _ (by simp; omega)⟩, Hst.out⟩
  case done =>
    rintro s W hfin hi hK
    have hend : refsQ K (K.proc i).fds s = refsQ K (K.proc i).fds 32 := (refsQ_end hi.le fun y a1 a2 => tabS_none.1 (hfin y a1 a2)).symm
    have I9 : KIn w k K L i a c W (refsQ K (K.proc i).fds 32) L noResV := by rw [← hend]; exact hi.I
    have hE := refsQ_eq K (K.proc i).fds 32
    obtain ⟨K9, hK9⟩ : ∃ K9, K9 = refsQ K (K.proc i).fds 32 := ⟨_, rfl⟩
    rw [← hK9] at I9 hE
    have I9d := I9.drew
    obtain ⟨p, hA⟩ := I9d.F.files
    rw [hE.σ] at hA
    have hhold := hide (Hold_any W.drew L.f K.σ (L.S tFil W.drew) p hA (Hok.out.good.b hN) ((K.proc i).dir : Int) (by have := (Hok.out.proc i h1 h2).dir; omega))
    have x0 : W.drew.cell? ⟨a, 0, none⟩ = some (.pointer (some ⟨k, 0, none⟩)) := by rw [blk_cell I9d.A]; rfl
    have xk : W.drew.cell? ⟨k, 0, none⟩ = some (.pointer (some ⟨L.f, 0, none⟩)) := by rw [blk_cell I9d.F.hk]; rfl
    have xg : W.drew.cell? ⟨w.heap.size, 4, none⟩ = some (.int .i64 (K.proc i).dir) := by rw [blk_cell (blk_drew hi.q)]; rfl
    have nS : ∀ b, w.heap.size ≤ b → b < W.heap.size → ¬ L.S tFil W.drew b := fun b e1 e2 e3 => by
      rcases e3 with e3 | e3
      · rw [Hnew.out b e1] at e3; cases e3
      · have e4 : W.heap.size ≤ b := e3
        omega
    have Hd9 := hide (blk_drew hK)
    have Hq9 := hide (blk_drew hi.q)
    have Ht9 := hide (hi.tt.keep ((Fr.refl (fun _ => False) W).drew) (fun _ e => e.elim))
    have hzz := Hz.out
    have hDW := blk_lt hK
    have HnS := hide nS
    have HI9d := hide I9d
    have HE := hide hE
    have HK9 := hide hK9
    have HzW := hide (And.intro hDW (show W0.heap.size = w2.heap.size + 1 ∧ w1.heap.size ≤ w2.heap.size ∧ w1.heap.size = w.heap.size + 1 from ⟨hzz.2.2, hzz.2.1, hzz.1⟩))
    generalize (holdR K.σ (K.proc i).dir).1 = he at *
    clear hzz hDW hfin hi hK hend I9 hE hK9 I9d hA nS
    gi_wp2
    refine region_rd_in [0, 1, 2, 3, 4, 5, 6, 7, 8] 9 (by kernel_rfl) (by kernel_rfl) (by kernel_rfl) ?_
    simp only [List.map_cons, List.map_nil, List.getD_cons_zero, List.getD_cons_succ, List.drop_succ_cons, List.drop_zero]
    repeat go_big_quiet_step (fail)
    refine wpQuiet_nil ?_
    gi_wp2
    refine ⟨trivial, (callsIn_wide.2 hhold.out).mono ?_⟩
    rintro e W3 ⟨rfl, hA3, f3⟩
    have I10 := HI9d.out.files f3 hA3
    obtain ⟨L10, hL10⟩ : ∃ L10, L10 = L.grow tFil W.drew W3 := ⟨_, rfl⟩
    obtain ⟨K10, hK10⟩ : ∃ K10 : KQ, K10 = { K9 with σ := (holdR K.σ (K.proc i).dir).2 } := ⟨_, rfl⟩
    rw [← hL10, ← hK10] at I10
    have hzs := HzW.out
    have o10 : ∀ b, w.heap.size ≤ b → b < W.heap.size → L10.o b = none := fun b e1 e2 => by
      rw [hL10]
      show (if W.heap.size ≤ b ∧ b < W3.heap.size then some tFil else L.o b) = none
      rw [if_neg (by omega)]
      exact Hnew.out b e1
    have q3 := f3.get Hq9.out (HnS.out _ (Nat.le_refl _) (by omega))
    have d3 := f3.get Hd9.out (HnS.out _ (by omega) (by omega))
    have t3 := Ht9.out.keep f3 (fun b e1 e2 e3 => HnS.out b (by omega) e2 e1)
    have y1 : W3.cell? ⟨a, 1, none⟩ = some (.pointer (some ⟨L.qb i, 0, none⟩)) := by rw [blk_cell I10.A]; rfl
    have y0 : W3.cell? ⟨L.qb i, 0, none⟩ = some (.int .i64 i) := by rw [blk_cell (I10.hq h1 h2)]; rfl
    have g1 : W3.cell? ⟨w.heap.size, 1, none⟩ = some (.int .i64 (K.proc i).parent) := by rw [blk_cell q3]; rfl
    have u1 : W3.frozen? ⟨w.heap.size, 1, none⟩ = false := blk_frozen q3 1
    obtain ⟨W4, hW4⟩ : ∃ W4, W4 = W3.setCell ⟨w.heap.size, 1, none⟩ (.int .i64 i) := ⟨_, rfl⟩
    have f34 : Fr (fun b => b = w.heap.size) W3 W4 := by rw [hW4]; exact (Fr.refl (fun b => b = w.heap.size) W3).setCell (p := ⟨w.heap.size, 1, none⟩) (.inl rfl) _
    have I11 : KIn w k K L i a c W4 K10 L10 noResV := I10.still f34 fun b e _ => by rw [e]; exact ⟨Nat.le_refl _, o10 _ (Nat.le_refl _) (by omega)⟩
    have q4 : W4.heap[w.heap.size]? = some (.cells #[.int .i64 i, .int .i64 i, .bool (K.proc i).ended, .int .i64 (K.proc i).status, .int .i64 (K.proc i).dir, .int .i64 (K.proc i).mask, .pointer (some ⟨w1.heap.size, 0, none⟩)] 64 (0, 0)) := by rw [hW4, blk_set q3 1]; rfl
    have d4 := f34.get d3 (by omega)
    have t4 := t3.keep f34 (fun b e1 e2 e3 => by omega)
    have hqn : K10.qn = K.qn := by rw [hK10]; exact HE.out.qn
    have hadd := hide (q_add W4 k (kerC L10 K10) L10.qm (fun j => (K10.proc j).inn) L10.qb K10.qn w.heap.size I11.F.hk rfl rfl I11.F.qr (fun e => by have := I11.F.oqm k e; rw [I11.F.ok] at this; cases this) (by have := Hok.out.qn; omega))
    have y40 : W4.cell? ⟨a, 0, none⟩ = some (.pointer (some ⟨k, 0, none⟩)) := by rw [blk_cell I11.A]; rfl
    rw [hW4] at y40
    have HW4 := hide hW4
    have HI11 := hide I11
    have Hq4 := hide q4
    have Hd4 := hide d4
    have Ht4 := hide t4
    have Ho10 := hide o10
    have Hs34 := hide (show W.heap.size ≤ W4.heap.size from Nat.le_trans f3.size f34.size)
    have HK10 := hide hK10
    have Htab := hide (show tabS L10 (K.proc i).fds = tabS L (K.proc i).fds by rw [hL10]; rfl)
    have Hqn := hide hqn
    clear hA3 f3 I10 hL10 hK10 hzs o10 q3 d3 t3 hW4 f34 I11 q4 d4 t4 hqn hhold HI9d Hq9 Hd9 Ht9 HnS
    obtain ⟨pn1, hpn1⟩ : ∃ x : Int, x = (K10.qn : Int) + 1 := ⟨_, rfl⟩
    have Hpn1 := hide hpn1
    unfold ptrAt at hadd
    clear hpn1
    gi_wp2
    rw [← HW4.out]
    refine ⟨trivial, (callsIn_wide.2 hadd.out).mono ?_⟩
    rintro e W5 ⟨rfl, m, hk5, hr5, hm5, f5⟩
    rw [← Hpn1.out]
    have hkc : ((kerC L10 K10).setIfInBounds 5 (.int .i64 ((K10.qn : Int) + 1))).setIfInBounds 6 (.map m) = kerC { L10 with qm := m } { K10 with qn := K10.qn + 1 } := rfl
    rw [hkc] at hk5
    have hzs := HzW.out
    have hs34 := Hs34.out
    have hal := HI11.out.al
    have hxo := Ho10.out _ (Nat.le_refl _) (show w.heap.size < W.heap.size by omega)
    have hgk : w.heap.size ≠ k := fun e => by rw [e, HI11.out.F.ok] at hxo; cases hxo
    have nT : ∀ x, L10.o x = none → ¬ (x = k ∨ L10.qm = some x) := fun x e e2 => by
      rcases e2 with e2 | e2
      · rw [e2, HI11.out.F.ok] at e; cases e
      · rw [HI11.out.F.oqm x e2] at e; cases e
    have q5 := f5.get Hq4.out (nT _ hxo)
    have d5 := f5.get Hd4.out (nT _ (Ho10.out _ (by omega) (by omega)))
    have A5 := f5.get HI11.out.A (nT _ HI11.out.a1)
    have t5 := Ht4.out.keep f5 (fun b e1 e2 e3 => nT b (Ho10.out b (by omega) (by omega)) e1)
    have g0 : W5.cell? ⟨w.heap.size, 0, none⟩ = some (.int .i64 i) := by rw [blk_cell q5]; rfl
    have u0 : W5.frozen? ⟨w.heap.size, 0, none⟩ = false := blk_frozen q5 0
    obtain ⟨W6, hW6⟩ : ∃ W6, W6 = W5.setCell ⟨w.heap.size, 0, none⟩ (.int .i64 pn1) := ⟨_, rfl⟩
    have f56 : Fr (fun b => b = w.heap.size) W5 W6 := by rw [hW6]; exact (Fr.refl (fun b => b = w.heap.size) W5).setCell (p := ⟨w.heap.size, 0, none⟩) (.inl rfl) _
    have q6 : W6.heap[w.heap.size]? = some (.cells #[.int .i64 pn1, .int .i64 i, .bool (K.proc i).ended, .int .i64 (K.proc i).status, .int .i64 (K.proc i).dir, .int .i64 (K.proc i).mask, .pointer (some ⟨w1.heap.size, 0, none⟩)] 64 (0, 0)) := by rw [hW6, blk_set q5 0]; rfl
    have k6 := f56.get hk5 hgk.symm
    have d6 := f56.get d5 (by omega)
    have A6 : AskAt W6 a k (L.qb i) c noResV := f56.get A5 (by omega)
    have t6 := t5.keep f56 (fun b e1 e2 e3 => by omega)
    rw [← Htab.out] at t6
    have hmg : m = L10.qm ∨ ∃ g, m = some g ∧ L10.o g = none ∧ g < W6.heap.size ∧ g ≠ w.heap.size ∧ ¬ (w1.heap.size ≤ g ∧ g < w2.heap.size) := by
      rcases hm5 with ⟨e, _⟩ | ⟨_, e2⟩
      · exact .inl e
      · refine .inr ⟨_, e2, HI11.out.F.new _ (Nat.le_refl _), ?_, by omega, by omega⟩
        rw [e2] at hr5; exact Nat.lt_of_lt_of_le hr5.lt f56.size
    have hr6 := hr5.frame f56 (fun g e e2 => by
      rcases hmg with e3 | ⟨g', e3, e4, _, e5, _⟩
      · exact nT _ hxo (.inr (by rw [← e3, e, e2]))
      · rw [e3] at e; cases e; exact e5 e2)
    have f46 : Fr (fun b => b = k ∨ L10.qm = some b ∨ b = w.heap.size) W4 W6 := (f5.mono fun x _ e => e.elim .inl (fun e => .inr (.inl e))).trans (f56.mono fun _ _ e => .inr (.inr e))
    have F6 := HI11.out.F.addQ (xb := w.heap.size) (tb := w1.heap.size) (X := fun b => w1.heap.size ≤ b ∧ b < w2.heap.size) (q := { K.proc i with parent := i, inn := true }) k6 hr6 rfl (by
      rw [q6, Hpn1.out]
      unfold procC ptrAt
      rw [show (L10.addQ K10.qn w.heap.size w1.heap.size (fun b => w1.heap.size ≤ b ∧ b < w2.heap.size) m).tb (K10.qn + 1) = w1.heap.size from if_pos rfl]
      rfl) t6 hxo (fun b e => ⟨Ho10.out b (by omega) (by omega), by have := f46.size; omega, by omega⟩) hmg f46 (fun b t e e2 => by
      rcases e2 with e2 | e2 | e2
      · exact .inl e2
      · exact .inr e2
      · rw [e2, hxo] at e; cases e)
    have hm2 : m = L10.qm ∨ ∃ g, m = some g ∧ L10.o g = none := hmg.imp id fun ⟨g, a1, a2, _⟩ => ⟨g, a1, a2⟩
    have E6 := addQ_ext (X := fun b => w1.heap.size ≤ b ∧ b < w2.heap.size) (tb := w1.heap.size) HI11.out.F { K.proc i with parent := i, inn := true } hxo (fun b e => Ho10.out b (by omega) (by omega)) hm2
    obtain ⟨L6, hL6⟩ : ∃ L6, L6 = L10.addQ K10.qn w.heap.size w1.heap.size (fun b => w1.heap.size ≤ b ∧ b < w2.heap.size) m := ⟨_, rfl⟩
    rw [← hL6] at F6 E6
    have hN6 : ∀ b, L6.o b ≠ none → L10.o b ≠ none ∨ b = w.heap.size ∨ (w1.heap.size ≤ b ∧ b < w2.heap.size) ∨ (m = some b ∧ (L10.qm = some b ∨ b = W4.heap.size)) := fun b e => by
      rw [hL6] at e
      rcases addQ_new e with e | e | e | e
      · exact .inl e
      · exact .inr (.inl e)
      · exact .inr (.inr (.inl e))
      · refine .inr (.inr (.inr ⟨e, ?_⟩))
        rcases hm5 with ⟨e6, _⟩ | ⟨_, e6⟩
        · exact .inl (by rw [← e6, e])
        · rw [e6] at e; cases e; exact .inr rfl
    have hkN : ∀ b, L10.o b ≠ none → L.o b ≠ none ∨ w.heap.size ≤ b := HI11.out.N
    have I6 : KIn w k K L i a c W6 (K10.addQ { K.proc i with parent := i, inn := true }) L6 noResV := ⟨F6, HI11.out.E.trans E6, HI11.out.R.trans' f46 (fun x hx e => by
        rcases e with e | e | e
        · rcases hkN x (by rw [e, HI11.out.F.ok]; simp) with y | y
          · exact .inl y
          · omega
        · rcases hkN x (by rw [HI11.out.F.oqm x e]; simp) with y | y
          · exact .inl y
          · omega
        · omega), fun b e => by
        rcases hN6 b e with e | e | e | ⟨_, e | e⟩
        · exact hkN b e
        · exact .inr (by omega)
        · exact .inr (by omega)
        · exact hkN b (by rw [HI11.out.F.oqm b e]; simp)
        · exact .inr (by omega), A6, HI11.out.al, HI11.out.ao⟩
    have I7 := I6.n pn1
    have hDo : L6.o W0.heap.size = none := by
      by_cases e : L6.o W0.heap.size = none
      · exact e
      · have ho := Ho10.out W0.heap.size (by omega) (by omega)
        rcases hN6 _ e with e | e | e | ⟨_, e | e⟩
        · exact absurd ho e
        · omega
        · omega
        · rw [HI11.out.F.oqm _ e] at ho; cases ho
        · omega
    have I8 := I7.still (fr_putObj (S := fun b => b = W0.heap.size) (.deferred none) rfl) (fun b e _ => by rw [e]; exact ⟨by omega, hDo⟩)
    have hfin := hide (show KErrPost w k K L i a c (forkQ K i) (.returned (.int .i64 0)) ((W6.setCell ⟨a, 8, none⟩ (.int .i64 pn1)).putObj W0.heap.size (.deferred none)) from by
      rw [Hfq.out]
      unfold forkK
      rw [← HK9.out, ← HK10.out]
      refine ⟨rfl, L6, _, I8, ?_⟩
      rw [Hpn1.out, Hqn.out]
      rfl)
    have Hd7 := hide (blk_set_other d6 ⟨a, 8, none⟩ (.int .i64 pn1) (show W0.heap.size ≠ a by omega))
    have v0 : W6.cell? ⟨w.heap.size, 0, none⟩ = some (.int .i64 pn1) := by rw [blk_cell q6]; rfl
    have v8 : W6.cell? ⟨a, 8, none⟩ = some (.int .i64 0) := by rw [blk_cell A6]; rfl
    have vz : W6.frozen? ⟨a, 8, none⟩ = false := blk_frozen A6 8
    rw [hW6] at v0 v8 vz
    have HW6 := hide hW6
    clear hkc hk5 hr5 hm5 f5 hzs hs34 hal hxo hgk nT q5 d5 A5 t5 hW6 f56 q6 k6 d6 A6 t6 hmg hr6 f46 F6 hm2 E6 hL6 hN6 hkN I6 I7 hDo I8 hadd HI11 Hq4 Hd4 Ht4 Ho10 Htab
    gi_wp2
    rw [← HW6.out]
    refine ⟨by simp, .inl ⟨_, _, rfl, run_takeDeferred Hd7.out, ?_⟩⟩
    exact ⟨_, results_tmp rfl _ _ _, Eq.subst (motive := fun v => KErrPost w k K L i a c (forkQ K i) (.returned v) ((W6.setCell ⟨a, 8, none⟩ (.int .i64 pn1)).putObj W0.heap.size (.deferred none))) (show Value.int .i64 0 = _ by first | kernel_rfl | rfl) hfin.out⟩
  case stop =>
    rintro cc W h _
    exact h.elim
theorem afork_any (w : World) (k : Nat) (K : KQ) (L : KLay) (h : KF w k K L) (N : Nat) (hok : KOk K N) (hN : N ≤ 1000000) (i : Nat) (h1 : 1 ≤ i) (h2 : i ≤ K.qn) (a : Nat) (c : SysQ) (ha : AskAt w a k (L.qb i) c noResV) (hao : L.o a = none) :
    Calls Tryz.prog 28 #[ptrAt a] w (KErrPost w k K L i a c (forkQ K i)) := by
  by_cases e : 24 ≤ procsN K
  · exact afork_full w k K L h i h1 h2 a c ha hao e
  · exact afork_ok w k K L h N hok hN i h1 h2 a c ha hao e
end Go.Proofs.YtffekmjoenppaaaGreatDoor

/- What a kernel's data keep, call by call. No program in sight; each law's own premises. -/
namespace Go.Proofs.YtffekmjoenppaaaGreatDoor
open Go.RowKit

section
variable {σ : FSt}
theorem Live.hold (h : Live σ) (i : Int) : Live (holdR σ i).2 := by
  unfold holdR
  cases hn : σ.ndI i with
  | none => exact h
  | some n =>
    obtain ⟨k, rfl, hk⟩ := ndI_some hn
    exact h.meta (n := n) (i := (k : Int).toNat) (by simpa using hk) rfl rfl rfl rfl rfl
theorem Live.make (h : Live σ) (dir : Int) (s : List UInt8) (d : Bool) (m : Int) : Live (makeR σ dir s d m).2 := by
  unfold makeR
  by_cases hE : addE σ dir s d ≠ 0
  · rw [if_pos hE]; exact h
  rw [if_neg hE]
  have hE : addE σ dir s d = 0 := by simpa using hE
  unfold addE at hE
  by_cases h1 : (aheadE σ dir s).1 ≠ 0
  · rw [if_pos h1] at hE; exact absurd hE h1
  rw [if_neg h1] at hE
  obtain ⟨n, hn, hnd, hln⟩ := ahead_ok (by simpa using h1)
  by_cases h2 : slashS s = true ∧ d = false
  · rw [if_pos h2] at hE; exact absurd hE (by simp)
  rw [if_neg h2] at hE
  by_cases h3 : openS σ (aheadE σ dir s).2.1 (aheadE σ dir s).2.2 ≠ 0
  · rw [if_pos h3] at hE; exact absurd hE h3
  rw [if_neg h3] at hE
  by_cases h4 : 100 ≤ σ.cnt
  · rw [if_pos h4] at hE; exact absurd hE (by simp)
  unfold addS
  generalize (aheadE σ dir s).2.1 = a at *
  generalize (aheadE σ dir s).2.2 = nm at *
  have hna : (σ.add (newNd d m a)).nd a = some n := (FSt.add_other (by rw [hn]; rfl) _).trans hn
  exact (h.add (n := newNd d m a) rfl rfl (by show (σ.nd a).isSome = true; rw [hn]; rfl) (by omega)).link hna hln (by rw [FSt.add_same]; rfl)
end
section
variable {K : KQ} {N : Nat}
theorem KOk.σ' (h : KOk K N) {σ : FSt} {M : Nat} (hk : Kept σ M) (hl : Live σ) (hM : N ≤ M) : KOk { K with σ := σ } M := (h.mono hM).σ (hk.good hl)
theorem KOk.moreQ (h : KOk K N) {j : Nat} (h1 : 1 ≤ j) (h2 : j ≤ K.dn) : KOk (moreQ K j) (N + 1) := h.refQ (some (j, false)) (fun x e => by cases e; exact ⟨h1, h2⟩)
theorem KOk.nameQ (h : KOk K N) {i j : Nat} (h1 : 1 ≤ i) (h2 : i ≤ K.qn) (h3 : 1 ≤ j) (h4 : j ≤ K.dn) (fd : Nat) : KOk (nameQ K i fd j) N :=
  h.fdsU h1 h2 (fun fd' x y e => by
    rcases set_some e with e | e
    · cases e; exact ⟨h3, h4⟩
    · exact h.fds i fd' x y h1 h2 e)
theorem KOk.dupQ (h : KOk K N) {i : Nat} (h1 : 1 ≤ i) (h2 : i ≤ K.qn) (least : Bool) (fa fb : Int) (hl : Live (dupQ K i least fa fb).2.σ) : KOk (dupQ K i least fa fb).2 (N + 2) := by
  unfold Go.Proofs.YtffekmjoenppaaaGreatDoor.dupQ at hl ⊢
  cases hfd : fdQ K i fa with
  | none => exact h.mono (by omega)
  | some j =>
    have hj := fdQ_ok h.fds h1 h2 hfd
    rw [hfd] at hl
    simp only at hl ⊢
    by_cases e1 : least = true
    · rw [if_pos e1]
      by_cases e2 : inB fb = false
      · rw [if_pos e2]; exact h.mono (by omega)
      · rw [if_neg e2]
        split
        · exact h.mono (by omega)
        · exact ((h.nameQ h1 h2 hj.1 hj.2 _).moreQ hj.1 hj.2).mono (by omega)
    · rw [if_neg e1] at hl ⊢
      by_cases e2 : inB fb = false
      · rw [if_pos e2]; exact h.mono (by omega)
      · rw [if_neg e2] at hl ⊢
        by_cases e3 : fa = fb
        · rw [if_pos e3]; exact h.mono (by omega)
        · rw [if_neg e3] at hl ⊢
          have hn := (h.moreQ hj.1 hj.2).nameQ h1 h2 hj.1 hj.2 fb.toNat
          cases ho : (K.proc i).fds fb.toNat with
          | none => exact hn.mono (by omega)
          | some om =>
            obtain ⟨o, m⟩ := om
            rw [ho] at hl
            have hoo := h.fds i fb.toNat o m h1 h2 ho
            exact KOk.dropQ hn hoo.1 hoo.2 hl
theorem KOk.forkQ (h : KOk K N) {i : Nat} (h1 : 1 ≤ i) (h2 : i ≤ K.qn) : KOk (forkQ K i).2 (N + 33) := by
  unfold Go.Proofs.YtffekmjoenppaaaGreatDoor.forkQ
  split
  · exact h.mono (by omega)
  · have hr := h.refsQ (K.proc i).fds (fun fd j x e => h.fds i fd j x h1 h2 e) 32
    have hE := refsQ_eq K (K.proc i).fds 32
    have hs := hr.σ (σ := (holdR K.σ (K.proc i).dir).2) (((h.good.hold (K.proc i).dir).mono (by omega)).good (h.good.live.hold _))
    have hp := h.proc i h1 h2
    refine hs.addQ (q := { K.proc i with parent := i, inn := true }) ⟨hp.dir, hp.mask, by have := h.qn; show i ≤ _; omega, hp.status⟩ (fun fd j x e => ?_)
    show 1 ≤ j ∧ j ≤ (Go.Proofs.YtffekmjoenppaaaGreatDoor.refsQ K (K.proc i).fds 32).dn
    rw [hE.dn]
    exact h.fds i fd j x h1 h2 e
theorem pipeD_ok {N n kd : Nat} {K : KQ} (hk : kd = 3 ∨ kd = 4) (hn : 1 ≤ n ∧ n ≤ K.pn) (hpn : K.pn ≤ N) (hN : N ≤ 1000000) : DescOk K (N + 1) { pipeD n kd with refs := 1, inn := true } :=
  ⟨by show 1 ≤ kd ∧ kd ≤ 5; omega, fun e => by have e : kd = 1 := e; omega, fun e => by have e : kd = 5 := e; omega, fun _ => hn, by show n ≤ _; omega, fun _ => Nat.zero_le _, by show 0 < 64; decide, ⟨by show (1 : Int) ≤ _; omega, by show -_ ≤ (1 : Int); omega⟩, Nat.zero_le _⟩
theorem KOk.pipeQ (h : KOk K N) (hN : N + 3 ≤ 1000000) {i : Nat} (h1 : 1 ≤ i) (h2 : i ≤ K.qn) : KOk (pipeQ K i).2 (N + 3) := by
  unfold Go.Proofs.YtffekmjoenppaaaGreatDoor.pipeQ
  split
  · exact h.mono (by omega)
  · have hp := h.addP (p := pipe0) ⟨by show 0 ≤ 64; decide, by show 1 ≤ N + 1; omega, by show 1 ≤ N + 1; omega⟩
    have ho1 := hp.openQ h1 h2 (d := pipeD (K.pn + 1) 3) (pipeD_ok (.inl rfl) ⟨by omega, Nat.le_refl _⟩ hp.pn (by omega))
    have hq := openQ_qn (K.addP pipe0) i (pipeD (K.pn + 1) 3)
    have hpn := openQ_pn (K.addP pipe0) i (pipeD (K.pn + 1) 3)
    exact ho1.openQ h1 (by rw [hq]; exact h2) (d := pipeD (K.pn + 1) 4) (pipeD_ok (.inr rfl) ⟨by omega, by rw [hpn]; exact Nat.le_refl _⟩ ho1.pn (by omega))
end
end Go.Proofs.YtffekmjoenppaaaGreatDoor
