/- gate.register.all at descriptions: the iterator goes through the numbers in order. Conditions: each contract's own premises. -/
import Derived.Test.YtdnbfhcbcdodmaaGreatDoorKerF
import Derived.Test.YtdnbfhcbcdodmaaGreatDoorGTabB
import Derived.Test.YtdnbfhcbcdodmaaGreatDoorShelf
import Derived.Test.YtdnbfhcbcdodmaaGreatDoorKerAllP
import Derived.Shelf.Abstract
import Derived.Shelf.AbstractIn
import Derived.OwnWalkIn
import Derived.TacticsInMore
import Derived.LoopNIn
import Derived.LoopIn
import Derived.Lib.SlKeysI
import Derived.Test.YtdnbfhcbcdodmaaGreatDoorRegionRd
import Derived.Test.YtdnbfhcbcdodmaaGreatDoorRegionIn
import Derived.Maps.OwnIn
namespace Go.Proofs.YtdnbfhcbcdodmaaGreatDoor
open Go.RowKit Go.Shelf Go.Maps

attribute [local go_sem] Oper.semAt_some

theorem dall_any (p : Option Addr) (w : World) : Calls Tryz.prog 34 #[.pointer p] w fun e w' =>
    e = .returned (.func (.func 67) #[] #[.pointer (some ⟨w.heap.size, 0, none⟩)]) ∧ w' = w.alloc (.cells #[.pointer p] 150 (0, 0)) := by
  go_enter Tryz.func34, Tryz.ntmps34
  go_wp2
  go_ret
  exact ⟨rfl, rfl⟩
set_option maxRecDepth 100000 in
set_option maxHeartbeats 4000000 in
theorem dall1_iter {σ : Type} (n : Nat) (hn : 2 ≤ n) (box mb k o : Nat) (pos : σ → Nat) (next : σ → σ) (hpos : ∀ s, pos (next s) = pos s + 1) (L : IL) (hL : L.length ≤ 1000000) (hk64 : ∀ p ∈ L, -9223372036854775808 ≤ p.1 ∧ p.1 ≤ 9223372036854775807) (I : σ → (Nat → Prop) → World → Prop)
    (hI : ∀ s A W, I s A W → IMapAt Tryz.prog 3 W mb L ∧ W.cell? ⟨k, o + 1, none⟩ = some (.map (some mb)) ∧ W.cell? ⟨box, 0, none⟩ = some (.pointer (some ⟨k, o, none⟩))) (s0 : σ) (hs0 : pos s0 = 0)
    (l : Nat) (J : σ → (Nat → Prop) → World → Prop) (Jx : (Nat → Prop) → World → Prop) (W : World) (hJI : ∀ s A W, J s A W → I s A W)
    (hJf : ∀ s (A : Nat → Prop) W W', J s A W → Fr (fun k => ¬ A k) W W' → J s A W')
    (hY : ∀ s A x s' W, RStep pos next L s x s' → J s A W → YieldAt FW (n - 1) Tryz.prog l (renc x) W fun e W' => Fr A W W' ∧ ((e = .returned (.bool true) ∧ J s' (fun k => A k ∨ (W.heap.size ≤ k ∧ k < W'.heap.size)) W') ∨ (e = .returned (.bool false) ∧ Jx (fun k => A k ∨ (W.heap.size ≤ k ∧ k < W'.heap.size)) W')))
    (h0 : J s0 (fun k => k < W.heap.size) W) :
    CallsIn FW n Tryz.prog 67 (#[.func (.yield l) #[] #[]] ++ #[.pointer (some ⟨box, 0, none⟩)]) W fun e W' => (∃ v, e = .returned v) ∧ ((∃ s A, RFin pos L s ∧ J s A W') ∨ ∃ A, Jx A W') := by
  simp only [List.append_toArray, List.cons_append, List.nil_append]
  obtain ⟨hm0, hk0, hbox0⟩ := hI _ _ _ (hJI _ _ _ h0)
  have hK := hide (callsIn_wide.1 (Tryz.maps_Keys_68 (some mb) W))
  have hS := hide (callsIn_wide.1 (Tryz.slices_Sorted_keys_62_68 mb L.length (iOf L) rV W hm0.own (by rw [iOf_size]; unfold maxLen; omega) (by rw [iOf_size]; omega)))
  have hsrt := hide hm0.sorted
  have HJ0 := hide h0
  have hn1 : 1 ≤ n := by omega
  clear h0 hm0
  refine callsIn_of_wp Tryz.func67 rfl trivial ?_ rfl
  simp only [Tryz.ntmps67, List.size_toArray, List.length_cons, List.length_nil, Nat.reduceAdd, Nat.reduceSub, Array.replicate_succ, Array.replicate_zero, List.push_toArray, List.append_toArray, List.nil_append, List.cons_append]
  gi_wp2_with (refine ⟨trivial, ?_⟩; first
    | (gi_at_call 68; refine (callsIn_wide.2 hK.out).mono ?_; rintro e w1 ⟨rfl, rfl⟩)
    | (gi_at_call 62; refine (callsIn_wide.2 hS.out).mono ?_; rintro e w2 ⟨v, ss, rfl, hp, hrow, _, hb2⟩; rw [iOf_keys] at hp; rw [isorted_keys hsrt.out hp, show ss.length = L.length from (by rw [hp.length_eq]; simp)] at hrow; clear hp; obtain ⟨va, vc, rfl⟩ := own_form hrow))
  have hfW : Fr (fun _ => False) W w2 := ((Fr.refl _ _).alloc _).trans (Fr.of_below hb2 _)
  have hJ2 := hJf _ _ _ _ HJ0.out (hfW.mono (fun _ _ e => e.elim))
  have hvb : ∀ q, (Value.slice va L.length vc).ownBlock = some q → W.heap.size < q := fun q e => by have := (hrow.lt q e).1; simp at this; omega
  have h0 : RItRel (W.heap.size + 1) pos L J (.slice va L.length vc) (.int .i64 0) w2 := ⟨0, s0, _, rfl, by omega, hs0, hJ2, by simpa using hrow, fun q e h => by have := hvb q e; omega⟩
  have h0 := hide h0
  clear HJ0 hfW hJ2 hvb hrow hb2 hK hS hbox0 hk0
  gi_loopw [12] (fun i wr => RItRel (W.heap.size + 1) pos L J (.slice va L.length vc) i wr) (fun i _ => L.length - (Go.RowKit.intOf i).toNat)
  case atStart => exact h0.out
  case round =>
    clear h0
    obtain ⟨j, s, A, rfl, hk, hps, hJ, hrow, hnA⟩ := hrel
    by_cases hlt : j < L.length
    · obtain ⟨g, rfl, hg1, hg2, hc⟩ := own_cells hrow (by omega)
      have hck := hc j (.int .i64 L[j].1) (by simp [encZ, hlt])
      obtain ⟨hm, hkc, hbox⟩ := hI s A wr (hJI s A wr hJ)
      have hlk := hm.look (t := 62) (e := 74) false Tryz.underlying3 Tryz.underlying62 (z := .pointer none) (by kernel_rfl) L[j].1 (hk64 _ (List.getElem_mem hlt))
      rw [iget_at hsrt.out hlt] at hlk
      simp only [Option.getD_some, Bool.false_eq_true, if_false] at hlk
      have hstep : RStep pos next L s L[j] (next s) := ⟨by omega, by subst hps; rfl, rfl⟩
      obtain ⟨fn, tmps, assign, body, hy, hR⟩ := hY s A L[j] (next s) wr hstep hJ
      simp only [renc] at hy hR
      have Hps := hide hps
      have HR := hide hR
      have hJ := hide hJ
      have hnA := hide hnA
      have hrow := hide hrow
      have hl1 : (0 : Int) ≤ (j : Int) := by omega
      have hl2 : (j : Int) < (L.length : Int) := by omega
      clear hps hR hstep hc hm hk64
      generalize hxx : L[j] = x at *
      gi_wp2
      refine HR.out.mono ?_
      rintro e W3 ⟨hf3, (⟨rfl, hJ3⟩ | ⟨rfl, hJx3⟩)⟩
      · have hnext : RItRel (W.heap.size + 1) pos L J (.slice (some ⟨g, 0, none⟩) L.length vc) (.int .i64 ((j : Int) + 1)) W3 :=
          ⟨j + 1, next s, _, by go_num, by omega, by rw [hpos, Hps.out], hJ3, own_frame hrow.out hf3 (fun q e => hnA.out q e), fun q e h => h.elim (hnA.out q e) (fun h => by have := (hrow.out.lt q e).2; omega)⟩
        have hnext := hide hnext
        clear hJ3 HR hf3
        gi_wp2
        go_roundw
        case rel => exact hnext.out
        case measure => simp [Go.RowKit.intOf]; omega
      · gi_wp2
        refine bodyPost_ret (results_none rfl _ _ _) rfl ?_
        exact ⟨⟨_, rfl⟩, .inr ⟨_, hJx3⟩⟩
    · have hfin : ∃ s A, RFin pos L s ∧ J s A wr := ⟨s, A, by unfold RFin; omega, hJ⟩
      have hfin := hide hfin
      have hkd : decide ((j : Int) < (L.length : Int)) = false := decide_eq_false (by omega)
      clear hrow hnA hJ
      gi_wp2
      go_end0
      exact ⟨⟨_, rfl⟩, .inl hfin.out⟩
end Go.Proofs.YtdnbfhcbcdodmaaGreatDoor

/- A region that draws its order, in a round of a range over a function: what only reads first, then a tail in a forced order; whatever follows. Conditions: closed facts on the region, by the kernel. -/
namespace Go.Proofs.YtdnbfhcbcdodmaaGreatDoor
open Go.RowKit

section
variable {P : Program} {ops : Array Oper} {w : World} {F : Fence}
theorem opF_of_stOp (hF : ∀ f, F.fn f) {n i : Nat} {o : Oper} (ho : ops[i]? = some o) (hv : valueOp o = true) {K : Act → Prop} {K' : Act → World → Prop} {Q : Exit → Act → World → Prop} {a : Act} (h : ∀ a', K a' → K' a' w) (hh : stOp P ops w i K a) : wpOpIn F n P ops Q i K' a w := by
  unfold stOp at hh
  unfold wpOpIn
  simp only [ho] at hh ⊢
  split
  · rename_i hw
    rw [if_pos hw] at hh
    refine ⟨fun _ _ => hF _, ?_⟩
    rw [Oper.semAt_plain _ _ _ (valueOp_plain hv)]
    unfold Oper.still at hh
    cases hr : (execOp a.eval o).run P w with
    | ok nx w' =>
      obtain ⟨v, rfl⟩ := valueOp_value hv hr
      rw [hr] at hh
      simp only [Oper.stillUpon] at hh
      obtain ⟨rfl, hk⟩ := hh
      exact h _ hk
    | halt x w' =>
      rw [hr] at hh
      exact hh.elim
  · rename_i hw
    rw [if_neg hw] at hh
    exact ⟨fun _ _ => hF _, h _ hh⟩
theorem anyF_of_head (hF : ∀ f, F.fn f) {n m g : Nat} {L : Array Bool → Act → Prop} {Q : Exit → Act → World → Prop} (hv : ∀ i o, i < m → ops[i]? = some o → valueOp o = true) (hL : ∀ listed a, L listed a → wpAnyIn F n P .any ops Q g listed a w) :
    ∀ (f : Nat) (listed : Array Bool) (a : Act), wpAnyL P .any ops w m L f listed a → wpAnyIn F n P .any ops Q (f + g) listed a w
  | 0, listed, a, h => by rw [Nat.zero_add]; exact hL _ _ h
  | f + 1, listed, a, h => by
    rw [show f + 1 + g = (f + g) + 1 by omega]
    refine ⟨fun h0 => absurd h0 h.1, fun i hi => ?_⟩
    obtain ⟨hin, hst⟩ := h.2 i hi
    obtain ⟨_, o, ho, _⟩ := mem_ready.1 hi
    exact opF_of_stOp hF ho (hv i o hin ho) (fun a' h' => anyF_of_head hF hv hL f _ a' h') hst
theorem anyF_of_seq {n : Nat} {Q : Exit → Act → World → Prop} : ∀ (l : List Oper) (k : Nat) (listed : Array Bool) (a : Act) (w : World), (∀ j, l[j]? = ops[k + j]?) →
    Region.seqB .any ops l.length k listed = true → wpListIn F n P ops Q l a w → wpAnyIn F n P .any ops Q l.length listed a w
  | [], _, _, _, _, _, hB, h => ⟨by simpa [Region.seqB] using hB, h⟩
  | o :: l, k, listed, a, w, hl, hB, h => by
    have h0 : ops[k]? = some o := by simpa using (hl 0).symm
    simp only [List.length_cons, Region.seqB, Bool.and_eq_true, decide_eq_true_eq] at hB
    refine ⟨fun h1 => (by rw [hB.1] at h1; cases h1), fun i hi => ?_⟩
    rw [hB.1] at hi
    have hik : i = k := by simpa using hi
    subst hik
    have hw : wpOpIn F n P ops Q i (wpListIn F n P ops Q l) a w := by unfold wpOpIn; simp only [h0]; exact h
    exact wpOpIn_mono (fun a' w' h' => anyF_of_seq l (i + 1) _ a' w' (fun j => by have := hl (j + 1); simpa [Nat.add_assoc, Nat.add_comm 1 j] using this) hB.2 h') hw
theorem region_rd_F (hF : ∀ f, F.fn f) {n id : Nat} {Q : Exit → Act → World → Prop} {a : Act} {l : List Oper} (rd : List Nat) (m : Nat) (hm : P.follows .mixedOrders = true) (hB : mixB l.toArray [] rd m = true) (hV : (List.range m).all (fun i => (l.toArray[i]?.map valueOp).getD false) = true)
    (h0 : wpQuiet P l.toArray (fun w' => w' = w.drew) (fun a2 => wpListIn F n P l.toArray Q (l.drop m) a2 w.drew) (rd.map (fun i => l.getD i default)) a) :
    (Code.region id l.toArray true).wpIn F n P Q a w := by
  simp only [mixB, Bool.and_eq_true, decide_eq_true_eq, List.all_eq_true] at hB
  obtain ⟨⟨⟨⟨⟨⟨⟨⟨hs, hn⟩, hc⟩, hlen⟩, hbl⟩, hl1⟩, hrd⟩, hl2⟩, hq⟩ := hB
  have hn2 : m < l.length := by simpa using hn
  have h := h0
  rw [← pickOps_map l rd (fun i hi => by have := (hrd i hi).1; omega)] at h
  have inv0 : MixInv l.toArray m (Array.replicate l.toArray.size false) :=
    ⟨by simp, fun j oj _ hl => (by rw [getD_replicate_false] at hl; cases hl), fun t _ ht => getD_in (by simpa using ht) (getD_replicate_false _ _)⟩
  have hlen : rd.length = m := by simpa using hlen
  have hsz : l.toArray.size = rd.length + (l.drop m).length := by simp at hn ⊢; omega
  have hg : l.toArray.size - m = (l.drop m).length := by simp
  refine wpIn_region_any hm ?_
  have key : wpAnyIn F n P .any l.toArray Q (rd.length + (l.drop m).length) (Array.replicate l.toArray.size false) a w.drew := by
    refine anyF_of_head hF (m := m) (L := fun listed' a' => Region.seqB .any l.toArray (l.drop m).length m listed' = true ∧ wpListIn F n P l.toArray Q (l.drop m) a' w.drew) ?_ ?_ rd.length _ _ ?_
    · intro i o hi ho
      have h9 := List.all_eq_true.1 hV i (List.mem_range.2 hi)
      rw [ho] at h9
      simpa using h9
    · intro listed a' hL
      exact anyF_of_seq (l.drop m) m listed a' w.drew (fun j => by simp) hL.1 hL.2
    · exact any_reads hs hc hn rd _ a inv0 (fun i hi => by have := hrd i hi; exact ⟨this.1, by simpa using this.2⟩) hl2 (by rw [← hg]; exact hq) (still_of_quiet _ _ h)
  rw [← hsz] at key
  exact key
end
theorem round_fn (l : Nat) : ∀ f, (FW.inRound l).fn f := fun _ => trivial
end Go.Proofs.YtdnbfhcbcdodmaaGreatDoor

/- gate.Kernel.Procs: the processes, by their numbers. Conditions: each contract's own premises. -/
namespace Go.Proofs.YtdnbfhcbcdodmaaGreatDoor
open Go.RowKit Go.Shelf Go.Maps

attribute [local go_sem] Oper.semAt_some

theorem KF.procMap {w : World} {k : Nat} {K : KQ} {L : KLay} (h : KF w k K L) (hn : 1 ≤ K.qn) : ∃ g, L.qm = some g ∧ IMapAt Tryz.prog 3 w g (regL (fun i => (K.proc i).inn) (fun i => ptrAt (L.qb i)) K.qn) := by
  have := h.qr
  cases e : L.qm with
  | none => rw [e] at this; have : K.qn = 0 := this; omega
  | some g => rw [e] at this; exact ⟨g, rfl, this⟩
/-- The numbers of those that are there. -/
def numsL (inn : Nat → Bool) (n : Nat) : List Nat := (List.range' 1 n).filter inn
theorem regL_nums {α : Type} (inn : Nat → Bool) (v : Nat → α) : ∀ n, regL inn v n = (numsL inn n).map fun i : Nat => ((i : Int), v i)
  | 0 => rfl
  | n + 1 => by
    unfold numsL
    rw [List.range'_concat, List.filter_append, List.map_append, regL, regL_nums inn v n]
    unfold numsL
    congr 1
    rw [Nat.one_mul, Nat.add_comm 1 n]
    cases h : inn (n + 1) <;> simp [h]
theorem numsL_mem {inn : Nat → Bool} {n i : Nat} : i ∈ numsL inn n ↔ 1 ≤ i ∧ i ≤ n ∧ inn i = true := by
  unfold numsL
  rw [List.mem_filter, List.mem_range'_1]
  constructor
  · rintro ⟨⟨a, b⟩, c⟩
    exact ⟨a, by omega, c⟩
  · rintro ⟨a, b, c⟩
    exact ⟨⟨a, by omega⟩, c⟩
def pidsL (K : KQ) : List Nat := numsL (fun i => (K.proc i).inn) K.qn
def penc (K : KQ) (i : Nat) : Array Value := #[.agg #[.int .i64 i, .int .i64 (K.proc i).parent, .bool (K.proc i).ended, .int .i64 (K.proc i).status]]
theorem procs_any (p : Option Addr) (w : World) : Calls Tryz.prog 11 #[.pointer p] w fun e w' =>
    e = .returned (.func (.func 29) #[] #[.pointer (some ⟨w.heap.size, 0, none⟩)]) ∧ w' = w.alloc (.cells #[.pointer p] 24 (0, 0)) := by
  go_enter Tryz.func11, Tryz.ntmps11
  go_wp2
  go_ret
  exact ⟨rfl, rfl⟩
def pactx (l box w0 k : Nat) (x : Int × Value) : Act := { tmps := #[.func (.yield l) #[] #[], .pointer (some ⟨box, 0, none⟩), .pointer (some ⟨w0, 0, none⟩), undef, x.2, .pointer (some ⟨k, 0, none⟩), .bool false, .pointer (some ⟨k, 0, none⟩), .pointer (some ⟨k, 0, none⟩), .pointer (some ⟨k, 5, none⟩),
  .func (.func 61) #[] #[.pointer (some ⟨w0 + 1, 0, none⟩)], .int .i64 x.1, x.2, undef, undef, undef, undef, undef, undef, undef], defers := [] }
def pOuter (w0 D : Nat) {σ : Type} (J : σ → (Nat → Prop) → World → Prop) (yb l bm k : Nat) (s : σ) (A : Nat → Prop) (W : World) : Prop :=
  ∃ Ao : Nat → Prop, J s Ao W ∧ (∀ k, Ao k → A k) ∧ (∀ k, w0 ≤ k → k < D + 2 → ¬ Ao k) ∧ w0 ≤ yb ∧ yb < D ∧ w0 ≤ bm ∧ bm < D ∧ (∀ k, k < D + 2 → A k) ∧
    W.heap[yb]? = some (.cells #[.func (.yield l) #[] #[]] 94 (0, 0)) ∧ W.heap[bm]? = some (.cells #[.pointer (some ⟨k, 5, none⟩)] 126 (0, 0))
set_option maxRecDepth 100000 in
set_option maxHeartbeats 4000000 in
theorem procs1_iter {σ : Type} (n : Nat) (hn : 4 ≤ n) (box k : Nat) (K : KQ) (hq : 1 ≤ K.qn) (hqN : K.qn ≤ 1000000) (pos : σ → Nat) (next : σ → σ) (hpos : ∀ s, pos (next s) = pos s + 1) (I : σ → (Nat → Prop) → World → Prop)
    (L : KLay) (hI : ∀ s A W, I s A W → W.cell? ⟨box, 0, none⟩ = some (.pointer (some ⟨k, 0, none⟩))) (hIL : ∀ s A W, I s A W → KF W k K L) (s0 : σ) (hs0 : pos s0 = 0)
    (l : Nat) (J : σ → (Nat → Prop) → World → Prop) (Jx : (Nat → Prop) → World → Prop) (W : World) (hJI : ∀ s A W, J s A W → I s A W)
    (hJf : ∀ s (A : Nat → Prop) W W', J s A W → Fr (fun k => ¬ A k) W W' → J s A W') (hJxf : ∀ (A : Nat → Prop) W W', Jx A W → Fr (fun k => ¬ A k) W W' → Jx A W') (hJA : ∀ s A W, J s A W → ∀ k, A k → k < W.heap.size)
    (hY : ∀ s A x s' W, RStep pos next (pidsL K) s x s' → J s A W → YieldAt FW (n - 1) Tryz.prog l (penc K x) W fun e W' => Fr A W W' ∧ ((e = .returned (.bool true) ∧ J s' (fun k => A k ∨ (W.heap.size ≤ k ∧ k < W'.heap.size)) W') ∨ (e = .returned (.bool false) ∧ Jx (fun k => A k ∨ (W.heap.size ≤ k ∧ k < W'.heap.size)) W')))
    (h0 : J s0 (fun k => k < W.heap.size) W) :
    CallsIn FW n Tryz.prog 29 (#[.func (.yield l) #[] #[]] ++ #[.pointer (some ⟨box, 0, none⟩)]) W fun e W' => (∃ v, e = .returned v) ∧ ((∃ s A, RFin pos (pidsL K) s ∧ J s A W') ∨ ∃ A, Jx A W') := by
  simp only [List.append_toArray, List.cons_append, List.nil_append]
  have hbox0 := hI _ _ _ (hJI _ _ _ h0)
  have hF0 := hIL _ _ _ (hJI _ _ _ h0)
  obtain ⟨mb, hmb, _⟩ := hF0.procMap hq
  have hn1 : 1 ≤ n := by omega
  have hlb1 : box < W.heap.size := World.block_lt_of_cell? _ _ hbox0
  have hlk : k < W.heap.size := blk_lt hF0.hk
  have HJ0 := hide h0
  have Hmb := hide hmb
  clear h0 hF0 hmb
  refine callsIn_of_wp_marks Tryz.func29 rfl trivial ?_ rfl
  simp only [Tryz.ntmps29, List.size_toArray, List.length_cons, List.length_nil, Nat.reduceAdd, Nat.reduceSub, Array.replicate_succ, Array.replicate_zero, List.push_toArray, List.append_toArray, List.nil_append, List.cons_append]
  gi_wp2_with (refine ⟨trivial, ?_⟩; gi_at_call 30; refine (callsIn_wide.2 (pall_any _ _)).mono ?_; rintro e w1 ⟨rfl, rfl⟩)
  have hJ2 : J s0 (fun k => k < W.heap.size) ((W.alloc (.cells #[.func (.yield l) #[] #[]] 94 (0, 0))).alloc (.cells #[.pointer (some ⟨k, 5, none⟩)] 126 (0, 0))) :=
    hJf _ _ _ _ HJ0.out ((((Fr.refl (fun _ => False) W).alloc _).alloc _).mono (fun _ _ h => h.elim))
  have hyb := blk_alloc (blk_new W (.cells #[.func (.yield l) #[] #[]] 94 (0, 0))) (.cells #[.pointer (some ⟨k, 5, none⟩)] 126 (0, 0))
  have hbm := blk_new' (W.alloc (.cells #[.func (.yield l) #[] #[]] 94 (0, 0))) (.cells #[.pointer (some ⟨k, 5, none⟩)] 126 (0, 0)) (W.heap.size + 1) (by simp)
  have hz : ((W.alloc (.cells #[.func (.yield l) #[] #[]] 94 (0, 0))).alloc (.cells #[.pointer (some ⟨k, 5, none⟩)] 126 (0, 0))).heap.size = W.heap.size + 2 := by simp
  generalize ((W.alloc (.cells #[.func (.yield l) #[] #[]] 94 (0, 0))).alloc (.cells #[.pointer (some ⟨k, 5, none⟩)] 126 (0, 0))) = w1 at *
  have hI0 : pOuter W.heap.size w1.heap.size J W.heap.size l (W.heap.size + 1) k s0 (fun k => k < w1.heap.size + 2) w1 :=
    ⟨_, hJ2, fun k hk => by omega, fun k h1 h2 h3 => by omega, by omega, by omega, by omega, by omega, fun k hk => hk, hyb, hbm⟩
  clear hyb hbm hJ2 hbox0 HJ0
  have hlen : (regL (fun i => (K.proc i).inn) (fun i => ptrAt (L.qb i)) K.qn).length = (pidsL K).length := by rw [regL_nums, List.length_map]; rfl
  have hle : (pidsL K).length ≤ 1000000 := by
    have := List.length_filter_le (fun i => (K.proc i).inn) (List.range' 1 K.qn)
    rw [List.length_range'] at this
    exact Nat.le_trans this hqN
  obtain ⟨LL, hLL⟩ : ∃ LL, LL = regL (fun i => (K.proc i).inn) (fun i => ptrAt (L.qb i)) K.qn := ⟨_, rfl⟩
  rw [← hLL] at hlen
  have hat : ∀ (m : Nat) (h : m < LL.length), ∃ h' : m < (pidsL K).length, LL[m] = (((pidsL K)[m] : Int), ptrAt (L.qb (pidsL K)[m])) := fun m h => by
    refine ⟨by omega, ?_⟩
    have e : LL = (pidsL K).map fun i : Nat => ((i : Int), ptrAt (L.qb i)) := by rw [hLL, regL_nums]; rfl
    simp only [e, List.getElem_map]
  have Hat := hide hat
  have HLL := hide hLL
  clear hat hLL
  refine rf_law3 (α := Int × Value) (σ := σ) 61 #[.pointer (some ⟨W.heap.size + 1, 0, none⟩)] rfl (enters_of Tryz.func61 (by kernel_rfl) rfl) renc (fun _ => rfl)
    (RStep pos next LL) (RFin pos LL) s0 (pOuter W.heap.size w1.heap.size J W.heap.size l (W.heap.size + 1) k)
    (fun c A W' => c = .ret ∧ ∃ Ao : Nat → Prop, Jx Ao W' ∧ (∀ k, Ao k → A k) ∧ (∀ k, W.heap.size ≤ k → k < w1.heap.size + 2 → ¬ Ao k))
    ?hI ?hImono ?hIx ?hIxmono hI0 ?hiter
    (fun x a' _ => a' = pactx l box W.heap.size k x) ?hAx ?assign ?body ?done ?stop
  case assign =>
    rintro l' s A x s' X Kc _ _ _ hK
    have hK := hide hK
    simp only [renc]
    gi_wp2
    exact hK.out _ _ (Fr.refl _ _) rfl
  case hI =>
    rintro s A X Y ⟨Ao, h1, h2, h3, h4, h5, h6, h7, h8, h9, h10⟩ hf
    have hno : ∀ k, k < w1.heap.size → A k → ¬ (k = w1.heap.size ∨ k = w1.heap.size + 1 ∨ ¬ A k) := fun k hk hA e => by
      rcases e with e | e | e
      · omega
      · omega
      · exact e hA
    refine ⟨Ao, hJf _ _ _ _ h1 (hf.mono fun k _ e hk => ?_), h2, h3, h4, h5, h6, h7, h8, hf.get h9 (hno _ h5 (h8 _ (by omega))), hf.get h10 (hno _ h7 (h8 _ (by omega)))⟩
    rcases e with e | e | e
    · exact h3 k (by omega) (by omega) hk
    · exact h3 k (by omega) (by omega) hk
    · exact e (h2 k hk)
  case hImono =>
    rintro s A A' X ⟨Ao, h1, h2, h3, h4, h5, h6, h7, h8, h9, h10⟩ hA
    exact ⟨Ao, h1, fun k hk => hA _ (h2 k hk), h3, h4, h5, h6, h7, fun k hk => hA _ (h8 k hk), h9, h10⟩
  case hIx =>
    rintro c A X Y ⟨hc, Ao, h1, h2, h3⟩ hf
    refine ⟨hc, Ao, hJxf _ _ _ h1 (hf.mono fun k _ e hk => ?_), h2, h3⟩
    rcases e with e | e | e
    · exact h3 k (by omega) (by omega) hk
    · exact h3 k (by omega) (by omega) hk
    · exact e (h2 k hk)
  case hIxmono =>
    rintro c A A' X ⟨hc, Ao, h1, h2, h3⟩ hA
    exact ⟨hc, Ao, h1, fun k hk => hA _ (h2 k hk), h3⟩
  case hiter =>
    intro l' J' Jx' W' hJI' hJf' _ hJA' hY' h0'
    refine pall1_iter (n - 1) (by omega) (W.heap.size + 1) mb k 5 pos next hpos LL (by omega) (fun p hp => ?_) (pOuter W.heap.size w1.heap.size J W.heap.size l (W.heap.size + 1) k) ?_ s0 hs0 l' J' Jx' W' hJI' hJf' hY' h0'
    · rw [HLL.out] at hp
      have := regL_lt hp
      omega
    · rintro s A X ⟨Ao, h1, h2, h3, h4, h5, h6, h7, h8, h9, h10⟩
      have hF := hIL _ _ _ (hJI _ _ _ h1)
      obtain ⟨g, hg, hM⟩ := hF.procMap hq
      have e := Hmb.out
      rw [hg] at e
      cases e
      rw [HLL.out]
      exact ⟨hM, by rw [blk_cell hF.hk]; show some (Value.map L.qm) = _; rw [hg], by rw [blk_cell h10]; rfl⟩
  case hAx =>
    rintro x a' X Y h _
    exact h
  case body =>
    rintro l' s A x s' a' X ⟨hlt, rfl, rfl⟩ ⟨Ao, g1, g2, g3, g4, g5, g6, g7, g8, g9, g10⟩ rfl hsz hA0 hA1
    obtain ⟨hlt', hx⟩ := Hat.out _ hlt
    rw [hx]
    have hnm := List.getElem_mem hlt'
    have hF := hIL _ _ _ (hJI _ _ _ g1)
    have hy := hY s Ao (pidsL K)[pos s] (next s) X.drew ⟨hlt', rfl, rfl⟩ (hJf _ _ _ _ g1 ((Fr.refl _ X).drew))
    generalize (pidsL K)[pos s] = i at *
    obtain ⟨i1, i2, _⟩ := numsL_mem.1 hnm
    have hb := blk_drew (hF.hq i i1 i2)
    have hy := yield_wideI (m' := n - 1 - 1 - 1) hy
    unfold penc at hy
    obtain ⟨fn, tmps, assign, body, hyr, hR⟩ := hy
    have c1 : X.drew.cell? ⟨W.heap.size, 0, none⟩ = some (.func (.yield l) #[] #[]) := by rw [blk_cell (blk_drew g9)]; rfl
    have c2 : X.drew.cell? ⟨L.qb i, 0, none⟩ = some (.int .i64 i) := by rw [blk_cell hb]; rfl
    have c3 : X.drew.cell? ⟨L.qb i, 1, none⟩ = some (.int .i64 (K.proc i).parent) := by rw [blk_cell hb]; rfl
    have c4 : X.drew.cell? ⟨L.qb i, 2, none⟩ = some (.bool (K.proc i).ended) := by rw [blk_cell hb]; rfl
    have c5 : X.drew.cell? ⟨L.qb i, 3, none⟩ = some (.int .i64 (K.proc i).status) := by rw [blk_cell hb]; rfl
    have HR := hide hR
    clear hR hx hb hF hnm
    unfold pactx ptrAt
    gi_wp2_with fail
    refine region_rd_F (round_fn l') [0, 1, 2, 3, 4] 5 (by kernel_rfl) (by kernel_rfl) (by kernel_rfl) ?_
    simp only [List.map_cons, List.map_nil, List.getD_cons_zero, List.getD_cons_succ, List.drop_succ_cons, List.drop_zero]
    repeat go_big_quiet_step (fail)
    refine wpQuiet_nil ?_
    gi_wp2
    refine ⟨fun _ => by omega, ?_⟩
    refine RoundIn.mono HR.out ?_
    rintro e W3 ⟨hf3, hor⟩
    have hsz3 := hf3.size
    have hrec1 : W3.heap[w1.heap.size]? = X.heap[w1.heap.size]? := hf3.block _ (by show _ < X.heap.size; omega) (g3 _ (by omega) (by omega))
    have hrec2 : W3.heap[w1.heap.size + 1]? = X.heap[w1.heap.size + 1]? := hf3.block _ (by show _ < X.heap.size; omega) (g3 _ (by omega) (by omega))
    have hf3' : Fr Ao X W3 := ((Fr.refl (fun _ => False) X).drew.mono (fun _ _ e => e.elim)).trans hf3
    have hfA : Fr A X W3 := hf3'.mono (fun k _ hk => g2 k hk)
    have hcov : ∀ k, (Ao k ∨ (X.heap.size ≤ k ∧ k < W3.heap.size)) → (A k ∨ (X.heap.size ≤ k ∧ k < W3.heap.size)) := fun k hk => hk.imp (g2 k) id
    have hout : ∀ k, W.heap.size ≤ k → k < w1.heap.size + 2 → ¬ (Ao k ∨ (X.heap.size ≤ k ∧ k < W3.heap.size)) := fun k h1 h2 h3 => h3.elim (g3 k h1 h2) (fun h3 => by omega)
    have k9 := hf3'.get g9 (g3 _ (by omega) (by omega))
    have k10 := hf3'.get g10 (g3 _ (by omega) (by omega))
    rcases hor with ⟨rfl, hJ3⟩ | ⟨rfl, hJx3⟩
    · have hfin := hide (show rfPost3 w1.heap.size A (pOuter W.heap.size w1.heap.size J W.heap.size l (W.heap.size + 1) k) (fun c A W' => c = .ret ∧ ∃ Ao : Nat → Prop, Jx Ao W' ∧ (∀ k, Ao k → A k) ∧ (∀ k, W.heap.size ≤ k → k < w1.heap.size + 2 → ¬ Ao k)) (next s) X .normal ⟨#[], []⟩ W3 from
        ⟨⟨hrec1, hrec2⟩, hfA, _, hJ3, hcov, hout, g4, g5, g6, g7, fun k hk => .inl (g8 k hk), k9, k10⟩)
      clear hJ3 hfA hcov hout k9 k10 hrec1 hrec2
      gi_wp2
      exact hfin.out
    · have hfin := hide (show rfPost3 w1.heap.size A (pOuter W.heap.size w1.heap.size J W.heap.size l (W.heap.size + 1) k) (fun c A W' => c = .ret ∧ ∃ Ao : Nat → Prop, Jx Ao W' ∧ (∀ k, Ao k → A k) ∧ (∀ k, W.heap.size ≤ k → k < w1.heap.size + 2 → ¬ Ao k)) (next s) X .ret ⟨#[], []⟩ W3 from
        ⟨⟨hrec1, hrec2⟩, hfA, rfl, _, hJx3, hcov, hout⟩)
      clear hJx3 hfA hcov hout k9 k10 hrec1 hrec2
      gi_wp2
      exact hfin.out
  case done =>
    rintro s A X hfin ⟨Ao, g1, g2, g3, g4, g5, g6, g7, g8, g9, g10⟩ hK
    have hput : Fr (fun k => k = w1.heap.size) X (X.putObj w1.heap.size (.deferred none)) := fr_putObj _ rfl
    have hJ := hJf _ _ _ _ g1 (hput.mono (fun k _ e hk => g3 k (by omega) (by omega) hk))
    have hfin' : RFin pos (pidsL K) s := by unfold RFin at hfin ⊢; rw [hfin, hlen]
    gi_wp2
    refine ⟨by simp, .inl ⟨_, _, rfl, run_takeDeferred hK, ?_⟩⟩
    exact ⟨_, results_none rfl _ _ _, ⟨_, rfl⟩, .inl ⟨s, Ao, hfin', hJ⟩⟩
  case stop =>
    rintro c A X ⟨rfl, Ao, h1, h2, h3⟩ hK
    have hput : Fr (fun k => k = w1.heap.size) X (X.putObj w1.heap.size (.deferred none)) := fr_putObj _ rfl
    have hJ := hJxf _ _ _ h1 (hput.mono (fun k _ e hk => h3 k (by omega) (by omega) hk))
    gi_wp2
    refine ⟨by simp, .inl ⟨_, _, rfl, run_takeDeferred hK, ?_⟩⟩
    exact ⟨_, results_none rfl _ _ _, ⟨_, rfl⟩, .inr ⟨Ao, hJ⟩⟩
end Go.Proofs.YtdnbfhcbcdodmaaGreatDoor

/- gate.Kernel.Descs: the descriptions, by their numbers. Conditions: each contract's own premises. -/
namespace Go.Proofs.YtdnbfhcbcdodmaaGreatDoor
open Go.RowKit Go.Shelf Go.Maps

attribute [local go_sem] Oper.semAt_some

def didsL (K : KQ) : List Nat := numsL (fun i => (K.desc i).inn) K.dn
def denc (K : KQ) (i : Nat) : Array Value := #[.int .i64 i, .agg #[.int .i64 (K.desc i).kind, .int .i64 (K.desc i).n, .int .i64 (K.desc i).pos, .int .i64 (K.desc i).refs]]
theorem descs_any (p : Option Addr) (w : World) : Calls Tryz.prog 13 #[.pointer p] w fun e w' =>
    e = .returned (.func (.func 33) #[] #[.pointer (some ⟨w.heap.size, 0, none⟩)]) ∧ w' = w.alloc (.cells #[.pointer p] 24 (0, 0)) := by
  go_enter Tryz.func13, Tryz.ntmps13
  go_wp2
  go_ret
  exact ⟨rfl, rfl⟩
def dactx (l box w0 k : Nat) (x : Int × Value) : Act := { tmps := #[.func (.yield l) #[] #[], .pointer (some ⟨box, 0, none⟩), .pointer (some ⟨w0, 0, none⟩), .int .i64 x.1, x.2, .pointer (some ⟨k, 0, none⟩), .bool false, .pointer (some ⟨k, 0, none⟩), .pointer (some ⟨k, 0, none⟩), .pointer (some ⟨k, 3, none⟩),
  .func (.func 67) #[] #[.pointer (some ⟨w0 + 1, 0, none⟩)], .int .i64 x.1, x.2, undef, undef, undef, undef, undef, undef, undef, undef], defers := [] }
def dOuter (w0 D : Nat) {σ : Type} (J : σ → (Nat → Prop) → World → Prop) (yb l bm k : Nat) (s : σ) (A : Nat → Prop) (W : World) : Prop :=
  ∃ Ao : Nat → Prop, J s Ao W ∧ (∀ k, Ao k → A k) ∧ (∀ k, w0 ≤ k → k < D + 2 → ¬ Ao k) ∧ w0 ≤ yb ∧ yb < D ∧ w0 ≤ bm ∧ bm < D ∧ (∀ k, k < D + 2 → A k) ∧
    W.heap[yb]? = some (.cells #[.func (.yield l) #[] #[]] 102 (0, 0)) ∧ W.heap[bm]? = some (.cells #[.pointer (some ⟨k, 3, none⟩)] 150 (0, 0))
set_option maxRecDepth 100000 in
set_option maxHeartbeats 4000000 in
theorem descs1_iter {σ : Type} (n : Nat) (hn : 4 ≤ n) (box k : Nat) (K : KQ) (hq : 1 ≤ K.dn) (hqN : K.dn ≤ 1000000) (pos : σ → Nat) (next : σ → σ) (hpos : ∀ s, pos (next s) = pos s + 1) (I : σ → (Nat → Prop) → World → Prop)
    (L : KLay) (hI : ∀ s A W, I s A W → W.cell? ⟨box, 0, none⟩ = some (.pointer (some ⟨k, 0, none⟩))) (hIL : ∀ s A W, I s A W → KF W k K L) (s0 : σ) (hs0 : pos s0 = 0)
    (l : Nat) (J : σ → (Nat → Prop) → World → Prop) (Jx : (Nat → Prop) → World → Prop) (W : World) (hJI : ∀ s A W, J s A W → I s A W)
    (hJf : ∀ s (A : Nat → Prop) W W', J s A W → Fr (fun k => ¬ A k) W W' → J s A W') (hJxf : ∀ (A : Nat → Prop) W W', Jx A W → Fr (fun k => ¬ A k) W W' → Jx A W') (hJA : ∀ s A W, J s A W → ∀ k, A k → k < W.heap.size)
    (hY : ∀ s A x s' W, RStep pos next (didsL K) s x s' → J s A W → YieldAt FW (n - 1) Tryz.prog l (denc K x) W fun e W' => Fr A W W' ∧ ((e = .returned (.bool true) ∧ J s' (fun k => A k ∨ (W.heap.size ≤ k ∧ k < W'.heap.size)) W') ∨ (e = .returned (.bool false) ∧ Jx (fun k => A k ∨ (W.heap.size ≤ k ∧ k < W'.heap.size)) W')))
    (h0 : J s0 (fun k => k < W.heap.size) W) :
    CallsIn FW n Tryz.prog 33 (#[.func (.yield l) #[] #[]] ++ #[.pointer (some ⟨box, 0, none⟩)]) W fun e W' => (∃ v, e = .returned v) ∧ ((∃ s A, RFin pos (didsL K) s ∧ J s A W') ∨ ∃ A, Jx A W') := by
  simp only [List.append_toArray, List.cons_append, List.nil_append]
  have hbox0 := hI _ _ _ (hJI _ _ _ h0)
  have hF0 := hIL _ _ _ (hJI _ _ _ h0)
  obtain ⟨mb, hmb, _⟩ := hF0.dmap hq
  have hn1 : 1 ≤ n := by omega
  have hlb1 : box < W.heap.size := World.block_lt_of_cell? _ _ hbox0
  have hlk : k < W.heap.size := blk_lt hF0.hk
  have HJ0 := hide h0
  have Hmb := hide hmb
  clear h0 hF0 hmb
  refine callsIn_of_wp_marks Tryz.func33 rfl trivial ?_ rfl
  simp only [Tryz.ntmps33, List.size_toArray, List.length_cons, List.length_nil, Nat.reduceAdd, Nat.reduceSub, Array.replicate_succ, Array.replicate_zero, List.push_toArray, List.append_toArray, List.nil_append, List.cons_append]
  gi_wp2_with (refine ⟨trivial, ?_⟩; gi_at_call 34; refine (callsIn_wide.2 (dall_any _ _)).mono ?_; rintro e w1 ⟨rfl, rfl⟩)
  have hJ2 : J s0 (fun k => k < W.heap.size) ((W.alloc (.cells #[.func (.yield l) #[] #[]] 102 (0, 0))).alloc (.cells #[.pointer (some ⟨k, 3, none⟩)] 150 (0, 0))) :=
    hJf _ _ _ _ HJ0.out ((((Fr.refl (fun _ => False) W).alloc _).alloc _).mono (fun _ _ h => h.elim))
  have hyb := blk_alloc (blk_new W (.cells #[.func (.yield l) #[] #[]] 102 (0, 0))) (.cells #[.pointer (some ⟨k, 3, none⟩)] 150 (0, 0))
  have hbm := blk_new' (W.alloc (.cells #[.func (.yield l) #[] #[]] 102 (0, 0))) (.cells #[.pointer (some ⟨k, 3, none⟩)] 150 (0, 0)) (W.heap.size + 1) (by simp)
  have hz : ((W.alloc (.cells #[.func (.yield l) #[] #[]] 102 (0, 0))).alloc (.cells #[.pointer (some ⟨k, 3, none⟩)] 150 (0, 0))).heap.size = W.heap.size + 2 := by simp
  generalize ((W.alloc (.cells #[.func (.yield l) #[] #[]] 102 (0, 0))).alloc (.cells #[.pointer (some ⟨k, 3, none⟩)] 150 (0, 0))) = w1 at *
  have hI0 : dOuter W.heap.size w1.heap.size J W.heap.size l (W.heap.size + 1) k s0 (fun k => k < w1.heap.size + 2) w1 :=
    ⟨_, hJ2, fun k hk => by omega, fun k h1 h2 h3 => by omega, by omega, by omega, by omega, by omega, fun k hk => hk, hyb, hbm⟩
  clear hyb hbm hJ2 hbox0 HJ0
  have hlen : (regL (fun i => (K.desc i).inn) (fun i => ptrAt (L.db i)) K.dn).length = (didsL K).length := by rw [regL_nums, List.length_map]; rfl
  have hle : (didsL K).length ≤ 1000000 := by
    have := List.length_filter_le (fun i => (K.desc i).inn) (List.range' 1 K.dn)
    rw [List.length_range'] at this
    exact Nat.le_trans this hqN
  obtain ⟨LL, hLL⟩ : ∃ LL, LL = regL (fun i => (K.desc i).inn) (fun i => ptrAt (L.db i)) K.dn := ⟨_, rfl⟩
  rw [← hLL] at hlen
  have hat : ∀ (m : Nat) (h : m < LL.length), ∃ h' : m < (didsL K).length, LL[m] = (((didsL K)[m] : Int), ptrAt (L.db (didsL K)[m])) := fun m h => by
    refine ⟨by omega, ?_⟩
    have e : LL = (didsL K).map fun i : Nat => ((i : Int), ptrAt (L.db i)) := by rw [hLL, regL_nums]; rfl
    simp only [e, List.getElem_map]
  have Hat := hide hat
  have HLL := hide hLL
  clear hat hLL
  refine rf_law3 (α := Int × Value) (σ := σ) 67 #[.pointer (some ⟨W.heap.size + 1, 0, none⟩)] rfl (enters_of Tryz.func67 (by kernel_rfl) rfl) renc (fun _ => rfl)
    (RStep pos next LL) (RFin pos LL) s0 (dOuter W.heap.size w1.heap.size J W.heap.size l (W.heap.size + 1) k)
    (fun c A W' => c = .ret ∧ ∃ Ao : Nat → Prop, Jx Ao W' ∧ (∀ k, Ao k → A k) ∧ (∀ k, W.heap.size ≤ k → k < w1.heap.size + 2 → ¬ Ao k))
    ?hI ?hImono ?hIx ?hIxmono hI0 ?hiter
    (fun x a' _ => a' = dactx l box W.heap.size k x) ?hAx ?assign ?body ?done ?stop
  case assign =>
    rintro l' s A x s' X Kc _ _ _ hK
    have hK := hide hK
    simp only [renc]
    gi_wp2
    exact hK.out _ _ (Fr.refl _ _) rfl
  case hI =>
    rintro s A X Y ⟨Ao, h1, h2, h3, h4, h5, h6, h7, h8, h9, h10⟩ hf
    have hno : ∀ k, k < w1.heap.size → A k → ¬ (k = w1.heap.size ∨ k = w1.heap.size + 1 ∨ ¬ A k) := fun k hk hA e => by
      rcases e with e | e | e
      · omega
      · omega
      · exact e hA
    refine ⟨Ao, hJf _ _ _ _ h1 (hf.mono fun k _ e hk => ?_), h2, h3, h4, h5, h6, h7, h8, hf.get h9 (hno _ h5 (h8 _ (by omega))), hf.get h10 (hno _ h7 (h8 _ (by omega)))⟩
    rcases e with e | e | e
    · exact h3 k (by omega) (by omega) hk
    · exact h3 k (by omega) (by omega) hk
    · exact e (h2 k hk)
  case hImono =>
    rintro s A A' X ⟨Ao, h1, h2, h3, h4, h5, h6, h7, h8, h9, h10⟩ hA
    exact ⟨Ao, h1, fun k hk => hA _ (h2 k hk), h3, h4, h5, h6, h7, fun k hk => hA _ (h8 k hk), h9, h10⟩
  case hIx =>
    rintro c A X Y ⟨hc, Ao, h1, h2, h3⟩ hf
    refine ⟨hc, Ao, hJxf _ _ _ h1 (hf.mono fun k _ e hk => ?_), h2, h3⟩
    rcases e with e | e | e
    · exact h3 k (by omega) (by omega) hk
    · exact h3 k (by omega) (by omega) hk
    · exact e (h2 k hk)
  case hIxmono =>
    rintro c A A' X ⟨hc, Ao, h1, h2, h3⟩ hA
    exact ⟨hc, Ao, h1, fun k hk => hA _ (h2 k hk), h3⟩
  case hiter =>
    intro l' J' Jx' W' hJI' hJf' _ hJA' hY' h0'
    refine dall1_iter (n - 1) (by omega) (W.heap.size + 1) mb k 3 pos next hpos LL (by omega) (fun p hp => ?_) (dOuter W.heap.size w1.heap.size J W.heap.size l (W.heap.size + 1) k) ?_ s0 hs0 l' J' Jx' W' hJI' hJf' hY' h0'
    · rw [HLL.out] at hp
      have := regL_lt hp
      omega
    · rintro s A X ⟨Ao, h1, h2, h3, h4, h5, h6, h7, h8, h9, h10⟩
      have hF := hIL _ _ _ (hJI _ _ _ h1)
      obtain ⟨g, hg, hM⟩ := hF.dmap hq
      have e := Hmb.out
      rw [hg] at e
      cases e
      rw [HLL.out]
      exact ⟨hM, by rw [blk_cell hF.hk]; show some (Value.map L.dm) = _; rw [hg], by rw [blk_cell h10]; rfl⟩
  case hAx =>
    rintro x a' X Y h _
    exact h
  case body =>
    rintro l' s A x s' a' X ⟨hlt, rfl, rfl⟩ ⟨Ao, g1, g2, g3, g4, g5, g6, g7, g8, g9, g10⟩ rfl hsz hA0 hA1
    obtain ⟨hlt', hx⟩ := Hat.out _ hlt
    rw [hx]
    have hnm := List.getElem_mem hlt'
    have hF := hIL _ _ _ (hJI _ _ _ g1)
    have hy := hY s Ao (didsL K)[pos s] (next s) X.drew ⟨hlt', rfl, rfl⟩ (hJf _ _ _ _ g1 ((Fr.refl _ X).drew))
    generalize (didsL K)[pos s] = i at *
    obtain ⟨i1, i2, _⟩ := numsL_mem.1 hnm
    have hb := blk_drew (hF.hd i i1 i2)
    have hy := yield_wideI (m' := n - 1 - 1 - 1) hy
    unfold denc at hy
    obtain ⟨fn, tmps, assign, body, hyr, hR⟩ := hy
    have c1 : X.drew.cell? ⟨W.heap.size, 0, none⟩ = some (.func (.yield l) #[] #[]) := by rw [blk_cell (blk_drew g9)]; rfl
    have c2 : X.drew.cell? ⟨L.db i, 0, none⟩ = some (.int .i64 (K.desc i).kind) := by rw [blk_cell hb]; rfl
    have c3 : X.drew.cell? ⟨L.db i, 1, none⟩ = some (.int .i64 (K.desc i).n) := by rw [blk_cell hb]; rfl
    have c4 : X.drew.cell? ⟨L.db i, 2, none⟩ = some (.int .i64 (K.desc i).pos) := by rw [blk_cell hb]; rfl
    have c5 : X.drew.cell? ⟨L.db i, 3, none⟩ = some (.int .i64 (K.desc i).refs) := by rw [blk_cell hb]; rfl
    have HR := hide hR
    clear hR hx hb hF hnm
    unfold dactx ptrAt
    gi_wp2_with fail
    refine region_rd_F (round_fn l') [0, 1, 2, 3, 4, 5] 6 (by kernel_rfl) (by kernel_rfl) (by kernel_rfl) ?_
    simp only [List.map_cons, List.map_nil, List.getD_cons_zero, List.getD_cons_succ, List.drop_succ_cons, List.drop_zero]
    repeat go_big_quiet_step (fail)
    refine wpQuiet_nil ?_
    gi_wp2
    refine ⟨fun _ => by omega, ?_⟩
    refine RoundIn.mono HR.out ?_
    rintro e W3 ⟨hf3, hor⟩
    have hsz3 := hf3.size
    have hrec1 : W3.heap[w1.heap.size]? = X.heap[w1.heap.size]? := hf3.block _ (by show _ < X.heap.size; omega) (g3 _ (by omega) (by omega))
    have hrec2 : W3.heap[w1.heap.size + 1]? = X.heap[w1.heap.size + 1]? := hf3.block _ (by show _ < X.heap.size; omega) (g3 _ (by omega) (by omega))
    have hf3' : Fr Ao X W3 := ((Fr.refl (fun _ => False) X).drew.mono (fun _ _ e => e.elim)).trans hf3
    have hfA : Fr A X W3 := hf3'.mono (fun k _ hk => g2 k hk)
    have hcov : ∀ k, (Ao k ∨ (X.heap.size ≤ k ∧ k < W3.heap.size)) → (A k ∨ (X.heap.size ≤ k ∧ k < W3.heap.size)) := fun k hk => hk.imp (g2 k) id
    have hout : ∀ k, W.heap.size ≤ k → k < w1.heap.size + 2 → ¬ (Ao k ∨ (X.heap.size ≤ k ∧ k < W3.heap.size)) := fun k h1 h2 h3 => h3.elim (g3 k h1 h2) (fun h3 => by omega)
    have k9 := hf3'.get g9 (g3 _ (by omega) (by omega))
    have k10 := hf3'.get g10 (g3 _ (by omega) (by omega))
    rcases hor with ⟨rfl, hJ3⟩ | ⟨rfl, hJx3⟩
    · have hfin := hide (show rfPost3 w1.heap.size A (dOuter W.heap.size w1.heap.size J W.heap.size l (W.heap.size + 1) k) (fun c A W' => c = .ret ∧ ∃ Ao : Nat → Prop, Jx Ao W' ∧ (∀ k, Ao k → A k) ∧ (∀ k, W.heap.size ≤ k → k < w1.heap.size + 2 → ¬ Ao k)) (next s) X .normal ⟨#[], []⟩ W3 from
        ⟨⟨hrec1, hrec2⟩, hfA, _, hJ3, hcov, hout, g4, g5, g6, g7, fun k hk => .inl (g8 k hk), k9, k10⟩)
      clear hJ3 hfA hcov hout k9 k10 hrec1 hrec2
      gi_wp2
      exact hfin.out
    · have hfin := hide (show rfPost3 w1.heap.size A (dOuter W.heap.size w1.heap.size J W.heap.size l (W.heap.size + 1) k) (fun c A W' => c = .ret ∧ ∃ Ao : Nat → Prop, Jx Ao W' ∧ (∀ k, Ao k → A k) ∧ (∀ k, W.heap.size ≤ k → k < w1.heap.size + 2 → ¬ Ao k)) (next s) X .ret ⟨#[], []⟩ W3 from
        ⟨⟨hrec1, hrec2⟩, hfA, rfl, _, hJx3, hcov, hout⟩)
      clear hJx3 hfA hcov hout k9 k10 hrec1 hrec2
      gi_wp2
      exact hfin.out
  case done =>
    rintro s A X hfin ⟨Ao, g1, g2, g3, g4, g5, g6, g7, g8, g9, g10⟩ hK
    have hput : Fr (fun k => k = w1.heap.size) X (X.putObj w1.heap.size (.deferred none)) := fr_putObj _ rfl
    have hJ := hJf _ _ _ _ g1 (hput.mono (fun k _ e hk => g3 k (by omega) (by omega) hk))
    have hfin' : RFin pos (didsL K) s := by unfold RFin at hfin ⊢; rw [hfin, hlen]
    gi_wp2
    refine ⟨by simp, .inl ⟨_, _, rfl, run_takeDeferred hK, ?_⟩⟩
    exact ⟨_, results_none rfl _ _ _, ⟨_, rfl⟩, .inl ⟨s, Ao, hfin', hJ⟩⟩
  case stop =>
    rintro c A X ⟨rfl, Ao, h1, h2, h3⟩ hK
    have hput : Fr (fun k => k = w1.heap.size) X (X.putObj w1.heap.size (.deferred none)) := fr_putObj _ rfl
    have hJ := hJxf _ _ _ h1 (hput.mono (fun k _ e hk => h3 k (by omega) (by omega) hk))
    gi_wp2
    refine ⟨by simp, .inl ⟨_, _, rfl, run_takeDeferred hK, ?_⟩⟩
    exact ⟨_, results_none rfl _ _ _, ⟨_, rfl⟩, .inr ⟨Ao, hJ⟩⟩
end Go.Proofs.YtdnbfhcbcdodmaaGreatDoor

/- The tree of files as plain data: how many entries are told at most. No program in sight; no condition. -/
namespace Go.Proofs.YtdnbfhcbcdodmaaGreatDoor
open Go.RowKit

theorem Under.depth {σ : FSt} {k : Nat} : ∀ {m x : Nat}, Dep σ k k x m → ∀ {dx : Nat}, Dep σ 0 1 x dx → ∃ dk, Dep σ 0 1 k dk ∧ dx = dk + m
  | _, _, .base _, dx, hd => ⟨dx, hd, rfl⟩
  | _, _, .up h1 h2 h3 h4 h5 h6, dx, hd => by
    obtain ⟨k', rfl, hd'⟩ := hd.go_up h3 h1
    obtain ⟨dk, h7, h8⟩ := Under.depth h6 hd'
    exact ⟨dk, h7, by omega⟩
theorem Under.same {σ : FSt} {a b : Nat} : ∀ {m x : Nat}, Dep σ a a x m → Dep σ b b x m → a = b
  | 0, x, h1, h2 => (h1.zero rfl).symm.trans (h2.zero rfl)
  | m + 1, x, .up h1 h2 h3 h4 h5 h6, .up g1 g2 g3 g4 g5 g6 => by
    rw [h3] at g3
    cases g3
    exact Under.same h6 g6
/-- Below two directories that are as deep there is nothing in common. -/
theorem Under.uniq {σ : FSt} {a b x d dx : Nat} (ha : Dep σ 0 1 a d) (hb : Dep σ 0 1 b d) (hx : Dep σ 0 1 x dx) (h1 : Under σ a x) (h2 : Under σ b x) : a = b := by
  obtain ⟨m1, h1⟩ := h1
  obtain ⟨m2, h2⟩ := h2
  obtain ⟨d1, a1, a2⟩ := Under.depth h1 hx
  obtain ⟨d2, b1, b2⟩ := Under.depth h2 hx
  have e1 := a1.det ha
  have e2 := b1.det hb
  have : m1 = m2 := by omega
  subst this
  exact Under.same h1 h2
theorem Under.trans_child {σ : FSt} {a k x : Nat} {m : Nd} (hm : σ.nd k = some m) (hd : m.d = true) (hl : m.links ≠ 0) (h1 : k ≠ 1) (hp : m.par = a) : ∀ {j x : Nat}, Dep σ k k x j → x ≠ a → (∀ y j', Dep σ k k y j' → y ≠ a) → Under σ a x
  | _, _, .base _, hx, _ => ⟨1, .up h1 hx hm hd hl (hp ▸ .base (.inr rfl))⟩
  | _, _, .up g1 g2 g3 g4 g5 g6, hx, hall => by
    obtain ⟨j, hj⟩ := Under.trans_child (x := x) hm hd hl h1 hp g6 (hall _ _ g6) hall
    exact ⟨j + 1, .up g1 hx g3 g4 g5 hj⟩
theorem treeF_count {σ : FSt} (h : Inv σ 0) (hL : Live σ) {c : Nat} (hc : Caps σ c) : ∀ (fuel i d : Nat) (P : List UInt8) (n : Nd), σ.nd i = some n → n.d = true → Dep σ 0 1 i d →
    ∃ l : List Nat, l.Nodup ∧ (∀ x ∈ l, Under σ i x ∧ (σ.nd x).isSome = true ∧ ∃ dx, Dep σ 0 1 x dx) ∧ (treeF σ fuel P i).length ≤ l.length * c
  | 0, i, d, P, n, hn, hd, hdep => ⟨[], List.nodup_nil, fun x hx => (by cases hx), by simp [treeF]⟩
  | fuel + 1, i, d, P, n, hn, hd, hdep => by
    have key : ∀ es : List (List UInt8 × Nat), es.Sublist n.ents → ∃ l : List Nat, l.Nodup ∧ (∀ x ∈ l, (∃ q ∈ es, (∃ m, σ.nd q.2 = some m ∧ m.d = true) ∧ Under σ q.2 x) ∧ (σ.nd x).isSome = true ∧ ∃ dx, Dep σ 0 1 x dx) ∧ ((es.map (entL σ (treeF σ fuel) P)).flatten).length ≤ es.length + l.length * c := by
      intro es
      induction es with
      | nil => intro _; exact ⟨[], List.nodup_nil, fun x hx => (by cases hx), by simp⟩
      | cons q es ih =>
        intro hs
        obtain ⟨l, h1, h2, h3⟩ := ih ((List.sublist_cons_self q es).trans hs)
        have hq : q ∈ n.ents := hs.subset (by simp)
        have hqk := kget_of_mem (h.srt _ _ hn) hq
        obtain ⟨m, hm⟩ := Option.isSome_iff_exists.1 (hL.ents i n hn q hq)
        obtain ⟨nm, k⟩ := q
        simp only at hqk hm
        cases hmd : m.d with
        | false =>
          refine ⟨l, h1, fun x hx => ?_, ?_⟩
          · obtain ⟨⟨q', a1, a2⟩, a3⟩ := h2 x hx
            exact ⟨⟨q', List.mem_cons_of_mem _ a1, a2⟩, a3⟩
          · rw [List.map_cons, List.flatten_cons, entL_file hm hmd]
            simp only [List.length_append, List.length_cons, List.length_nil]
            omega
        | true =>
          have hdk := h.deeper hdep hn hqk hm hmd
          obtain ⟨l2, b1, b2, b3⟩ := treeF_count h hL hc fuel k (d + 1) (P ++ nm ++ [slashB]) m hm hmd hdk
          refine ⟨l2 ++ l, List.nodup_append.2 ⟨b1, h1, fun x hx y hy e => ?_⟩, fun x hx => ?_, ?_⟩
          · subst e
            obtain ⟨c1, c2, dx, c3⟩ := b2 x hx
            obtain ⟨⟨q', a1, ⟨m', a2, a3⟩, a4⟩, _⟩ := h2 x hy
            have hq' : q' ∈ n.ents := hs.subset (List.mem_cons_of_mem _ a1)
            have hk' := kget_of_mem (h.srt _ _ hn) hq'
            have hd' := h.deeper hdep hn hk' a2 a3
            have e2 := Under.uniq hdk hd' c3 c1 a4
            rw [← e2] at hk' a2
            have hk1 := (h.par_of hn hqk hm hmd).1
            have e3 := h.name_one hm hmd hk1 hn hqk hk'
            have hnd := List.pairwise_cons.1 ((h.srt _ _ hn).sublist hs)
            have := hnd.1 q' a1
            simp only [e3, WideAt.bytes_irrefl] at this
            cases this
          · rcases List.mem_append.1 hx with hx | hx
            · obtain ⟨c1, c2⟩ := b2 x hx
              exact ⟨⟨(nm, k), by simp, ⟨m, hm, hmd⟩, c1⟩, c2⟩
            · obtain ⟨⟨q', a1, a2⟩, a3⟩ := h2 x hx
              exact ⟨⟨q', List.mem_cons_of_mem _ a1, a2⟩, a3⟩
          · rw [List.map_cons, List.flatten_cons, entL_dir hm hmd]
            simp only [List.length_append, List.length_cons, Nat.add_mul]
            omega
    obtain ⟨l, h1, h2, h3⟩ := key n.ents (List.Sublist.refl _)
    have hno : ∀ q ∈ n.ents, (∃ m, σ.nd q.2 = some m ∧ m.d = true) → ¬ Under σ q.2 i := fun q hq ⟨m, hm, hmd⟩ ⟨j, hj⟩ => by
      have hdk := h.deeper hdep hn (kget_of_mem (h.srt _ _ hn) hq) hm hmd
      obtain ⟨dk, e1, e2⟩ := Under.depth hj hdep
      have := e1.det hdk
      omega
    refine ⟨i :: l, List.nodup_cons.2 ⟨fun hi => ?_, h1⟩, fun x hx => ?_, ?_⟩
    · obtain ⟨⟨q, a1, a2, a3⟩, _⟩ := h2 i hi
      exact hno q a1 a2 a3
    · rcases List.mem_cons.1 hx with rfl | hx
      · exact ⟨Under.self _ _, by rw [hn]; rfl, d, hdep⟩
      · obtain ⟨⟨q, a1, ⟨m, hm, hmd⟩, j, hj⟩, a4⟩ := h2 x hx
        obtain ⟨k1, k2, k3⟩ := h.par_of hn (kget_of_mem (h.srt _ _ hn) a1) hm hmd
        have hall : ∀ y j', Dep σ q.2 q.2 y j' → y ≠ i := fun y j' hy e => by
          subst e
          exact hno q a1 ⟨m, hm, hmd⟩ ⟨j', hy⟩
        exact ⟨Under.trans_child (x := x) hm hmd k2 k1 k3 hj (hall _ _ hj) hall, a4⟩
    · rw [treeF_succ hn, List.length_cons, Nat.succ_mul]
      have := (hc i n hn).2.2
      omega
theorem treeL_count {σ : FSt} (h : Inv σ 0) (hL : Live σ) {c : Nat} (hc : Caps σ c) : (treeL σ).length ≤ 101 * c := by
  obtain ⟨n, hn, hd, _⟩ := hL.root
  obtain ⟨l, h1, h2, h3⟩ := treeF_count h hL hc 101 1 0 [] n hn hd (.base (.inl rfl))
  have h4 := nodup_le (σ.length + 1) l h1 fun x hx => by
    obtain ⟨a, b⟩ := FSt.nd_lt (h2 x hx).2.1
    omega
  have := hL.len
  exact Nat.le_trans h3 (Nat.mul_le_mul_right _ (by omega))
end Go.Proofs.YtdnbfhcbcdodmaaGreatDoor

/- files.FS.Tree and shyardlaw08.tree. Conditions: the contracts' own premises. -/
namespace Go.Proofs.YtdnbfhcbcdodmaaGreatDoor
open Go.RowKit Go.Shelf Go.Maps

attribute [local go_sem] Oper.semAt_some

theorem fyield_wide {P : Program} {m m' l : Nat} {args : Array Value} {W : World} {R : Ending → World → Prop} (h : YieldAt FW m P l args W R) : YieldAt FW m' P l args W R := by
  obtain ⟨fn, tmps, assign, body, h1, h2, h3⟩ := h
  exact ⟨fn, tmps, assign, body, h1, h2, fun c cs _ => h3 c cs (room_wide _)⟩
/-- A step through a list: its next thing. -/
def FStep {α : Type} (L : List α) (s : Nat) (x : α) (s' : Nat) : Prop := ∃ h : s < L.length, x = L[s] ∧ s' = s + 1
def FFin {α : Type} (L : List α) (s : Nat) : Prop := s = L.length
theorem Tree_some (b : Nat) (w : World) : Calls Tryz.prog 36 #[.pointer (some ⟨b, 0, none⟩)] w fun e w' =>
    e = .returned (.func (.func 69) #[] #[.pointer (some ⟨w.heap.size, 0, none⟩)]) ∧ w' = w.alloc (.cells #[.pointer (some ⟨b, 0, none⟩)] 53 (0, 0)) := by
  go_enter Tryz.func36, Tryz.ntmps36
  go_wp2
  go_ret
  exact ⟨rfl, rfl⟩
set_option maxRecDepth 100000 in
theorem ftree1_iter {σ : FSt} {f : Nat} {S : Nat → Prop} {p : Nat → Nat} (hV : Inv σ 0) (hcap : CapB σ) (n box : Nat) (I : Nat → (Nat → Prop) → World → Prop)
    (hI : ∀ s A W, I s A W → FilesAt W f σ S p ∧ W.cell? ⟨box, 0, none⟩ = some (.pointer (some ⟨f, 0, none⟩)))
    (l : Nat) (J : Nat → (Nat → Prop) → World → Prop) (Jx : (Nat → Prop) → World → Prop) (W : World) (hJI : ∀ s A W, J s A W → I s A W)
    (hJf : ∀ s (A : Nat → Prop) W W', J s A W → Fr (fun k => ¬ A k) W W' → J s A W') (_ : ∀ (A : Nat → Prop) W W', Jx A W → Fr (fun k => ¬ A k) W W' → Jx A W') (hJA : ∀ s A W, J s A W → ∀ k, A k → k < W.heap.size)
    (hY : ∀ s A x s' W, FStep (treeL σ) s x s' → J s A W → YieldAt FW (n - 1) Tryz.prog l (eenc x) W fun e W' => Fr A W W' ∧ ((e = .returned (.bool true) ∧ J s' (fun k => A k ∨ (W.heap.size ≤ k ∧ k < W'.heap.size)) W') ∨ (e = .returned (.bool false) ∧ Jx (fun k => A k ∨ (W.heap.size ≤ k ∧ k < W'.heap.size)) W')))
    (h0 : J 0 (fun k => k < W.heap.size) W) :
    CallsIn FW n Tryz.prog 69 (#[.func (.yield l) #[] #[]] ++ #[.pointer (some ⟨box, 0, none⟩)]) W fun e W' => (∃ v, e = .returned v) ∧ ((∃ s A, FFin (treeL σ) s ∧ J s A W') ∨ ∃ A, Jx A W') := by
  simp only [List.append_toArray, List.cons_append, List.nil_append]
  refine callsIn_wide.2 ?_
  obtain ⟨hA, hbox⟩ := hI _ _ _ (hJI _ _ _ h0)
  obtain ⟨r, hr, hrd, _⟩ := hA.live.root
  have c2 : W.cell? ⟨f, 2, none⟩ = some (.pointer (some ⟨p 1, 0, none⟩)) := by obtain ⟨_, _, _, _, hF⟩ := hA; rw [blk_cell hF.hb]; rfl
  have hrec := below_any (L := treeL σ) (l := l) (Jx := Jx) hV hcap (fun s A W h => (hI _ _ _ (hJI s A W h)).1) hJf hJA (fun s A W h hj => fyield_wide (hY s A _ _ W ⟨h, rfl, rfl⟩ hj)) 101 1 0 0 [] _ W [] r hr hrd (.base (.inl rfl)) rfl (by simp) (by simp [treeL]) h0
  rw [show baL [] = (⟨#[]⟩ : ByteArray) from rfl] at hrec
  have hrec := hide hrec
  have hend : FFin (treeL σ) (0 + (treeF σ 101 [] 1).length) := by unfold FFin treeL; omega
  have Hend := hide hend
  clear hA hr hrd h0 hend hI hJI hJf hJA hY
  refine (callsIn_wide (n := 5)).1 ?_
  refine callsIn_of_wp_marks Tryz.func69 rfl trivial ?_ rfl
  simp only [Tryz.ntmps69, List.size_toArray, List.length_cons, List.length_nil, Nat.reduceAdd, Nat.reduceSub, Array.replicate_succ, Array.replicate_zero, List.push_toArray, List.append_toArray, List.nil_append, List.cons_append]
  gi_wp2_with (refine ⟨trivial, ?_⟩; gi_at_call 70; refine (callsIn_wide.2 hrec.out).mono ?_; rintro e w' ⟨_, (⟨rfl, A', hJ', _⟩ | ⟨rfl, A', hJ'⟩)⟩)
  · exact ⟨_, results_none rfl _ _ _, ⟨_, rfl⟩, .inl ⟨_, A', Hend.out, hJ'⟩⟩
  · exact ⟨_, results_none rfl _ _ _, ⟨_, rfl⟩, .inr ⟨A', hJ'⟩⟩
end Go.Proofs.YtdnbfhcbcdodmaaGreatDoor
