/- Small general lemmas on worlds and blocks: 'Fr S w w1': outside the blocks in S everything that was there is as it was. No condition. -/
import Derived.WalkKit
import Derived.WalkSpells
import Derived.WalkLawsBesides
import Derived.Deep.QuietTactic
import Derived.BigQuiet
import Derived.StillTail
import Derived.Lib.Strings
import Derived.OrdersHeld
import Derived.OwnWalk
import Derived.Deep.AppendLies
import Derived.Test.YtdnbfhcbcdodmaaGreatDoorProg
import Derived.Deep.LoopGhost
import Derived.Handy
import Derived.Deep.Cut
import Derived.Maps.AppendAt
import Derived.Laws.Rows
import Derived.Lib.SliceRun
namespace Go.Proofs.YtdnbfhcbcdodmaaGreatDoor
open Go.RowKit

/-- Outside S (and what is new) nothing has turned. -/
structure Fr (S : Nat → Prop) (w w' : World) : Prop where
  os : w'.os = w.os
  tape : w'.tape = w.tape
  output : w'.output = w.output
  size : w.heap.size ≤ w'.heap.size
  block : ∀ k, k < w.heap.size → ¬ S k → w'.heap[k]? = w.heap[k]?

theorem Fr.refl (S : Nat → Prop) (w : World) : Fr S w w := ⟨rfl, rfl, rfl, Nat.le_refl _, fun _ _ _ => rfl⟩
theorem Fr.trans {S : Nat → Prop} {a b c : World} (h : Fr S a b) (k : Fr S b c) : Fr S a c :=
  ⟨k.os.trans h.os, k.tape.trans h.tape, k.output.trans h.output, Nat.le_trans h.size k.size, fun i hi hs => (k.block i (Nat.lt_of_lt_of_le hi h.size) hs).trans (h.block i hi hs)⟩
theorem Fr.trans' {S S' : Nat → Prop} {a b c : World} (h : Fr S a b) (k : Fr S' b c) (hs : ∀ i, i < a.heap.size → S' i → S i) : Fr S a c :=
  ⟨k.os.trans h.os, k.tape.trans h.tape, k.output.trans h.output, Nat.le_trans h.size k.size, fun i hi hn => (k.block i (Nat.lt_of_lt_of_le hi h.size) (fun h' => hn (hs i hi h'))).trans (h.block i hi hn)⟩
theorem Fr.mono {S S' : Nat → Prop} {a b : World} (h : Fr S a b) (hs : ∀ i, i < a.heap.size → S i → S' i) : Fr S' a b :=
  ⟨h.os, h.tape, h.output, h.size, fun i hi hn => h.block i hi (fun h' => hn (hs i hi h'))⟩
theorem Fr.drew {S : Nat → Prop} {a b : World} (h : Fr S a b) : Fr S a b.drew := ⟨h.os, h.tape, h.output, h.size, h.block⟩
theorem Fr.drewN {S : Nat → Prop} {a b : World} (h : Fr S a b) (n : Nat) : Fr S a (b.drewN n) := ⟨h.os, h.tape, h.output, h.size, h.block⟩
theorem Fr.alloc {S : Nat → Prop} {a b : World} (h : Fr S a b) (o : Obj) : Fr S a (b.alloc o) :=
  ⟨h.os, h.tape, h.output, Nat.le_trans h.size (by simp), fun i hi hn => (Below.heap_alloc b o i (Nat.lt_of_lt_of_le hi h.size)).trans (h.block i hi hn)⟩
theorem Fr.setCell {S : Nat → Prop} {a b : World} (h : Fr S a b) {p : Addr} (hp : S p.block ∨ a.heap.size ≤ p.block) (u : Value) : Fr S a (b.setCell p u) :=
  ⟨h.os, h.tape, h.output, by simpa [World.setCell] using h.size, fun i hi hn => (Below.heap_setCell b p u i (by
    rintro rfl
    rcases hp with hp | hp
    · exact hn hp
    · omega)).trans (h.block i hi hn)⟩
theorem Fr.of_below {w w' : World} (h : Below w.heap.size w w') (S : Nat → Prop) : Fr S w w' := ⟨h.os, h.tape, h.output, h.size, fun i hi _ => h.block i hi⟩
theorem Fr.of_grown {w w' : World} {row : Option Nat} (h : w.grownBy w' row) : Fr (fun k => row = some k) w w' := ⟨h.os, h.tape, h.output, h.size, fun i hi hn => h.block i hi (fun e => hn e.symm)⟩
theorem Fr.below {S : Nat → Prop} {w w' : World} (h : Fr S w w') (hs : ∀ i, i < w.heap.size → ¬ S i) : Below w.heap.size w w' := ⟨h.os, h.tape, h.output, h.size, fun i hi => h.block i hi (hs i hi)⟩
/-- A block that lies outside S holds what it held. -/
theorem Fr.get {S : Nat → Prop} {w w' : World} (h : Fr S w w') {b : Nat} {o : Obj} (hb : w.heap[b]? = some o) (hn : ¬ S b) : w'.heap[b]? = some o := by
  have hlt : b < w.heap.size := by
    rcases Nat.lt_or_ge b w.heap.size with h' | h'
    · exact h'
    · simp [Array.getElem?_eq_none h'] at hb
  rw [h.block b hlt hn]; exact hb

theorem blk_lt {w : World} {b : Nat} {o : Obj} (hb : w.heap[b]? = some o) : b < w.heap.size := by
  rcases Nat.lt_or_ge b w.heap.size with h' | h'
  · exact h'
  · simp [Array.getElem?_eq_none h'] at hb
theorem blk_cell {w : World} {b : Nat} {c : Array Value} {t : TypeId} {f : Nat × Nat} (hb : w.heap[b]? = some (.cells c t f)) (i : Nat) : w.cell? ⟨b, i, none⟩ = c[i]? := by
  simp [World.cell?, hb]
theorem blk_frozen {w : World} {b : Nat} {c : Array Value} {t : TypeId} (hb : w.heap[b]? = some (.cells c t (0, 0))) (i : Nat) : w.frozen? ⟨b, i, none⟩ = false := by
  simp [World.frozen?, hb]
theorem blk_alloc {w : World} {b : Nat} {o : Obj} (hb : w.heap[b]? = some o) (o' : Obj) : (w.alloc o').heap[b]? = some o := by
  rw [Below.heap_alloc w o' b (blk_lt hb)]; exact hb
theorem blk_new (w : World) (o : Obj) : (w.alloc o).heap[w.heap.size]? = some o := by show (w.heap.push o)[w.heap.size]? = _; simp
theorem blk_new' (w : World) (o : Obj) (k : Nat) (hk : k = w.heap.size) : (w.alloc o).heap[k]? = some o := by subst hk; exact blk_new w o
theorem blk_set {w : World} {b : Nat} {c : Array Value} {t : TypeId} {f : Nat × Nat} (hb : w.heap[b]? = some (.cells c t f)) (i : Nat) (v : Value) :
    (w.setCell ⟨b, i, none⟩ v).heap[b]? = some (.cells (c.setIfInBounds i v) t f) := by
  simp [World.setCell, Array.getElem?_modify, hb]
theorem blk_set_other {w : World} {b : Nat} {o : Obj} (hb : w.heap[b]? = some o) (p : Addr) (v : Value) (hne : b ≠ p.block) : (w.setCell p v).heap[b]? = some o := by
  rw [Below.heap_setCell w p v b hne]; exact hb
theorem blk_drew {w : World} {b : Nat} {o : Obj} (hb : w.heap[b]? = some o) : w.drew.heap[b]? = some o := hb
theorem blk_drewN {w : World} {b : Nat} {o : Obj} (hb : w.heap[b]? = some o) (n : Nat) : (w.drewN n).heap[b]? = some o := hb
theorem ret_int {k : IntKind} {a b : Int} (h : a = b) : Ending.returned (.int k a) = .returned (.int k b) := by rw [h]
theorem cast_beq (a b : Nat) : ((a : Int) == (b : Int)) = decide (a = b) := by
  by_cases e : a = b
  · simp [e]
  · have h : ¬ (a : Int) = (b : Int) := by omega
    simp [e, h]
theorem ba_append (s t : ByteArray) : (s ++ t).data.toList = s.data.toList ++ t.data.toList := by simp
theorem ba_len (s : ByteArray) : s.data.toList.length = s.size := by rw [ByteArray.size, Array.length_toList]
theorem ba_empty {s : ByteArray} (h : s.data.toList = []) : s.toList.isEmpty = true := by rw [ByteArray.toList_eq, h]; rfl
theorem ba_nonempty {s : ByteArray} (h : s.data.toList ≠ []) : s.toList.isEmpty = false := by rw [ByteArray.toList_eq]; simpa using h
theorem hide {p : Prop} (h : p) : Hid p := h
theorem emod3 (a b c s : Nat) : (((a : Int) + ((b : Int) + (c : Int))) % (s : Int)).toNat = (a + (b + c)) % s := by
  rw [← Int.natCast_add, ← Int.natCast_add, ← Int.natCast_emod, Int.toNat_natCast]
theorem still_of_quiet {P : Program} {ops : Array Oper} {w : World} {Q : Act → Prop} : ∀ (l : List Oper) (a : Act), wpQuiet P ops (fun w' => w' = w) Q l a → wpStill P ops w Q l a
  | [], _, h => h
  | o :: rest, a, h => by
    unfold wpQuiet at h
    unfold wpStill
    split
    · rename_i hw
      rw [if_pos hw] at h
      obtain ⟨v, h1, h2⟩ := h
      have h3 := h1 w rfl
      unfold Oper.quietAt at h3
      unfold Oper.still
      generalize (execOp a.eval o).run P w = r at *
      cases r with
      | ok n w' =>
        cases n <;> simp only [Oper.quietUpon] at h3 <;> simp only [Oper.stillUpon]
        case value u => obtain ⟨e1, e2⟩ := h3; exact ⟨e1, by rw [e2]; exact still_of_quiet rest _ h2⟩
        case skip => obtain ⟨e1, e2⟩ := h3; exact ⟨e1, by rw [← e2]; exact still_of_quiet rest _ h2⟩
        case enter f args => obtain ⟨e1, hc⟩ := h3; exact ⟨e1, v, hc, still_of_quiet rest _ h2⟩
      | halt x w' => simp only [Oper.quietUpon] at h3
    · rename_i hw
      rw [if_neg hw] at h
      exact still_of_quiet rest _ h

/-- A region that draws its order: n operations that only read, then a tail in a forced order. -/
theorem region_tail {P : Program} {id : Nat} {Q : Exit → Act → World → Prop} {a : Act} {w : World} {l : List Oper} (n : Nat) (hm : P.follows .mixedOrders = true) (hB : Region.lexTailB .any l.toArray n = true)
    (h : wpQuiet P l.toArray (fun w' => w' = w.drew) (fun a' => wpList P l.toArray Q (l.drop n) a' w.drew) (l.take n) a) : (Code.region id l.toArray true).wp P Q a w :=
  wp_region_still_tail n hm hB (still_of_quiet _ _ h)
/-- All operations only read. -/
theorem region_still {P : Program} {id : Nat} {Q : Exit → Act → World → Prop} {a : Act} {w : World} {l : List Oper} (hm : P.follows .mixedOrders = true) (hB : Region.lexB .any l.toArray = true)
    (h : wpQuiet P l.toArray (fun w' => w' = w.drew) (fun a' => Q .normal a' w.drew) l a) : (Code.region id l.toArray true).wp P Q a w :=
  wp_region_still_lit hm hB (still_of_quiet _ _ h)

/-- What a law's walk comes to: true, and old memory as it was. -/
def LawPost (W : World) (e : Ending) (w' : World) : Prop := e = .returned (.bool true) ∧ Below W.heap.size W w'
end Go.Proofs.YtdnbfhcbcdodmaaGreatDoor

/- Regions that draw their order: first operations that look at no world, then operations that only read, then a tail in a forced order: one walk serves every order. Conditions: closed facts on the region, by the kernel. -/
namespace Go.Proofs.YtdnbfhcbcdodmaaGreatDoor
open Go.RowKit

section
variable {P : Program} {ops : Array Oper} {w : World}

/-- The operations at these places, in this order. -/
def pickOps (ops : Array Oper) (is : List Nat) : List Oper := is.filterMap fun i => ops[i]?

/-- Those that must have come up before number t0: t0 itself, and whatever one of them waits for (looked for among the d numbers below t0). -/
def mustOf (ops : Array Oper) (t0 : Nat) : Nat → List Nat
  | 0 => [t0]
  | d + 1 =>
    let L := mustOf ops t0 d
    if d < t0 ∧ L.any (fun j => Region.waitsFor .any ops j (t0 - (d + 1))) then (t0 - (d + 1)) :: L else L

theorem mustOf_spec (t0 : Nat) : ∀ d i, i ∈ mustOf ops t0 d → i ≤ t0 ∧ (i ≠ t0 → ∃ j ∈ mustOf ops t0 d, i < j ∧ Region.waitsFor .any ops j i = true)
  | 0, i, h => by
    simp only [mustOf, List.mem_singleton] at h
    subst h
    exact ⟨Nat.le_refl _, fun h => absurd rfl h⟩
  | d + 1, i, h => by
    have hge : ∀ (d j : Nat), j ∈ mustOf ops t0 d → t0 - d ≤ j := by
      intro d
      induction d with
      | zero => intro j hj; simp only [mustOf, List.mem_singleton] at hj; omega
      | succ d ih =>
        intro j hj
        simp only [mustOf] at hj
        split at hj
        · rcases List.mem_cons.1 hj with rfl | hj
          · omega
          · have := ih j hj; omega
        · have := ih j hj; omega
    simp only [mustOf] at h ⊢
    split at h
    · rename_i hc
      rw [if_pos hc]
      rcases List.mem_cons.1 h with rfl | h
      · refine ⟨by omega, fun _ => ?_⟩
        obtain ⟨j, hj, hw⟩ := List.any_eq_true.1 hc.2
        exact ⟨j, List.mem_cons_of_mem _ hj, by have := hge d j hj; omega, hw⟩
      · obtain ⟨h1, h2⟩ := mustOf_spec t0 d i h
        exact ⟨h1, fun hne => let ⟨j, hj, h3⟩ := h2 hne; ⟨j, List.mem_cons_of_mem _ hj, h3⟩⟩
    · rename_i hc
      rw [if_neg hc]
      exact mustOf_spec t0 d i h

/-- In this order each may come up, and none that could come before it touches its temporaries. -/
def lexList (ops : Array Oper) : List Nat → Array Bool → Bool
  | [], _ => true
  | i :: is, listed => decide (i < ops.size) && (Region.ready .any ops listed).contains i && Region.free .any ops listed i && lexList ops is (listed.setIfInBounds i true)
def listAll : List Nat → Array Bool → Array Bool
  | [], listed => listed
  | i :: is, listed => listAll is (listed.setIfInBounds i true)

theorem anyFirst {n i : Nat} {oi : Oper} {v : Value} {L : Array Bool → Act → Prop} {Inv : Array Bool → Prop} (hi : ops[i]? = some oi) (hs : Region.noSelect ops = true)
    (hin : i < n) (hdone : ∀ listed a, L listed a → ∀ j ∈ Region.ready .any ops listed, n ≤ j)
    (hInv : ∀ listed j, Inv listed → j ∈ Region.ready .any ops listed → j < n → Inv (listed.setIfInBounds j true))
    (hnt : ∀ listed, Inv listed → listed.getD i true = false → ∀ t, n ≤ t → t ∉ Region.ready .any ops listed) :
    ∀ (f : Nat) (listed : Array Bool) (a : Act), Inv listed →
      (∀ j oj, ops[j]? = some oj → j ≠ i → listed.getD j true = false → (∀ e ∈ oj.after, Region.binds .any e = true → e.on ≠ i) → oi.apart ops oj = true) →
      i ∈ Region.ready .any ops listed → YieldsAt P ops w oi v a →
      wpAnyL P .any ops w n L f (listed.setIfInBounds i true) (a.put oi.dst v) → wpAnyL P .any ops w n L (f + 1) listed a := by
  intro f
  induction f with
  | zero =>
    intro listed a inv _ hr hy H
    have hun := (mem_ready.1 hr).1
    refine ⟨List.ne_nil_of_mem hr, fun j hj => ?_⟩
    have hjn : j < n := Nat.lt_of_not_le fun h => hnt listed inv hun j h hj
    by_cases hji : j = i
    · subst hji; exact ⟨hjn, hy.stOp hi H⟩
    · exact absurd (hdone _ _ H j (ready_mono hj hji)) (by omega)
  | succ f ih =>
    intro listed a inv hfree hr hy H
    have hun := (mem_ready.1 hr).1
    refine ⟨List.ne_nil_of_mem hr, fun j hj => ?_⟩
    have hjn : j < n := Nat.lt_of_not_le fun h => hnt listed inv hun j h hj
    refine ⟨hjn, ?_⟩
    by_cases hji : j = i
    · subst hji; exact hy.stOp hi H
    obtain ⟨hjun, oj, hoj, hall⟩ := mem_ready.1 hj
    have hno : ∀ e ∈ oj.after, Region.binds .any e = true → e.on ≠ i := fun e he hb heq => by
      have h1 := hall e he hb
      rw [heq, getD_both hun] at h1
      cases h1
    have h2 := stOp_put hoj (hfree j oj hoj hji hjun hno) (fun cs b => Region.noSelect_spec hs i oi cs b hi) (fun cs b => Region.noSelect_spec hs j oj cs b hoj) hy (H.2 j (ready_mono hj hji)).2
    refine stOp_mono (fun a' h3 => ih (listed.setIfInBounds j true) a' (hInv _ _ inv hj hjn) ?_ (ready_mono hr (Ne.symm hji)) h3.1 ?_) h2
    · intro k ok hk hki hun' hno'
      refine hfree k ok hk hki ?_ hno'
      by_cases hjk : j = k
      · subst hjk; exact hjun
      · rw [getD_set_ne true hjk] at hun'; exact hun'
    · rw [Array.setIfInBounds_comm _ _ hji]
      exact h3.2

/-- What holds of the list of what has come up while reads are still due. -/
structure MixInv (ops : Array Oper) (n : Nat) (listed : Array Bool) : Prop where
  size : listed.size = ops.size
  closed : ∀ j oj, ops[j]? = some oj → listed.getD j false = true → ∀ e ∈ oj.after, Region.binds .any e = true → listed.getD e.on false = true
  tail : ∀ t, n ≤ t → t < ops.size → listed.getD t true = false

theorem MixInv.set {n i : Nat} {listed : Array Bool} (inv : MixInv ops n listed) (hi : i ∈ Region.ready .any ops listed) (hin : i < n) : MixInv ops n (listed.setIfInBounds i true) := by
  obtain ⟨_, oi, hoi, hall⟩ := mem_ready.1 hi
  refine ⟨by simp [inv.size], fun j oj hj hl e he hb => ?_, fun t ht ht' => by rw [getD_set_ne true (by omega)]; exact inv.tail t ht ht'⟩
  by_cases hij : i = j
  · subst hij
    obtain rfl : oj = oi := Option.some.inj (hj.symm.trans hoi)
    exact getD_set_true (hall e he hb)
  · rw [getD_set_ne false hij] at hl
    exact getD_set_true (inv.closed j oj hj hl e he hb)

/-- While something that must come before n has not come up, nothing from n on may. -/
theorem MixInv.waits {n d : Nat} {listed : Array Bool} (inv : MixInv ops n listed) (hc : Region.chainB .any ops n = true) (hn : n < ops.size) :
    ∀ (m i : Nat), n - i = m → i ∈ mustOf ops n d → i < n → listed.getD i true = false → ∀ t, n ≤ t → t ∉ Region.ready .any ops listed := by
  intro m
  induction m using Nat.strongRecOn with
  | _ m ih =>
    intro i hm hi hin hun t ht hr
    obtain ⟨_, ot, hot, hall⟩ := mem_ready.1 hr
    have htlt : t < ops.size := (Array.getElem?_eq_some_iff.1 hot).1
    by_cases htn : t = n
    · subst htn
      obtain ⟨j, hj, hij, hw⟩ := (mustOf_spec t d i hi).2 (by omega)
      have hjt := (mustOf_spec t d j hj).1
      obtain ⟨oj, hoj, e, he, hb, hon⟩ := Region.waitsFor_spec hw
      by_cases hjt' : j = t
      · subst hjt'
        obtain rfl : oj = ot := Option.some.inj (hoj.symm.trans hot)
        have h2 := hall e he hb
        rw [hon, getD_both hun] at h2
        cases h2
      · cases hl : listed.getD j false with
        | true =>
          have h2 := inv.closed j oj hoj hl e he hb
          rw [hon, getD_both hun] at h2
          cases h2
        | false =>
          have hjs : j < listed.size := by rw [inv.size]; omega
          exact ih (t - j) (by omega) j rfl hj (by omega) (getD_in hjs hl) t (Nat.le_refl _) hr
    · have h1 := List.all_eq_true.1 hc t (List.mem_range.2 htlt)
      simp only [Bool.or_eq_true, decide_eq_true_eq] at h1
      rcases h1 with h1 | h1
      · omega
      · obtain ⟨o', ho', e, he, hb, hon⟩ := Region.waitsFor_spec h1
        obtain rfl : o' = ot := Option.some.inj (ho'.symm.trans hot)
        have h2 := hall e he hb
        rw [hon, getD_both (inv.tail (t - 1) (by omega) (by omega))] at h2
        cases h2

theorem lexList_inv {n : Nat} : ∀ (is : List Nat) (listed : Array Bool), MixInv ops n listed → lexList ops is listed = true → (∀ i ∈ is, i < n) → MixInv ops n (listAll is listed)
  | [], _, inv, _, _ => inv
  | i :: is, listed, inv, h, hn => by
    simp only [lexList, Bool.and_eq_true] at h
    exact lexList_inv is _ (inv.set (by simpa using h.1.1.2) (hn i (by simp))) h.2 (fun j hj => hn j (List.mem_cons_of_mem _ hj))

theorem any_reads {n d g : Nat} {Lq : Act → Prop} (hs : Region.noSelect ops = true) (hc : Region.chainB .any ops n = true) (hn : n < ops.size) :
    ∀ (is : List Nat) (listed : Array Bool) (a : Act), MixInv ops n listed → (∀ i ∈ is, i < n ∧ i ∈ mustOf ops n d) → lexList ops is listed = true → Region.seqB .any ops g n (listAll is listed) = true →
    wpStill P ops w Lq (pickOps ops is) a → wpAnyL P .any ops w n (fun listed' a' => Region.seqB .any ops g n listed' = true ∧ Lq a') is.length listed a
  | [], listed, a, _, _, _, hq, h => ⟨hq, h⟩
  | i :: is, listed, a, inv, hm, hl, hq, h => by
    simp only [lexList, Bool.and_eq_true, decide_eq_true_eq] at hl
    obtain ⟨⟨⟨hlt, hr⟩, hf⟩, hl'⟩ := hl
    obtain ⟨o, ho⟩ : ∃ o, ops[i]? = some o := ⟨_, Array.getElem?_eq_getElem hlt⟩
    have hr' : i ∈ Region.ready .any ops listed := by simpa using hr
    have hin := (hm i (by simp)).1
    have hpk : pickOps ops (i :: is) = o :: pickOps ops is := by simp [pickOps, ho]
    rw [hpk] at h
    have hst : stOp P ops w i (wpStill P ops w Lq (pickOps ops is)) a := by unfold stOp; simp only [ho]; exact h
    obtain ⟨v, hy, hK⟩ := yieldsAt_of_stOp ho hst
    refine anyFirst (Inv := MixInv ops n) ho hs hin (fun listed' a' hL => seqB_ready hL.1) (fun _ _ h1 h2 h3 => h1.set h2 h3)
      (fun _ h1 h2 => h1.waits hc hn _ i rfl (hm i (by simp)).2 hin h2) is.length listed a inv (Region.free_spec ho hf) hr' hy ?_
    exact any_reads hs hc hn is _ _ (inv.set hr' hin) (fun j hj => hm j (List.mem_cons_of_mem _ hj)) hl' hq hK

/-- Operations that hand back a value, and nothing else. -/
def valueOp (o : Oper) : Bool := match o.op with
  | .move _ | .assign _ | .binOp .. | .unOp .. | .nilCheck .. | .fieldAddr .. | .field .. | .indexAddr .. | .index .. | .extract .. | .load .. | .convert .. | .slice .. | .build .. => true
  | _ => false
theorem run_valued {s : Sem Value} {n : Next} {w' : World} (h : (do pure (Next.value (← s)) : Sem Next).run P w = .ok n w') : ∃ v, n = .value v := by
  simp only [Sem.run_bind, Sem.run_pure] at h
  cases hr : s.run P w with
  | ok v w1 => rw [hr] at h; simp only [Result.andThen] at h; injection h with h1 h2; exact ⟨v, h1.symm⟩
  | halt x w1 => rw [hr] at h; simp only [Result.andThen] at h; cases h
/-- A run that can only panic or hand back a value. -/
def Valued (P : Program) (s : Sem Next) : Prop := ∀ w n w', s.run P w = .ok n w' → ∃ v, n = .value v
theorem valued_pure (v : Value) : Valued P (pure (.value v)) := by
  intro w n w' h
  simp only [Sem.run_pure] at h
  injection h with h1 h2
  exact ⟨v, h1.symm⟩
theorem valued_bind {α : Type} {s : Sem α} {f : α → Sem Next} (h : ∀ x, Valued P (f x)) : Valued P (s >>= f) := by
  intro w n w' hr
  rw [Sem.run_bind] at hr
  cases hs : s.run P w with
  | ok v w1 => rw [hs] at hr; simp only [Result.andThen] at hr; exact h v w1 n w' hr
  | halt x w1 => rw [hs] at hr; simp only [Result.andThen] at hr; cases hr
theorem valued_panic : Valued P (runtimePanic .nilDeref) := by
  intro w n w' hr
  simp [runtimePanic, go_sem] at hr
theorem valueOp_value {o : Oper} (hb : valueOp o = true) {ρ : Operand → Value} {n : Next} {w' : World} (h : (execOp ρ o).run P w = .ok n w') : ∃ v, n = .value v := by
  obtain ⟨dst, op, ty, pos, aft, grd⟩ := o
  cases op <;> first
    | (simp [valueOp] at hb; done)
    | (unfold execOp at h; dsimp only at h; exact run_valued h)
    | (unfold execOp at h; dsimp only at h; simp only [Sem.run_pure] at h; injection h with h1 h2; exact ⟨_, h1.symm⟩)
    | (unfold execOp at h; dsimp only at h; first | exact (by
        refine (show Valued P _ from ?_) _ _ _ h
        split
        · exact valued_panic
        · exact valued_panic
        · exact valued_panic
        · split
          · exact valued_panic
          · refine valued_bind fun _ => valued_bind fun _ => ?_
            split
            · exact valued_bind fun _ => valued_pure _
            · exact valued_pure _
          · exact valued_pure _
        · exact valued_pure _))
/-- The blind ones first. -/
theorem any_blind {Q : Exit → Act → World → Prop} (hs : Region.noSelect ops = true) (hQ : ∀ c a d v w, Q (.panic c) (Act.put a d v) w → Q (.panic c) a w) {K : Act → Prop} {g : Nat} :
    ∀ (is : List Nat) (listed : Array Bool) (a : Act), lexList ops is listed = true → (∀ a', K a' → wpAny P .any ops Q g (listAll is listed) a' w) →
    wpQuiet P ops (fun _ => True) K (pickOps ops is) a → (∀ i ∈ is, ∀ o, ops[i]? = some o → valueOp o = true) → wpAny P .any ops Q (is.length + g) listed a w
  | [], listed, a, _, hk, h, _ => by simpa [listAll] using hk a h
  | i :: is, listed, a, hl, hk, h, hcall => by
    simp only [lexList, Bool.and_eq_true, decide_eq_true_eq] at hl
    obtain ⟨⟨⟨hlt, hr⟩, hf⟩, hl'⟩ := hl
    obtain ⟨o, ho⟩ : ∃ o, ops[i]? = some o := ⟨_, Array.getElem?_eq_getElem hlt⟩
    have hpk : pickOps ops (i :: is) = o :: pickOps ops is := by simp [pickOps, ho]
    rw [hpk] at h
    unfold wpQuiet at h
    rw [List.length_cons, show is.length + 1 + g = (is.length + g) + 1 by omega]
    by_cases hw : Region.wanted o (yielded ops a.tmps) = true
    · rw [if_pos hw] at h
      obtain ⟨v, h1, h2⟩ := h
      have hv : ∀ w, (execOp a.eval o).run P w = .ok (.value v) w := fun w0 => by
        have h3 := h1 w0 trivial
        unfold Oper.quietAt at h3
        cases hrun : (execOp a.eval o).run P w0 with
        | ok nx w' =>
          obtain ⟨u, rfl⟩ := valueOp_value (hcall i (by simp) o ho) hrun
          rw [hrun] at h3
          simp only [Oper.quietUpon] at h3
          rw [h3.1, h3.2]
        | halt x w' => rw [hrun] at h3; simp only [Oper.quietUpon] at h3
      exact wpAny_take ho hs hf (by simpa using hr) (fun c a w => hQ c a _ _ w) (.inl ⟨hw, hv⟩) (any_blind hs hQ is _ _ hl' hk h2 (fun j hj => hcall j (List.mem_cons_of_mem _ hj)))
    · rw [if_neg hw] at h
      exact wpAny_take ho hs hf (by simpa using hr) (fun c a w => hQ c a _ _ w) (.inr ⟨by simpa using hw, rfl⟩) (any_blind hs hQ is _ _ hl' hk h (fun j hj => hcall j (List.mem_cons_of_mem _ hj)))

/-- The closed facts on a region: bl: the places of what looks at no world; rd: of what only reads; from n on: the tail. -/
def mixB (ops : Array Oper) (bl rd : List Nat) (n : Nat) : Bool :=
  Region.noSelect ops && decide (n < ops.size) && Region.chainB .any ops n && decide (bl.length + rd.length = n) && bl.all (fun i => decide (i < n) && (ops[i]?.map valueOp).getD false) && lexList ops bl (Array.replicate ops.size false) &&
  rd.all (fun i => decide (i < n) && (mustOf ops n n).contains i) && lexList ops rd (listAll bl (Array.replicate ops.size false)) && Region.seqB .any ops (ops.size - n) n (listAll rd (listAll bl (Array.replicate ops.size false)))

theorem pickOps_map (l : List Oper) : ∀ (is : List Nat), (∀ i ∈ is, i < l.length) → pickOps l.toArray is = is.map (fun i => l.getD i default)
  | [], _ => rfl
  | i :: is, h => by
    have h1 := h i (by simp)
    have h2 := pickOps_map l is (fun j hj => h j (List.mem_cons_of_mem _ hj))
    unfold pickOps at h2 ⊢
    rw [List.filterMap_cons, h2]
    simp [h1, List.getD_eq_getElem?_getD]

theorem any_mix {Q : Exit → Act → World → Prop} {a : Act} {l : List Oper} (bl rd : List Nat) (n : Nat) (hB : mixB l.toArray bl rd n = true)
    (hQ : ∀ c a d v w, Q (.panic c) (Act.put a d v) w → Q (.panic c) a w)
    (h0 : wpQuiet P l.toArray (fun _ => True) (fun a1 => wpQuiet P l.toArray (fun w' => w' = w.drew) (fun a2 => wpList P l.toArray Q (l.drop n) a2 w.drew) (rd.map (fun i => l.getD i default)) a1) (bl.map (fun i => l.getD i default)) a) :
    wpAny P .any l.toArray Q l.toArray.size (Array.replicate l.toArray.size false) a w.drew := by
  simp only [mixB, Bool.and_eq_true, decide_eq_true_eq, List.all_eq_true] at hB
  obtain ⟨⟨⟨⟨⟨⟨⟨⟨hs, hn⟩, hc⟩, hlen⟩, hbl⟩, hl1⟩, hrd⟩, hl2⟩, hq⟩ := hB
  have hn2 : n < l.length := by simpa using hn
  have h := h0
  rw [← pickOps_map l bl (fun i hi => by have := (hbl i hi).1; omega), ← pickOps_map l rd (fun i hi => by have := (hrd i hi).1; omega)] at h
  have inv0 : MixInv l.toArray n (Array.replicate l.toArray.size false) :=
    ⟨by simp, fun j oj _ hl => (by rw [getD_replicate_false] at hl; cases hl), fun t _ ht => getD_in (by simpa using ht) (getD_replicate_false _ _)⟩
  have inv1 := lexList_inv bl _ inv0 hl1 (fun i hi => (hbl i hi).1)
  have hsz : l.toArray.size = bl.length + (rd.length + (l.drop n).length) := by simp at hn ⊢; omega
  have hg : l.toArray.size - n = (l.drop n).length := by simp
  have key : wpAny P .any l.toArray Q (bl.length + (rd.length + (l.drop n).length)) (Array.replicate l.toArray.size false) a w.drew := by
    refine any_blind hs hQ bl _ a hl1 ?_ h (fun i hi o ho => by have := (hbl i hi).2; rw [ho] at this; simpa using this)
    intro a1 h1
    refine wpAny_of_head (n := n) (L := fun listed' a' => Region.seqB .any l.toArray (l.drop n).length n listed' = true ∧ wpList P l.toArray Q (l.drop n) a' w.drew) ?_ rd.length _ _ ?_
    · intro listed a' hL
      exact wpAny_of_seq (l.drop n) n listed a' w.drew (fun j => by simp) hL.1 hL.2
    · exact any_reads hs hc hn rd _ a1 inv1 (fun i hi => by have := hrd i hi; exact ⟨this.1, by simpa using this.2⟩) hl2 (by rw [← hg]; exact hq) (still_of_quiet _ _ h1)
  rw [← hsz] at key
  exact key

theorem region_mix {id : Nat} {Q : Exit → Act → World → Prop} {a : Act} {l : List Oper} (bl rd : List Nat) (n : Nat) (hm : P.follows .mixedOrders = true) (hB : mixB l.toArray bl rd n = true)
    (hQ : ∀ c a d v w, Q (.panic c) (Act.put a d v) w → Q (.panic c) a w)
    (h0 : wpQuiet P l.toArray (fun _ => True) (fun a1 => wpQuiet P l.toArray (fun w' => w' = w.drew) (fun a2 => wpList P l.toArray Q (l.drop n) a2 w.drew) (rd.map (fun i => l.getD i default)) a1) (bl.map (fun i => l.getD i default)) a) :
    (Code.region id l.toArray true).wp P Q a w :=
  wp_region_any hm (any_mix bl rd n hB hQ h0)
end
end Go.Proofs.YtdnbfhcbcdodmaaGreatDoor

/- Regions that draw their order and hold two calls that may come in either order: what only reads is taken first, in every world of a class S. Conditions: closed facts on the region, by the kernel. -/
namespace Go.Proofs.YtdnbfhcbcdodmaaGreatDoor
open Go.RowKit

section
variable {P : Program} {ops : Array Oper} {Q : Exit → Act → World → Prop} {S : World → Prop}

/-- So many operations, in whatever order, S behind each; then L. -/
def anyT (P : Program) (ops : Array Oper) (Q : Exit → Act → World → Prop) (S : World → Prop) (n : Nat) (L : Array Bool → Act → World → Prop) : Nat → Array Bool → Act → World → Prop
  | 0, listed, a, w => L listed a w
  | f + 1, listed, a, w => Region.ready .any ops listed ≠ [] ∧ ∀ i ∈ Region.ready .any ops listed, i < n ∧ wpOp P ops Q i (fun a' w' => S w' ∧ anyT P ops Q S n L f (listed.setIfInBounds i true) a' w') a w

theorem any_of_anyT {n g : Nat} {L : Array Bool → Act → World → Prop} (hL : ∀ listed a w, L listed a w → wpAny P .any ops Q g listed a w) :
    ∀ (f : Nat) (listed : Array Bool) (a : Act) (w : World), anyT P ops Q S n L f listed a w → wpAny P .any ops Q (f + g) listed a w
  | 0, listed, a, w, h => by rw [Nat.zero_add]; exact hL _ _ _ h
  | f + 1, listed, a, w, h => by
    rw [show f + 1 + g = (f + g) + 1 by omega]
    exact ⟨fun h0 => absurd h0 h.1, fun i hi => wpOp_mono (fun a' w' h' => any_of_anyT hL f _ a' w' h'.2) (h.2 i hi).2⟩

theorem anyT_first {n i : Nat} {oi : Oper} {v : Value} {L : Array Bool → Act → World → Prop} {Inv : Array Bool → Prop} (hi : ops[i]? = some oi) (hs : Region.noSelect ops = true)
    (hQ : ∀ c a w, Q (.panic c) (Act.put a oi.dst v) w → Q (.panic c) a w)
    (hin : i < n) (hdone : ∀ listed a w, L listed a w → ∀ j ∈ Region.ready .any ops listed, n ≤ j)
    (hInv : ∀ listed j, Inv listed → j ∈ Region.ready .any ops listed → j < n → Inv (listed.setIfInBounds j true))
    (hnt : ∀ listed, Inv listed → listed.getD i true = false → ∀ t, n ≤ t → t ∉ Region.ready .any ops listed) :
    ∀ (f : Nat) (listed : Array Bool) (a : Act) (w : World), Inv listed →
      (∀ j oj, ops[j]? = some oj → j ≠ i → listed.getD j true = false → (∀ e ∈ oj.after, Region.binds .any e = true → e.on ≠ i) → oi.apart ops oj = true) →
      i ∈ Region.ready .any ops listed → YieldsIf P ops S oi v a → S w →
      anyT P ops Q S n L f (listed.setIfInBounds i true) (a.put oi.dst v) w → anyT P ops Q S n L (f + 1) listed a w := by
  intro f
  induction f with
  | zero =>
    intro listed a w inv _ hr hy hS H
    have hun := (mem_ready.1 hr).1
    refine ⟨List.ne_nil_of_mem hr, fun j hj => ?_⟩
    have hjn : j < n := Nat.lt_of_not_le fun h => hnt listed inv hun j h hj
    by_cases hji : j = i
    · subst hji; exact ⟨hjn, hy.wpOp hi hS ⟨hS, H⟩⟩
    · exact absurd (hdone _ _ _ H j (ready_mono hj hji)) (by omega)
  | succ f ih =>
    intro listed a w inv hfree hr hy hS H
    have hun := (mem_ready.1 hr).1
    refine ⟨List.ne_nil_of_mem hr, fun j hj => ?_⟩
    have hjn : j < n := Nat.lt_of_not_le fun h => hnt listed inv hun j h hj
    refine ⟨hjn, ?_⟩
    by_cases hji : j = i
    · subst hji; exact hy.wpOp hi hS ⟨hS, H⟩
    obtain ⟨hjun, oj, hoj, hall⟩ := mem_ready.1 hj
    have hno : ∀ e ∈ oj.after, Region.binds .any e = true → e.on ≠ i := fun e he hb heq => by
      have h1 := hall e he hb
      rw [heq, getD_both hun] at h1
      cases h1
    have h2 := wpOp_putIf hoj (hfree j oj hoj hji hjun hno) (fun cs b => Region.noSelect_spec hs i oi cs b hi) (fun cs b => Region.noSelect_spec hs j oj cs b hoj) hQ hy (H.2 j (ready_mono hj hji)).2
    refine wpOp_mono (fun a' w' h3 => ⟨h3.2.1, ih (listed.setIfInBounds j true) a' w' (hInv _ _ inv hj hjn) ?_ (ready_mono hr (Ne.symm hji)) h3.1 h3.2.1 ?_⟩) h2
    · intro k ok hk hki hun' hno'
      refine hfree k ok hk hki ?_ hno'
      by_cases hjk : j = k
      · subst hjk; exact hjun
      · rw [getD_set_ne true hjk] at hun'; exact hun'
    · rw [Array.setIfInBounds_comm _ _ hji]
      exact h3.2.2

theorem yieldsIf_of_quiet {o : Oper} {a : Act} {K : Act → Prop} (hb : valueOp o = true) (hw : Region.wanted o (yielded ops a.tmps) = true) (hex : ∃ w, S w) (h : o.quiet P a S K) : ∃ v, YieldsIf P ops S o v a ∧ K (a.put o.dst v) := by
  obtain ⟨v, h1, h2⟩ := h
  refine ⟨v, .inl ⟨hw, fun w0 hS => ?_⟩, h2⟩
  have h3 := h1 w0 hS
  unfold Oper.quietAt at h3
  cases hrun : (execOp a.eval o).run P w0 with
  | ok nx w' =>
    obtain ⟨u, rfl⟩ := valueOp_value hb hrun
    rw [hrun] at h3
    simp only [Oper.quietUpon] at h3
    rw [h3.1, h3.2]
  | halt x w' => rw [hrun] at h3; simp only [Oper.quietUpon] at h3

theorem anyT_heads {n d f : Nat} {L : Array Bool → Act → World → Prop} {w : World} (hs : Region.noSelect ops = true) (hQ : ∀ c a d v w, Q (.panic c) (Act.put a d v) w → Q (.panic c) a w) (hc : Region.chainB .any ops n = true) (hn : n < ops.size) (hS : S w)
    (hdone : ∀ listed a w, L listed a w → ∀ j ∈ Region.ready .any ops listed, n ≤ j) {K : Act → Prop} :
    ∀ (is : List Nat) (listed : Array Bool) (a : Act), MixInv ops n listed → (∀ i ∈ is, i < n ∧ i ∈ mustOf ops n d ∧ (ops[i]?.map valueOp).getD false = true) → lexList ops is listed = true →
    (∀ a', K a' → anyT P ops Q S n L f (listAll is listed) a' w) → wpQuiet P ops S K (pickOps ops is) a → anyT P ops Q S n L (is.length + f) listed a w
  | [], listed, a, _, _, _, hk, h => by simpa [listAll] using hk a h
  | i :: is, listed, a, inv, hm, hl, hk, h => by
    simp only [lexList, Bool.and_eq_true, decide_eq_true_eq] at hl
    obtain ⟨⟨⟨hlt, hr⟩, hf⟩, hl'⟩ := hl
    obtain ⟨o, ho⟩ : ∃ o, ops[i]? = some o := ⟨_, Array.getElem?_eq_getElem hlt⟩
    have hr' : i ∈ Region.ready .any ops listed := by simpa using hr
    obtain ⟨hin, hmust, hval⟩ := hm i (by simp)
    rw [ho] at hval
    have hpk : pickOps ops (i :: is) = o :: pickOps ops is := by simp [pickOps, ho]
    rw [hpk] at h
    unfold wpQuiet at h
    rw [List.length_cons, show is.length + 1 + f = (is.length + f) + 1 by omega]
    have key : ∃ v, YieldsIf P ops S o v a ∧ wpQuiet P ops S K (pickOps ops is) (a.put o.dst v) := by
      by_cases hw : Region.wanted o (yielded ops a.tmps) = true
      · rw [if_pos hw] at h
        exact yieldsIf_of_quiet (by simpa using hval) hw ⟨w, hS⟩ h
      · rw [if_neg hw] at h
        exact ⟨undef, .inr ⟨by simpa using hw, rfl⟩, h⟩
    obtain ⟨v, hy, hK⟩ := key
    refine anyT_first (Inv := MixInv ops n) ho hs (fun c a w => hQ c a _ _ w) hin hdone (fun _ _ h1 h2 h3 => h1.set h2 h3)
      (fun _ h1 h2 => h1.waits hc hn _ i rfl hmust hin h2) (is.length + f) listed a w inv (Region.free_spec ho hf) hr' hy hS ?_
    exact anyT_heads hs hQ hc hn hS hdone is _ _ (inv.set hr' hin) (fun j hj => hm j (List.mem_cons_of_mem _ hj)) hl' hk hK

/-- One operation, wanted. -/
def wpOne (P : Program) (ops : Array Oper) (Q : Exit → Act → World → Prop) (o : Oper) (K : Act → World → Prop) (a : Act) (w : World) : Prop :=
  if Region.wanted o (yielded ops a.tmps) then o.wp P a w K Q else K (a.put o.dst undef) w

theorem wpOp_of_one {i : Nat} {o : Oper} {K : Act → World → Prop} {a : Act} {w : World} (ho : ops[i]? = some o) (h : wpOne P ops Q o K a w) : wpOp P ops Q i K a w := by
  unfold wpOp
  simp only [ho]
  unfold wpOne at h
  split
  · rename_i hw; rw [if_pos hw] at h; exact .inl h
  · rename_i hw; rw [if_neg hw] at h; exact h

/-- A load of one cell in every world of the class. -/
theorem quiet_of_run {o : Oper} {a : Act} {K : Act → Prop} (v : Value) (h : ∀ w, S w → (execOp a.eval o).run P w = .ok (.value v) w) (hK : K (a.put o.dst v)) : o.quiet P a S K :=
  ⟨v, fun w hw => by unfold Oper.quietAt; rw [h w hw]; exact ⟨rfl, rfl⟩, hK⟩
theorem wpQuiet_val {o : Oper} {rest : List Oper} {a : Act} {K : Act → Prop} (v : Value) (hw : Region.wanted o (yielded ops a.tmps) = true) (h : ∀ w, S w → (execOp a.eval o).run P w = .ok (.value v) w) (hK : wpQuiet P ops S K rest (a.put o.dst v)) : wpQuiet P ops S K (o :: rest) a := by
  unfold wpQuiet
  rw [if_pos hw]
  exact quiet_of_run v h hK
end
end Go.Proofs.YtdnbfhcbcdodmaaGreatDoor

/- Small lemmas on rows of the call's own: they stand where their block isn't touched; their cells. No condition. -/
namespace Go.Proofs.YtdnbfhcbcdodmaaGreatDoor
open Go.RowKit

theorem own_frame {w w' : World} {base e size : Nat} {v : Value} {n : Nat} {xs : List Value} {S : Nat → Prop} (h : w.ownsRow base e size v n xs) (hf : Fr S w w') (hn : ∀ g, v.ownBlock = some g → ¬ S g) : w'.ownsRow base e size v n xs := by
  refine ⟨h.1, ?_⟩
  rcases h.2 with h1 | ⟨g, cap, cur, rfl, hb, hg, rest⟩
  · exact .inl h1
  · exact .inr ⟨g, cap, cur, rfl, hb, hf.get hg (hn g rfl), rest⟩
theorem own_form {w : World} {base e size : Nat} {v : Value} {n : Nat} {xs : List Value} (h : w.ownsRow base e size v n xs) : ∃ a cap, v = .slice a n cap := by
  rcases h.2 with ⟨h1, h2⟩ | ⟨g, cap, cur, h1, _⟩
  · exact ⟨none, 0, by rw [h1, h2]⟩
  · exact ⟨_, _, h1⟩
/-- Its cells, one cell an element. -/
theorem own_cells {w : World} {base e : Nat} {a : Option Addr} {n cap : Nat} {xs : List Value} (h : w.ownsRow base e 1 (.slice a n cap) n xs) (hn : 0 < n) : ∃ g, a = some ⟨g, 0, none⟩ ∧ base ≤ g ∧ g < w.heap.size ∧ ∀ k u, xs[k]? = some u → w.cell? ⟨g, k, none⟩ = some u := by
  rcases h.2 with ⟨h1, h2⟩ | ⟨g, cap', cur, h1, hb, hg, h2, h3, h4, h5⟩
  · omega
  · cases h1
    refine ⟨g, rfl, hb, blk_lt hg, fun k u hk => ?_⟩
    rw [blk_cell hg, ← hk, ← h5, Nat.mul_one]
    have hl := h.1
    have hk' : k < xs.length := (List.getElem?_eq_some_iff.1 hk).1
    rw [List.getElem?_take_of_lt (by omega), Array.getElem?_toList]
theorem frSet (w : World) (r i : Nat) (u : Value) : Fr (fun k => k = r) w (w.setCell ⟨r, i, none⟩ u) := (Fr.refl (fun k => k = r) w).setCell (p := ⟨r, i, none⟩) (.inl rfl) u
end Go.Proofs.YtdnbfhcbcdodmaaGreatDoor

/- Regions that draw their order and make memory: what only reads is taken first, in every world of a class S; the rest in every order that is left, as a tree; then a tail in a forced order. And append onto a row of one's own, its source nil or not. Conditions: closed facts on the region, by the kernel; the laws' premises. -/
namespace Go.Proofs.YtdnbfhcbcdodmaaGreatDoor
open Go.RowKit

section
variable {P : Program} {ops : Array Oper} {Q : Exit → Act → World → Prop} {S : World → Prop}

def treeB (ops : Array Oper) (hd : List Nat) (m n : Nat) : Bool :=
  Region.noSelect ops && decide (n < ops.size) && Region.chainB .any ops n && decide (hd.length + m = n) &&
  hd.all (fun k => decide (k < n) && (mustOf ops n n).contains k && (ops[k]?.map valueOp).getD false) && lexList ops hd (Array.replicate ops.size false)
/-- What is left, in every order. -/
def treeS (P : Program) (ops : Array Oper) (Q : Exit → Act → World → Prop) (S : World → Prop) (n g : Nat) (L : Act → World → Prop) (m : Nat) (listed : Array Bool) (a : Act) (w : World) : Prop :=
  anyT P ops Q S n (fun listed' a' w' => Region.seqB .any ops g n listed' = true ∧ L a' w') m listed a w
theorem tree_end {n g : Nat} {L : Act → World → Prop} {listed : Array Bool} {a : Act} {w : World} (hB : Region.seqB .any ops g n listed = true) (h : L a w) : treeS P ops Q S n g L 0 listed a w := ⟨hB, h⟩
theorem tree_op {i : Nat} {o : Oper} {K : Act → World → Prop} {a : Act} {w : World} (ho : ops[i]? = some o) (hg : o.guard = none) (h : o.wp P a w K Q) : wpOp P ops Q i K a w :=
  wpOp_of_one ho (by unfold wpOne; rw [if_pos (by simp [Region.wanted, hg])]; exact h)
theorem tree_one {n g m : Nat} {L : Act → World → Prop} {listed : Array Bool} {a : Act} {w : World} (i : Nat) (o : Oper) (hr : (Region.ready .any ops listed == [i]) = true) (hin : i < n) (ho : ops[i]? = some o) (hg : o.guard = none)
    (h : ∀ K : Act → World → Prop, (∀ a' w', S w' → treeS P ops Q S n g L m (listed.setIfInBounds i true) a' w' → K a' w') → o.wp P a w K Q) : treeS P ops Q S n g L (m + 1) listed a w := by
  have hr := beq_iff_eq.1 hr
  refine ⟨by rw [hr]; simp, fun k hk => ?_⟩
  rw [hr] at hk
  simp only [List.mem_cons, List.not_mem_nil, or_false] at hk
  subst hk
  exact ⟨hin, tree_op ho hg (h _ fun _ _ h1 h2 => ⟨h1, h2⟩)⟩
theorem tree_two {n g m : Nat} {L : Act → World → Prop} {listed : Array Bool} {a : Act} {w : World} (i j : Nat) (o p : Oper) (hr : (Region.ready .any ops listed == [i, j]) = true) (hin : i < n) (hjn : j < n) (ho : ops[i]? = some o) (hp : ops[j]? = some p) (hg : o.guard = none) (hg2 : p.guard = none)
    (h : ∀ K : Act → World → Prop, (∀ a' w', S w' → treeS P ops Q S n g L m (listed.setIfInBounds i true) a' w' → K a' w') → o.wp P a w K Q)
    (h2 : ∀ K : Act → World → Prop, (∀ a' w', S w' → treeS P ops Q S n g L m (listed.setIfInBounds j true) a' w' → K a' w') → p.wp P a w K Q) : treeS P ops Q S n g L (m + 1) listed a w := by
  have hr := beq_iff_eq.1 hr
  refine ⟨by rw [hr]; simp, fun k hk => ?_⟩
  rw [hr] at hk
  simp only [List.mem_cons, List.not_mem_nil, or_false] at hk
  rcases hk with rfl | rfl
  · exact ⟨hin, tree_op ho hg (h _ fun _ _ h1 h2 => ⟨h1, h2⟩)⟩
  · exact ⟨hjn, tree_op hp hg2 (h2 _ fun _ _ h1 h2 => ⟨h1, h2⟩)⟩
theorem getD_some {l : List Oper} {i : Nat} (hi : i < l.length) : l.toArray[i]? = some (l.getD i default) := by simp [List.getD_eq_getElem?_getD, hi]
theorem tree_one' {l : List Oper} {n g m : Nat} {L : Act → World → Prop} {listed : Array Bool} {a : Act} {w : World} (i : Nat) (hr : (Region.ready .any l.toArray listed == [i]) = true) (hin : i < n) (hi : i < l.length) (hg : (l.getD i default).guard = none)
    (h : ∀ K : Act → World → Prop, (∀ a' w', S w' → treeS P l.toArray Q S n g L m (listed.setIfInBounds i true) a' w' → K a' w') → (l.getD i default).wp P a w K Q) : treeS P l.toArray Q S n g L (m + 1) listed a w :=
  tree_one i _ hr hin (getD_some hi) hg h
theorem tree_two' {l : List Oper} {n g m : Nat} {L : Act → World → Prop} {listed : Array Bool} {a : Act} {w : World} (i j : Nat) (hr : (Region.ready .any l.toArray listed == [i, j]) = true) (hin : i < n) (hjn : j < n) (hi : i < l.length) (hj : j < l.length) (hg : (l.getD i default).guard = none) (hg2 : (l.getD j default).guard = none)
    (h : ∀ K : Act → World → Prop, (∀ a' w', S w' → treeS P l.toArray Q S n g L m (listed.setIfInBounds i true) a' w' → K a' w') → (l.getD i default).wp P a w K Q)
    (h2 : ∀ K : Act → World → Prop, (∀ a' w', S w' → treeS P l.toArray Q S n g L m (listed.setIfInBounds j true) a' w' → K a' w') → (l.getD j default).wp P a w K Q) : treeS P l.toArray Q S n g L (m + 1) listed a w :=
  tree_two i j _ _ hr hin hjn (getD_some hi) (getD_some hj) hg hg2 h h2
/-- The invariant of what is listed, by reckoning. -/
def mixOk (ops : Array Oper) (n : Nat) (listed : Array Bool) : Bool :=
  decide (listed.size = ops.size) && (List.range ops.size).all (fun j => !(listed.getD j false) || (match ops[j]? with | none => true | some oj => oj.after.all (fun e => !(Region.binds .any e) || listed.getD e.on false))) &&
  (List.range ops.size).all (fun t => decide (t < n) || !(listed.getD t true))
theorem mixOk_spec {ops : Array Oper} {n : Nat} {listed : Array Bool} (h : mixOk ops n listed = true) : MixInv ops n listed := by
  simp only [mixOk, Bool.and_eq_true, decide_eq_true_eq, List.all_eq_true, List.mem_range, Bool.or_eq_true, Bool.not_eq_true'] at h
  obtain ⟨⟨h1, h2⟩, h3⟩ := h
  refine ⟨h1, fun j oj hj hl e he hb => ?_, fun t ht ht2 => ?_⟩
  · have hlt : j < ops.size := (Array.getElem?_eq_some_iff.1 hj).1
    rcases h2 j hlt with h4 | h4
    · rw [hl] at h4; cases h4
    · rw [hj] at h4
      simp only at h4
      have h5 := (Array.all_eq_true_iff_forall_mem.1 h4) e he
      simp only [Bool.or_eq_true, Bool.not_eq_true'] at h5
      rcases h5 with h5 | h5
      · rw [hb] at h5; cases h5
      · exact h5
  · rcases h3 t ht2 with h4 | h4
    · omega
    · exact h4
/-- In the midst of the tree: these only read, and must come ahead of the tail. -/
def headsB (ops : Array Oper) (is : List Nat) (n : Nat) (listed : Array Bool) : Bool :=
  Region.noSelect ops && decide (n < ops.size) && Region.chainB .any ops n && mixOk ops n listed &&
  is.all (fun k => decide (k < n) && (mustOf ops n n).contains k && (ops[k]?.map valueOp).getD false) && lexList ops is listed
theorem tree_heads {l : List Oper} {n f : Nat} {L : Act → World → Prop} {listed : Array Bool} {a : Act} {w : World} (is : List Nat) (hB : headsB l.toArray is n listed = true)
    (hQ : ∀ c a d v w, Q (.panic c) (Act.put a d v) w → Q (.panic c) a w) (hS : S w)
    (h : wpQuiet P l.toArray S (fun a1 => treeS P l.toArray Q S n (l.length - n) L f (listAll is listed) a1 w) (is.map (fun k => l.getD k default)) a) :
    treeS P l.toArray Q S n (l.length - n) L (is.length + f) listed a w := by
  simp only [headsB, Bool.and_eq_true, decide_eq_true_eq, List.all_eq_true] at hB
  obtain ⟨⟨⟨⟨⟨hs, hn⟩, hc⟩, hmix⟩, hhd⟩, hlex⟩ := hB
  have hn2 : n < l.length := by simpa using hn
  rw [← pickOps_map l is (fun k hk => by have := (hhd k hk).1.1; omega)] at h
  have hg : l.length - n = (l.drop n).length := by simp
  refine anyT_heads (d := n) hs hQ hc hn hS (fun listed a w hL => ?_) is listed a (mixOk_spec hmix) (fun k hk => by have := hhd k hk; exact ⟨this.1.1, by simpa using this.1.2, this.2⟩) hlex (fun a1 hA => hA) h
  exact seqB_ready hL.1
theorem region_tree {id : Nat} {a : Act} {w : World} {l : List Oper} (S : World → Prop) (hd : List Nat) (m n : Nat) (hm : P.follows .mixedOrders = true) (hB : treeB l.toArray hd m n = true)
    (hQ : ∀ c a d v w, Q (.panic c) (Act.put a d v) w → Q (.panic c) a w) (hS : S w.drew)
    (h0 : wpQuiet P l.toArray S (fun a1 => treeS P l.toArray Q S n (l.length - n) (fun a2 w2 => wpList P l.toArray Q (l.drop n) a2 w2) m (listAll hd (Array.replicate l.length false)) a1 w.drew) (hd.map (fun k => l.getD k default)) a) :
    (Code.region id l.toArray true).wp P Q a w := by
  simp only [treeB, Bool.and_eq_true, decide_eq_true_eq, List.all_eq_true] at hB
  obtain ⟨⟨⟨⟨⟨hs, hn⟩, hc⟩, hlen⟩, hhd⟩, hlex⟩ := hB
  have hn2 : n < l.length := by simpa using hn
  have h := h0
  rw [← pickOps_map l hd (fun k hk => by have := (hhd k hk).1.1; omega)] at h
  have inv0 : MixInv l.toArray n (Array.replicate l.toArray.size false) :=
    ⟨by simp, fun j oj _ hl => (by rw [getD_replicate_false] at hl; cases hl), fun t _ ht => getD_in (by simpa using ht) (getD_replicate_false _ _)⟩
  have hg : l.length - n = (l.drop n).length := by simp
  rw [hg] at h
  refine wp_region_any hm ?_
  show wpAny P .any l.toArray Q l.toArray.size _ a w.drew
  have hsz : l.toArray.size = (hd.length + m) + (l.drop n).length := by simp at hn ⊢; omega
  have key : wpAny P .any l.toArray Q ((hd.length + m) + (l.drop n).length) (Array.replicate l.toArray.size false) a w.drew := by
    refine any_of_anyT (S := S) (n := n) (L := fun listed' a' w' => Region.seqB .any l.toArray (l.drop n).length n listed' = true ∧ wpList P l.toArray Q (l.drop n) a' w') ?_ (hd.length + m) _ _ _ ?_
    · intro listed a w hL
      exact wpAny_of_seq (l.drop n) n listed a w (fun j => by simp) hL.1 hL.2
    · exact anyT_heads (d := n) hs hQ hc hn hS (fun listed a w hL => seqB_ready hL.1) hd _ a inv0 (fun k hk => by have := hhd k hk; exact ⟨this.1.1, by simpa using this.1.2, this.2⟩) hlex (fun a1 hA => hA) h
  rw [← hsz] at key
  exact key

/-- append onto a row of one's own; the source: nil, or cells that are there. -/
theorem run_append_src {P : Program} (w : World) (base : Nat) (t ty e : TypeId) (i : TypeInfo) (z : Value) (size bytes : Nat) (ht : P.underlying t = some (.slice e)) (hi : P.info? e = some i) (hz : i.zero = some z)
    (hsize : i.size = size) (hby : i.bytes = bytes) (hzs : z.cells.size = size) (hsz : 0 < size)
    (v : Value) (n : Nat) (xs : List Value) (hown : w.ownsRow base e size v n xs)
    (sa : Option Addr) (m c : Nat) (news : List Value) (hl : news.length = m * size) (hsrc : (sa = none ∧ m = 0 ∧ c = 0) ∨ ∃ ad, sa = some ad ∧ ∀ j u, news[j]? = some u → w.cell? (ad.add j) = some u) (h1 : ∀ u ∈ news, u.oneCell' = true)
    (h63 : n + m ≤ maxLen) (hbytes : (n + m) * bytes ≤ 140737488355328) (hbase : base ≤ w.heap.size) :
    ∃ v' w', (Builtin.append_ #[t, t] ty #[v, .slice sa m c]).run P w = .ok v' w' ∧ w'.ownsRow base e size v' (n + m) (xs ++ news) ∧ Fr (fun k => v.ownBlock = some k) w w' ∧ (v'.ownBlock = v.ownBlock ∨ v'.ownBlock = some w.heap.size) := by
  rcases hsrc with ⟨rfl, rfl, rfl⟩ | ⟨ad, rfl, hc⟩
  · refine ⟨v, w, run_append_owned_none w base t ty e i size ht hi v n xs hown, ?_, Fr.refl _ _, .inl rfl⟩
    rw [List.eq_nil_of_length_eq_zero (show news.length = 0 by rw [hl]; simp)]
    simpa using hown
  · obtain ⟨v', w', hr, h2, h3, _, h5⟩ := run_append_own_at (P := P) w base t ty e i z size bytes ht hi hz hsize hby hzs hsz v n xs hown ad m c news hl hc h1 h63 hbytes hbase
    exact ⟨v', w', hr, h2, Fr.of_grown h3, h5⟩
theorem wp_append_src {o : Oper} {a : Act} {w : World} {K : Act → World → Prop} (s x : Operand) (t : TypeId)
    (ho : o.op = .call { callee := .builtin .append, args := #[s, x], argTypes := #[t, t] })
    (base : Nat) (e : TypeId) (i : TypeInfo) (z : Value) (size bytes : Nat) (ht : P.underlying t = some (.slice e)) (hi : P.info? e = some i) (hz : i.zero = some z)
    (hsize : i.size = size) (hby : i.bytes = bytes) (hzs : z.cells.size = size) (hsz : 0 < size)
    (v : Value) (n : Nat) (xs : List Value) (hs : a.eval s = v) (hown : w.ownsRow base e size v n xs)
    (sa : Option Addr) (m c : Nat) (news : List Value) (hx : a.eval x = .slice sa m c) (hl : news.length = m * size) (hsrc : (sa = none ∧ m = 0 ∧ c = 0) ∨ ∃ ad, sa = some ad ∧ ∀ j u, news[j]? = some u → w.cell? (ad.add j) = some u) (h1 : ∀ u ∈ news, u.oneCell' = true)
    (h63 : n + m ≤ maxLen) (hbytes : (n + m) * bytes ≤ 140737488355328) (hbase : base ≤ w.heap.size)
    (h : ∀ v' w', w'.ownsRow base e size v' (n + m) (xs ++ news) → Fr (fun k => v.ownBlock = some k) w w' → (v'.ownBlock = v.ownBlock ∨ v'.ownBlock = some w.heap.size) → K (a.put o.dst v') w') : o.wp P a w K Q := by
  obtain ⟨v', w', hr, h2, h3, h4⟩ := run_append_src (P := P) w base t o.type e i z size bytes ht hi hz hsize hby hzs hsz v n xs hown sa m c news hl hsrc h1 h63 hbytes hbase
  unfold Oper.wp execOp
  simp only [ho, resolve, invoke, builtin, Sem.run_bind, Sem.run_pure, Result.andThen_ok, List.map_toArray, List.map_cons, List.map_nil, hs, hx, hr]
  exact h v' w' h2 h3 h4
theorem wpList_append_src {rest : List Oper} {o : Oper} {a : Act} {w : World} (hgd : o.guard = none) (s x : Operand) (t : TypeId)
    (ho : o.op = .call { callee := .builtin .append, args := #[s, x], argTypes := #[t, t] })
    (base : Nat) (e : TypeId) (i : TypeInfo) (z : Value) (size bytes : Nat) (ht : P.underlying t = some (.slice e)) (hi : P.info? e = some i) (hz : i.zero = some z)
    (hsize : i.size = size) (hby : i.bytes = bytes) (hzs : z.cells.size = size) (hsz : 0 < size)
    (v : Value) (n : Nat) (xs : List Value) (hs : a.eval s = v) (hown : w.ownsRow base e size v n xs)
    (sa : Option Addr) (m c : Nat) (news : List Value) (hx : a.eval x = .slice sa m c) (hl : news.length = m * size) (hsrc : (sa = none ∧ m = 0 ∧ c = 0) ∨ ∃ ad, sa = some ad ∧ ∀ j u, news[j]? = some u → w.cell? (ad.add j) = some u) (h1 : ∀ u ∈ news, u.oneCell' = true)
    (h63 : n + m ≤ maxLen) (hbytes : (n + m) * bytes ≤ 140737488355328) (hbase : base ≤ w.heap.size)
    (h : ∀ v' w', w'.ownsRow base e size v' (n + m) (xs ++ news) → Fr (fun k => v.ownBlock = some k) w w' → (v'.ownBlock = v.ownBlock ∨ v'.ownBlock = some w.heap.size) → wpList P ops Q rest (a.put o.dst v') w') : wpList P ops Q (o :: rest) a w :=
  wpList_plain hgd fun _ hK => wp_append_src s x t ho base e i z size bytes ht hi hz hsize hby hzs hsz v n xs hs hown sa m c news hx hl hsrc h1 h63 hbytes hbase fun v' w' h2 h3 h4 => hK _ _ (h v' w' h2 h3 h4)
end
end Go.Proofs.YtdnbfhcbcdodmaaGreatDoor

/- Rows of strings in memory: what they hold, cuts, what append may take from. No condition. -/
namespace Go.Proofs.YtdnbfhcbcdodmaaGreatDoor
open Go.RowKit

def ArgsV (w : World) (S : Nat → Prop) (v : Value) (l : List ByteArray) : Prop :=
  ∃ a cap, v = .slice a l.length cap ∧ l.length ≤ cap ∧ (a = none → cap = 0) ∧ (l = [] ∨ ∃ g o, a = some ⟨g, o, none⟩ ∧ S g ∧ g < w.heap.size ∧ ∀ k (hk : k < l.length), w.cell? ⟨g, o + k, none⟩ = some (.string l[k]))
theorem ArgsV.frame {w w' : World} {S S' : Nat → Prop} {v : Value} {l : List ByteArray} (h : ArgsV w S v l) (hf : Fr S' w w') (hd : ∀ k, k < w.heap.size → S k → ¬ S' k) : ArgsV w' S v l := by
  obtain ⟨a, cap, h1, h2, h3, h4⟩ := h
  refine ⟨a, cap, h1, h2, h3, h4.imp id ?_⟩
  rintro ⟨g, o, h5, h6, h7, h8⟩
  exact ⟨g, o, h5, h6, Nat.lt_of_lt_of_le h7 hf.size, fun k hk => (World.cell?_of_block (w := w) (a := ⟨g, o + k, none⟩) (hf.block g h7 (hd g h7 h6))).trans (h8 k hk)⟩
def strs (l : List ByteArray) : List Value := l.map .string
theorem ArgsV.form {w : World} {S : Nat → Prop} {v : Value} {l : List ByteArray} (h : ArgsV w S v l) : ∃ a cap, v = .slice a l.length cap := by
  obtain ⟨a, cap, h1, _⟩ := h
  exact ⟨a, cap, h1⟩
theorem ArgsV.mono {w : World} {S S' : Nat → Prop} {v : Value} {l : List ByteArray} (h : ArgsV w S v l) (hS : ∀ k, k < w.heap.size → S k → S' k) : ArgsV w S' v l := by
  obtain ⟨a, cap, h1, h2, h3, h4⟩ := h
  refine ⟨a, cap, h1, h2, h3, h4.imp id ?_⟩
  rintro ⟨g, o, h5, h6, h7, h8⟩
  exact ⟨g, o, h5, hS g h7 h6, h7, h8⟩
theorem ArgsV.at {w : World} {S : Nat → Prop} {a : Option Addr} {n cap : Nat} {l : List ByteArray} (h : ArgsV w S (.slice a n cap) l) : n = l.length ∧ n ≤ cap ∧ (n = 0 ∨ ∃ g o, a = some ⟨g, o, none⟩ ∧ ∀ k (hk : k < l.length), w.cell? ⟨g, o + k, none⟩ = some (.string l[k])) := by
  obtain ⟨a', cap', h1, h2, h3, h4⟩ := h
  cases h1
  refine ⟨rfl, h2, ?_⟩
  rcases h4 with h4 | ⟨g, o, h5, _, _, h8⟩
  · exact .inl (by rw [h4]; rfl)
  · exact .inr ⟨g, o, h5, h8⟩
theorem ba_of_data {s t : ByteArray} (h : s.data.toList = t.data.toList) : s = t := by
  cases s; cases t
  simp only [ByteArray.mk.injEq]
  exact Array.toList_inj.1 h
theorem ArgsV.drop {w : World} {S : Nat → Prop} {a : Option Addr} {n cap : Nat} {l : List ByteArray} (h : ArgsV w S (.slice a n cap) l) (k : Nat) (hk : k ≤ n) :
    ArgsV w S (.slice (a.map (fun x => x.add k)) (n - k) (cap - k)) (l.drop k) := by
  obtain ⟨a', cap', h1, h2, h3, h4⟩ := h
  cases h1
  refine ⟨a.map (fun x => x.add k), cap - k, by simp, by simp; omega, fun e => by have := h3 (by simpa using e); omega, ?_⟩
  rcases h4 with h4 | ⟨g, o, h5, h6, h7, h8⟩
  · exact .inl (by simp [h4])
  · subst h5
    refine .inr ⟨g, o + k, by simp [Addr.add_lit], h6, h7, fun j hj => ?_⟩
    simp only [List.length_drop] at hj
    rw [List.getElem_drop, Nat.add_assoc]
    exact h8 (k + j) (by omega)
def SrcOk (w : World) (sa : Option Addr) (m c : Nat) (news : List Value) : Prop := (sa = none ∧ m = 0 ∧ c = 0) ∨ ∃ ad, sa = some ad ∧ ∀ j u, news[j]? = some u → w.cell? (ad.add j) = some u
theorem SrcOk.frame {w w' : World} {sa : Option Addr} {m c : Nat} {news : List Value} (h : SrcOk w sa m c news) (hf : Fr (fun _ => False) w w') : SrcOk w' sa m c news := by
  refine h.imp id ?_
  rintro ⟨ad, h1, h2⟩
  exact ⟨ad, h1, fun j u hj => (World.cell?_of_block (hf.block _ (World.block_lt_of_cell? _ _ (h2 j u hj)) (fun h => h))).trans (h2 j u hj)⟩
theorem ArgsV.src {w : World} {S : Nat → Prop} {a : Option Addr} {n cap : Nat} {l : List ByteArray} (h : ArgsV w S (.slice a n cap) l) : SrcOk w a n cap (strs l) := by
  obtain ⟨a', cap', h1, h2, h3, h4⟩ := h
  cases h1
  cases a with
  | none => have := h3 rfl; exact .inl ⟨rfl, by omega, this⟩
  | some x =>
    right
    refine ⟨x, rfl, fun j u hj => ?_⟩
    rcases h4 with h4 | ⟨g, o, h5, _, _, h8⟩
    · subst h4; simp [strs] at hj
    · cases h5
      rw [Addr.add_lit]
      simp only [strs, List.getElem?_map, Option.map_eq_some_iff] at hj
      obtain ⟨s, hs, rfl⟩ := hj
      obtain ⟨hk, rfl⟩ := List.getElem?_eq_some_iff.1 hs
      exact h8 j hk
theorem ArgsV.cut {w : World} {S : Nat → Prop} {a : Option Addr} {n cap : Nat} {l : List ByteArray} (h : ArgsV w S (.slice a n cap) l) (k : Nat) (hk : k ≤ n) :
    ∃ sa sc, (∀ w', (Instr.sliceAt 31 (.slice a n cap) (some (.int .i64 k)) none none).run Tryz.prog w' = .ok (.slice sa (n - k) sc) w') ∧ ArgsV w S (.slice sa (n - k) sc) (l.drop k) := by
  have hd := h.drop k hk
  obtain ⟨hn, hc, _⟩ := h.at
  have hsz : ∀ w', (sizeOf 9).run Tryz.prog w' = .ok 1 w' := fun w' => by kernel_rfl
  have he : Tryz.prog.elem 31 = 9 := by kernel_rfl
  have ht : Tryz.prog.underlying 31 = some (.slice (Tryz.prog.elem 31)) := by rw [he]; exact Tryz.underlying31
  have key : ∀ w', (Instr.sliceAt 31 (.slice a n cap) (some (.int .i64 k)) none none).run Tryz.prog w' = .ok (sliced a k n cap 1) w' := fun w' => by
    rw [run_sliceAt_slice (h := ht), run_slice_l (ht := ht) (h0 := by omega) (h1 := by omega), he, hsz]
    simp
  by_cases hck : cap = k
  · refine ⟨a, cap - k, fun w' => by rw [key]; simp [sliced, hck], ?_⟩
    have hl0 : l.drop k = [] := List.drop_of_length_le (by omega)
    rw [hl0]
    exact ⟨a, cap - k, by simp; omega, by simp, fun _ => by omega, .inl rfl⟩
  · exact ⟨_, _, fun w' => by rw [key]; simp [sliced, hck], hd⟩
end Go.Proofs.YtdnbfhcbcdodmaaGreatDoor
