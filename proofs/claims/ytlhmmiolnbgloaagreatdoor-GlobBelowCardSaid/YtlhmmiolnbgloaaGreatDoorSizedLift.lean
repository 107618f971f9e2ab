/- Small general lemmas on worlds and blocks: 'Fr S w w1': outside the blocks in S everything that was there is as it was. No condition. -/
import Derived.WalkKit
import Derived.WalkSpells
import Derived.WalkLawsBesides
import Derived.Deep.QuietTactic
import Derived.BigQuiet
import Derived.StillTail
import Derived.Lib.Strings
import Derived.ProofKit
import Derived.OpenShut
import Derived.ShutString
import Derived.ChangeOld
import Derived.Deep.Slices
import Derived.Deep.Fields
import Derived.ChangeSame
import Derived.SizedLaws
import Derived.SliceStrings
namespace Go.Proofs.YtlhmmiolnbgloaaGreatDoor
open Go.RowKit

/-- Outside S (and what is new) nothing has turned. -/
structure Fr (S : Nat → Prop) (w w' : World) : Prop where
  os : w'.os = w.os
  tape : w'.tape = w.tape
  output : w'.output = w.output
  size : w.heap.size ≤ w'.heap.size
  block : ∀ k, k < w.heap.size → ¬ S k → w'.heap[k]? = w.heap[k]?

theorem Fr.refl (S : Nat → Prop) (w : World) : Fr S w w := ⟨rfl, rfl, rfl, Nat.le_refl _, fun _ _ _ => rfl⟩
theorem Fr.trans {S : Nat → Prop} {a b c : World} (h : Fr S a b) (k : Fr S b c) : Fr S a c :=
  ⟨k.os.trans h.os, k.tape.trans h.tape, k.output.trans h.output, Nat.le_trans h.size k.size, fun i hi hs => (k.block i (Nat.lt_of_lt_of_le hi h.size) hs).trans (h.block i hi hs)⟩
theorem Fr.trans' {S S' : Nat → Prop} {a b c : World} (h : Fr S a b) (k : Fr S' b c) (hs : ∀ i, i < a.heap.size → S' i → S i) : Fr S a c :=
  ⟨k.os.trans h.os, k.tape.trans h.tape, k.output.trans h.output, Nat.le_trans h.size k.size, fun i hi hn => (k.block i (Nat.lt_of_lt_of_le hi h.size) (fun h' => hn (hs i hi h'))).trans (h.block i hi hn)⟩
theorem Fr.mono {S S' : Nat → Prop} {a b : World} (h : Fr S a b) (hs : ∀ i, i < a.heap.size → S i → S' i) : Fr S' a b :=
  ⟨h.os, h.tape, h.output, h.size, fun i hi hn => h.block i hi (fun h' => hn (hs i hi h'))⟩
theorem Fr.drew {S : Nat → Prop} {a b : World} (h : Fr S a b) : Fr S a b.drew := ⟨h.os, h.tape, h.output, h.size, h.block⟩
theorem Fr.drewN {S : Nat → Prop} {a b : World} (h : Fr S a b) (n : Nat) : Fr S a (b.drewN n) := ⟨h.os, h.tape, h.output, h.size, h.block⟩
theorem Fr.alloc {S : Nat → Prop} {a b : World} (h : Fr S a b) (o : Obj) : Fr S a (b.alloc o) :=
  ⟨h.os, h.tape, h.output, Nat.le_trans h.size (by simp), fun i hi hn => (Below.heap_alloc b o i (Nat.lt_of_lt_of_le hi h.size)).trans (h.block i hi hn)⟩
theorem Fr.setCell {S : Nat → Prop} {a b : World} (h : Fr S a b) {p : Addr} (hp : S p.block ∨ a.heap.size ≤ p.block) (u : Value) : Fr S a (b.setCell p u) :=
  ⟨h.os, h.tape, h.output, by simpa [World.setCell] using h.size, fun i hi hn => (Below.heap_setCell b p u i (by
    rintro rfl
    rcases hp with hp | hp
    · exact hn hp
    · omega)).trans (h.block i hi hn)⟩
theorem Fr.of_below {w w' : World} (h : Below w.heap.size w w') (S : Nat → Prop) : Fr S w w' := ⟨h.os, h.tape, h.output, h.size, fun i hi _ => h.block i hi⟩
theorem Fr.of_grown {w w' : World} {row : Option Nat} (h : w.grownBy w' row) : Fr (fun k => row = some k) w w' := ⟨h.os, h.tape, h.output, h.size, fun i hi hn => h.block i hi (fun e => hn e.symm)⟩
theorem Fr.below {S : Nat → Prop} {w w' : World} (h : Fr S w w') (hs : ∀ i, i < w.heap.size → ¬ S i) : Below w.heap.size w w' := ⟨h.os, h.tape, h.output, h.size, fun i hi => h.block i hi (hs i hi)⟩
/-- A block that lies outside S holds what it held. -/
theorem Fr.get {S : Nat → Prop} {w w' : World} (h : Fr S w w') {b : Nat} {o : Obj} (hb : w.heap[b]? = some o) (hn : ¬ S b) : w'.heap[b]? = some o := by
  have hlt : b < w.heap.size := by
    rcases Nat.lt_or_ge b w.heap.size with h' | h'
    · exact h'
    · simp [Array.getElem?_eq_none h'] at hb
  rw [h.block b hlt hn]; exact hb

theorem blk_lt {w : World} {b : Nat} {o : Obj} (hb : w.heap[b]? = some o) : b < w.heap.size := by
  rcases Nat.lt_or_ge b w.heap.size with h' | h'
  · exact h'
  · simp [Array.getElem?_eq_none h'] at hb
theorem blk_cell {w : World} {b : Nat} {c : Array Value} {t : TypeId} {f : Nat × Nat} (hb : w.heap[b]? = some (.cells c t f)) (i : Nat) : w.cell? ⟨b, i, none⟩ = c[i]? := by
  simp [World.cell?, hb]
theorem blk_frozen {w : World} {b : Nat} {c : Array Value} {t : TypeId} (hb : w.heap[b]? = some (.cells c t (0, 0))) (i : Nat) : w.frozen? ⟨b, i, none⟩ = false := by
  simp [World.frozen?, hb]
theorem blk_alloc {w : World} {b : Nat} {o : Obj} (hb : w.heap[b]? = some o) (o' : Obj) : (w.alloc o').heap[b]? = some o := by
  rw [Below.heap_alloc w o' b (blk_lt hb)]; exact hb
theorem blk_new (w : World) (o : Obj) : (w.alloc o).heap[w.heap.size]? = some o := by show (w.heap.push o)[w.heap.size]? = _; simp
theorem blk_new' (w : World) (o : Obj) (k : Nat) (hk : k = w.heap.size) : (w.alloc o).heap[k]? = some o := by subst hk; exact blk_new w o
theorem blk_set {w : World} {b : Nat} {c : Array Value} {t : TypeId} {f : Nat × Nat} (hb : w.heap[b]? = some (.cells c t f)) (i : Nat) (v : Value) :
    (w.setCell ⟨b, i, none⟩ v).heap[b]? = some (.cells (c.setIfInBounds i v) t f) := by
  simp [World.setCell, Array.getElem?_modify, hb]
theorem blk_set_other {w : World} {b : Nat} {o : Obj} (hb : w.heap[b]? = some o) (p : Addr) (v : Value) (hne : b ≠ p.block) : (w.setCell p v).heap[b]? = some o := by
  rw [Below.heap_setCell w p v b hne]; exact hb
theorem blk_drew {w : World} {b : Nat} {o : Obj} (hb : w.heap[b]? = some o) : w.drew.heap[b]? = some o := hb
theorem blk_drewN {w : World} {b : Nat} {o : Obj} (hb : w.heap[b]? = some o) (n : Nat) : (w.drewN n).heap[b]? = some o := hb
theorem ret_int {k : IntKind} {a b : Int} (h : a = b) : Ending.returned (.int k a) = .returned (.int k b) := by rw [h]
theorem ret_bool {a b : Bool} (h : a = b) : Ending.returned (.bool a) = .returned (.bool b) := by rw [h]
theorem cast_beq (a b : Nat) : ((a : Int) == (b : Int)) = decide (a = b) := by
  by_cases e : a = b
  · simp [e]
  · have h : ¬ (a : Int) = (b : Int) := by omega
    simp [e, h]
theorem ba_append (s t : ByteArray) : (s ++ t).data.toList = s.data.toList ++ t.data.toList := by simp
theorem ba_extract (s : ByteArray) (a b : Nat) : (s.extract a b).data.toList = (s.data.toList.drop a).take (b - a) := Lib.extract_data s a b
theorem ba_len (s : ByteArray) : s.data.toList.length = s.size := by rw [ByteArray.size, Array.length_toList]
theorem ba_empty {s : ByteArray} (h : s.data.toList = []) : s.toList.isEmpty = true := by rw [ByteArray.toList_eq, h]; rfl
theorem ba_nonempty {s : ByteArray} (h : s.data.toList ≠ []) : s.toList.isEmpty = false := by rw [ByteArray.toList_eq]; simpa using h
theorem hide {p : Prop} (h : p) : Hid p := h
theorem unhide {p : Prop} (h : Hid p) : p := h

theorem emod3 (a b c s : Nat) : (((a : Int) + ((b : Int) + (c : Int))) % (s : Int)).toNat = (a + (b + c)) % s := by
  rw [← Int.natCast_add, ← Int.natCast_add, ← Int.natCast_emod, Int.toNat_natCast]
theorem still_of_quiet {P : Program} {ops : Array Oper} {w : World} {Q : Act → Prop} : ∀ (l : List Oper) (a : Act), wpQuiet P ops (fun w' => w' = w) Q l a → wpStill P ops w Q l a
  | [], _, h => h
  | o :: rest, a, h => by
    unfold wpQuiet at h
    unfold wpStill
    split
    · rename_i hw
      rw [if_pos hw] at h
      obtain ⟨v, h1, h2⟩ := h
      have h3 := h1 w rfl
      unfold Oper.quietAt at h3
      unfold Oper.still
      generalize (execOp a.eval o).run P w = r at *
      cases r with
      | ok n w' =>
        cases n <;> simp only [Oper.quietUpon] at h3 <;> simp only [Oper.stillUpon]
        case value u => obtain ⟨e1, e2⟩ := h3; exact ⟨e1, by rw [e2]; exact still_of_quiet rest _ h2⟩
        case skip => obtain ⟨e1, e2⟩ := h3; exact ⟨e1, by rw [← e2]; exact still_of_quiet rest _ h2⟩
        case enter f args => obtain ⟨e1, hc⟩ := h3; exact ⟨e1, v, hc, still_of_quiet rest _ h2⟩
      | halt x w' => simp only [Oper.quietUpon] at h3
    · rename_i hw
      rw [if_neg hw] at h
      exact still_of_quiet rest _ h

/-- A region that draws its order: n operations that only read, then a tail in a forced order. -/
theorem region_tail {P : Program} {id : Nat} {Q : Exit → Act → World → Prop} {a : Act} {w : World} {l : List Oper} (n : Nat) (hm : P.follows .mixedOrders = true) (hB : Region.lexTailB .any l.toArray n = true)
    (h : wpQuiet P l.toArray (fun w' => w' = w.drew) (fun a' => wpList P l.toArray Q (l.drop n) a' w.drew) (l.take n) a) : (Code.region id l.toArray true).wp P Q a w :=
  wp_region_still_tail n hm hB (still_of_quiet _ _ h)
/-- All operations only read. -/
theorem region_still {P : Program} {id : Nat} {Q : Exit → Act → World → Prop} {a : Act} {w : World} {l : List Oper} (hm : P.follows .mixedOrders = true) (hB : Region.lexB .any l.toArray = true)
    (h : wpQuiet P l.toArray (fun w' => w' = w.drew) (fun a' => Q .normal a' w.drew) l a) : (Code.region id l.toArray true).wp P Q a w :=
  wp_region_still_lit hm hB (still_of_quiet _ _ h)

/-- What a law's walk comes to: true, and old memory as it was. -/
def LawPost (W : World) (e : Ending) (w' : World) : Prop := e = .returned (.bool true) ∧ Below W.heap.size W w'
/-- A row of numbers. -/
def IntRow (W : World) (a : Option Addr) (len : Nat) : Prop :=
  len ≤ 9223372036854775807 ∧ (len = 0 ∨ ∃ cb co, a = some ⟨cb, co, none⟩ ∧ ∀ k, k < len → ∃ n : Int, W.cell? ⟨cb, co + k, none⟩ = some (.int .i64 n) ∧ -9223372036854775808 ≤ n ∧ n ≤ 9223372036854775807)
end Go.Proofs.YtlhmmiolnbgloaaGreatDoor

/- What a walk is told of an argument: a row of structs of one-cell fields. No condition. -/
namespace Go.Proofs.YtlhmmiolnbgloaaGreatDoor
open Go.ChangeShapes Go.WideShapes Go.ChangeAt Go.RowKit Go.Deep

section
variable {H : Type} {enc : TypeId × Value → H} {P : Program} {w : World} {base : Nat} {spare : Nat → Bool} {held : Bool}

/-- Each field of each element lies in a cell, and reads by itself. -/
theorem struct_row {t e : TypeId} {fs : Array Field} {a : Option Addr} {len cap : Nat} {d : DataW H} {ps : List MemPlace} (ht : P.underlying t = some (.slice e)) (he : P.underlying e = some (.struct fs))
    (hone : oneCellFields P fs = true) (hC : P.cellsOf e = fs.size) (h : DataW.Trod enc P w base spare held t (.slice a len cap) d ps) :
    len ≤ 9223372036854775807 ∧ (len = 0 ∨ ∃ x : Addr, a = some x ∧ ∀ i, i < len → ∀ (j : Nat) (f : Field), fs[j]? = some f →
      ∃ (v : Value) (y : DataW H × List MemPlace) (n : Nat), w.cell? (x.add (i * fs.size + j)) = some v ∧ DataW.trod enc P w base spare held n f.type [v] = some y) := by
  obtain ⟨fuel, hf⟩ := h
  rcases open_slice ht hf with ⟨hcs, _⟩ | ⟨x, len', cap', m, n, D, Pl, hcs, _, hl, hm, hmm, _, hi⟩
  · simp [Value.cells] at hcs
    obtain ⟨_, rfl, _⟩ := hcs
    exact ⟨by omega, .inl rfl⟩
  · simp [Value.cells] at hcs
    obtain ⟨rfl, rfl, rfl⟩ := hcs
    refine ⟨by unfold maxLen at hm; omega, .inr ⟨x, rfl, fun i hlt j f hj => ?_⟩⟩
    obtain ⟨cs, hc, htr⟩ := hi i (by split at hmm <;> omega)
    obtain ⟨ys, n', _, _, hlen, hyl, hfld⟩ := DataW.trod_struct he htr
    obtain ⟨_, _, hat⟩ := World.cells?_some hc
    obtain ⟨hoff, hcell⟩ := hone_of hone j f hj
    have hjl : j < fs.size := (Array.getElem?_eq_some_iff.1 hj).1
    have hjc : j < cs.length := by rw [hlen, hC]; exact hjl
    have hr := hfld j f hj
    rw [hoff, hcell, List.drop_eq_getElem_cons hjc] at hr
    have hys : ys[j]? = some (ys[j]'(by omega)) := List.getElem?_eq_getElem (by omega)
    refine ⟨cs[j], _, n', ?_, hr.trans hys⟩
    have h1 := hat j (by rw [hC]; exact hjl)
    rw [add_add, hC, List.getElem?_eq_getElem hjc] at h1
    exact h1

/-- An address whose cell can be read has no spot. -/
theorem addr_plain {x : Addr} {v : Value} (h : w.cell? x = some v) : x = ⟨x.block, x.off, none⟩ := by
  cases hs : x.spot with
  | none => cases x; simp_all
  | some s =>
    unfold World.cell? at h
    split at h <;> simp_all
theorem add_plain (b o k : Nat) : (⟨b, o, none⟩ : Addr).add k = ⟨b, o + k, none⟩ := by
  unfold Addr.add
  split
  · subst_vars; rfl
  · rfl
/-- A row of structs in a plain place. -/
theorem struct_row' {t e : TypeId} {fs : Array Field} {a : Option Addr} {len cap : Nat} {d : DataW H} {ps : List MemPlace} (ht : P.underlying t = some (.slice e)) (he : P.underlying e = some (.struct fs)) (hpos : 0 < fs.size)
    (hone : oneCellFields P fs = true) (hC : P.cellsOf e = fs.size) (h : DataW.Trod enc P w base spare held t (.slice a len cap) d ps) :
    len ≤ 9223372036854775807 ∧ (len = 0 ∨ ∃ cb co : Nat, a = some ⟨cb, co, none⟩ ∧ ∀ i, i < len → ∀ (j : Nat) (f : Field), fs[j]? = some f →
      ∃ (v : Value) (y : DataW H × List MemPlace) (n : Nat), w.cell? ⟨cb, co + (i * fs.size + j), none⟩ = some v ∧ DataW.trod enc P w base spare held n f.type [v] = some y) := by
  obtain ⟨h1, h2⟩ := struct_row ht he hone hC h
  refine ⟨h1, ?_⟩
  rcases h2 with h2 | ⟨x, rfl, h2⟩
  · exact .inl h2
  · by_cases h0 : len = 0
    · exact .inl h0
    · right
      obtain ⟨v, _, _, hv, _⟩ := h2 0 (by omega) 0 fs[0] (Array.getElem?_eq_getElem hpos)
      have hx : x.add (0 * fs.size + 0) = x := by unfold Addr.add; simp
      rw [hx] at hv
      have hp := addr_plain hv
      refine ⟨x.block, x.off, by rw [← hp], fun i hi j f hj => ?_⟩
      obtain ⟨v, y, n, hv, hy⟩ := h2 i hi j f hj
      rw [hp, add_plain] at hv
      exact ⟨v, y, n, hv, hy⟩
end
end Go.Proofs.YtlhmmiolnbgloaaGreatDoor

/- What a walk is told of an argument, with sizes: a row of structs of one-cell fields; how much each part takes. No condition. -/
namespace Go.Proofs.YtlhmmiolnbgloaaGreatDoor
open Go.ChangeShapes Go.WideShapes Go.ChangeAt Go.RowKit Go.Deep

section
variable {H : Type} {enc : TypeId × Value → H} {P : Program} {w : World} {base : Nat} {spare : Nat → Bool} {held : Bool}

theorem weightsAll_mem {e : TypeId} : ∀ {l : List (DataW H)} {d : DataW H}, d ∈ l → ∀ n ∈ d.weights P e, n ∈ DataW.weightsAll P e l
  | x :: r, d, hd, n, hn => by
    simp only [DataW.weightsAll, List.mem_append]
    rcases List.mem_cons.1 hd with rfl | hd
    · exact .inl hn
    · exact .inr (weightsAll_mem hd n hn)
/-- Each field of each element lies in a cell, reads by itself, and takes no more than the whole. -/
theorem struct_row_w {t e : TypeId} {fs : Array Field} {a : Option Addr} {len cap : Nat} {d : DataW H} {ps : List MemPlace} (ht : P.underlying t = some (.slice e)) (he : P.underlying e = some (.struct fs)) (hpos : 0 < fs.size)
    (hone : oneCellFields P fs = true) (hC : P.cellsOf e = fs.size) (h : DataW.Trod enc P w base spare held t (.slice a len cap) d ps) :
    len ≤ 9223372036854775807 ∧ (len = 0 ∨ ∃ cb co : Nat, a = some ⟨cb, co, none⟩ ∧ ∀ i, i < len → ∀ (j : Nat) (f : Field), fs[j]? = some f →
      ∃ (v : Value) (y : DataW H × List MemPlace) (n : Nat), w.cell? ⟨cb, co + (i * fs.size + j), none⟩ = some v ∧ DataW.trod enc P w base spare held n f.type [v] = some y ∧ ∀ m ∈ y.1.weights P f.type, m ∈ d.weights P t) := by
  obtain ⟨fuel, hf⟩ := h
  rcases open_slice ht hf with ⟨hcs, _⟩ | ⟨x, len', cap', m, n, D, Pl, hcs, _, hl, hm, hmm, hd, hi⟩
  · simp [Value.cells] at hcs
    obtain ⟨_, rfl, _⟩ := hcs
    exact ⟨by omega, .inl rfl⟩
  · simp [Value.cells] at hcs
    obtain ⟨rfl, rfl, rfl⟩ := hcs
    refine ⟨by unfold maxLen at hm; omega, ?_⟩
    by_cases h0 : len = 0
    · exact .inl h0
    have key : ∀ i, i < len → ∀ (j : Nat) (f : Field), fs[j]? = some f →
      ∃ (v : Value) (y : DataW H × List MemPlace) (n : Nat), w.cell? (x.add (i * fs.size + j)) = some v ∧ DataW.trod enc P w base spare held n f.type [v] = some y ∧ ∀ m ∈ y.1.weights P f.type, m ∈ d.weights P t := by
      intro i hlt j f hj
      obtain ⟨cs, hc, htr⟩ := hi i (by split at hmm <;> omega)
      obtain ⟨ys, n', _, hx, hlen, hyl, hfld⟩ := DataW.trod_struct he htr
      obtain ⟨_, _, hat⟩ := World.cells?_some hc
      obtain ⟨hoff, hcell⟩ := hone_of hone j f hj
      have hjl : j < fs.size := (Array.getElem?_eq_some_iff.1 hj).1
      have hjc : j < cs.length := by rw [hlen, hC]; exact hjl
      have hr := hfld j f hj
      rw [hoff, hcell, List.drop_eq_getElem_cons hjc] at hr
      have hys : ys[j]? = some (ys[j]'(by omega)) := List.getElem?_eq_getElem (by omega)
      refine ⟨cs[j], _, n', ?_, hr.trans hys, fun q hq => ?_⟩
      · have h1 := hat j (by rw [hC]; exact hjl)
        rw [add_add, hC, List.getElem?_eq_getElem hjc] at h1
        exact h1
      · have e1 : d = .slice ((List.range len).map D) ((List.range (m - len)).map fun j => D (len + j)) := by
          have := congrArg Prod.fst hd
          exact this
        rw [e1]
        simp only [DataW.weights, ht, List.mem_cons, List.mem_append]
        refine .inr (.inl (weightsAll_mem (d := D i) (List.mem_map.2 ⟨i, List.mem_range.2 hlt, rfl⟩) q ?_))
        have e2 : D i = .agg (ys.map (·.1)) := congrArg Prod.fst hx
        rw [e2]
        simp only [DataW.weights, he]
        exact DataW.weights_mem_each (j := j) (t := f.type) (d := (ys[j]'(by omega)).1) (by simp [hj]) (by rw [List.getElem?_map, hys]; rfl) q hq
    right
    obtain ⟨v, _, _, hv, _⟩ := key 0 (by omega) 0 fs[0] (Array.getElem?_eq_getElem hpos)
    have hx : x.add (0 * fs.size + 0) = x := by unfold Addr.add; simp
    rw [hx] at hv
    have hp := addr_plain hv
    refine ⟨x.block, x.off, by rw [← hp], fun i hi j f hj => ?_⟩
    obtain ⟨v, y, n, hv, hy⟩ := key i hi j f hj
    rw [hp, add_plain] at hv
    exact ⟨v, y, n, hv, hy⟩
end
theorem reach47 {n : Nat} (h : n ≤ reachBytes) : n ≤ 140737488355328 := by have := reachBytes_lt; omega
end Go.Proofs.YtlhmmiolnbgloaaGreatDoor
