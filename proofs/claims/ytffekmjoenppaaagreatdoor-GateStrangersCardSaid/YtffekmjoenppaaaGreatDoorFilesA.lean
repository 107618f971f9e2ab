/- Regions that draw their order and make memory: what only reads is taken first, in every world of a class S; the rest in every order that is left, as a tree; then a tail in a forced order. And append onto a row of one's own, its source nil or not. Conditions: closed facts on the region, by the kernel; the laws' premises. -/
import Derived.Test.YtffekmjoenppaaaGreatDoorOwn
import Derived.Test.YtffekmjoenppaaaGreatDoorOwn
import Derived.Test.YtffekmjoenppaaaGreatDoorProg
import Derived.WalkKit
import Derived.Deep.LoopGhost
import Derived.Handy
import Derived.Deep.Cut
import Derived.Maps.AppendAt
import Derived.Laws.Rows
import Derived.Lib.SliceRun
import Derived.Maps.Own
import Derived.Maps.OwnOps
import Derived.Maps.OwnSet
import Derived.Maps.Views
import Derived.Sort.KeysCollected
namespace Go.Proofs.YtffekmjoenppaaaGreatDoor
open Go.RowKit

section
variable {P : Program} {ops : Array Oper} {Q : Exit → Act → World → Prop} {S : World → Prop}

def treeB (ops : Array Oper) (hd : List Nat) (m n : Nat) : Bool :=
  Region.noSelect ops && decide (n < ops.size) && Region.chainB .any ops n && decide (hd.length + m = n) &&
  hd.all (fun k => decide (k < n) && (mustOf ops n n).contains k && (ops[k]?.map valueOp).getD false) && lexList ops hd (Array.replicate ops.size false)
/-- What is left, in every order. -/
def treeS (P : Program) (ops : Array Oper) (Q : Exit → Act → World → Prop) (S : World → Prop) (n g : Nat) (L : Act → World → Prop) (m : Nat) (listed : Array Bool) (a : Act) (w : World) : Prop :=
  anyT P ops Q S n (fun listed' a' w' => Region.seqB .any ops g n listed' = true ∧ L a' w') m listed a w
theorem tree_end {n g : Nat} {L : Act → World → Prop} {listed : Array Bool} {a : Act} {w : World} (hB : Region.seqB .any ops g n listed = true) (h : L a w) : treeS P ops Q S n g L 0 listed a w := ⟨hB, h⟩
theorem tree_op {i : Nat} {o : Oper} {K : Act → World → Prop} {a : Act} {w : World} (ho : ops[i]? = some o) (hg : o.guard = none) (h : o.wp P a w K Q) : wpOp P ops Q i K a w :=
  wpOp_of_one ho (by unfold wpOne; rw [if_pos (by simp [Region.wanted, hg])]; exact h)
theorem tree_one {n g m : Nat} {L : Act → World → Prop} {listed : Array Bool} {a : Act} {w : World} (i : Nat) (o : Oper) (hr : (Region.ready .any ops listed == [i]) = true) (hin : i < n) (ho : ops[i]? = some o) (hg : o.guard = none)
    (h : ∀ K : Act → World → Prop, (∀ a' w', S w' → treeS P ops Q S n g L m (listed.setIfInBounds i true) a' w' → K a' w') → o.wp P a w K Q) : treeS P ops Q S n g L (m + 1) listed a w := by
  have hr := beq_iff_eq.1 hr
  refine ⟨by rw [hr]; simp, fun k hk => ?_⟩
  rw [hr] at hk
  simp only [List.mem_cons, List.not_mem_nil, or_false] at hk
  subst hk
  exact ⟨hin, tree_op ho hg (h _ fun _ _ h1 h2 => ⟨h1, h2⟩)⟩
theorem getD_some {l : List Oper} {i : Nat} (hi : i < l.length) : l.toArray[i]? = some (l.getD i default) := by simp [List.getD_eq_getElem?_getD, hi]
theorem tree_one' {l : List Oper} {n g m : Nat} {L : Act → World → Prop} {listed : Array Bool} {a : Act} {w : World} (i : Nat) (hr : (Region.ready .any l.toArray listed == [i]) = true) (hin : i < n) (hi : i < l.length) (hg : (l.getD i default).guard = none)
    (h : ∀ K : Act → World → Prop, (∀ a' w', S w' → treeS P l.toArray Q S n g L m (listed.setIfInBounds i true) a' w' → K a' w') → (l.getD i default).wp P a w K Q) : treeS P l.toArray Q S n g L (m + 1) listed a w :=
  tree_one i _ hr hin (getD_some hi) hg h
/-- The invariant of what is listed, by reckoning. -/
def mixOk (ops : Array Oper) (n : Nat) (listed : Array Bool) : Bool :=
  decide (listed.size = ops.size) && (List.range ops.size).all (fun j => !(listed.getD j false) || (match ops[j]? with | none => true | some oj => oj.after.all (fun e => !(Region.binds .any e) || listed.getD e.on false))) &&
  (List.range ops.size).all (fun t => decide (t < n) || !(listed.getD t true))
theorem mixOk_spec {ops : Array Oper} {n : Nat} {listed : Array Bool} (h : mixOk ops n listed = true) : MixInv ops n listed := by
  simp only [mixOk, Bool.and_eq_true, decide_eq_true_eq, List.all_eq_true, List.mem_range, Bool.or_eq_true, Bool.not_eq_true'] at h
  obtain ⟨⟨h1, h2⟩, h3⟩ := h
  refine ⟨h1, fun j oj hj hl e he hb => ?_, fun t ht ht2 => ?_⟩
  · have hlt : j < ops.size := (Array.getElem?_eq_some_iff.1 hj).1
    rcases h2 j hlt with h4 | h4
    · rw [hl] at h4; cases h4
    · rw [hj] at h4
      simp only at h4
      have h5 := (Array.all_eq_true_iff_forall_mem.1 h4) e he
      simp only [Bool.or_eq_true, Bool.not_eq_true'] at h5
      rcases h5 with h5 | h5
      · rw [hb] at h5; cases h5
      · exact h5
  · rcases h3 t ht2 with h4 | h4
    · omega
    · exact h4
/-- In the midst of the tree: these only read, and must come ahead of the tail. -/
def headsB (ops : Array Oper) (is : List Nat) (n : Nat) (listed : Array Bool) : Bool :=
  Region.noSelect ops && decide (n < ops.size) && Region.chainB .any ops n && mixOk ops n listed &&
  is.all (fun k => decide (k < n) && (mustOf ops n n).contains k && (ops[k]?.map valueOp).getD false) && lexList ops is listed
theorem tree_heads {l : List Oper} {n f : Nat} {L : Act → World → Prop} {listed : Array Bool} {a : Act} {w : World} (is : List Nat) (hB : headsB l.toArray is n listed = true)
    (hQ : ∀ c a d v w, Q (.panic c) (Act.put a d v) w → Q (.panic c) a w) (hS : S w)
    (h : wpQuiet P l.toArray S (fun a1 => treeS P l.toArray Q S n (l.length - n) L f (listAll is listed) a1 w) (is.map (fun k => l.getD k default)) a) :
    treeS P l.toArray Q S n (l.length - n) L (is.length + f) listed a w := by
  simp only [headsB, Bool.and_eq_true, decide_eq_true_eq, List.all_eq_true] at hB
  obtain ⟨⟨⟨⟨⟨hs, hn⟩, hc⟩, hmix⟩, hhd⟩, hlex⟩ := hB
  have hn2 : n < l.length := by simpa using hn
  rw [← pickOps_map l is (fun k hk => by have := (hhd k hk).1.1; omega)] at h
  have hg : l.length - n = (l.drop n).length := by simp
  refine anyT_heads (d := n) hs hQ hc hn hS (fun listed a w hL => ?_) is listed a (mixOk_spec hmix) (fun k hk => by have := hhd k hk; exact ⟨this.1.1, by simpa using this.1.2, this.2⟩) hlex (fun a1 hA => hA) h
  exact seqB_ready hL.1
theorem region_tree {id : Nat} {a : Act} {w : World} {l : List Oper} (S : World → Prop) (hd : List Nat) (m n : Nat) (hm : P.follows .mixedOrders = true) (hB : treeB l.toArray hd m n = true)
    (hQ : ∀ c a d v w, Q (.panic c) (Act.put a d v) w → Q (.panic c) a w) (hS : S w.drew)
    (h0 : wpQuiet P l.toArray S (fun a1 => treeS P l.toArray Q S n (l.length - n) (fun a2 w2 => wpList P l.toArray Q (l.drop n) a2 w2) m (listAll hd (Array.replicate l.length false)) a1 w.drew) (hd.map (fun k => l.getD k default)) a) :
    (Code.region id l.toArray true).wp P Q a w := by
  simp only [treeB, Bool.and_eq_true, decide_eq_true_eq, List.all_eq_true] at hB
  obtain ⟨⟨⟨⟨⟨hs, hn⟩, hc⟩, hlen⟩, hhd⟩, hlex⟩ := hB
  have hn2 : n < l.length := by simpa using hn
  have h := h0
  rw [← pickOps_map l hd (fun k hk => by have := (hhd k hk).1.1; omega)] at h
  have inv0 : MixInv l.toArray n (Array.replicate l.toArray.size false) :=
    ⟨by simp, fun j oj _ hl => (by rw [getD_replicate_false] at hl; cases hl), fun t _ ht => getD_in (by simpa using ht) (getD_replicate_false _ _)⟩
  have hg : l.length - n = (l.drop n).length := by simp
  rw [hg] at h
  refine wp_region_any hm ?_
  show wpAny P .any l.toArray Q l.toArray.size _ a w.drew
  have hsz : l.toArray.size = (hd.length + m) + (l.drop n).length := by simp at hn ⊢; omega
  have key : wpAny P .any l.toArray Q ((hd.length + m) + (l.drop n).length) (Array.replicate l.toArray.size false) a w.drew := by
    refine any_of_anyT (S := S) (n := n) (L := fun listed' a' w' => Region.seqB .any l.toArray (l.drop n).length n listed' = true ∧ wpList P l.toArray Q (l.drop n) a' w') ?_ (hd.length + m) _ _ _ ?_
    · intro listed a w hL
      exact wpAny_of_seq (l.drop n) n listed a w (fun j => by simp) hL.1 hL.2
    · exact anyT_heads (d := n) hs hQ hc hn hS (fun listed a w hL => seqB_ready hL.1) hd _ a inv0 (fun k hk => by have := hhd k hk; exact ⟨this.1.1, by simpa using this.1.2, this.2⟩) hlex (fun a1 hA => hA) h
  rw [← hsz] at key
  exact key

/-- append onto a row of one's own; the source: nil, or cells that are there. -/
theorem run_append_src {P : Program} (w : World) (base : Nat) (t ty e : TypeId) (i : TypeInfo) (z : Value) (size bytes : Nat) (ht : P.underlying t = some (.slice e)) (hi : P.info? e = some i) (hz : i.zero = some z)
    (hsize : i.size = size) (hby : i.bytes = bytes) (hzs : z.cells.size = size) (hsz : 0 < size)
    (v : Value) (n : Nat) (xs : List Value) (hown : w.ownsRow base e size v n xs)
    (sa : Option Addr) (m c : Nat) (news : List Value) (hl : news.length = m * size) (hsrc : (sa = none ∧ m = 0 ∧ c = 0) ∨ ∃ ad, sa = some ad ∧ ∀ j u, news[j]? = some u → w.cell? (ad.add j) = some u) (h1 : ∀ u ∈ news, u.oneCell' = true)
    (h63 : n + m ≤ maxLen) (hbytes : (n + m) * bytes ≤ 140737488355328) (hbase : base ≤ w.heap.size) :
    ∃ v' w', (Builtin.append_ #[t, t] ty #[v, .slice sa m c]).run P w = .ok v' w' ∧ w'.ownsRow base e size v' (n + m) (xs ++ news) ∧ Fr (fun k => v.ownBlock = some k) w w' ∧ (v'.ownBlock = v.ownBlock ∨ v'.ownBlock = some w.heap.size) := by
  rcases hsrc with ⟨rfl, rfl, rfl⟩ | ⟨ad, rfl, hc⟩
  · refine ⟨v, w, run_append_owned_none w base t ty e i size ht hi v n xs hown, ?_, Fr.refl _ _, .inl rfl⟩
    rw [List.eq_nil_of_length_eq_zero (show news.length = 0 by rw [hl]; simp)]
    simpa using hown
  · obtain ⟨v', w', hr, h2, h3, _, h5⟩ := run_append_own_at (P := P) w base t ty e i z size bytes ht hi hz hsize hby hzs hsz v n xs hown ad m c news hl hc h1 h63 hbytes hbase
    exact ⟨v', w', hr, h2, Fr.of_grown h3, h5⟩
theorem wp_append_src {o : Oper} {a : Act} {w : World} {K : Act → World → Prop} (s x : Operand) (t : TypeId)
    (ho : o.op = .call { callee := .builtin .append, args := #[s, x], argTypes := #[t, t] })
    (base : Nat) (e : TypeId) (i : TypeInfo) (z : Value) (size bytes : Nat) (ht : P.underlying t = some (.slice e)) (hi : P.info? e = some i) (hz : i.zero = some z)
    (hsize : i.size = size) (hby : i.bytes = bytes) (hzs : z.cells.size = size) (hsz : 0 < size)
    (v : Value) (n : Nat) (xs : List Value) (hs : a.eval s = v) (hown : w.ownsRow base e size v n xs)
    (sa : Option Addr) (m c : Nat) (news : List Value) (hx : a.eval x = .slice sa m c) (hl : news.length = m * size) (hsrc : (sa = none ∧ m = 0 ∧ c = 0) ∨ ∃ ad, sa = some ad ∧ ∀ j u, news[j]? = some u → w.cell? (ad.add j) = some u) (h1 : ∀ u ∈ news, u.oneCell' = true)
    (h63 : n + m ≤ maxLen) (hbytes : (n + m) * bytes ≤ 140737488355328) (hbase : base ≤ w.heap.size)
    (h : ∀ v' w', w'.ownsRow base e size v' (n + m) (xs ++ news) → Fr (fun k => v.ownBlock = some k) w w' → (v'.ownBlock = v.ownBlock ∨ v'.ownBlock = some w.heap.size) → K (a.put o.dst v') w') : o.wp P a w K Q := by
  obtain ⟨v', w', hr, h2, h3, h4⟩ := run_append_src (P := P) w base t o.type e i z size bytes ht hi hz hsize hby hzs hsz v n xs hown sa m c news hl hsrc h1 h63 hbytes hbase
  unfold Oper.wp execOp
  simp only [ho, resolve, invoke, builtin, Sem.run_bind, Sem.run_pure, Result.andThen_ok, List.map_toArray, List.map_cons, List.map_nil, hs, hx, hr]
  exact h v' w' h2 h3 h4
theorem wpList_append_src {rest : List Oper} {o : Oper} {a : Act} {w : World} (hgd : o.guard = none) (s x : Operand) (t : TypeId)
    (ho : o.op = .call { callee := .builtin .append, args := #[s, x], argTypes := #[t, t] })
    (base : Nat) (e : TypeId) (i : TypeInfo) (z : Value) (size bytes : Nat) (ht : P.underlying t = some (.slice e)) (hi : P.info? e = some i) (hz : i.zero = some z)
    (hsize : i.size = size) (hby : i.bytes = bytes) (hzs : z.cells.size = size) (hsz : 0 < size)
    (v : Value) (n : Nat) (xs : List Value) (hs : a.eval s = v) (hown : w.ownsRow base e size v n xs)
    (sa : Option Addr) (m c : Nat) (news : List Value) (hx : a.eval x = .slice sa m c) (hl : news.length = m * size) (hsrc : (sa = none ∧ m = 0 ∧ c = 0) ∨ ∃ ad, sa = some ad ∧ ∀ j u, news[j]? = some u → w.cell? (ad.add j) = some u) (h1 : ∀ u ∈ news, u.oneCell' = true)
    (h63 : n + m ≤ maxLen) (hbytes : (n + m) * bytes ≤ 140737488355328) (hbase : base ≤ w.heap.size)
    (h : ∀ v' w', w'.ownsRow base e size v' (n + m) (xs ++ news) → Fr (fun k => v.ownBlock = some k) w w' → (v'.ownBlock = v.ownBlock ∨ v'.ownBlock = some w.heap.size) → wpList P ops Q rest (a.put o.dst v') w') : wpList P ops Q (o :: rest) a w :=
  wpList_plain hgd fun _ hK => wp_append_src s x t ho base e i z size bytes ht hi hz hsize hby hzs hsz v n xs hs hown sa m c news hx hl hsrc h1 h63 hbytes hbase fun v' w' h2 h3 h4 => hK _ _ (h v' w' h2 h3 h4)
end
end Go.Proofs.YtffekmjoenppaaaGreatDoor

/- Rows of strings in memory: what they hold, cuts, what append may take from. No condition. -/
namespace Go.Proofs.YtffekmjoenppaaaGreatDoor
open Go.RowKit

def ArgsV (w : World) (S : Nat → Prop) (v : Value) (l : List ByteArray) : Prop :=
  ∃ a cap, v = .slice a l.length cap ∧ l.length ≤ cap ∧ (a = none → cap = 0) ∧ (l = [] ∨ ∃ g o, a = some ⟨g, o, none⟩ ∧ S g ∧ g < w.heap.size ∧ ∀ k (hk : k < l.length), w.cell? ⟨g, o + k, none⟩ = some (.string l[k]))
theorem ArgsV.frame {w w' : World} {S S' : Nat → Prop} {v : Value} {l : List ByteArray} (h : ArgsV w S v l) (hf : Fr S' w w') (hd : ∀ k, k < w.heap.size → S k → ¬ S' k) : ArgsV w' S v l := by
  obtain ⟨a, cap, h1, h2, h3, h4⟩ := h
  refine ⟨a, cap, h1, h2, h3, h4.imp id ?_⟩
  rintro ⟨g, o, h5, h6, h7, h8⟩
  exact ⟨g, o, h5, h6, Nat.lt_of_lt_of_le h7 hf.size, fun k hk => (World.cell?_of_block (w := w) (a := ⟨g, o + k, none⟩) (hf.block g h7 (hd g h7 h6))).trans (h8 k hk)⟩
def strs (l : List ByteArray) : List Value := l.map .string
theorem ArgsV.form {w : World} {S : Nat → Prop} {v : Value} {l : List ByteArray} (h : ArgsV w S v l) : ∃ a cap, v = .slice a l.length cap := by
  obtain ⟨a, cap, h1, _⟩ := h
  exact ⟨a, cap, h1⟩
theorem ArgsV.mono {w : World} {S S' : Nat → Prop} {v : Value} {l : List ByteArray} (h : ArgsV w S v l) (hS : ∀ k, k < w.heap.size → S k → S' k) : ArgsV w S' v l := by
  obtain ⟨a, cap, h1, h2, h3, h4⟩ := h
  refine ⟨a, cap, h1, h2, h3, h4.imp id ?_⟩
  rintro ⟨g, o, h5, h6, h7, h8⟩
  exact ⟨g, o, h5, hS g h7 h6, h7, h8⟩
theorem ArgsV.at {w : World} {S : Nat → Prop} {a : Option Addr} {n cap : Nat} {l : List ByteArray} (h : ArgsV w S (.slice a n cap) l) : n = l.length ∧ n ≤ cap ∧ (n = 0 ∨ ∃ g o, a = some ⟨g, o, none⟩ ∧ ∀ k (hk : k < l.length), w.cell? ⟨g, o + k, none⟩ = some (.string l[k])) := by
  obtain ⟨a', cap', h1, h2, h3, h4⟩ := h
  cases h1
  refine ⟨rfl, h2, ?_⟩
  rcases h4 with h4 | ⟨g, o, h5, _, _, h8⟩
  · exact .inl (by rw [h4]; rfl)
  · exact .inr ⟨g, o, h5, h8⟩
theorem ba_of_data {s t : ByteArray} (h : s.data.toList = t.data.toList) : s = t := by
  cases s; cases t
  simp only [ByteArray.mk.injEq]
  exact Array.toList_inj.1 h
theorem ArgsV.drop {w : World} {S : Nat → Prop} {a : Option Addr} {n cap : Nat} {l : List ByteArray} (h : ArgsV w S (.slice a n cap) l) (k : Nat) (hk : k ≤ n) :
    ArgsV w S (.slice (a.map (fun x => x.add k)) (n - k) (cap - k)) (l.drop k) := by
  obtain ⟨a', cap', h1, h2, h3, h4⟩ := h
  cases h1
  refine ⟨a.map (fun x => x.add k), cap - k, by simp, by simp; omega, fun e => by have := h3 (by simpa using e); omega, ?_⟩
  rcases h4 with h4 | ⟨g, o, h5, h6, h7, h8⟩
  · exact .inl (by simp [h4])
  · subst h5
    refine .inr ⟨g, o + k, by simp [Addr.add_lit], h6, h7, fun j hj => ?_⟩
    simp only [List.length_drop] at hj
    rw [List.getElem_drop, Nat.add_assoc]
    exact h8 (k + j) (by omega)
def SrcOk (w : World) (sa : Option Addr) (m c : Nat) (news : List Value) : Prop := (sa = none ∧ m = 0 ∧ c = 0) ∨ ∃ ad, sa = some ad ∧ ∀ j u, news[j]? = some u → w.cell? (ad.add j) = some u
theorem SrcOk.frame {w w' : World} {sa : Option Addr} {m c : Nat} {news : List Value} (h : SrcOk w sa m c news) (hf : Fr (fun _ => False) w w') : SrcOk w' sa m c news := by
  refine h.imp id ?_
  rintro ⟨ad, h1, h2⟩
  exact ⟨ad, h1, fun j u hj => (World.cell?_of_block (hf.block _ (World.block_lt_of_cell? _ _ (h2 j u hj)) (fun h => h))).trans (h2 j u hj)⟩
theorem ArgsV.src {w : World} {S : Nat → Prop} {a : Option Addr} {n cap : Nat} {l : List ByteArray} (h : ArgsV w S (.slice a n cap) l) : SrcOk w a n cap (strs l) := by
  obtain ⟨a', cap', h1, h2, h3, h4⟩ := h
  cases h1
  cases a with
  | none => have := h3 rfl; exact .inl ⟨rfl, by omega, this⟩
  | some x =>
    right
    refine ⟨x, rfl, fun j u hj => ?_⟩
    rcases h4 with h4 | ⟨g, o, h5, _, _, h8⟩
    · subst h4; simp [strs] at hj
    · cases h5
      rw [Addr.add_lit]
      simp only [strs, List.getElem?_map, Option.map_eq_some_iff] at hj
      obtain ⟨s, hs, rfl⟩ := hj
      obtain ⟨hk, rfl⟩ := List.getElem?_eq_some_iff.1 hs
      exact h8 j hk
theorem ArgsV.cut {w : World} {S : Nat → Prop} {a : Option Addr} {n cap : Nat} {l : List ByteArray} (h : ArgsV w S (.slice a n cap) l) (k : Nat) (hk : k ≤ n) :
    ∃ sa sc, (∀ w', (Instr.sliceAt 26 (.slice a n cap) (some (.int .i64 k)) none none).run Tryz.prog w' = .ok (.slice sa (n - k) sc) w') ∧ ArgsV w S (.slice sa (n - k) sc) (l.drop k) := by
  have hd := h.drop k hk
  obtain ⟨hn, hc, _⟩ := h.at
  have hsz : ∀ w', (sizeOf 9).run Tryz.prog w' = .ok 1 w' := fun w' => by kernel_rfl
  have he : Tryz.prog.elem 26 = 9 := by kernel_rfl
  have ht : Tryz.prog.underlying 26 = some (.slice (Tryz.prog.elem 26)) := by rw [he]; exact Tryz.underlying26
  have key : ∀ w', (Instr.sliceAt 26 (.slice a n cap) (some (.int .i64 k)) none none).run Tryz.prog w' = .ok (sliced a k n cap 1) w' := fun w' => by
    rw [run_sliceAt_slice (h := ht), run_slice_l (ht := ht) (h0 := by omega) (h1 := by omega), he, hsz]
    simp
  by_cases hck : cap = k
  · refine ⟨a, cap - k, fun w' => by rw [key]; simp [sliced, hck], ?_⟩
    have hl0 : l.drop k = [] := List.drop_of_length_le (by omega)
    rw [hl0]
    exact ⟨a, cap - k, by simp; omega, by simp, fun _ => by omega, .inl rfl⟩
  · exact ⟨_, _, fun w' => by rw [key]; simp [sliced, hck], hd⟩
theorem cut_highS {a : Option Addr} {n cap k : Nat} (hk : k ≤ n) (hn : n ≤ cap) : ∀ w', (Instr.sliceAt 26 (.slice a n cap) none (some (.int .i64 k)) none).run Tryz.prog w' = .ok (.slice a k cap) w' := by
  intro w'
  have hsz : ∀ w', (sizeOf 9).run Tryz.prog w' = .ok 1 w' := fun w' => by kernel_rfl
  have he : Tryz.prog.elem 26 = 9 := by kernel_rfl
  have ht : Tryz.prog.underlying 26 = some (.slice (Tryz.prog.elem 26)) := by rw [he]; exact Tryz.underlying26
  rw [run_sliceAt_slice (h := ht), run_slice_h (ht := ht) (h0 := by omega) (h2 := by omega), he, hsz]
  cases a <;> simp [sliced, Addr.add]
end Go.Proofs.YtffekmjoenppaaaGreatDoor

/- A map with string keys, by a sorted list of what it holds: look-up, store, delete, length, sorted keys. Conditions: keys no longer than what a string can be. -/
namespace Go.Proofs.YtffekmjoenppaaaGreatDoor
open Go.RowKit Go.Maps

abbrev KA (α : Type) := List (List UInt8 × α)
abbrev KL := KA Value
section
variable {α : Type}
def rV (v : Value) : Option (DataW Value × List MemPlace) := some (.held v, [])
def dOf (L : KL) : DataW Value := .map (L.map fun p => (.string p.1, .held p.2))
def kins (x : List UInt8 × α) : KA α → KA α
  | [] => [x]
  | y :: r => if bytesBefore x.1 y.1 then x :: y :: r else y :: kins x r
def kdel (s : List UInt8) (L : KA α) : KA α := L.filter fun p => !(p.1 == s)
def kput (s : List UInt8) (v : α) (L : KA α) : KA α := kins (s, v) (kdel s L)
def kget (s : List UInt8) (L : KA α) : Option α := (L.find? fun p => p.1 == s).map (·.2)

theorem dinsert_cons (x y : Lit × DataW Value) (r : List (Lit × DataW Value)) : DataW.insert x (y :: r) = if x.1.before y.1 = true then x :: y :: r else y :: DataW.insert x r := rfl
theorem kins_cons (x y : List UInt8 × α) (r : KA α) : kins x (y :: r) = if bytesBefore x.1 y.1 = true then x :: y :: r else y :: kins x r := rfl
end
theorem dOf_insert (x : List UInt8 × Value) : ∀ L : KL, DataW.insert (.string x.1, .held x.2) (L.map fun p => (Lit.string p.1, DataW.held p.2)) = (kins x L).map fun p => (Lit.string p.1, DataW.held p.2)
  | [] => rfl
  | y :: r => by
    rw [List.map_cons, dinsert_cons, kins_cons]
    by_cases h : bytesBefore x.1 y.1 = true
    · rw [if_pos h, if_pos (show (Lit.string x.1).before (Lit.string y.1) = true from h)]; rfl
    · rw [if_neg h, if_neg (show ¬ (Lit.string x.1).before (Lit.string y.1) = true from h), dOf_insert x r]; rfl
theorem dOf_filter (s : List UInt8) : ∀ L : KL, ((L.map fun p => (Lit.string p.1, (DataW.held p.2 : DataW Value))).filter fun p => !p.1.sameKey (.string s)) = (kdel s L).map fun p => (Lit.string p.1, DataW.held p.2)
  | [] => rfl
  | y :: r => by
    simp only [kdel, List.map_cons, List.filter_cons, Lit.sameKey]
    have ih := dOf_filter s r
    simp only [kdel, Lit.sameKey] at ih
    by_cases h : (!(y.1 == s)) = true
    · rw [if_pos h, if_pos h, ih]; rfl
    · rw [if_neg h, if_neg h, ih]
theorem dOf_put (s : List UInt8) (v : Value) (L : KL) : (dOf L).put (.string s) (.held v) = dOf (kput s v L) := by
  show DataW.map (DataW.insert _ _) = _
  rw [dOf_filter, dOf_insert (s, v)]; rfl
theorem dOf_del (s : List UInt8) (L : KL) : (dOf L).del (.string s) = dOf (kdel s L) := by
  show DataW.map _ = _
  rw [dOf_filter]; rfl
theorem dOf_find (s : List UInt8) : ∀ L : KL, (L.map fun p => (Lit.string p.1, (DataW.held p.2 : DataW Value))).find? (fun p => p.1.sameKey (.string s)) = (L.find? fun p => p.1 == s).map fun p => (Lit.string p.1, DataW.held p.2)
  | [] => rfl
  | y :: r => by
    have ih := dOf_find s r
    rw [List.map_cons, List.find?_cons, List.find?_cons]
    show (match (y.1 == s) with | true => some (Lit.string y.1, (DataW.held y.2 : DataW Value)) | false => _) = _
    cases h : y.1 == s
    · exact ih
    · rfl
theorem dOf_at (s : List UInt8) (L : KL) (z : DataW Value) : (dOf L).atKey (.string s) z = match kget s L with | some v => .held v | none => z := by
  unfold dOf DataW.atKey
  simp only [dOf_find]
  unfold kget
  cases L.find? (fun p => p.1 == s) <;> rfl
theorem dOf_size (L : KL) : Maps.size (dOf L) = L.length := by simp [dOf, Maps.size]
/-- The keys stand in order, each once. -/
def KSorted {α : Type} (L : KA α) : Prop := L.Pairwise fun a b => bytesBefore a.1 b.1 = true
/-- Block b is a map that holds just what L says. -/
structure SMapAt (P : Program) (k : TypeId) (w : World) (b : Nat) (L : KL) : Prop where
  own : w.ownsMap P k rV b L.length (dOf L)
  sorted : KSorted L
theorem ownsMap_tight {P : Program} {k : TypeId} {w : World} {b n : Nat} {L : KL} (h : w.ownsMap P k rV b n (dOf L)) : w.ownsMap P k rV b L.length (dOf L) := by
  obtain ⟨es, clock, hb, F, hs, hD⟩ := h
  refine ⟨es, clock, hb, F, ?_, hD⟩
  have e1 : Maps.size (dOf L) = es.size := by rw [hD]; simp [Maps.size, length_sorted]
  rw [dOf_size] at e1
  omega
theorem SMapAt.frame {P : Program} {k : TypeId} {w w' : World} {b : Nat} {L : KL} {S : Nat → Prop} (h : SMapAt P k w b L) (hf : Fr S w w') (hn : ¬ S b) : SMapAt P k w' b L := by
  obtain ⟨⟨es, clock, hb, F, hs, hD⟩, h2⟩ := h
  exact ⟨⟨es, clock, hf.get hb hn, F, hs, hD⟩, h2⟩
theorem SMapAt.lt {P : Program} {k : TypeId} {w : World} {b : Nat} {L : KL} (h : SMapAt P k w b L) : b < w.heap.size := h.own.lt
theorem SMapAt.made {P : Program} {k : TypeId} (w : World) : SMapAt P k (w.alloc (.map #[] 0)) w.heap.size [] := ⟨World.ownsMap_made w P k rV, List.Pairwise.nil⟩

section
variable {α β : Type}
theorem kget_cons (s : List UInt8) (y : List UInt8 × α) (r : KA α) : kget s (y :: r) = if (y.1 == s) = true then some y.2 else kget s r := by
  unfold kget
  rw [List.find?_cons]
  cases h : y.1 == s
  · rw [if_neg (by simp)]
  · rw [if_pos rfl]; rfl
theorem kget_mem {s : List UInt8} {v : α} : ∀ {L : KA α}, kget s L = some v → (s, v) ∈ L
  | y :: r, h => by
    rw [kget_cons] at h
    by_cases e : (y.1 == s) = true
    · rw [if_pos e] at h
      have e1 := beq_iff_eq.1 e
      cases h
      rw [← e1]; exact List.mem_cons_self
    · rw [if_neg e] at h
      exact List.mem_cons_of_mem _ (kget_mem h)
theorem kget_none {s : List UInt8} : ∀ {L : KA α}, kget s L = none → ∀ p ∈ L, p.1 ≠ s
  | y :: r, h, p, hp => by
    rw [kget_cons] at h
    by_cases e : (y.1 == s) = true
    · rw [if_pos e] at h; cases h
    · rw [if_neg e] at h
      rcases List.mem_cons.1 hp with rfl | hp
      · intro e1; exact e (beq_iff_eq.2 e1)
      · exact kget_none h p hp
theorem kget_kdel_other {s t : List UInt8} (hne : t ≠ s) : ∀ L : KA α, kget t (kdel s L) = kget t L
  | [] => rfl
  | y :: r => by
    have ih := kget_kdel_other hne r
    unfold kdel at ih ⊢
    rw [List.filter_cons]
    by_cases e : (!(y.1 == s)) = true
    · rw [if_pos e, kget_cons, kget_cons, ih]
    · rw [if_neg e, ih, kget_cons, if_neg]
      intro e2
      have e1 : y.1 = s := by simpa using e
      exact hne ((beq_iff_eq.1 e2).symm.trans e1)
theorem kget_kins_same (s : List UInt8) (v : α) : ∀ {L : KA α}, (∀ p ∈ L, p.1 ≠ s) → kget s (kins (s, v) L) = some v
  | [], _ => by rw [kins, kget_cons, if_pos (by simp)]
  | y :: r, h => by
    rw [kins_cons]
    by_cases e : bytesBefore s y.1 = true
    · rw [if_pos e, kget_cons, if_pos (by simp)]
    · rw [if_neg e, kget_cons, if_neg (by simpa using h y List.mem_cons_self), kget_kins_same s v (fun p hp => h p (List.mem_cons_of_mem _ hp))]
theorem kget_kins_other {s t : List UInt8} (hne : t ≠ s) (v : α) : ∀ L : KA α, kget t (kins (s, v) L) = kget t L
  | [] => by rw [kins, kget_cons, if_neg (by simpa using hne.symm)]
  | y :: r => by
    rw [kins_cons]
    by_cases e : bytesBefore s y.1 = true
    · rw [if_pos e, kget_cons, if_neg (by simpa using hne.symm)]
    · rw [if_neg e, kget_cons, kget_cons, kget_kins_other hne v r]
theorem kget_kput_same (s : List UInt8) (v : α) (L : KA α) : kget s (kput s v L) = some v :=
  kget_kins_same s v fun p hp => by have := (List.mem_filter.1 hp).2; simpa using this
theorem kget_kput_other {s t : List UInt8} (hne : t ≠ s) (v : α) (L : KA α) : kget t (kput s v L) = kget t L := by
  unfold kput
  rw [kget_kins_other hne, kget_kdel_other hne]
theorem kins_mem {x p : List UInt8 × α} : ∀ {L : KA α}, p ∈ kins x L ↔ p = x ∨ p ∈ L
  | [] => by simp [kins]
  | y :: r => by
    rw [kins_cons]
    by_cases e : bytesBefore x.1 y.1 = true
    · rw [if_pos e]; simp
    · rw [if_neg e]
      simp only [List.mem_cons, kins_mem (L := r)]
      constructor <;> rintro (h | h | h) <;> simp [h]
theorem KSorted.kdel {L : KA α} (h : KSorted L) (s : List UInt8) : KSorted (kdel s L) := List.Pairwise.filter _ h
theorem KSorted.kins {x : List UInt8 × α} : ∀ {L : KA α}, KSorted L → (∀ p ∈ L, p.1 ≠ x.1) → KSorted (kins x L)
  | [], _, _ => List.pairwise_singleton _ _
  | y :: r, h, hn => by
    obtain ⟨h1, h2⟩ := List.pairwise_cons.1 h
    rw [kins_cons]
    by_cases e : bytesBefore x.1 y.1 = true
    · rw [if_pos e]
      refine List.pairwise_cons.2 ⟨fun p hp => ?_, h⟩
      rcases List.mem_cons.1 hp with rfl | hp
      · exact e
      · exact WideShapes.bytes_trans _ _ _ e (h1 p hp)
    · rw [if_neg e]
      refine List.pairwise_cons.2 ⟨fun p hp => ?_, KSorted.kins h2 (fun p hp => hn p (List.mem_cons_of_mem _ hp))⟩
      rcases kins_mem.1 hp with rfl | hp
      · rcases WideAt.bytes_total _ _ (hn y List.mem_cons_self) with h3 | h3
        · exact h3
        · exact absurd h3 e
      · exact h1 p hp
theorem kput_mem {s : List UInt8} {v : α} {p : List UInt8 × α} {L : KA α} (h : p ∈ kput s v L) : p = (s, v) ∨ p ∈ L := (kins_mem.1 h).imp id fun h => (List.mem_filter.1 h).1
theorem KSorted.kput {L : KA α} (h : KSorted L) (s : List UInt8) (v : α) : KSorted (kput s v L) :=
  (h.kdel s).kins fun p hp => by have := (List.mem_filter.1 hp).2; simpa using this
theorem kdel_same {s : List UInt8} {L : KA α} (h : kget s L = none) : kdel s L = L := by
  unfold kdel
  rw [List.filter_eq_self]
  intro p hp
  have := kget_none h p hp
  simpa using this
/-- Another kind of thing behind each key. -/
def kmap (f : List UInt8 → α → β) (L : KA α) : KA β := L.map fun p => (p.1, f p.1 p.2)
theorem kget_kmap (f : List UInt8 → α → β) (s : List UInt8) : ∀ L : KA α, kget s (kmap f L) = (kget s L).map (f s)
  | [] => rfl
  | y :: r => by
    have ih := kget_kmap f s r
    show kget s ((y.1, f y.1 y.2) :: kmap f r) = _
    rw [kget_cons, kget_cons, ih]
    by_cases e : (y.1 == s) = true
    · rw [if_pos e, if_pos e, ← beq_iff_eq.1 e]; rfl
    · rw [if_neg e, if_neg e]
theorem kdel_kmap (f : List UInt8 → α → β) (s : List UInt8) (L : KA α) : kdel s (kmap f L) = kmap f (kdel s L) := by
  unfold kdel kmap
  rw [List.filter_map]; rfl
theorem kins_kmap (f : List UInt8 → α → β) (s : List UInt8) (v : α) : ∀ L : KA α, kins (s, f s v) (kmap f L) = kmap f (kins (s, v) L)
  | [] => rfl
  | y :: r => by
    have ih := kins_kmap f s v r
    show kins (s, f s v) ((y.1, f y.1 y.2) :: kmap f r) = _
    rw [kins_cons, kins_cons, ih]
    by_cases e : bytesBefore s y.1 = true
    · rw [if_pos e, if_pos e]; rfl
    · rw [if_neg e, if_neg e]; rfl
theorem kput_kmap (f : List UInt8 → α → β) (s : List UInt8) (v : α) (L : KA α) : kput s (f s v) (kmap f L) = kmap f (kput s v L) := by
  unfold kput
  rw [kdel_kmap, kins_kmap]
theorem kmap_length (f : List UInt8 → α → β) (L : KA α) : (kmap f L).length = L.length := by simp [kmap]
end

theorem before_lt : ∀ {a b : List UInt8}, bytesBefore a b = true → a < b
  | [], [], h => by simp [bytesBefore] at h
  | [], _ :: _, _ => List.nil_lt_cons _ _
  | _ :: _, [], h => by simp [bytesBefore] at h
  | x :: r, y :: s, h => by
    rw [List.cons_lt_cons_iff]
    simp only [bytesBefore, Bool.or_eq_true, Bool.and_eq_true, decide_eq_true_eq, beq_iff_eq] at h
    exact h.imp id fun h => ⟨h.1, before_lt h.2⟩
section
variable {P : Program} {k t e : TypeId} {w : World} {b : Nat} {L : KL}
theorem SMapAt.look (h : SMapAt P k w b L) (c : Bool) (hk : P.underlying k = some .string) (ht : P.underlying t = some (.map k e)) {z : Value} (hz : (zeroValue e).run P w = .ok z w) (s : ByteArray) (hs : s.size ≤ maxLen) :
    (Instr.lookup t (.map (some b)) (.string s) c).run P w = .ok (if c then .tuple #[(kget s.data.toList L).getD z, .bool (kget s.data.toList L).isSome] else (kget s.data.toList L).getD z) w := by
  obtain ⟨es, clock, hb, F, _, hD⟩ := h.own
  rcases Maps.fit_look c (string_keyed hk) ht hz hb F (WideMaps.keyOf_string_mk hk hs) with ⟨hrun, _, hat⟩ | ⟨e0, y, _, _, hrun, hR, hat, _⟩
  · rw [← hD] at hat
    have hn : kget s.data.toList L = none := by
      cases hg : kget s.data.toList L with
      | none => rfl
      | some v => have := hat .nil; rw [dOf_at, hg] at this; cases this
    rw [hrun, hn]; rfl
  · rw [← hD] at hat
    cases hR
    have hn : kget s.data.toList L = some e0.val := by
      have := hat .nil
      rw [dOf_at] at this
      cases hg : kget s.data.toList L with
      | none => rw [hg] at this; cases this
      | some v => rw [hg] at this; cases this; rfl
    rw [hrun, hn]; rfl
theorem SMapAt.len (h : SMapAt P k w b L) (ht : P.underlying t = some (.map k e)) (ty : TypeId) : (Builtin.len_ #[t] ty #[.map (some b)]).run P w = .ok (.int .i64 L.length) w := by
  rw [h.own.len ht, dOf_size]
theorem SMapAt.update (h : SMapAt P k w b L) (hk : P.underlying k = some .string) (ht : P.underlying t = some (.map k e)) (hn : L.length < maxLen) (s : ByteArray) (hs : s.size ≤ maxLen) (v : Value) :
    ∃ w', (Instr.mapUpdate t (.map (some b)) (.string s) v).run P w = .ok () w' ∧ SMapAt P k w' b (kput s.data.toList v L) ∧ Fr (fun q => q = b) w w' := by
  obtain ⟨w', h1, h2, h3⟩ := h.own.update (string_keyed hk) ht hn (WideMaps.keyOf_string_mk hk hs) (show rV v = some (.held v, []) from rfl)
  rw [dOf_put] at h2
  exact ⟨w', h1, ⟨ownsMap_tight h2, h.sorted.kput _ _⟩, (Fr.of_grown h3).mono (fun _ _ e => by cases e; rfl)⟩
theorem SMapAt.delete (h : SMapAt P k w b L) (hk : P.underlying k = some .string) (ht : P.underlying t = some (.map k e)) (s : ByteArray) (hs : s.size ≤ maxLen) (ty : TypeId) :
    ∃ w', (Builtin.delete_ #[t, k] ty #[.map (some b), .string s]).run P w = .ok (.tuple #[]) w' ∧ SMapAt P k w' b (kdel s.data.toList L) ∧ Fr (fun q => q = b) w w' := by
  obtain ⟨w', h1, h2, h3⟩ := h.own.drop (string_keyed hk) ht (WideMaps.keyOf_string_mk hk hs) ty
  rw [dOf_del] at h2
  obtain ⟨es, clock, es', clock', hb, rfl⟩ := h3
  exact ⟨_, h1, ⟨ownsMap_tight h2, h.sorted.kdel _⟩, ⟨rfl, rfl, rfl, by simp [ChangeMaps.setBlock], fun i _ hi => ChangeMaps.heap_setBlock_other hb _ (fun e => hi e)⟩⟩
end
end Go.Proofs.YtffekmjoenppaaaGreatDoor

/- The tree of files as plain data, keyed by inode numbers: what each call answers and leaves. No program in sight; no condition. -/
namespace Go.Proofs.YtffekmjoenppaaaGreatDoor
open Go.RowKit

/-- An inode. -/
structure Nd where
  d : Bool
  mode : Nat
  links : Nat
  holds : Nat
  data : List UInt8
  ents : KA Nat
  par : Nat
/-- Slots: number i + 1 stands at place i. -/
abbrev FSt := List (Option Nd)
def FSt.nd (σ : FSt) (i : Nat) : Option Nd := if i = 0 then none else (σ[i - 1]?).join
def FSt.ndI (σ : FSt) (i : Int) : Option Nd := if 1 ≤ i then σ.nd i.toNat else none
def FSt.put (σ : FSt) (i : Nat) (n : Option Nd) : FSt := σ.set (i - 1) n
def FSt.cnt (σ : FSt) : Nat := (σ.filter (·.isSome)).length
def ndLen : Option Nd → Nat | none => 0 | some n => n.data.length
def FSt.byts (σ : FSt) : Nat := (σ.map ndLen).sum
/-- The least free number. -/
def FSt.free (σ : FSt) : Nat := σ.findIdx (·.isNone) + 1
def FSt.add (σ : FSt) (n : Nd) : FSt := if σ.findIdx (·.isNone) < σ.length then σ.set (σ.findIdx (·.isNone)) (some n) else σ ++ [some n]

def mayN (m : Nat) (want : Nat) : Bool := Nat.land (m / 64) want == want
def hereE (n : Nd) : Int := if n.d = false then 20 else if mayN n.mode 1 = false then 13 else 0
def dot : List UInt8 := [46]
def dots : List UInt8 := [46, 46]
def slashB : UInt8 := 47
def leadE (a : Nat) (o : Option Nat) : Int × Nat := match o with | none => (2, a) | some k => (0, k)
/-- One piece: an error, or where it leads. -/
def stepE (n : Nd) (at' : Nat) (p : List UInt8) : Int × Nat :=
  if hereE n ≠ 0 then (hereE n, at')
  else if p = dot then (0, at')
  else if p = dots then (if n.links = 0 then (2, at') else (0, n.par))
  else if 32 < p.length then (36, at')
  else leadE at' (kget p n.ents)
def stepS (σ : FSt) (at' : Nat) (p : List UInt8) : Int × Nat := match σ.nd at' with | none => (20, at') | some n => stepE n at' p
def overS (σ : FSt) : List (List UInt8) → Nat → Int × Nat
  | [], a => (0, a)
  | p :: r, a => if (stepS σ a p).1 ≠ 0 then stepS σ a p else overS σ r (stepS σ a p).2
/-- The pieces between the slashes, empty ones left out. -/
def splitS : List UInt8 → List (List UInt8)
  | [] => [[]]
  | c :: r => if c = slashB then [] :: splitS r else match splitS r with | [] => [[c]] | p :: q => (c :: p) :: q
def piecesS (s : List UInt8) : List (List UInt8) := (splitS s).filter fun p => !p.isEmpty
def slashS (s : List UInt8) : Bool := s.getLast? == some slashB
/-- Where a path begins. -/
def startE (σ : FSt) (dir : Int) (s : List UInt8) : Int × Nat :=
  match σ.ndI dir with
  | none => (9, 0)
  | some n => if n.d = false then (9, 0) else if s = [] then (2, 0) else if 256 < s.length then (36, 0) else (0, if s.head? = some slashB then 1 else dir.toNat)
def walkE (σ : FSt) (dir : Int) (s : List UInt8) : Int × Nat :=
  if (startE σ dir s).1 ≠ 0 then startE σ dir s
  else if (overS σ (piecesS s) (startE σ dir s).2).1 ≠ 0 then overS σ (piecesS s) (startE σ dir s).2
  else if slashS s = true ∧ ((σ.nd (overS σ (piecesS s) (startE σ dir s).2).2).elim false (·.d)) = false then (20, 0)
  else overS σ (piecesS s) (startE σ dir s).2
def hereS (σ : FSt) (a : Nat) : Int := match σ.nd a with | none => 20 | some n => hereE n
/-- Up to the last piece. -/
def aheadE (σ : FSt) (dir : Int) (s : List UInt8) : Int × Nat × List UInt8 :=
  let l := piecesS s
  if (startE σ dir s).1 ≠ 0 then ((startE σ dir s).1, 0, [])
  else if (overS σ l.dropLast (startE σ dir s).2).1 ≠ 0 then ((overS σ l.dropLast (startE σ dir s).2).1, 0, [])
  else if hereS σ (overS σ l.dropLast (startE σ dir s).2).2 ≠ 0 then (hereS σ (overS σ l.dropLast (startE σ dir s).2).2, 0, [])
  else match l.getLast? with
    | none => (22, 0, [])
    | some p => if p = dot ∨ p = dots then (22, 0, []) else if 32 < p.length then (36, 0, []) else (0, (overS σ l.dropLast (startE σ dir s).2).2, p)
end Go.Proofs.YtffekmjoenppaaaGreatDoor

/- The tree of files in memory: what lies where; files.node.dir, may, slots.get, FS.get. Conditions: each contract's own premises. -/
namespace Go.Proofs.YtffekmjoenppaaaGreatDoor
open Go.RowKit

/-- A file's bytes: a slice at the head of a row of bytes; its capacity may be less than the row's. -/
def DataV (w : World) (v : Value) (l : List UInt8) : Prop :=
  (v = .slice none 0 0 ∧ l = []) ∨ ∃ g cap cur, v = .slice (some ⟨g, 0, none⟩) l.length cap ∧ w.heap[g]? = some (.cells cur 5 (0, 0)) ∧ l.length ≤ cap ∧ cap ≤ cur.size ∧ cur.toList.take l.length = l.map fun c => .int .u8 c.toNat
structure NodeF (w : World) (p : Nat → Nat) (b i : Nat) (n : Nd) (dv ev pv : Value) : Prop where
  hb : w.heap[b]? = some (.cells #[.int .i64 i, .int .i64 (if n.d then 2 else 1), .int .i64 n.mode, .int .i64 n.links, .int .i64 n.holds, dv, ev, pv] 90 (0, 0))
  data : DataV w dv n.data
  dir : n.d = true → n.data = [] ∧ ∃ m, ev = .map (some m) ∧ SMapAt Tryz.prog 9 w m (kmap (fun _ k => .pointer (some ⟨p k, 0, none⟩)) n.ents)
  file : n.d = false → ev = .map none ∧ n.ents = []
  par : n.d = true → 0 < n.links → pv = .pointer (some ⟨p n.par, 0, none⟩)
  ptr : ∃ a, pv = .pointer a
  md : n.mode < 512
def ptrOf (o : Option Nd) (b : Nat) : Value := match o with | none => .pointer none | some _ => .pointer (some ⟨b, 0, none⟩)
def slotV (p : Nat → Nat) (σ : FSt) : List Value := σ.mapIdx fun k o => ptrOf o (p (k + 1))
/-- Whatever is named is there. -/
structure Live (σ : FSt) : Prop where
  root : ∃ n, σ.nd 1 = some n ∧ n.d = true ∧ n.links = 1
  ents : ∀ i n, σ.nd i = some n → ∀ q ∈ n.ents, (σ.nd q.2).isSome = true
  par : ∀ i n, σ.nd i = some n → n.d = true → 0 < n.links → (σ.nd n.par).isSome = true
  cnt : σ.cnt ≤ 100
  len : σ.length ≤ 100
  byts : σ.byts ≤ 65536
  names : ∀ i n, σ.nd i = some n → ∀ q ∈ n.ents, q.1.length ≤ 32
structure FilesF (w : World) (f : Nat) (σ : FSt) (S : Nat → Prop) (p : Nat → Nat) (dv ev pv : Nat → Value) (lv : Value) : Prop where
  hb : w.heap[f]? = some (.cells #[lv, .int .i64 σ.cnt, .pointer (some ⟨p 1, 0, none⟩), .int .i64 σ.byts] 86 (0, 0))
  hl : w.ownsRow 0 84 1 lv σ.length (slotV p σ)
  nd : ∀ i n, σ.nd i = some n → NodeF w p (p i) i n (dv i) (ev i) (pv i)
  inj : ∀ i j, (σ.nd i).isSome = true → (σ.nd j).isSome = true → p i = p j → i = j
  injd : ∀ i j g, (σ.nd i).isSome = true → (σ.nd j).isSome = true → (dv i).ownBlock = some g → (dv j).ownBlock = some g → i = j
  inje : ∀ i j m, (σ.nd i).isSome = true → (σ.nd j).isSome = true → ev i = .map (some m) → ev j = .map (some m) → i = j
  own : S f
  ownl : ∀ g, lv.ownBlock = some g → S g
  ownn : ∀ i, (σ.nd i).isSome = true → S (p i)
  ownd : ∀ i g, (σ.nd i).isSome = true → (dv i).ownBlock = some g → S g
  owne : ∀ i m, (σ.nd i).isSome = true → ev i = .map (some m) → S m
  up : ∀ k, w.heap.size ≤ k → S k
  live : Live σ
def FilesAt (w : World) (f : Nat) (σ : FSt) (S : Nat → Prop) (p : Nat → Nat) : Prop := ∃ dv ev pv lv, FilesF w f σ S p dv ev pv lv

theorem DataV.frame {w w' : World} {T : Nat → Prop} {v : Value} {l : List UInt8} (h : DataV w v l) (hf : Fr T w w') (hd : ∀ g, v.ownBlock = some g → ¬ T g) : DataV w' v l := by
  rcases h with h | ⟨g, cap, cur, rfl, hg, rest⟩
  · exact .inl h
  · exact .inr ⟨g, cap, cur, rfl, hf.get hg (hd g rfl), rest⟩
theorem DataV.lt {w : World} {v : Value} {l : List UInt8} (h : DataV w v l) {g : Nat} (hg : v.ownBlock = some g) : g < w.heap.size := by
  rcases h with ⟨rfl, _⟩ | ⟨g', cap, cur, rfl, hb, _⟩
  · cases hg
  · have : g' = g := by simpa [Value.ownBlock] using hg
    exact this ▸ blk_lt hb
theorem NodeF.frame {w w' : World} {T : Nat → Prop} {p : Nat → Nat} {b i : Nat} {n : Nd} {dv ev pv : Value} (h : NodeF w p b i n dv ev pv) (hf : Fr T w w') (hb : ¬ T b) (hd : ∀ g, dv.ownBlock = some g → ¬ T g) (he : ∀ m, ev = .map (some m) → ¬ T m) : NodeF w' p b i n dv ev pv where
  hb := hf.get h.hb hb
  data := h.data.frame hf hd
  dir hn := by
    obtain ⟨h0, m, h1, h2⟩ := h.dir hn
    exact ⟨h0, m, h1, h2.frame hf (he m h1)⟩
  file := h.file
  par := h.par
  ptr := h.ptr
  md := h.md
theorem NodeF.map_lt {w : World} {p : Nat → Nat} {b i : Nat} {n : Nd} {dv ev pv : Value} (h : NodeF w p b i n dv ev pv) {m : Nat} (he : ev = .map (some m)) : m < w.heap.size := by
  cases hn : n.d with
  | true =>
    obtain ⟨_, m', h1, h2⟩ := h.dir hn
    rw [he] at h1
    cases h1
    exact h2.lt
  | false =>
    have := (h.file hn).1
    rw [he] at this
    cases this
theorem FilesF.frame {w w' : World} {T : Nat → Prop} {f : Nat} {σ : FSt} {S : Nat → Prop} {p : Nat → Nat} {dv ev pv : Nat → Value} {lv : Value} (h : FilesF w f σ S p dv ev pv lv) (hf : Fr T w w') (hd : ∀ k, k < w.heap.size → S k → ¬ T k) : FilesF w' f σ S p dv ev pv lv where
  hb := hf.get h.hb (hd _ (blk_lt h.hb) h.own)
  hl := own_frame h.hl hf (fun g e => hd _ (h.hl.lt g e).2 (h.ownl g e))
  nd i n hn := by
    have hs : (σ.nd i).isSome = true := by rw [hn]; rfl
    have h1 := h.nd i n hn
    exact h1.frame hf (hd _ (blk_lt h1.hb) (h.ownn i hs)) (fun g e => hd _ (h1.data.lt e) (h.ownd i g hs e)) (fun m e => hd _ (h1.map_lt e) (h.owne i m hs e))
  inj := h.inj
  injd := h.injd
  inje := h.inje
  own := h.own
  ownl := h.ownl
  ownn := h.ownn
  ownd := h.ownd
  owne := h.owne
  up k hk := h.up k (Nat.le_trans hf.size hk)
  live := h.live
theorem FilesAt.frame {w w' : World} {T : Nat → Prop} {f : Nat} {σ : FSt} {S : Nat → Prop} {p : Nat → Nat} (h : FilesAt w f σ S p) (hf : Fr T w w') (hd : ∀ k, k < w.heap.size → S k → ¬ T k) : FilesAt w' f σ S p := by
  obtain ⟨_, _, _, _, h⟩ := h
  exact ⟨_, _, _, _, h.frame hf hd⟩
theorem FilesAt.live {w : World} {f : Nat} {σ : FSt} {S : Nat → Prop} {p : Nat → Nat} (h : FilesAt w f σ S p) : Live σ := by
  obtain ⟨_, _, _, _, h⟩ := h
  exact FilesF.live h
/-- An inode's block as it stands. -/
theorem FilesAt.node {w : World} {f : Nat} {σ : FSt} {S : Nat → Prop} {p : Nat → Nat} (h : FilesAt w f σ S p) {i : Nat} {n : Nd} (hn : σ.nd i = some n) : ∃ dv ev pv, NodeF w p (p i) i n dv ev pv := by
  obtain ⟨dv, ev, pv, _, h⟩ := h
  exact ⟨_, _, _, h.nd i n hn⟩
theorem dir_any (w : World) (p : Nat → Nat) (b i : Nat) (n : Nd) (dv ev pv : Value) (h : NodeF w p b i n dv ev pv) : Calls Tryz.prog 70 #[.pointer (some ⟨b, 0, none⟩)] w fun e w' => e = .returned (.bool n.d) ∧ w = w' := by
  have c1 : w.cell? ⟨b, 1, none⟩ = some (.int .i64 (if n.d then 2 else 1)) := by rw [blk_cell h.hb]; rfl
  cases hd : n.d <;> rw [hd] at c1 <;> simp only [if_true, if_false, Bool.false_eq_true] at c1
  all_goals
    go_enter Tryz.func70, Tryz.ntmps70
    go_wp2
    go_ret
    exact ⟨rfl, rfl⟩
theorem may_fact : ∀ (m : Fin 512) (k : Fin 8), (bits .and .i64 ((m.val / 64 : Nat) : Int) (k.val : Int) == (k.val : Int)) = mayN m.val k.val := by decide +kernel
theorem may_any (w : World) (p : Nat → Nat) (b i : Nat) (n : Nd) (dv ev pv : Value) (h : NodeF w p b i n dv ev pv) (k : Nat) (hk : k < 8) : Calls Tryz.prog 71 #[.pointer (some ⟨b, 0, none⟩), .int .i64 k] w fun e w' => e = .returned (.bool (mayN n.mode k)) ∧ w = w' := by
  have c1 : w.cell? ⟨b, 2, none⟩ = some (.int .i64 n.mode) := by rw [blk_cell h.hb]; rfl
  have hmd := h.md
  have hm := may_fact ⟨n.mode, hmd⟩ ⟨k, hk⟩
  simp only at hm
  go_enter Tryz.func71, Tryz.ntmps71
  go_wp2
  go_ret
  exact ⟨ret_bool (by simpa using hm), rfl⟩
def ptrI (σ : FSt) (p : Nat → Nat) (i : Int) : Value := match σ.ndI i with | none => .pointer none | some _ => .pointer (some ⟨p i.toNat, 0, none⟩)
theorem slot_at {p : Nat → Nat} {σ : FSt} {k : Nat} (hk : k < σ.length) : (slotV p σ)[k]? = some (ptrI σ p ((k : Int) + 1)) := by
  unfold slotV ptrI FSt.ndI FSt.nd
  rw [List.getElem?_mapIdx, List.getElem?_eq_getElem hk]
  have h1 : ((k : Int) + 1).toNat = k + 1 := by omega
  rw [if_pos (by omega), h1, if_neg (by omega)]
  simp only [Nat.add_sub_cancel, List.getElem?_eq_getElem hk, Option.join_some, Option.map_some]
  cases σ[k] <;> rfl
set_option maxRecDepth 100000 in
theorem sget_any (w : World) (f : Nat) (σ : FSt) (S : Nat → Prop) (p : Nat → Nat) (h : FilesAt w f σ S p) (i : Int) (hi : -9223372036854775808 ≤ i ∧ i ≤ 9223372036854775807) :
    Calls Tryz.prog 41 #[.pointer (some ⟨f, 0, none⟩), .int .i64 i] w fun e w' => e = .returned (ptrI σ p i) ∧ w = w' := by
  obtain ⟨dv, ev, pv, lv, hf⟩ := h
  have hlen := hf.live.len
  by_cases h1 : i < 1
  · have e0 : ptrI σ p i = .pointer none := by unfold ptrI FSt.ndI; rw [if_neg (by omega)]
    rw [e0]
    go_enter Tryz.func41, Tryz.ntmps41
    go_wp2
    go_ret
    exact ⟨rfl, rfl⟩
  obtain ⟨la, lc, rfl⟩ := own_form hf.hl
  have c0 : w.cell? ⟨f, 0, none⟩ = some (.slice la σ.length lc) := by rw [blk_cell hf.hb]; rfl
  by_cases h2 : (σ.length : Int) < i
  · have e0 : ptrI σ p i = .pointer none := by
      unfold ptrI FSt.ndI FSt.nd
      rw [if_pos (by omega), if_neg (by omega), List.getElem?_eq_none (by omega)]
      rfl
    rw [e0]
    go_enter Tryz.func41, Tryz.ntmps41
    go_wp2
    go_ret
    exact ⟨rfl, rfl⟩
  obtain ⟨k, rfl⟩ : ∃ k : Nat, i = (k : Int) + 1 := ⟨(i - 1).toNat, by omega⟩
  obtain ⟨g, rfl, _, _, hc⟩ := own_cells hf.hl (by omega)
  have ck := hc k _ (slot_at (by omega))
  obtain ⟨a, ha⟩ : ∃ a, ptrI σ p ((k : Int) + 1) = .pointer a := by unfold ptrI; split <;> exact ⟨_, rfl⟩
  rw [ha] at ck ⊢
  have hk1 : (0 : Int) ≤ (k : Int) := by omega
  have hk2 : (k : Int) < (σ.length : Int) := by omega
  clear hc ha
  go_enter Tryz.func41, Tryz.ntmps41
  go_wp2
  go_ret
  exact ⟨rfl, rfl⟩
theorem fget_any (w : World) (f : Nat) (σ : FSt) (S : Nat → Prop) (p : Nat → Nat) (h : FilesAt w f σ S p) (i : Int) (hi : -9223372036854775808 ≤ i ∧ i ≤ 9223372036854775807) :
    Calls Tryz.prog 19 #[.pointer (some ⟨f, 0, none⟩), .int .i64 i] w fun e w' => e = .returned (ptrI σ p i) ∧ w = w' := by
  have hg := sget_any w f σ S p h i hi
  obtain ⟨a, ha⟩ : ∃ a, ptrI σ p i = .pointer a := by unfold ptrI; split <;> exact ⟨_, rfl⟩
  rw [ha] at hg ⊢
  clear ha
  go_enter Tryz.func19, Tryz.ntmps19
  go_wp2_with fail
  refine hg.mono ?_
  rintro e w' ⟨rfl, rfl⟩
  clear hg
  go_wp2_with fail
  go_ret
  exact ⟨rfl, rfl⟩
/-- A way lies in block b. -/
def wayB (w : World) (b : Nat) (at' : Nat) (pv : Value) (sl : Bool) : Prop := w.heap[b]? = some (.cells #[.pointer (some ⟨at', 0, none⟩), pv, .bool sl] 190 (0, 0))
set_option maxRecDepth 100000 in
theorem here_any (w : World) (p : Nat → Nat) (b i : Nat) (n : Nd) (dv ev pv : Value) (h : NodeF w p (p i) i n dv ev pv) {sv : Value} {sl : Bool} (hw : wayB w b (p i) sv sl) :
    Calls Tryz.prog 100 #[.pointer (some ⟨b, 0, none⟩)] w fun e w' => e = .returned (.int .i64 (hereE n)) ∧ w = w' := by
  have c0 : w.cell? ⟨b, 0, none⟩ = some (.pointer (some ⟨p i, 0, none⟩)) := by rw [blk_cell hw]; rfl
  go_enter Tryz.func100, Tryz.ntmps100
  go_wp2_with fail
  refine (dir_any w p (p i) i n dv ev pv h).mono ?_
  rintro e w' ⟨rfl, rfl⟩
  cases hd : n.d with
  | false =>
    go_wp2_with fail
    go_ret
    exact ⟨ret_int (by simp [hereE, hd]), rfl⟩
  | true =>
    go_wp2_with fail
    refine (may_any w p (p i) i n dv ev pv h 1 (by omega)).mono ?_
    rintro e w' ⟨rfl, rfl⟩
    cases hm : mayN n.mode 1 with
    | false =>
      go_wp2_with fail
      go_ret
      exact ⟨ret_int (by simp [hereE, hd, hm]), rfl⟩
    | true =>
      go_wp2_with fail
      go_ret
      exact ⟨ret_int (by simp [hereE, hd, hm]), rfl⟩
end Go.Proofs.YtffekmjoenppaaaGreatDoor
