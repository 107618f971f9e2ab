/- Regions that draw their order and make memory: what only reads is taken first, in every world of a class S; the rest in every order that is left, as a tree; then a tail in a forced order. And append onto a row of one's own, its source nil or not. Conditions: closed facts on the region, by the kernel; the laws' premises. -/
import Derived.Test.YtlhmmiolnbgloaaGreatDoorOwn
import Derived.Test.YtlhmmiolnbgloaaGreatDoorOwn
import Derived.Test.YtlhmmiolnbgloaaGreatDoorProg
import Derived.WalkKit
import Derived.Deep.LoopGhost
import Derived.Handy
import Derived.Deep.Cut
import Derived.Maps.AppendAt
import Derived.Laws.Rows
import Derived.Lib.SliceRun
namespace Go.Proofs.YtlhmmiolnbgloaaGreatDoor
open Go.RowKit

section
variable {P : Program} {ops : Array Oper} {Q : Exit → Act → World → Prop} {S : World → Prop}

def treeB (ops : Array Oper) (hd : List Nat) (m n : Nat) : Bool :=
  Region.noSelect ops && decide (n < ops.size) && Region.chainB .any ops n && decide (hd.length + m = n) &&
  hd.all (fun k => decide (k < n) && (mustOf ops n n).contains k && (ops[k]?.map valueOp).getD false) && lexList ops hd (Array.replicate ops.size false)
/-- What is left, in every order. -/
def treeS (P : Program) (ops : Array Oper) (Q : Exit → Act → World → Prop) (S : World → Prop) (n g : Nat) (L : Act → World → Prop) (m : Nat) (listed : Array Bool) (a : Act) (w : World) : Prop :=
  anyT P ops Q S n (fun listed' a' w' => Region.seqB .any ops g n listed' = true ∧ L a' w') m listed a w
theorem tree_end {n g : Nat} {L : Act → World → Prop} {listed : Array Bool} {a : Act} {w : World} (hB : Region.seqB .any ops g n listed = true) (h : L a w) : treeS P ops Q S n g L 0 listed a w := ⟨hB, h⟩
theorem tree_op {i : Nat} {o : Oper} {K : Act → World → Prop} {a : Act} {w : World} (ho : ops[i]? = some o) (hg : o.guard = none) (h : o.wp P a w K Q) : wpOp P ops Q i K a w :=
  wpOp_of_one ho (by unfold wpOne; rw [if_pos (by simp [Region.wanted, hg])]; exact h)
theorem tree_one {n g m : Nat} {L : Act → World → Prop} {listed : Array Bool} {a : Act} {w : World} (i : Nat) (o : Oper) (hr : (Region.ready .any ops listed == [i]) = true) (hin : i < n) (ho : ops[i]? = some o) (hg : o.guard = none)
    (h : ∀ K : Act → World → Prop, (∀ a' w', S w' → treeS P ops Q S n g L m (listed.setIfInBounds i true) a' w' → K a' w') → o.wp P a w K Q) : treeS P ops Q S n g L (m + 1) listed a w := by
  have hr := beq_iff_eq.1 hr
  refine ⟨by rw [hr]; simp, fun k hk => ?_⟩
  rw [hr] at hk
  simp only [List.mem_cons, List.not_mem_nil, or_false] at hk
  subst hk
  exact ⟨hin, tree_op ho hg (h _ fun _ _ h1 h2 => ⟨h1, h2⟩)⟩
theorem tree_two {n g m : Nat} {L : Act → World → Prop} {listed : Array Bool} {a : Act} {w : World} (i j : Nat) (o p : Oper) (hr : (Region.ready .any ops listed == [i, j]) = true) (hin : i < n) (hjn : j < n) (ho : ops[i]? = some o) (hp : ops[j]? = some p) (hg : o.guard = none) (hg2 : p.guard = none)
    (h : ∀ K : Act → World → Prop, (∀ a' w', S w' → treeS P ops Q S n g L m (listed.setIfInBounds i true) a' w' → K a' w') → o.wp P a w K Q)
    (h2 : ∀ K : Act → World → Prop, (∀ a' w', S w' → treeS P ops Q S n g L m (listed.setIfInBounds j true) a' w' → K a' w') → p.wp P a w K Q) : treeS P ops Q S n g L (m + 1) listed a w := by
  have hr := beq_iff_eq.1 hr
  refine ⟨by rw [hr]; simp, fun k hk => ?_⟩
  rw [hr] at hk
  simp only [List.mem_cons, List.not_mem_nil, or_false] at hk
  rcases hk with rfl | rfl
  · exact ⟨hin, tree_op ho hg (h _ fun _ _ h1 h2 => ⟨h1, h2⟩)⟩
  · exact ⟨hjn, tree_op hp hg2 (h2 _ fun _ _ h1 h2 => ⟨h1, h2⟩)⟩
theorem getD_some {l : List Oper} {i : Nat} (hi : i < l.length) : l.toArray[i]? = some (l.getD i default) := by simp [List.getD_eq_getElem?_getD, hi]
theorem tree_one' {l : List Oper} {n g m : Nat} {L : Act → World → Prop} {listed : Array Bool} {a : Act} {w : World} (i : Nat) (hr : (Region.ready .any l.toArray listed == [i]) = true) (hin : i < n) (hi : i < l.length) (hg : (l.getD i default).guard = none)
    (h : ∀ K : Act → World → Prop, (∀ a' w', S w' → treeS P l.toArray Q S n g L m (listed.setIfInBounds i true) a' w' → K a' w') → (l.getD i default).wp P a w K Q) : treeS P l.toArray Q S n g L (m + 1) listed a w :=
  tree_one i _ hr hin (getD_some hi) hg h
theorem tree_two' {l : List Oper} {n g m : Nat} {L : Act → World → Prop} {listed : Array Bool} {a : Act} {w : World} (i j : Nat) (hr : (Region.ready .any l.toArray listed == [i, j]) = true) (hin : i < n) (hjn : j < n) (hi : i < l.length) (hj : j < l.length) (hg : (l.getD i default).guard = none) (hg2 : (l.getD j default).guard = none)
    (h : ∀ K : Act → World → Prop, (∀ a' w', S w' → treeS P l.toArray Q S n g L m (listed.setIfInBounds i true) a' w' → K a' w') → (l.getD i default).wp P a w K Q)
    (h2 : ∀ K : Act → World → Prop, (∀ a' w', S w' → treeS P l.toArray Q S n g L m (listed.setIfInBounds j true) a' w' → K a' w') → (l.getD j default).wp P a w K Q) : treeS P l.toArray Q S n g L (m + 1) listed a w :=
  tree_two i j _ _ hr hin hjn (getD_some hi) (getD_some hj) hg hg2 h h2
/-- The invariant of what is listed, by reckoning. -/
def mixOk (ops : Array Oper) (n : Nat) (listed : Array Bool) : Bool :=
  decide (listed.size = ops.size) && (List.range ops.size).all (fun j => !(listed.getD j false) || (match ops[j]? with | none => true | some oj => oj.after.all (fun e => !(Region.binds .any e) || listed.getD e.on false))) &&
  (List.range ops.size).all (fun t => decide (t < n) || !(listed.getD t true))
theorem mixOk_spec {ops : Array Oper} {n : Nat} {listed : Array Bool} (h : mixOk ops n listed = true) : MixInv ops n listed := by
  simp only [mixOk, Bool.and_eq_true, decide_eq_true_eq, List.all_eq_true, List.mem_range, Bool.or_eq_true, Bool.not_eq_true'] at h
  obtain ⟨⟨h1, h2⟩, h3⟩ := h
  refine ⟨h1, fun j oj hj hl e he hb => ?_, fun t ht ht2 => ?_⟩
  · have hlt : j < ops.size := (Array.getElem?_eq_some_iff.1 hj).1
    rcases h2 j hlt with h4 | h4
    · rw [hl] at h4; cases h4
    · rw [hj] at h4
      simp only at h4
      have h5 := (Array.all_eq_true_iff_forall_mem.1 h4) e he
      simp only [Bool.or_eq_true, Bool.not_eq_true'] at h5
      rcases h5 with h5 | h5
      · rw [hb] at h5; cases h5
      · exact h5
  · rcases h3 t ht2 with h4 | h4
    · omega
    · exact h4
/-- In the midst of the tree: these only read, and must come ahead of the tail. -/
def headsB (ops : Array Oper) (is : List Nat) (n : Nat) (listed : Array Bool) : Bool :=
  Region.noSelect ops && decide (n < ops.size) && Region.chainB .any ops n && mixOk ops n listed &&
  is.all (fun k => decide (k < n) && (mustOf ops n n).contains k && (ops[k]?.map valueOp).getD false) && lexList ops is listed
theorem tree_heads {l : List Oper} {n f : Nat} {L : Act → World → Prop} {listed : Array Bool} {a : Act} {w : World} (is : List Nat) (hB : headsB l.toArray is n listed = true)
    (hQ : ∀ c a d v w, Q (.panic c) (Act.put a d v) w → Q (.panic c) a w) (hS : S w)
    (h : wpQuiet P l.toArray S (fun a1 => treeS P l.toArray Q S n (l.length - n) L f (listAll is listed) a1 w) (is.map (fun k => l.getD k default)) a) :
    treeS P l.toArray Q S n (l.length - n) L (is.length + f) listed a w := by
  simp only [headsB, Bool.and_eq_true, decide_eq_true_eq, List.all_eq_true] at hB
  obtain ⟨⟨⟨⟨⟨hs, hn⟩, hc⟩, hmix⟩, hhd⟩, hlex⟩ := hB
  have hn2 : n < l.length := by simpa using hn
  rw [← pickOps_map l is (fun k hk => by have := (hhd k hk).1.1; omega)] at h
  have hg : l.length - n = (l.drop n).length := by simp
  refine anyT_heads (d := n) hs hQ hc hn hS (fun listed a w hL => ?_) is listed a (mixOk_spec hmix) (fun k hk => by have := hhd k hk; exact ⟨this.1.1, by simpa using this.1.2, this.2⟩) hlex (fun a1 hA => hA) h
  exact seqB_ready hL.1
/-- A guarded operation that is wanted. -/
theorem tree_oneg {l : List Oper} {n g m : Nat} {L : Act → World → Prop} {listed : Array Bool} {a : Act} {w : World} (i : Nat) (hr : (Region.ready .any l.toArray listed == [i]) = true) (hin : i < n) (hi : i < l.length) (hw : Region.wanted (l.getD i default) (yielded l.toArray a.tmps) = true)
    (h : ∀ K : Act → World → Prop, (∀ a' w', S w' → treeS P l.toArray Q S n g L m (listed.setIfInBounds i true) a' w' → K a' w') → (l.getD i default).wp P a w K Q) : treeS P l.toArray Q S n g L (m + 1) listed a w := by
  have hr := beq_iff_eq.1 hr
  refine ⟨by rw [hr]; simp, fun k hk => ?_⟩
  rw [hr] at hk
  simp only [List.mem_cons, List.not_mem_nil, or_false] at hk
  subst hk
  refine ⟨hin, wpOp_of_one (getD_some hi) ?_⟩
  unfold wpOne
  rw [if_pos hw]
  exact h _ fun _ _ h1 h2 => ⟨h1, h2⟩

theorem region_tree {id : Nat} {a : Act} {w : World} {l : List Oper} (S : World → Prop) (hd : List Nat) (m n : Nat) (hm : P.follows .mixedOrders = true) (hB : treeB l.toArray hd m n = true)
    (hQ : ∀ c a d v w, Q (.panic c) (Act.put a d v) w → Q (.panic c) a w) (hS : S w.drew)
    (h0 : wpQuiet P l.toArray S (fun a1 => treeS P l.toArray Q S n (l.length - n) (fun a2 w2 => wpList P l.toArray Q (l.drop n) a2 w2) m (listAll hd (Array.replicate l.length false)) a1 w.drew) (hd.map (fun k => l.getD k default)) a) :
    (Code.region id l.toArray true).wp P Q a w := by
  simp only [treeB, Bool.and_eq_true, decide_eq_true_eq, List.all_eq_true] at hB
  obtain ⟨⟨⟨⟨⟨hs, hn⟩, hc⟩, hlen⟩, hhd⟩, hlex⟩ := hB
  have hn2 : n < l.length := by simpa using hn
  have h := h0
  rw [← pickOps_map l hd (fun k hk => by have := (hhd k hk).1.1; omega)] at h
  have inv0 : MixInv l.toArray n (Array.replicate l.toArray.size false) :=
    ⟨by simp, fun j oj _ hl => (by rw [getD_replicate_false] at hl; cases hl), fun t _ ht => getD_in (by simpa using ht) (getD_replicate_false _ _)⟩
  have hg : l.length - n = (l.drop n).length := by simp
  rw [hg] at h
  refine wp_region_any hm ?_
  show wpAny P .any l.toArray Q l.toArray.size _ a w.drew
  have hsz : l.toArray.size = (hd.length + m) + (l.drop n).length := by simp at hn ⊢; omega
  have key : wpAny P .any l.toArray Q ((hd.length + m) + (l.drop n).length) (Array.replicate l.toArray.size false) a w.drew := by
    refine any_of_anyT (S := S) (n := n) (L := fun listed' a' w' => Region.seqB .any l.toArray (l.drop n).length n listed' = true ∧ wpList P l.toArray Q (l.drop n) a' w') ?_ (hd.length + m) _ _ _ ?_
    · intro listed a w hL
      exact wpAny_of_seq (l.drop n) n listed a w (fun j => by simp) hL.1 hL.2
    · exact anyT_heads (d := n) hs hQ hc hn hS (fun listed a w hL => seqB_ready hL.1) hd _ a inv0 (fun k hk => by have := hhd k hk; exact ⟨this.1.1, by simpa using this.1.2, this.2⟩) hlex (fun a1 hA => hA) h
  rw [← hsz] at key
  exact key

/-- append onto a row of one's own; the source: nil, or cells that are there. -/
theorem run_append_src {P : Program} (w : World) (base : Nat) (t ty e : TypeId) (i : TypeInfo) (z : Value) (size bytes : Nat) (ht : P.underlying t = some (.slice e)) (hi : P.info? e = some i) (hz : i.zero = some z)
    (hsize : i.size = size) (hby : i.bytes = bytes) (hzs : z.cells.size = size) (hsz : 0 < size)
    (v : Value) (n : Nat) (xs : List Value) (hown : w.ownsRow base e size v n xs)
    (sa : Option Addr) (m c : Nat) (news : List Value) (hl : news.length = m * size) (hsrc : (sa = none ∧ m = 0 ∧ c = 0) ∨ ∃ ad, sa = some ad ∧ ∀ j u, news[j]? = some u → w.cell? (ad.add j) = some u) (h1 : ∀ u ∈ news, u.oneCell' = true)
    (h63 : n + m ≤ maxLen) (hbytes : (n + m) * bytes ≤ 140737488355328) (hbase : base ≤ w.heap.size) :
    ∃ v' w', (Builtin.append_ #[t, t] ty #[v, .slice sa m c]).run P w = .ok v' w' ∧ w'.ownsRow base e size v' (n + m) (xs ++ news) ∧ Fr (fun k => v.ownBlock = some k) w w' ∧ (v'.ownBlock = v.ownBlock ∨ v'.ownBlock = some w.heap.size) := by
  rcases hsrc with ⟨rfl, rfl, rfl⟩ | ⟨ad, rfl, hc⟩
  · refine ⟨v, w, run_append_owned_none w base t ty e i size ht hi v n xs hown, ?_, Fr.refl _ _, .inl rfl⟩
    rw [List.eq_nil_of_length_eq_zero (show news.length = 0 by rw [hl]; simp)]
    simpa using hown
  · obtain ⟨v', w', hr, h2, h3, _, h5⟩ := run_append_own_at (P := P) w base t ty e i z size bytes ht hi hz hsize hby hzs hsz v n xs hown ad m c news hl hc h1 h63 hbytes hbase
    exact ⟨v', w', hr, h2, Fr.of_grown h3, h5⟩
theorem wp_append_src {o : Oper} {a : Act} {w : World} {K : Act → World → Prop} (s x : Operand) (t : TypeId)
    (ho : o.op = .call { callee := .builtin .append, args := #[s, x], argTypes := #[t, t] })
    (base : Nat) (e : TypeId) (i : TypeInfo) (z : Value) (size bytes : Nat) (ht : P.underlying t = some (.slice e)) (hi : P.info? e = some i) (hz : i.zero = some z)
    (hsize : i.size = size) (hby : i.bytes = bytes) (hzs : z.cells.size = size) (hsz : 0 < size)
    (v : Value) (n : Nat) (xs : List Value) (hs : a.eval s = v) (hown : w.ownsRow base e size v n xs)
    (sa : Option Addr) (m c : Nat) (news : List Value) (hx : a.eval x = .slice sa m c) (hl : news.length = m * size) (hsrc : (sa = none ∧ m = 0 ∧ c = 0) ∨ ∃ ad, sa = some ad ∧ ∀ j u, news[j]? = some u → w.cell? (ad.add j) = some u) (h1 : ∀ u ∈ news, u.oneCell' = true)
    (h63 : n + m ≤ maxLen) (hbytes : (n + m) * bytes ≤ 140737488355328) (hbase : base ≤ w.heap.size)
    (h : ∀ v' w', w'.ownsRow base e size v' (n + m) (xs ++ news) → Fr (fun k => v.ownBlock = some k) w w' → (v'.ownBlock = v.ownBlock ∨ v'.ownBlock = some w.heap.size) → K (a.put o.dst v') w') : o.wp P a w K Q := by
  obtain ⟨v', w', hr, h2, h3, h4⟩ := run_append_src (P := P) w base t o.type e i z size bytes ht hi hz hsize hby hzs hsz v n xs hown sa m c news hl hsrc h1 h63 hbytes hbase
  unfold Oper.wp execOp
  simp only [ho, resolve, invoke, builtin, Sem.run_bind, Sem.run_pure, Result.andThen_ok, List.map_toArray, List.map_cons, List.map_nil, hs, hx, hr]
  exact h v' w' h2 h3 h4
theorem wpList_append_src {rest : List Oper} {o : Oper} {a : Act} {w : World} (hgd : o.guard = none) (s x : Operand) (t : TypeId)
    (ho : o.op = .call { callee := .builtin .append, args := #[s, x], argTypes := #[t, t] })
    (base : Nat) (e : TypeId) (i : TypeInfo) (z : Value) (size bytes : Nat) (ht : P.underlying t = some (.slice e)) (hi : P.info? e = some i) (hz : i.zero = some z)
    (hsize : i.size = size) (hby : i.bytes = bytes) (hzs : z.cells.size = size) (hsz : 0 < size)
    (v : Value) (n : Nat) (xs : List Value) (hs : a.eval s = v) (hown : w.ownsRow base e size v n xs)
    (sa : Option Addr) (m c : Nat) (news : List Value) (hx : a.eval x = .slice sa m c) (hl : news.length = m * size) (hsrc : (sa = none ∧ m = 0 ∧ c = 0) ∨ ∃ ad, sa = some ad ∧ ∀ j u, news[j]? = some u → w.cell? (ad.add j) = some u) (h1 : ∀ u ∈ news, u.oneCell' = true)
    (h63 : n + m ≤ maxLen) (hbytes : (n + m) * bytes ≤ 140737488355328) (hbase : base ≤ w.heap.size)
    (h : ∀ v' w', w'.ownsRow base e size v' (n + m) (xs ++ news) → Fr (fun k => v.ownBlock = some k) w w' → (v'.ownBlock = v.ownBlock ∨ v'.ownBlock = some w.heap.size) → wpList P ops Q rest (a.put o.dst v') w') : wpList P ops Q (o :: rest) a w :=
  wpList_plain hgd fun _ hK => wp_append_src s x t ho base e i z size bytes ht hi hz hsize hby hzs hsz v n xs hs hown sa m c news hx hl hsrc h1 h63 hbytes hbase fun v' w' h2 h3 h4 => hK _ _ (h v' w' h2 h3 h4)
end
end Go.Proofs.YtlhmmiolnbgloaaGreatDoor

/- Rows of strings in memory: what they hold, cuts, what append may take from. No condition. -/
namespace Go.Proofs.YtlhmmiolnbgloaaGreatDoor
open Go.RowKit

theorem ba_back (s : ByteArray) : (⟨s.data.toList.toArray⟩ : ByteArray) = s := by cases s; simp
def ArgsV (w : World) (S : Nat → Prop) (v : Value) (l : List ByteArray) : Prop :=
  ∃ a cap, v = .slice a l.length cap ∧ l.length ≤ cap ∧ (a = none → cap = 0) ∧ (l = [] ∨ ∃ g o, a = some ⟨g, o, none⟩ ∧ S g ∧ g < w.heap.size ∧ ∀ k (hk : k < l.length), w.cell? ⟨g, o + k, none⟩ = some (.string l[k]))
theorem ArgsV.frame {w w' : World} {S S' : Nat → Prop} {v : Value} {l : List ByteArray} (h : ArgsV w S v l) (hf : Fr S' w w') (hd : ∀ k, k < w.heap.size → S k → ¬ S' k) : ArgsV w' S v l := by
  obtain ⟨a, cap, h1, h2, h3, h4⟩ := h
  refine ⟨a, cap, h1, h2, h3, h4.imp id ?_⟩
  rintro ⟨g, o, h5, h6, h7, h8⟩
  exact ⟨g, o, h5, h6, Nat.lt_of_lt_of_le h7 hf.size, fun k hk => (World.cell?_of_block (w := w) (a := ⟨g, o + k, none⟩) (hf.block g h7 (hd g h7 h6))).trans (h8 k hk)⟩
def strs (l : List ByteArray) : List Value := l.map .string
theorem ArgsV.form {w : World} {S : Nat → Prop} {v : Value} {l : List ByteArray} (h : ArgsV w S v l) : ∃ a cap, v = .slice a l.length cap := by
  obtain ⟨a, cap, h1, _⟩ := h
  exact ⟨a, cap, h1⟩
theorem ArgsV.mono {w : World} {S S' : Nat → Prop} {v : Value} {l : List ByteArray} (h : ArgsV w S v l) (hS : ∀ k, k < w.heap.size → S k → S' k) : ArgsV w S' v l := by
  obtain ⟨a, cap, h1, h2, h3, h4⟩ := h
  refine ⟨a, cap, h1, h2, h3, h4.imp id ?_⟩
  rintro ⟨g, o, h5, h6, h7, h8⟩
  exact ⟨g, o, h5, hS g h7 h6, h7, h8⟩
theorem own_args {w : World} {base n : Nat} {v : Value} {l : List ByteArray} {S : Nat → Prop} (h : w.ownsRow base 9 1 v n (strs l)) (hn : n = l.length) (hS : ∀ k, base ≤ k → S k) : ArgsV w S v l := by
  subst hn
  have hh := h
  obtain ⟨_, h1 | ⟨g, cap, cur, h1, hb, hg, h2, _⟩⟩ := h
  · exact ⟨none, 0, by rw [h1.1, h1.2], by rw [h1.2]; exact Nat.le_refl _, fun _ => rfl, .inl (List.eq_nil_of_length_eq_zero h1.2)⟩
  · subst h1
    refine ⟨_, _, rfl, h2, fun e => by simp at e, ?_⟩
    by_cases h0 : l.length = 0
    · exact .inl (List.eq_nil_of_length_eq_zero h0)
    · obtain ⟨g', he, h3, h4, h5⟩ := own_cells hh (by omega)
      refine .inr ⟨g', 0, he, hS _ h3, h4, fun k hk => ?_⟩
      rw [Nat.zero_add]
      exact h5 k _ (by simp [strs, hk])
theorem ArgsV.at {w : World} {S : Nat → Prop} {a : Option Addr} {n cap : Nat} {l : List ByteArray} (h : ArgsV w S (.slice a n cap) l) : n = l.length ∧ n ≤ cap ∧ (n = 0 ∨ ∃ g o, a = some ⟨g, o, none⟩ ∧ ∀ k (hk : k < l.length), w.cell? ⟨g, o + k, none⟩ = some (.string l[k])) := by
  obtain ⟨a', cap', h1, h2, h3, h4⟩ := h
  cases h1
  refine ⟨rfl, h2, ?_⟩
  rcases h4 with h4 | ⟨g, o, h5, _, _, h8⟩
  · exact .inl (by rw [h4]; rfl)
  · exact .inr ⟨g, o, h5, h8⟩
theorem ba_bne {s t : ByteArray} (h : ¬ s = t) : (s.toList == t.toList) = false := by
  rw [ByteArray.toList_eq, ByteArray.toList_eq, beq_eq_false_iff_ne]
  intro e
  apply h
  cases s; cases t
  simp only [ByteArray.mk.injEq]
  exact Array.toList_inj.1 e
theorem ba_of_data {s t : ByteArray} (h : s.data.toList = t.data.toList) : s = t := by
  cases s; cases t
  simp only [ByteArray.mk.injEq]
  exact Array.toList_inj.1 h
theorem ArgsV.drop {w : World} {S : Nat → Prop} {a : Option Addr} {n cap : Nat} {l : List ByteArray} (h : ArgsV w S (.slice a n cap) l) (k : Nat) (hk : k ≤ n) :
    ArgsV w S (.slice (a.map (fun x => x.add k)) (n - k) (cap - k)) (l.drop k) := by
  obtain ⟨a', cap', h1, h2, h3, h4⟩ := h
  cases h1
  refine ⟨a.map (fun x => x.add k), cap - k, by simp, by simp; omega, fun e => by have := h3 (by simpa using e); omega, ?_⟩
  rcases h4 with h4 | ⟨g, o, h5, h6, h7, h8⟩
  · exact .inl (by simp [h4])
  · subst h5
    refine .inr ⟨g, o + k, by simp [Addr.add_lit], h6, h7, fun j hj => ?_⟩
    simp only [List.length_drop] at hj
    rw [List.getElem_drop, Nat.add_assoc]
    exact h8 (k + j) (by omega)
def SrcOk (w : World) (sa : Option Addr) (m c : Nat) (news : List Value) : Prop := (sa = none ∧ m = 0 ∧ c = 0) ∨ ∃ ad, sa = some ad ∧ ∀ j u, news[j]? = some u → w.cell? (ad.add j) = some u
theorem SrcOk.frame {w w' : World} {sa : Option Addr} {m c : Nat} {news : List Value} (h : SrcOk w sa m c news) (hf : Fr (fun _ => False) w w') : SrcOk w' sa m c news := by
  refine h.imp id ?_
  rintro ⟨ad, h1, h2⟩
  exact ⟨ad, h1, fun j u hj => (World.cell?_of_block (hf.block _ (World.block_lt_of_cell? _ _ (h2 j u hj)) (fun h => h))).trans (h2 j u hj)⟩
theorem strs_one {l : List ByteArray} : ∀ u ∈ strs l, u.oneCell' = true := by
  intro u hu
  simp only [strs, List.mem_map] at hu
  obtain ⟨s, _, rfl⟩ := hu
  rfl
theorem ArgsV.src {w : World} {S : Nat → Prop} {a : Option Addr} {n cap : Nat} {l : List ByteArray} (h : ArgsV w S (.slice a n cap) l) : SrcOk w a n cap (strs l) := by
  obtain ⟨a', cap', h1, h2, h3, h4⟩ := h
  cases h1
  cases a with
  | none => have := h3 rfl; exact .inl ⟨rfl, by omega, this⟩
  | some x =>
    right
    refine ⟨x, rfl, fun j u hj => ?_⟩
    rcases h4 with h4 | ⟨g, o, h5, _, _, h8⟩
    · subst h4; simp [strs] at hj
    · cases h5
      rw [Addr.add_lit]
      simp only [strs, List.getElem?_map, Option.map_eq_some_iff] at hj
      obtain ⟨s, hs, rfl⟩ := hj
      obtain ⟨hk, rfl⟩ := List.getElem?_eq_some_iff.1 hs
      exact h8 j hk
theorem ArgsV.cut {w : World} {S : Nat → Prop} {a : Option Addr} {n cap : Nat} {l : List ByteArray} (h : ArgsV w S (.slice a n cap) l) (k : Nat) (hk : k ≤ n) :
    ∃ sa sc, (∀ w', (Instr.sliceAt 28 (.slice a n cap) (some (.int .i64 k)) none none).run Tryz.prog w' = .ok (.slice sa (n - k) sc) w') ∧ ArgsV w S (.slice sa (n - k) sc) (l.drop k) := by
  have hd := h.drop k hk
  obtain ⟨hn, hc, _⟩ := h.at
  have hsz : ∀ w', (sizeOf 9).run Tryz.prog w' = .ok 1 w' := fun w' => by kernel_rfl
  have he : Tryz.prog.elem 28 = 9 := by kernel_rfl
  have ht : Tryz.prog.underlying 28 = some (.slice (Tryz.prog.elem 28)) := by rw [he]; exact Tryz.underlying28
  have key : ∀ w', (Instr.sliceAt 28 (.slice a n cap) (some (.int .i64 k)) none none).run Tryz.prog w' = .ok (sliced a k n cap 1) w' := fun w' => by
    rw [run_sliceAt_slice (h := ht), run_slice_l (ht := ht) (h0 := by omega) (h1 := by omega), he, hsz]
    simp
  by_cases hck : cap = k
  · refine ⟨a, cap - k, fun w' => by rw [key]; simp [sliced, hck], ?_⟩
    have hl0 : l.drop k = [] := List.drop_of_length_le (by omega)
    rw [hl0]
    exact ⟨a, cap - k, by simp; omega, by simp, fun _ => by omega, .inl rfl⟩
  · exact ⟨_, _, fun w' => by rw [key]; simp [sliced, hck], hd⟩
theorem cut_highS {a : Option Addr} {n cap k : Nat} (hk : k ≤ n) (hn : n ≤ cap) : ∀ w', (Instr.sliceAt 28 (.slice a n cap) none (some (.int .i64 k)) none).run Tryz.prog w' = .ok (.slice a k cap) w' := by
  intro w'
  have hsz : ∀ w', (sizeOf 9).run Tryz.prog w' = .ok 1 w' := fun w' => by kernel_rfl
  have he : Tryz.prog.elem 28 = 9 := by kernel_rfl
  have ht : Tryz.prog.underlying 28 = some (.slice (Tryz.prog.elem 28)) := by rw [he]; exact Tryz.underlying28
  rw [run_sliceAt_slice (h := ht), run_slice_h (ht := ht) (h0 := by omega) (h2 := by omega), he, hsz]
  cases a <;> simp [sliced, Addr.add]
end Go.Proofs.YtlhmmiolnbgloaaGreatDoor
