/- The tree of files in memory: what lies where; files.node.dir, may, slots.get, FS.get. Conditions: each contract's own premises. -/
import Derived.Test.YthikjdpnlahkfaaGreatDoorStrs
import Derived.Test.YthikjdpnlahkfaaGreatDoorFilesM
namespace Go.Proofs.YthikjdpnlahkfaaGreatDoor
open Go.RowKit

/-- A file's bytes: a slice at the head of a row of bytes; its capacity may be less than the row's. -/
def DataV (w : World) (v : Value) (l : List UInt8) : Prop :=
  (v = .slice none 0 0 ∧ l = []) ∨ ∃ g cap cur, v = .slice (some ⟨g, 0, none⟩) l.length cap ∧ w.heap[g]? = some (.cells cur 5 (0, 0)) ∧ l.length ≤ cap ∧ cap ≤ cur.size ∧ cur.toList.take l.length = l.map fun c => .int .u8 c.toNat
structure NodeF (w : World) (p : Nat → Nat) (b i : Nat) (n : Nd) (dv ev pv : Value) : Prop where
  hb : w.heap[b]? = some (.cells #[.int .i64 i, .int .i64 (if n.d then 2 else 1), .int .i64 n.mode, .int .i64 n.links, .int .i64 n.holds, dv, ev, pv] 58 (0, 0))
  data : DataV w dv n.data
  dir : n.d = true → n.data = [] ∧ ∃ m, ev = .map (some m) ∧ SMapAt Tryz.prog 9 w m (kmap (fun _ k => .pointer (some ⟨p k, 0, none⟩)) n.ents)
  file : n.d = false → ev = .map none ∧ n.ents = []
  par : n.d = true → 0 < n.links → pv = .pointer (some ⟨p n.par, 0, none⟩)
  ptr : ∃ a, pv = .pointer a
  md : n.mode < 512
def ptrOf (o : Option Nd) (b : Nat) : Value := match o with | none => .pointer none | some _ => .pointer (some ⟨b, 0, none⟩)
def slotV (p : Nat → Nat) (σ : FSt) : List Value := σ.mapIdx fun k o => ptrOf o (p (k + 1))
/-- Whatever is named is there. -/
structure Live (σ : FSt) : Prop where
  root : ∃ n, σ.nd 1 = some n ∧ n.d = true ∧ n.links = 1
  ents : ∀ i n, σ.nd i = some n → ∀ q ∈ n.ents, (σ.nd q.2).isSome = true
  par : ∀ i n, σ.nd i = some n → n.d = true → 0 < n.links → (σ.nd n.par).isSome = true
  cnt : σ.cnt ≤ 100
  len : σ.length ≤ 100
  byts : σ.byts ≤ 65536
  names : ∀ i n, σ.nd i = some n → ∀ q ∈ n.ents, q.1.length ≤ 32
structure FilesF (w : World) (f : Nat) (σ : FSt) (S : Nat → Prop) (p : Nat → Nat) (dv ev pv : Nat → Value) (lv : Value) : Prop where
  hb : w.heap[f]? = some (.cells #[lv, .int .i64 σ.cnt, .pointer (some ⟨p 1, 0, none⟩), .int .i64 σ.byts] 54 (0, 0))
  hl : w.ownsRow 0 52 1 lv σ.length (slotV p σ)
  nd : ∀ i n, σ.nd i = some n → NodeF w p (p i) i n (dv i) (ev i) (pv i)
  inj : ∀ i j, (σ.nd i).isSome = true → (σ.nd j).isSome = true → p i = p j → i = j
  injd : ∀ i j g, (σ.nd i).isSome = true → (σ.nd j).isSome = true → (dv i).ownBlock = some g → (dv j).ownBlock = some g → i = j
  inje : ∀ i j m, (σ.nd i).isSome = true → (σ.nd j).isSome = true → ev i = .map (some m) → ev j = .map (some m) → i = j
  own : S f
  ownl : ∀ g, lv.ownBlock = some g → S g
  ownn : ∀ i, (σ.nd i).isSome = true → S (p i)
  ownd : ∀ i g, (σ.nd i).isSome = true → (dv i).ownBlock = some g → S g
  owne : ∀ i m, (σ.nd i).isSome = true → ev i = .map (some m) → S m
  up : ∀ k, w.heap.size ≤ k → S k
  live : Live σ
def FilesAt (w : World) (f : Nat) (σ : FSt) (S : Nat → Prop) (p : Nat → Nat) : Prop := ∃ dv ev pv lv, FilesF w f σ S p dv ev pv lv

theorem DataV.frame {w w' : World} {T : Nat → Prop} {v : Value} {l : List UInt8} (h : DataV w v l) (hf : Fr T w w') (hd : ∀ g, v.ownBlock = some g → ¬ T g) : DataV w' v l := by
  rcases h with h | ⟨g, cap, cur, rfl, hg, rest⟩
  · exact .inl h
  · exact .inr ⟨g, cap, cur, rfl, hf.get hg (hd g rfl), rest⟩
theorem DataV.lt {w : World} {v : Value} {l : List UInt8} (h : DataV w v l) {g : Nat} (hg : v.ownBlock = some g) : g < w.heap.size := by
  rcases h with ⟨rfl, _⟩ | ⟨g', cap, cur, rfl, hb, _⟩
  · cases hg
  · have : g' = g := by simpa [Value.ownBlock] using hg
    exact this ▸ blk_lt hb
theorem NodeF.frame {w w' : World} {T : Nat → Prop} {p : Nat → Nat} {b i : Nat} {n : Nd} {dv ev pv : Value} (h : NodeF w p b i n dv ev pv) (hf : Fr T w w') (hb : ¬ T b) (hd : ∀ g, dv.ownBlock = some g → ¬ T g) (he : ∀ m, ev = .map (some m) → ¬ T m) : NodeF w' p b i n dv ev pv where
  hb := hf.get h.hb hb
  data := h.data.frame hf hd
  dir hn := by
    obtain ⟨h0, m, h1, h2⟩ := h.dir hn
    exact ⟨h0, m, h1, h2.frame hf (he m h1)⟩
  file := h.file
  par := h.par
  ptr := h.ptr
  md := h.md
theorem NodeF.map_lt {w : World} {p : Nat → Nat} {b i : Nat} {n : Nd} {dv ev pv : Value} (h : NodeF w p b i n dv ev pv) {m : Nat} (he : ev = .map (some m)) : m < w.heap.size := by
  cases hn : n.d with
  | true =>
    obtain ⟨_, m', h1, h2⟩ := h.dir hn
    rw [he] at h1
    cases h1
    exact h2.lt
  | false =>
    have := (h.file hn).1
    rw [he] at this
    cases this
theorem FilesF.frame {w w' : World} {T : Nat → Prop} {f : Nat} {σ : FSt} {S : Nat → Prop} {p : Nat → Nat} {dv ev pv : Nat → Value} {lv : Value} (h : FilesF w f σ S p dv ev pv lv) (hf : Fr T w w') (hd : ∀ k, k < w.heap.size → S k → ¬ T k) : FilesF w' f σ S p dv ev pv lv where
  hb := hf.get h.hb (hd _ (blk_lt h.hb) h.own)
  hl := own_frame h.hl hf (fun g e => hd _ (h.hl.lt g e).2 (h.ownl g e))
  nd i n hn := by
    have hs : (σ.nd i).isSome = true := by rw [hn]; rfl
    have h1 := h.nd i n hn
    exact h1.frame hf (hd _ (blk_lt h1.hb) (h.ownn i hs)) (fun g e => hd _ (h1.data.lt e) (h.ownd i g hs e)) (fun m e => hd _ (h1.map_lt e) (h.owne i m hs e))
  inj := h.inj
  injd := h.injd
  inje := h.inje
  own := h.own
  ownl := h.ownl
  ownn := h.ownn
  ownd := h.ownd
  owne := h.owne
  up k hk := h.up k (Nat.le_trans hf.size hk)
  live := h.live
theorem FilesAt.frame {w w' : World} {T : Nat → Prop} {f : Nat} {σ : FSt} {S : Nat → Prop} {p : Nat → Nat} (h : FilesAt w f σ S p) (hf : Fr T w w') (hd : ∀ k, k < w.heap.size → S k → ¬ T k) : FilesAt w' f σ S p := by
  obtain ⟨_, _, _, _, h⟩ := h
  exact ⟨_, _, _, _, h.frame hf hd⟩
theorem FilesAt.live {w : World} {f : Nat} {σ : FSt} {S : Nat → Prop} {p : Nat → Nat} (h : FilesAt w f σ S p) : Live σ := by
  obtain ⟨_, _, _, _, h⟩ := h
  exact FilesF.live h
/-- An inode's block as it stands. -/
theorem FilesAt.node {w : World} {f : Nat} {σ : FSt} {S : Nat → Prop} {p : Nat → Nat} (h : FilesAt w f σ S p) {i : Nat} {n : Nd} (hn : σ.nd i = some n) : ∃ dv ev pv, NodeF w p (p i) i n dv ev pv := by
  obtain ⟨dv, ev, pv, _, h⟩ := h
  exact ⟨_, _, _, h.nd i n hn⟩
theorem dir_any (w : World) (p : Nat → Nat) (b i : Nat) (n : Nd) (dv ev pv : Value) (h : NodeF w p b i n dv ev pv) : Calls Tryz.prog 64 #[.pointer (some ⟨b, 0, none⟩)] w fun e w' => e = .returned (.bool n.d) ∧ w = w' := by
  have c1 : w.cell? ⟨b, 1, none⟩ = some (.int .i64 (if n.d then 2 else 1)) := by rw [blk_cell h.hb]; rfl
  cases hd : n.d <;> rw [hd] at c1 <;> simp only [if_true, if_false, Bool.false_eq_true] at c1
  all_goals
    go_enter Tryz.func64, Tryz.ntmps64
    go_wp2
    go_ret
    exact ⟨rfl, rfl⟩
theorem may_fact : ∀ (m : Fin 512) (k : Fin 8), (bits .and .i64 ((m.val / 64 : Nat) : Int) (k.val : Int) == (k.val : Int)) = mayN m.val k.val := by decide +kernel
theorem may_any (w : World) (p : Nat → Nat) (b i : Nat) (n : Nd) (dv ev pv : Value) (h : NodeF w p b i n dv ev pv) (k : Nat) (hk : k < 8) : Calls Tryz.prog 53 #[.pointer (some ⟨b, 0, none⟩), .int .i64 k] w fun e w' => e = .returned (.bool (mayN n.mode k)) ∧ w = w' := by
  have c1 : w.cell? ⟨b, 2, none⟩ = some (.int .i64 n.mode) := by rw [blk_cell h.hb]; rfl
  have hmd := h.md
  have hm := may_fact ⟨n.mode, hmd⟩ ⟨k, hk⟩
  simp only at hm
  go_enter Tryz.func53, Tryz.ntmps53
  go_wp2
  go_ret
  exact ⟨ret_bool (by simpa using hm), rfl⟩
def ptrI (σ : FSt) (p : Nat → Nat) (i : Int) : Value := match σ.ndI i with | none => .pointer none | some _ => .pointer (some ⟨p i.toNat, 0, none⟩)
theorem slot_at {p : Nat → Nat} {σ : FSt} {k : Nat} (hk : k < σ.length) : (slotV p σ)[k]? = some (ptrI σ p ((k : Int) + 1)) := by
  unfold slotV ptrI FSt.ndI FSt.nd
  rw [List.getElem?_mapIdx, List.getElem?_eq_getElem hk]
  have h1 : ((k : Int) + 1).toNat = k + 1 := by omega
  rw [if_pos (by omega), h1, if_neg (by omega)]
  simp only [Nat.add_sub_cancel, List.getElem?_eq_getElem hk, Option.join_some, Option.map_some]
  cases σ[k] <;> rfl
set_option maxRecDepth 100000 in
theorem sget_any (w : World) (f : Nat) (σ : FSt) (S : Nat → Prop) (p : Nat → Nat) (h : FilesAt w f σ S p) (i : Int) (hi : -9223372036854775808 ≤ i ∧ i ≤ 9223372036854775807) :
    Calls Tryz.prog 85 #[.pointer (some ⟨f, 0, none⟩), .int .i64 i] w fun e w' => e = .returned (ptrI σ p i) ∧ w = w' := by
  obtain ⟨dv, ev, pv, lv, hf⟩ := h
  have hlen := hf.live.len
  by_cases h1 : i < 1
  · have e0 : ptrI σ p i = .pointer none := by unfold ptrI FSt.ndI; rw [if_neg (by omega)]
    rw [e0]
    go_enter Tryz.func85, Tryz.ntmps85
    go_wp2
    go_ret
    exact ⟨rfl, rfl⟩
  obtain ⟨la, lc, rfl⟩ := own_form hf.hl
  have c0 : w.cell? ⟨f, 0, none⟩ = some (.slice la σ.length lc) := by rw [blk_cell hf.hb]; rfl
  by_cases h2 : (σ.length : Int) < i
  · have e0 : ptrI σ p i = .pointer none := by
      unfold ptrI FSt.ndI FSt.nd
      rw [if_pos (by omega), if_neg (by omega), List.getElem?_eq_none (by omega)]
      rfl
    rw [e0]
    go_enter Tryz.func85, Tryz.ntmps85
    go_wp2
    go_ret
    exact ⟨rfl, rfl⟩
  obtain ⟨k, rfl⟩ : ∃ k : Nat, i = (k : Int) + 1 := ⟨(i - 1).toNat, by omega⟩
  obtain ⟨g, rfl, _, _, hc⟩ := own_cells hf.hl (by omega)
  have ck := hc k _ (slot_at (by omega))
  obtain ⟨a, ha⟩ : ∃ a, ptrI σ p ((k : Int) + 1) = .pointer a := by unfold ptrI; split <;> exact ⟨_, rfl⟩
  rw [ha] at ck ⊢
  have hk1 : (0 : Int) ≤ (k : Int) := by omega
  have hk2 : (k : Int) < (σ.length : Int) := by omega
  clear hc ha
  go_enter Tryz.func85, Tryz.ntmps85
  go_wp2
  go_ret
  exact ⟨rfl, rfl⟩
theorem fget_any (w : World) (f : Nat) (σ : FSt) (S : Nat → Prop) (p : Nat → Nat) (h : FilesAt w f σ S p) (i : Int) (hi : -9223372036854775808 ≤ i ∧ i ≤ 9223372036854775807) :
    Calls Tryz.prog 52 #[.pointer (some ⟨f, 0, none⟩), .int .i64 i] w fun e w' => e = .returned (ptrI σ p i) ∧ w = w' := by
  have hg := sget_any w f σ S p h i hi
  obtain ⟨a, ha⟩ : ∃ a, ptrI σ p i = .pointer a := by unfold ptrI; split <;> exact ⟨_, rfl⟩
  rw [ha] at hg ⊢
  clear ha
  go_enter Tryz.func52, Tryz.ntmps52
  go_wp2_with fail
  refine hg.mono ?_
  rintro e w' ⟨rfl, rfl⟩
  clear hg
  go_wp2_with fail
  go_ret
  exact ⟨rfl, rfl⟩
/-- A way lies in block b. -/
def wayB (w : World) (b : Nat) (at' : Nat) (pv : Value) (sl : Bool) : Prop := w.heap[b]? = some (.cells #[.pointer (some ⟨at', 0, none⟩), pv, .bool sl] 136 (0, 0))
set_option maxRecDepth 100000 in
theorem here_any (w : World) (p : Nat → Nat) (b i : Nat) (n : Nd) (dv ev pv : Value) (h : NodeF w p (p i) i n dv ev pv) {sv : Value} {sl : Bool} (hw : wayB w b (p i) sv sl) :
    Calls Tryz.prog 90 #[.pointer (some ⟨b, 0, none⟩)] w fun e w' => e = .returned (.int .i64 (hereE n)) ∧ w = w' := by
  have c0 : w.cell? ⟨b, 0, none⟩ = some (.pointer (some ⟨p i, 0, none⟩)) := by rw [blk_cell hw]; rfl
  go_enter Tryz.func90, Tryz.ntmps90
  go_wp2_with fail
  refine (dir_any w p (p i) i n dv ev pv h).mono ?_
  rintro e w' ⟨rfl, rfl⟩
  cases hd : n.d with
  | false =>
    go_wp2_with fail
    go_ret
    exact ⟨ret_int (by simp [hereE, hd]), rfl⟩
  | true =>
    go_wp2_with fail
    refine (may_any w p (p i) i n dv ev pv h 1 (by omega)).mono ?_
    rintro e w' ⟨rfl, rfl⟩
    cases hm : mayN n.mode 1 with
    | false =>
      go_wp2_with fail
      go_ret
      exact ⟨ret_int (by simp [hereE, hd, hm]), rfl⟩
    | true =>
      go_wp2_with fail
      go_ret
      exact ⟨ret_int (by simp [hereE, hd, hm]), rfl⟩
end Go.Proofs.YthikjdpnlahkfaaGreatDoor
