/- The tree of files in memory: what lies where; files.node.dir, may, slots.get, FS.get. Conditions: each contract's own premises. -/
import Derived.Test.YtlhmmiolnbgloaaGreatDoorStrs
import Derived.Test.YtlhmmiolnbgloaaGreatDoorFilesM
import Derived.Deep.CutBlock
import Derived.Deep.DeepCutAuto
namespace Go.Proofs.YtlhmmiolnbgloaaGreatDoor
open Go.RowKit

/-- A file's bytes: a slice at the head of a row of bytes; its capacity may be less than the row's. -/
def DataV (w : World) (v : Value) (l : List UInt8) : Prop :=
  (v = .slice none 0 0 ∧ l = []) ∨ ∃ g cap cur, v = .slice (some ⟨g, 0, none⟩) l.length cap ∧ w.heap[g]? = some (.cells cur 5 (0, 0)) ∧ l.length ≤ cap ∧ cap ≤ cur.size ∧ cur.toList.take l.length = l.map fun c => .int .u8 c.toNat
structure NodeF (w : World) (p : Nat → Nat) (b i : Nat) (n : Nd) (dv ev pv : Value) : Prop where
  hb : w.heap[b]? = some (.cells #[.int .i64 i, .int .i64 (if n.d then 2 else 1), .int .i64 n.mode, .int .i64 n.links, .int .i64 n.holds, dv, ev, pv] 65 (0, 0))
  data : DataV w dv n.data
  dir : n.d = true → n.data = [] ∧ ∃ m, ev = .map (some m) ∧ SMapAt Tryz.prog 9 w m (kmap (fun _ k => .pointer (some ⟨p k, 0, none⟩)) n.ents)
  file : n.d = false → ev = .map none ∧ n.ents = []
  par : n.d = true → 0 < n.links → pv = .pointer (some ⟨p n.par, 0, none⟩)
  ptr : ∃ a, pv = .pointer a
  md : n.mode < 512
def ptrOf (o : Option Nd) (b : Nat) : Value := match o with | none => .pointer none | some _ => .pointer (some ⟨b, 0, none⟩)
def slotV (p : Nat → Nat) (σ : FSt) : List Value := σ.mapIdx fun k o => ptrOf o (p (k + 1))
/-- Whatever is named is there. -/
structure Live (σ : FSt) : Prop where
  root : ∃ n, σ.nd 1 = some n ∧ n.d = true ∧ n.links = 1
  ents : ∀ i n, σ.nd i = some n → ∀ q ∈ n.ents, (σ.nd q.2).isSome = true
  par : ∀ i n, σ.nd i = some n → n.d = true → 0 < n.links → (σ.nd n.par).isSome = true
  cnt : σ.cnt ≤ 100
  len : σ.length ≤ 100
  byts : σ.byts ≤ 65536
  names : ∀ i n, σ.nd i = some n → ∀ q ∈ n.ents, q.1.length ≤ 32
structure FilesF (w : World) (f : Nat) (σ : FSt) (S : Nat → Prop) (p : Nat → Nat) (dv ev pv : Nat → Value) (lv : Value) : Prop where
  hb : w.heap[f]? = some (.cells #[lv, .int .i64 σ.cnt, .pointer (some ⟨p 1, 0, none⟩), .int .i64 σ.byts] 77 (0, 0))
  hl : w.ownsRow 0 56 1 lv σ.length (slotV p σ)
  nd : ∀ i n, σ.nd i = some n → NodeF w p (p i) i n (dv i) (ev i) (pv i)
  inj : ∀ i j, (σ.nd i).isSome = true → (σ.nd j).isSome = true → p i = p j → i = j
  injd : ∀ i j g, (σ.nd i).isSome = true → (σ.nd j).isSome = true → (dv i).ownBlock = some g → (dv j).ownBlock = some g → i = j
  inje : ∀ i j m, (σ.nd i).isSome = true → (σ.nd j).isSome = true → ev i = .map (some m) → ev j = .map (some m) → i = j
  own : S f
  ownl : ∀ g, lv.ownBlock = some g → S g
  ownn : ∀ i, (σ.nd i).isSome = true → S (p i)
  ownd : ∀ i g, (σ.nd i).isSome = true → (dv i).ownBlock = some g → S g
  owne : ∀ i m, (σ.nd i).isSome = true → ev i = .map (some m) → S m
  up : ∀ k, w.heap.size ≤ k → S k
  live : Live σ
def FilesAt (w : World) (f : Nat) (σ : FSt) (S : Nat → Prop) (p : Nat → Nat) : Prop := ∃ dv ev pv lv, FilesF w f σ S p dv ev pv lv

theorem DataV.frame {w w' : World} {T : Nat → Prop} {v : Value} {l : List UInt8} (h : DataV w v l) (hf : Fr T w w') (hd : ∀ g, v.ownBlock = some g → ¬ T g) : DataV w' v l := by
  rcases h with h | ⟨g, cap, cur, rfl, hg, rest⟩
  · exact .inl h
  · exact .inr ⟨g, cap, cur, rfl, hf.get hg (hd g rfl), rest⟩
theorem DataV.lt {w : World} {v : Value} {l : List UInt8} (h : DataV w v l) {g : Nat} (hg : v.ownBlock = some g) : g < w.heap.size := by
  rcases h with ⟨rfl, _⟩ | ⟨g', cap, cur, rfl, hb, _⟩
  · cases hg
  · have : g' = g := by simpa [Value.ownBlock] using hg
    exact this ▸ blk_lt hb
theorem NodeF.frame {w w' : World} {T : Nat → Prop} {p : Nat → Nat} {b i : Nat} {n : Nd} {dv ev pv : Value} (h : NodeF w p b i n dv ev pv) (hf : Fr T w w') (hb : ¬ T b) (hd : ∀ g, dv.ownBlock = some g → ¬ T g) (he : ∀ m, ev = .map (some m) → ¬ T m) : NodeF w' p b i n dv ev pv where
  hb := hf.get h.hb hb
  data := h.data.frame hf hd
  dir hn := by
    obtain ⟨h0, m, h1, h2⟩ := h.dir hn
    exact ⟨h0, m, h1, h2.frame hf (he m h1)⟩
  file := h.file
  par := h.par
  ptr := h.ptr
  md := h.md
theorem NodeF.map_lt {w : World} {p : Nat → Nat} {b i : Nat} {n : Nd} {dv ev pv : Value} (h : NodeF w p b i n dv ev pv) {m : Nat} (he : ev = .map (some m)) : m < w.heap.size := by
  cases hn : n.d with
  | true =>
    obtain ⟨_, m', h1, h2⟩ := h.dir hn
    rw [he] at h1
    cases h1
    exact h2.lt
  | false =>
    have := (h.file hn).1
    rw [he] at this
    cases this
theorem FilesF.frame {w w' : World} {T : Nat → Prop} {f : Nat} {σ : FSt} {S : Nat → Prop} {p : Nat → Nat} {dv ev pv : Nat → Value} {lv : Value} (h : FilesF w f σ S p dv ev pv lv) (hf : Fr T w w') (hd : ∀ k, k < w.heap.size → S k → ¬ T k) : FilesF w' f σ S p dv ev pv lv where
  hb := hf.get h.hb (hd _ (blk_lt h.hb) h.own)
  hl := own_frame h.hl hf (fun g e => hd _ (h.hl.lt g e).2 (h.ownl g e))
  nd i n hn := by
    have hs : (σ.nd i).isSome = true := by rw [hn]; rfl
    have h1 := h.nd i n hn
    exact h1.frame hf (hd _ (blk_lt h1.hb) (h.ownn i hs)) (fun g e => hd _ (h1.data.lt e) (h.ownd i g hs e)) (fun m e => hd _ (h1.map_lt e) (h.owne i m hs e))
  inj := h.inj
  injd := h.injd
  inje := h.inje
  own := h.own
  ownl := h.ownl
  ownn := h.ownn
  ownd := h.ownd
  owne := h.owne
  up k hk := h.up k (Nat.le_trans hf.size hk)
  live := h.live
theorem FilesAt.frame {w w' : World} {T : Nat → Prop} {f : Nat} {σ : FSt} {S : Nat → Prop} {p : Nat → Nat} (h : FilesAt w f σ S p) (hf : Fr T w w') (hd : ∀ k, k < w.heap.size → S k → ¬ T k) : FilesAt w' f σ S p := by
  obtain ⟨_, _, _, _, h⟩ := h
  exact ⟨_, _, _, _, h.frame hf hd⟩
theorem FilesAt.live {w : World} {f : Nat} {σ : FSt} {S : Nat → Prop} {p : Nat → Nat} (h : FilesAt w f σ S p) : Live σ := by
  obtain ⟨_, _, _, _, h⟩ := h
  exact FilesF.live h
/-- An inode's block as it stands. -/
theorem FilesAt.node {w : World} {f : Nat} {σ : FSt} {S : Nat → Prop} {p : Nat → Nat} (h : FilesAt w f σ S p) {i : Nat} {n : Nd} (hn : σ.nd i = some n) : ∃ dv ev pv, NodeF w p (p i) i n dv ev pv := by
  obtain ⟨dv, ev, pv, _, h⟩ := h
  exact ⟨_, _, _, h.nd i n hn⟩
theorem dir_any (w : World) (p : Nat → Nat) (b i : Nat) (n : Nd) (dv ev pv : Value) (h : NodeF w p b i n dv ev pv) : Calls Tryz.prog 22 #[.pointer (some ⟨b, 0, none⟩)] w fun e w' => e = .returned (.bool n.d) ∧ w = w' := by
  have c1 : w.cell? ⟨b, 1, none⟩ = some (.int .i64 (if n.d then 2 else 1)) := by rw [blk_cell h.hb]; rfl
  cases hd : n.d <;> rw [hd] at c1 <;> simp only [if_true, if_false, Bool.false_eq_true] at c1
  all_goals
    go_enter Tryz.func22, Tryz.ntmps22
    go_wp2
    go_ret
    exact ⟨rfl, rfl⟩
theorem may_fact : ∀ (m : Fin 512) (k : Fin 8), (bits .and .i64 ((m.val / 64 : Nat) : Int) (k.val : Int) == (k.val : Int)) = mayN m.val k.val := by decide +kernel
theorem may_any (w : World) (p : Nat → Nat) (b i : Nat) (n : Nd) (dv ev pv : Value) (h : NodeF w p b i n dv ev pv) (k : Nat) (hk : k < 8) : Calls Tryz.prog 72 #[.pointer (some ⟨b, 0, none⟩), .int .i64 k] w fun e w' => e = .returned (.bool (mayN n.mode k)) ∧ w = w' := by
  have c1 : w.cell? ⟨b, 2, none⟩ = some (.int .i64 n.mode) := by rw [blk_cell h.hb]; rfl
  have hmd := h.md
  have hm := may_fact ⟨n.mode, hmd⟩ ⟨k, hk⟩
  simp only at hm
  go_enter Tryz.func72, Tryz.ntmps72
  go_wp2
  go_ret
  exact ⟨ret_bool (by simpa using hm), rfl⟩
def ptrI (σ : FSt) (p : Nat → Nat) (i : Int) : Value := match σ.ndI i with | none => .pointer none | some _ => .pointer (some ⟨p i.toNat, 0, none⟩)
theorem slot_at {p : Nat → Nat} {σ : FSt} {k : Nat} (hk : k < σ.length) : (slotV p σ)[k]? = some (ptrI σ p ((k : Int) + 1)) := by
  unfold slotV ptrI FSt.ndI FSt.nd
  rw [List.getElem?_mapIdx, List.getElem?_eq_getElem hk]
  have h1 : ((k : Int) + 1).toNat = k + 1 := by omega
  rw [if_pos (by omega), h1, if_neg (by omega)]
  simp only [Nat.add_sub_cancel, List.getElem?_eq_getElem hk, Option.join_some, Option.map_some]
  cases σ[k] <;> rfl
set_option maxRecDepth 100000 in
theorem sget_any (w : World) (f : Nat) (σ : FSt) (S : Nat → Prop) (p : Nat → Nat) (h : FilesAt w f σ S p) (i : Int) (hi : -9223372036854775808 ≤ i ∧ i ≤ 9223372036854775807) :
    Calls Tryz.prog 32 #[.pointer (some ⟨f, 0, none⟩), .int .i64 i] w fun e w' => e = .returned (ptrI σ p i) ∧ w = w' := by
  obtain ⟨dv, ev, pv, lv, hf⟩ := h
  have hlen := hf.live.len
  by_cases h1 : i < 1
  · have e0 : ptrI σ p i = .pointer none := by unfold ptrI FSt.ndI; rw [if_neg (by omega)]
    rw [e0]
    go_enter Tryz.func32, Tryz.ntmps32
    go_wp2
    go_ret
    exact ⟨rfl, rfl⟩
  obtain ⟨la, lc, rfl⟩ := own_form hf.hl
  have c0 : w.cell? ⟨f, 0, none⟩ = some (.slice la σ.length lc) := by rw [blk_cell hf.hb]; rfl
  by_cases h2 : (σ.length : Int) < i
  · have e0 : ptrI σ p i = .pointer none := by
      unfold ptrI FSt.ndI FSt.nd
      rw [if_pos (by omega), if_neg (by omega), List.getElem?_eq_none (by omega)]
      rfl
    rw [e0]
    go_enter Tryz.func32, Tryz.ntmps32
    go_wp2
    go_ret
    exact ⟨rfl, rfl⟩
  obtain ⟨k, rfl⟩ : ∃ k : Nat, i = (k : Int) + 1 := ⟨(i - 1).toNat, by omega⟩
  obtain ⟨g, rfl, _, _, hc⟩ := own_cells hf.hl (by omega)
  have ck := hc k _ (slot_at (by omega))
  obtain ⟨a, ha⟩ : ∃ a, ptrI σ p ((k : Int) + 1) = .pointer a := by unfold ptrI; split <;> exact ⟨_, rfl⟩
  rw [ha] at ck ⊢
  have hk1 : (0 : Int) ≤ (k : Int) := by omega
  have hk2 : (k : Int) < (σ.length : Int) := by omega
  clear hc ha
  go_enter Tryz.func32, Tryz.ntmps32
  go_wp2
  go_ret
  exact ⟨rfl, rfl⟩
theorem fget_any (w : World) (f : Nat) (σ : FSt) (S : Nat → Prop) (p : Nat → Nat) (h : FilesAt w f σ S p) (i : Int) (hi : -9223372036854775808 ≤ i ∧ i ≤ 9223372036854775807) :
    Calls Tryz.prog 21 #[.pointer (some ⟨f, 0, none⟩), .int .i64 i] w fun e w' => e = .returned (ptrI σ p i) ∧ w = w' := by
  have hg := sget_any w f σ S p h i hi
  obtain ⟨a, ha⟩ : ∃ a, ptrI σ p i = .pointer a := by unfold ptrI; split <;> exact ⟨_, rfl⟩
  rw [ha] at hg ⊢
  clear ha
  go_enter Tryz.func21, Tryz.ntmps21
  go_wp2_with fail
  refine hg.mono ?_
  rintro e w' ⟨rfl, rfl⟩
  clear hg
  go_wp2_with fail
  go_ret
  exact ⟨rfl, rfl⟩
/-- A way lies in block b. -/
def wayB (w : World) (b : Nat) (at' : Nat) (pv : Value) (sl : Bool) : Prop := w.heap[b]? = some (.cells #[.pointer (some ⟨at', 0, none⟩), pv, .bool sl] 96 (0, 0))
set_option maxRecDepth 100000 in
theorem here_any (w : World) (p : Nat → Nat) (b i : Nat) (n : Nd) (dv ev pv : Value) (h : NodeF w p (p i) i n dv ev pv) {sv : Value} {sl : Bool} (hw : wayB w b (p i) sv sl) :
    Calls Tryz.prog 70 #[.pointer (some ⟨b, 0, none⟩)] w fun e w' => e = .returned (.int .i64 (hereE n)) ∧ w = w' := by
  have c0 : w.cell? ⟨b, 0, none⟩ = some (.pointer (some ⟨p i, 0, none⟩)) := by rw [blk_cell hw]; rfl
  go_enter Tryz.func70, Tryz.ntmps70
  go_wp2_with fail
  refine (dir_any w p (p i) i n dv ev pv h).mono ?_
  rintro e w' ⟨rfl, rfl⟩
  cases hd : n.d with
  | false =>
    go_wp2_with fail
    go_ret
    exact ⟨ret_int (by simp [hereE, hd]), rfl⟩
  | true =>
    go_wp2_with fail
    refine (may_any w p (p i) i n dv ev pv h 1 (by omega)).mono ?_
    rintro e w' ⟨rfl, rfl⟩
    cases hm : mayN n.mode 1 with
    | false =>
      go_wp2_with fail
      go_ret
      exact ⟨ret_int (by simp [hereE, hd, hm]), rfl⟩
    | true =>
      go_wp2_with fail
      go_ret
      exact ⟨ret_int (by simp [hereE, hd, hm]), rfl⟩
end Go.Proofs.YtlhmmiolnbgloaaGreatDoor

/- files.way.over. Conditions: the contract's own premises. -/
namespace Go.Proofs.YtlhmmiolnbgloaaGreatDoor
open Go.RowKit

theorem overS_append (σ : FSt) : ∀ (x y : List (List UInt8)) (a : Nat), overS σ (x ++ y) a = if (overS σ x a).1 ≠ 0 then overS σ x a else overS σ y (overS σ x a).2
  | [], y, a => by simp [overS]
  | c :: x, y, a => by
    by_cases h : (stepS σ a c).1 = 0
    · simp [overS, h, overS_append σ x y]
    · simp [overS, h]
theorem over_next {σ : FSt} {l : List (List UInt8)} {k a a0 : Nat} (hk : k < l.length) (h : overS σ (l.take k) a0 = (0, a)) (hs : (stepS σ a l[k]).1 = 0) : overS σ (l.take (k + 1)) a0 = (0, (stepS σ a l[k]).2) := by
  rw [List.take_succ_eq_append_getElem hk, overS_append, h, if_neg (by simp)]
  simp only [overS]
  rw [if_neg (by simp [hs])]
theorem over_err {σ : FSt} {l : List (List UInt8)} {k m a a0 : Nat} (hk : k < m) (hm : m ≤ l.length) (h : overS σ (l.take k) a0 = (0, a)) (hs : (stepS σ a (l[k]'(by omega))).1 ≠ 0) : overS σ (l.take m) a0 = stepS σ a (l[k]'(by omega)) := by
  have e : l.take m = l.take k ++ (l[k]'(by omega) :: (l.take m).drop (k + 1)) := by
    have h1 := (List.take_append_drop (k + 1) (l.take m)).symm
    rw [List.take_take, Nat.min_eq_left (by omega), List.take_succ_eq_append_getElem (by omega : k < l.length), List.append_assoc] at h1
    exact h1
  rw [e, overS_append, h, if_neg (by simp)]
  simp only [overS]
  rw [if_pos hs]
/-- Where a step leads is there. -/
theorem Live.step {σ : FSt} (h : Live σ) {a : Nat} (ha : (σ.nd a).isSome = true) (q : List UInt8) : (σ.nd (stepS σ a q).2).isSome = true := by
  unfold stepS
  cases hn : σ.nd a with
  | none => rw [hn] at ha; cases ha
  | some n =>
    simp only
    unfold stepE
    split
    · simp only; rw [hn]; rfl
    · split
      · simp only; rw [hn]; rfl
      · split
        · split
          · simp only; rw [hn]; rfl
          · rename_i h1 _ _ h2
            refine h.par a n hn ?_ (by omega)
            unfold hereE at h1
            cases hd : n.d with
            | true => rfl
            | false => rw [hd] at h1; simp at h1
        · split
          · simp only; rw [hn]; rfl
          · cases hk : kget q n.ents with
            | none => simp only [leadE]; rw [hn]; rfl
            | some k => exact h.ents a n hn _ (kget_mem hk)
def OverRel (σ : FSt) (p : Nat → Nat) (l : List (List UInt8)) (m a0 b : Nat) (sv : Value) (sl : Bool) (w : World) (gk : Nat) (i : Value) (wr : World) : Prop :=
  ∃ k a : Nat, gk + k = m ∧ i = .int .i64 k ∧ overS σ (l.take k) a0 = (0, a) ∧ (σ.nd a).isSome = true ∧ wayB wr b (p a) sv sl ∧ Fr (fun k => k = b) w wr
def OverPost (σ : FSt) (p : Nat → Nat) (l : List (List UInt8)) (a0 b : Nat) (sv : Value) (sl : Bool) (w : World) (e : Ending) (w' : World) : Prop :=
  e = .returned (.int .i64 (overS σ l a0).1) ∧ (σ.nd (overS σ l a0).2).isSome = true ∧ wayB w' b (p (overS σ l a0).2) sv sl ∧ Fr (fun k => k = b) w w'
set_option maxRecDepth 100000 in
set_option maxHeartbeats 8000000 in
theorem over_any (w : World) (f : Nat) (σ : FSt) (S : Nat → Prop) (p : Nat → Nat) (h : FilesAt w f σ S p) (b a0 : Nat) (l : List ByteArray) (sv : Value) (sl : Bool) (S' : Nat → Prop) (hl : ArgsV w S' sv l) (hb' : ¬ S' b) (hb : ¬ S b)
    (hw : wayB w b (p a0) sv sl) (ha0 : (σ.nd a0).isSome = true) (m : Nat) (hm : m ≤ l.length) (hl200 : l.length ≤ 1000) (hsz : ∀ s ∈ l, s.size ≤ 1000) :
    Calls Tryz.prog 46 #[.pointer (some ⟨b, 0, none⟩), .int .i64 m] w (OverPost σ p ((l.map (·.data.toList)).take m) a0 b sv sl w) := by
  obtain ⟨la, lc, rfl⟩ := hl.form
  obtain ⟨_, hlc, hcells⟩ := hl.at
  have hch := cut_highS (a := la) hm hlc
  have c1 : w.cell? ⟨b, 1, none⟩ = some (.slice la l.length lc) := by rw [blk_cell hw]; rfl
  have Hcells := hide hcells
  have Hl := hide hl
  have Hsz := hide hsz
  clear hcells hl hsz
  go_enter Tryz.func46, Tryz.ntmps46
  go_wp2_with fail
  go_loopg [16] m (fun gk i wr => OverRel σ p (l.map (·.data.toList)) m a0 b (.slice la l.length lc) sl w gk i wr)
  case atStart => exact ⟨0, a0, by omega, rfl, rfl, ha0, hw, Fr.refl _ _⟩
  case round =>
    clear c1
    obtain ⟨k, a, hgk, rfl, hov, ha, hwr, hfr⟩ := hrel
    have Hgk := hide hgk
    have Hov := hide hov
    clear hgk hov
    by_cases hlt : k < m
    · have hkl : k < l.length := by omega
      have hkm : k < (l.map (·.data.toList)).length := by simpa using hkl
      obtain ⟨g, o, rfl, hc⟩ := Hcells.out.resolve_left (by omega)
      have ck := hc k hkl
      obtain ⟨a', cap', ea, _, _, hg⟩ := Hl.out
      cases ea
      have hgb : g ≠ b := by
        rcases hg with hg | ⟨g', o', hg, hS', _⟩
        · simp [hg] at hkl
        · cases hg; exact fun e => hb' (e ▸ hS')
      replace ck := (World.cell?_of_block (a := ⟨g, o + k, none⟩) (hfr.block g (World.block_lt_of_cell? _ _ ck) hgb)).trans ck
      have hqs := Hsz.out l[k] (List.getElem_mem hkl)
      have hfA := h.frame hfr (fun k _ e e2 => hb (e2 ▸ e))
      obtain ⟨n, hn⟩ := Option.isSome_iff_exists.1 ha
      obtain ⟨dvn, evn, pvn, hnd⟩ := hfA.node hn
      have hlive := hfA.live
      have hSa : S (p a) := by obtain ⟨_, _, _, _, h9⟩ := h; exact h9.ownn a ha
      have hne : p a ≠ b := fun e => hb (e ▸ hSa)
      have hstep : stepS σ a l[k].data.toList = stepE n a l[k].data.toList := by unfold stepS; rw [hn]
      have hgk2 : (l.map (·.data.toList))[k]'hkm = l[k].data.toList := by simp
      have herr := hide (show ∀ (ev : Int) (w' : World), ev ≠ 0 → stepE n a l[k].data.toList = (ev, a) → wayB w' b (p a) (.slice (some ⟨g, o, none⟩) l.length lc) sl → Fr (fun k => k = b) w w' → OverPost σ p ((l.map (·.data.toList)).take m) a0 b (.slice (some ⟨g, o, none⟩) l.length lc) sl w (.returned (.int .i64 ev)) w' from fun ev w' h1 h2 h3 h4 => by
        have e1 := over_err (σ := σ) hlt (by simpa using hm) Hov.out (by rw [hgk2, hstep, h2]; exact h1)
        rw [hgk2, hstep, h2] at e1
        unfold OverPost
        rw [e1]
        exact ⟨rfl, ha, h3, h4⟩)
      have hnext := hide (show ∀ (a' : Nat) (w' : World), stepE n a l[k].data.toList = (0, a') → wayB w' b (p a') (.slice (some ⟨g, o, none⟩) l.length lc) sl → Fr (fun k => k = b) w w' → OverRel σ p (l.map (·.data.toList)) m a0 b (.slice (some ⟨g, o, none⟩) l.length lc) sl w (gk - 1) (.int .i64 ((k : Int) + 1)) w' from fun a' w' h2 h3 h4 => by
        have e1 := over_next (σ := σ) hkm Hov.out (by rw [hgk2, hstep, h2])
        rw [hgk2, hstep, h2] at e1
        have h5 := hlive.step ha l[k].data.toList
        rw [hstep, h2] at h5
        exact ⟨k + 1, a', by have := Hgk.out; omega, by go_num, e1, h5, h3, h4⟩)
      have hkI : (k : Int) < (m : Int) := by omega
      have hkL : (k : Int) < (l.length : Int) := by omega
      have hhere := here_any wr p b a n dvn evn pvn hnd hwr
      have Hfr := hide hfr
      have Hnd := hide hnd
      clear hc hg hstep hgk2 hlive hnd hfr hfA ha hkm
      generalize l[k] = q at *
      have hc0 : wr.cell? ⟨b, 0, none⟩ = some (.pointer (some ⟨p a, 0, none⟩)) := by rw [blk_cell hwr]; rfl
      have hz0 : wr.frozen? ⟨b, 0, none⟩ = false := blk_frozen hwr 0
      have Hwr := hide hwr
      clear hwr
      rcases (show hereE n = 20 ∨ hereE n = 13 ∨ hereE n = 0 by unfold hereE; split; · exact .inl rfl
                                                                · split; · exact .inr (.inl rfl)
                                                                  · exact .inr (.inr rfl)) with h1 | h1 | h1
      · have hfin := hide (herr.out 20 wr (by decide) (by unfold stepE; rw [if_pos (by rw [h1]; decide), h1]) Hwr.out Hfr.out)
        rw [h1] at hhere
        clear hnext herr h1
        go_wp2_with fail
        refine hhere.mono ?_
        rintro e w' ⟨rfl, rfl⟩
        go_wp2_with fail
        go_ret
        exact hfin.out
      · have hfin := hide (herr.out 13 wr (by decide) (by unfold stepE; rw [if_pos (by rw [h1]; decide), h1]) Hwr.out Hfr.out)
        rw [h1] at hhere
        clear hnext herr h1
        go_wp2_with fail
        refine hhere.mono ?_
        rintro e w' ⟨rfl, rfl⟩
        go_wp2_with fail
        go_ret
        exact hfin.out
      · have H1 := hide h1
        rw [h1] at hhere
        have hd : n.d = true := by
          unfold hereE at h1
          cases hd : n.d with
          | true => rfl
          | false => rw [hd] at h1; simp at h1
        clear h1
        have hst : stepE n a q.data.toList = if q.data.toList = dot then (0, a) else if q.data.toList = dots then (if n.links = 0 then (2, a) else (0, n.par)) else if 32 < q.data.toList.length then (36, a) else leadE a (kget q.data.toList n.ents) := by
          unfold stepE
          rw [if_neg (by simp [H1.out])]
        have Hst := hide hst
        clear hst
        obtain ⟨-, mb, hev, hmp⟩ := Hnd.out.dir hd
        by_cases q1 : q.toList = [46]
        · have hnx := hide (hnext.out a wr (by rw [Hst.out, if_pos (by rw [← ByteArray.toList_eq, q1]; rfl)]) Hwr.out Hfr.out)
          clear hnext herr
          go_wp2_with fail
          refine hhere.mono ?_
          rintro e w' ⟨rfl, rfl⟩
          go_wp2_with fail
          go_roundg (gk - 1)
          case measure => have := Hgk.out; omega
          case rel => exact hnx.out
        have n1 : ¬ q.data.toList = dot := fun e => q1 (by rw [ByteArray.toList_eq, e]; rfl)
        have b1 : (q.toList == [46]) = false := by simpa using q1
        clear q1
        by_cases q2 : q.toList = [46, 46]
        · have hs2 : stepE n a q.data.toList = if n.links = 0 then (2, a) else (0, n.par) := by rw [Hst.out, if_neg n1, if_pos (by rw [← ByteArray.toList_eq, q2]; rfl)]
          have c3 : wr.cell? ⟨p a, 3, none⟩ = some (.int .i64 n.links) := by rw [blk_cell Hnd.out.hb]; rfl
          by_cases hl0 : n.links = 0
          · have hfin := hide (herr.out 2 wr (by decide) (by rw [hs2, if_pos hl0]) Hwr.out Hfr.out)
            rw [hl0] at c3
            clear hnext herr hs2 n1
            go_wp2_with fail
            refine hhere.mono ?_
            rintro e w' ⟨rfl, rfl⟩
            go_wp2_with fail
            go_ret
            exact hfin.out
          · have hpv := Hnd.out.par hd (by omega)
            have c7 : wr.cell? ⟨p a, 7, none⟩ = some (.pointer (some ⟨p n.par, 0, none⟩)) := by rw [blk_cell Hnd.out.hb, hpv]; rfl
            have hnx := hide (hnext.out n.par (wr.setCell ⟨b, 0, none⟩ (.pointer (some ⟨p n.par, 0, none⟩))) (by rw [hs2, if_neg hl0]) (by unfold wayB; rw [blk_set Hwr.out]; rfl) (Hfr.out.trans (frSet _ _ _ _)))
            have hl1 : ¬ (n.links : Int) = 0 := by omega
            clear hnext herr hs2 n1 hpv
            go_wp2_with fail
            refine hhere.mono ?_
            rintro e w' ⟨rfl, rfl⟩
            go_wp2_with fail
            go_roundg (gk - 1)
            case measure => have := Hgk.out; omega
            case rel => exact hnx.out
        have n2 : ¬ q.data.toList = dots := fun e => q2 (by rw [ByteArray.toList_eq, e]; rfl)
        have b2 : (q.toList == [46, 46]) = false := by simpa using q2
        clear q2
        by_cases q3 : 32 < q.size
        · have hfin := hide (herr.out 36 wr (by decide) (by rw [Hst.out, if_neg n1, if_neg n2, if_pos (by rw [ba_len]; exact q3)]) Hwr.out Hfr.out)
          have q3i : (32 : Int) < (q.size : Int) := by omega
          clear hnext herr n1 n2
          go_wp2_with fail
          refine hhere.mono ?_
          rintro e w' ⟨rfl, rfl⟩
          go_wp2_with fail
          go_ret
          exact hfin.out
        have hs3 : stepE n a q.data.toList = leadE a (kget q.data.toList n.ents) := by rw [Hst.out, if_neg n1, if_neg n2, if_neg (by rw [ba_len]; exact q3)]
        have q3i : ¬ (32 : Int) < (q.size : Int) := by omega
        have c6 : wr.cell? ⟨p a, 6, none⟩ = some (.map (some mb)) := by rw [blk_cell Hnd.out.hb, hev]; rfl
        have hlook := hmp.look (t := 62) (e := 56) false Tryz.underlying9 Tryz.underlying62 (show (zeroValue 56).run Tryz.prog wr = .ok (.pointer none) wr by kernel_rfl) q (by unfold maxLen; omega)
        rw [if_neg (by simp), kget_kmap] at hlook
        cases hk : kget q.data.toList n.ents with
        | none =>
          rw [hk] at hlook hs3
          simp only [Option.map_none, Option.getD_none] at hlook
          have hfin := hide (herr.out 2 wr (by decide) hs3 Hwr.out Hfr.out)
          clear hnext herr n1 n2 hs3 hk hmp
          go_wp2_with fail
          refine hhere.mono ?_
          rintro e w' ⟨rfl, rfl⟩
          go_wp2_with fail
          go_ret
          exact hfin.out
        | some k' =>
          rw [hk] at hlook hs3
          simp only [Option.map_some, Option.getD_some] at hlook
          have hnx := hide (hnext.out k' (wr.setCell ⟨b, 0, none⟩ (.pointer (some ⟨p k', 0, none⟩))) hs3 (by unfold wayB; rw [blk_set Hwr.out]; rfl) (Hfr.out.trans (frSet _ _ _ _)))
          clear hnext herr n1 n2 hs3 hk hmp
          go_wp2_with fail
          refine hhere.mono ?_
          rintro e w' ⟨rfl, rfl⟩
          go_wp2_with fail
          go_roundg (gk - 1)
          case measure => have := Hgk.out; omega
          case rel => exact hnx.out
    · have hk : k = m := by have := Hgk.out; omega
      have hov := Hov.out
      rw [hk] at hov
      have hfin := hide (show OverPost σ p ((l.map (·.data.toList)).take m) a0 b (.slice la l.length lc) sl w (.returned (.int .i64 0)) wr from by
        unfold OverPost
        rw [hov]
        exact ⟨rfl, ha, hwr, hfr⟩)
      have hkI : ¬ (k : Int) < (m : Int) := by omega
      clear hov hwr
      go_wp2_with fail
      go_ret
      exact hfin.out
end Go.Proofs.YtlhmmiolnbgloaaGreatDoor
