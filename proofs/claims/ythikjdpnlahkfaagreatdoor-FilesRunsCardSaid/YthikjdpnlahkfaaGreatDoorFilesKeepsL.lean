/- The tree of files as plain data: how many entries are told at most. No program in sight; no condition. -/
import Derived.Test.YthikjdpnlahkfaaGreatDoorFilesTreeS
import Derived.Test.YthikjdpnlahkfaaGreatDoorFilesTree
import Derived.Maps.OwnIn
import Derived.Deep.LoopGhost
import Derived.Laws.StructEq
import Derived.Test.YthikjdpnlahkfaaGreatDoorFilesAskL
namespace Go.Proofs.YthikjdpnlahkfaaGreatDoor
open Go.RowKit

theorem Under.depth {σ : FSt} {k : Nat} : ∀ {m x : Nat}, Dep σ k k x m → ∀ {dx : Nat}, Dep σ 0 1 x dx → ∃ dk, Dep σ 0 1 k dk ∧ dx = dk + m
  | _, _, .base _, dx, hd => ⟨dx, hd, rfl⟩
  | _, _, .up h1 h2 h3 h4 h5 h6, dx, hd => by
    obtain ⟨k', rfl, hd'⟩ := hd.go_up h3 h1
    obtain ⟨dk, h7, h8⟩ := Under.depth h6 hd'
    exact ⟨dk, h7, by omega⟩
theorem Under.same {σ : FSt} {a b : Nat} : ∀ {m x : Nat}, Dep σ a a x m → Dep σ b b x m → a = b
  | 0, x, h1, h2 => (h1.zero rfl).symm.trans (h2.zero rfl)
  | m + 1, x, .up h1 h2 h3 h4 h5 h6, .up g1 g2 g3 g4 g5 g6 => by
    rw [h3] at g3
    cases g3
    exact Under.same h6 g6
/-- Below two directories that are as deep there is nothing in common. -/
theorem Under.uniq {σ : FSt} {a b x d dx : Nat} (ha : Dep σ 0 1 a d) (hb : Dep σ 0 1 b d) (hx : Dep σ 0 1 x dx) (h1 : Under σ a x) (h2 : Under σ b x) : a = b := by
  obtain ⟨m1, h1⟩ := h1
  obtain ⟨m2, h2⟩ := h2
  obtain ⟨d1, a1, a2⟩ := Under.depth h1 hx
  obtain ⟨d2, b1, b2⟩ := Under.depth h2 hx
  have e1 := a1.det ha
  have e2 := b1.det hb
  have : m1 = m2 := by omega
  subst this
  exact Under.same h1 h2
theorem Under.trans_child {σ : FSt} {a k x : Nat} {m : Nd} (hm : σ.nd k = some m) (hd : m.d = true) (hl : m.links ≠ 0) (h1 : k ≠ 1) (hp : m.par = a) : ∀ {j x : Nat}, Dep σ k k x j → x ≠ a → (∀ y j', Dep σ k k y j' → y ≠ a) → Under σ a x
  | _, _, .base _, hx, _ => ⟨1, .up h1 hx hm hd hl (hp ▸ .base (.inr rfl))⟩
  | _, _, .up g1 g2 g3 g4 g5 g6, hx, hall => by
    obtain ⟨j, hj⟩ := Under.trans_child (x := x) hm hd hl h1 hp g6 (hall _ _ g6) hall
    exact ⟨j + 1, .up g1 hx g3 g4 g5 hj⟩
theorem treeF_count {σ : FSt} (h : Inv σ 0) (hL : Live σ) {c : Nat} (hc : Caps σ c) : ∀ (fuel i d : Nat) (P : List UInt8) (n : Nd), σ.nd i = some n → n.d = true → Dep σ 0 1 i d →
    ∃ l : List Nat, l.Nodup ∧ (∀ x ∈ l, Under σ i x ∧ (σ.nd x).isSome = true ∧ ∃ dx, Dep σ 0 1 x dx) ∧ (treeF σ fuel P i).length ≤ l.length * c
  | 0, i, d, P, n, hn, hd, hdep => ⟨[], List.nodup_nil, fun x hx => (by cases hx), by simp [treeF]⟩
  | fuel + 1, i, d, P, n, hn, hd, hdep => by
    have key : ∀ es : List (List UInt8 × Nat), es.Sublist n.ents → ∃ l : List Nat, l.Nodup ∧ (∀ x ∈ l, (∃ q ∈ es, (∃ m, σ.nd q.2 = some m ∧ m.d = true) ∧ Under σ q.2 x) ∧ (σ.nd x).isSome = true ∧ ∃ dx, Dep σ 0 1 x dx) ∧ ((es.map (entL σ (treeF σ fuel) P)).flatten).length ≤ es.length + l.length * c := by
      intro es
      induction es with
      | nil => intro _; exact ⟨[], List.nodup_nil, fun x hx => (by cases hx), by simp⟩
      | cons q es ih =>
        intro hs
        obtain ⟨l, h1, h2, h3⟩ := ih ((List.sublist_cons_self q es).trans hs)
        have hq : q ∈ n.ents := hs.subset (by simp)
        have hqk := kget_of_mem (h.srt _ _ hn) hq
        obtain ⟨m, hm⟩ := Option.isSome_iff_exists.1 (hL.ents i n hn q hq)
        obtain ⟨nm, k⟩ := q
        simp only at hqk hm
        cases hmd : m.d with
        | false =>
          refine ⟨l, h1, fun x hx => ?_, ?_⟩
          · obtain ⟨⟨q', a1, a2⟩, a3⟩ := h2 x hx
            exact ⟨⟨q', List.mem_cons_of_mem _ a1, a2⟩, a3⟩
          · rw [List.map_cons, List.flatten_cons, entL_file hm hmd]
            simp only [List.length_append, List.length_cons, List.length_nil]
            omega
        | true =>
          have hdk := h.deeper hdep hn hqk hm hmd
          obtain ⟨l2, b1, b2, b3⟩ := treeF_count h hL hc fuel k (d + 1) (P ++ nm ++ [slashB]) m hm hmd hdk
          refine ⟨l2 ++ l, List.nodup_append.2 ⟨b1, h1, fun x hx y hy e => ?_⟩, fun x hx => ?_, ?_⟩
          · subst e
            obtain ⟨c1, c2, dx, c3⟩ := b2 x hx
            obtain ⟨⟨q', a1, ⟨m', a2, a3⟩, a4⟩, _⟩ := h2 x hy
            have hq' : q' ∈ n.ents := hs.subset (List.mem_cons_of_mem _ a1)
            have hk' := kget_of_mem (h.srt _ _ hn) hq'
            have hd' := h.deeper hdep hn hk' a2 a3
            have e2 := Under.uniq hdk hd' c3 c1 a4
            rw [← e2] at hk' a2
            have hk1 := (h.par_of hn hqk hm hmd).1
            have e3 := h.name_one hm hmd hk1 hn hqk hk'
            have hnd := List.pairwise_cons.1 ((h.srt _ _ hn).sublist hs)
            have := hnd.1 q' a1
            simp only [e3, WideAt.bytes_irrefl] at this
            cases this
          · rcases List.mem_append.1 hx with hx | hx
            · obtain ⟨c1, c2⟩ := b2 x hx
              exact ⟨⟨(nm, k), by simp, ⟨m, hm, hmd⟩, c1⟩, c2⟩
            · obtain ⟨⟨q', a1, a2⟩, a3⟩ := h2 x hx
              exact ⟨⟨q', List.mem_cons_of_mem _ a1, a2⟩, a3⟩
          · rw [List.map_cons, List.flatten_cons, entL_dir hm hmd]
            simp only [List.length_append, List.length_cons, Nat.add_mul]
            omega
    obtain ⟨l, h1, h2, h3⟩ := key n.ents (List.Sublist.refl _)
    have hno : ∀ q ∈ n.ents, (∃ m, σ.nd q.2 = some m ∧ m.d = true) → ¬ Under σ q.2 i := fun q hq ⟨m, hm, hmd⟩ ⟨j, hj⟩ => by
      have hdk := h.deeper hdep hn (kget_of_mem (h.srt _ _ hn) hq) hm hmd
      obtain ⟨dk, e1, e2⟩ := Under.depth hj hdep
      have := e1.det hdk
      omega
    refine ⟨i :: l, List.nodup_cons.2 ⟨fun hi => ?_, h1⟩, fun x hx => ?_, ?_⟩
    · obtain ⟨⟨q, a1, a2, a3⟩, _⟩ := h2 i hi
      exact hno q a1 a2 a3
    · rcases List.mem_cons.1 hx with rfl | hx
      · exact ⟨Under.self _ _, by rw [hn]; rfl, d, hdep⟩
      · obtain ⟨⟨q, a1, ⟨m, hm, hmd⟩, j, hj⟩, a4⟩ := h2 x hx
        obtain ⟨k1, k2, k3⟩ := h.par_of hn (kget_of_mem (h.srt _ _ hn) a1) hm hmd
        have hall : ∀ y j', Dep σ q.2 q.2 y j' → y ≠ i := fun y j' hy e => by
          subst e
          exact hno q a1 ⟨m, hm, hmd⟩ ⟨j', hy⟩
        exact ⟨Under.trans_child (x := x) hm hmd k2 k1 k3 hj (hall _ _ hj) hall, a4⟩
    · rw [treeF_succ hn, List.length_cons, Nat.succ_mul]
      have := (hc i n hn).2.2
      omega
theorem treeL_count {σ : FSt} (h : Inv σ 0) (hL : Live σ) {c : Nat} (hc : Caps σ c) : (treeL σ).length ≤ 101 * c := by
  obtain ⟨n, hn, hd, _⟩ := hL.root
  obtain ⟨l, h1, h2, h3⟩ := treeF_count h hL hc 101 1 0 [] n hn hd (.base (.inl rfl))
  have h4 := nodup_le (σ.length + 1) l h1 fun x hx => by
    obtain ⟨a, b⟩ := FSt.nd_lt (h2 x hx).2.1
    omega
  have := hL.len
  exact Nat.le_trans h3 (Nat.mul_le_mul_right _ (by omega))
end Go.Proofs.YthikjdpnlahkfaaGreatDoor

/- files.FS.Tree and shyardlaw08.tree. Conditions: the contracts' own premises. -/
namespace Go.Proofs.YthikjdpnlahkfaaGreatDoor
open Go.RowKit Go.Shelf Go.Maps

attribute [local go_sem] Oper.semAt_some

theorem fyield_wide {P : Program} {m m' l : Nat} {args : Array Value} {W : World} {R : Ending → World → Prop} (h : YieldAt FW m P l args W R) : YieldAt FW m' P l args W R := by
  obtain ⟨fn, tmps, assign, body, h1, h2, h3⟩ := h
  exact ⟨fn, tmps, assign, body, h1, h2, fun c cs _ => h3 c cs (room_wide _)⟩
/-- A step through a list: its next thing. -/
def FStep {α : Type} (L : List α) (s : Nat) (x : α) (s' : Nat) : Prop := ∃ h : s < L.length, x = L[s] ∧ s' = s + 1
def FFin {α : Type} (L : List α) (s : Nat) : Prop := s = L.length
theorem Tree_some (b : Nat) (w : World) : Calls Tryz.prog 55 #[.pointer (some ⟨b, 0, none⟩)] w fun e w' =>
    e = .returned (.func (.func 86) #[] #[.pointer (some ⟨w.heap.size, 0, none⟩)]) ∧ w' = w.alloc (.cells #[.pointer (some ⟨b, 0, none⟩)] 24 (0, 0)) := by
  go_enter Tryz.func55, Tryz.ntmps55
  go_wp2
  go_ret
  exact ⟨rfl, rfl⟩
set_option maxRecDepth 100000 in
theorem ftree1_iter {σ : FSt} {f : Nat} {S : Nat → Prop} {p : Nat → Nat} (hV : Inv σ 0) (hcap : CapB σ) (n box : Nat) (I : Nat → (Nat → Prop) → World → Prop)
    (hI : ∀ s A W, I s A W → FilesAt W f σ S p ∧ W.cell? ⟨box, 0, none⟩ = some (.pointer (some ⟨f, 0, none⟩)))
    (l : Nat) (J : Nat → (Nat → Prop) → World → Prop) (Jx : (Nat → Prop) → World → Prop) (W : World) (hJI : ∀ s A W, J s A W → I s A W)
    (hJf : ∀ s (A : Nat → Prop) W W', J s A W → Fr (fun k => ¬ A k) W W' → J s A W') (_ : ∀ (A : Nat → Prop) W W', Jx A W → Fr (fun k => ¬ A k) W W' → Jx A W') (hJA : ∀ s A W, J s A W → ∀ k, A k → k < W.heap.size)
    (hY : ∀ s A x s' W, FStep (treeL σ) s x s' → J s A W → YieldAt FW (n - 1) Tryz.prog l (eenc x) W fun e W' => Fr A W W' ∧ ((e = .returned (.bool true) ∧ J s' (fun k => A k ∨ (W.heap.size ≤ k ∧ k < W'.heap.size)) W') ∨ (e = .returned (.bool false) ∧ Jx (fun k => A k ∨ (W.heap.size ≤ k ∧ k < W'.heap.size)) W')))
    (h0 : J 0 (fun k => k < W.heap.size) W) :
    CallsIn FW n Tryz.prog 86 (#[.func (.yield l) #[] #[]] ++ #[.pointer (some ⟨box, 0, none⟩)]) W fun e W' => (∃ v, e = .returned v) ∧ ((∃ s A, FFin (treeL σ) s ∧ J s A W') ∨ ∃ A, Jx A W') := by
  simp only [List.append_toArray, List.cons_append, List.nil_append]
  refine callsIn_wide.2 ?_
  obtain ⟨hA, hbox⟩ := hI _ _ _ (hJI _ _ _ h0)
  obtain ⟨r, hr, hrd, _⟩ := hA.live.root
  have c2 : W.cell? ⟨f, 2, none⟩ = some (.pointer (some ⟨p 1, 0, none⟩)) := by obtain ⟨_, _, _, _, hF⟩ := hA; rw [blk_cell hF.hb]; rfl
  have hrec := below_any (L := treeL σ) (l := l) (Jx := Jx) hV hcap (fun s A W h => (hI _ _ _ (hJI s A W h)).1) hJf hJA (fun s A W h hj => fyield_wide (hY s A _ _ W ⟨h, rfl, rfl⟩ hj)) 101 1 0 0 [] _ W [] r hr hrd (.base (.inl rfl)) rfl (by simp) (by simp [treeL]) h0
  rw [show baL [] = (⟨#[]⟩ : ByteArray) from rfl] at hrec
  have hrec := hide hrec
  have hend : FFin (treeL σ) (0 + (treeF σ 101 [] 1).length) := by unfold FFin treeL; omega
  have Hend := hide hend
  clear hA hr hrd h0 hend hI hJI hJf hJA hY
  refine (callsIn_wide (n := 5)).1 ?_
  refine callsIn_of_wp_marks Tryz.func86 rfl trivial ?_ rfl
  simp only [Tryz.ntmps86, List.size_toArray, List.length_cons, List.length_nil, Nat.reduceAdd, Nat.reduceSub, Array.replicate_succ, Array.replicate_zero, List.push_toArray, List.append_toArray, List.nil_append, List.cons_append]
  gi_wp2_with (refine ⟨trivial, ?_⟩; gi_at_call 87; refine (callsIn_wide.2 hrec.out).mono ?_; rintro e w' ⟨_, (⟨rfl, A', hJ', _⟩ | ⟨rfl, A', hJ'⟩)⟩)
  · exact ⟨_, results_none rfl _ _ _, ⟨_, rfl⟩, .inl ⟨_, A', Hend.out, hJ'⟩⟩
  · exact ⟨_, results_none rfl _ _ _, ⟨_, rfl⟩, .inr ⟨A', hJ'⟩⟩
theorem Tryz.infoEntry : (Tryz.prog.info? 98).map (fun i => (i.zero, i.size, i.bytes)) = some (some (.agg #[.string ⟨#[]⟩, .int .i64 0, .int .i64 0, .string ⟨#[]⟩]), 4, 48) := by kernel_rfl
def entC (x : EntQ) : List Value := [.string (baL x.path), .int .i64 x.kind, .int .i64 x.mode, .string (baL x.data)]
def entCells (L : List EntQ) : List Value := (L.map entC).flatten
theorem entCells_length (L : List EntQ) : (entCells L).length = L.length * 4 := by
  induction L with
  | nil => rfl
  | cons x L ih =>
    unfold entCells at ih ⊢
    simp only [List.map_cons, List.flatten_cons, List.length_append, ih, List.length_cons]
    simp [entC]
    omega
theorem entCells_take (L : List EntQ) (k : Nat) (hk : k < L.length) : entCells (L.take (k + 1)) = entCells (L.take k) ++ entC L[k] := by
  unfold entCells
  rw [List.take_succ_eq_append_getElem hk, List.map_append, List.flatten_append]
  simp
/-- A row of entries. -/
def EntRow (w : World) (base : Nat) (v : Value) (L : List EntQ) : Prop := w.ownsRow base 98 4 v L.length (entCells L)
def tactx (f h : Nat) (x : EntQ) (xb : Nat) : Act := ⟨#[.pointer (some ⟨f, 0, none⟩), undef, .slice none 0 0, .pointer (some ⟨h, 0, none⟩), .pointer (some ⟨xb, 0, none⟩), .pointer (some ⟨f, 0, none⟩), .func (.func 86) #[] #[.pointer (some ⟨h + 1, 0, none⟩)], entV x,
  undef, undef, undef, undef, undef], []⟩
def TreePost (σ : FSt) (w : World) (e : Ending) (w' : World) : Prop := ∃ v, e = .returned v ∧ EntRow w' w.heap.size v (treeL σ) ∧ Fr (fun _ => False) w w'
structure TreeI (w : World) (f : Nat) (L : List EntQ) (s : Nat) (A : Nat → Prop) (W : World) : Prop where
  le : s ≤ L.length
  lo : ∀ k, k < w.heap.size + 4 → A k
  bl : ∃ v, W.heap[w.heap.size]? = some (.cells #[v] 39 (0, 0)) ∧ W.ownsRow (w.heap.size + 4) 98 4 v s (entCells (L.take s)) ∧ ∀ g, v.ownBlock = some g → A g
  bi : W.heap[w.heap.size + 1]? = some (.cells #[.pointer (some ⟨f, 0, none⟩)] 24 (0, 0))
  fr : Fr (fun _ => False) w W
theorem TreeI.frame {w W W' : World} {f : Nat} {L : List EntQ} {s : Nat} {A : Nat → Prop} (h : TreeI w f L s A W) (hf : Fr (fun k => k = w.heap.size + 2 ∨ k = w.heap.size + 3 ∨ ¬ A k) W W') : TreeI w f L s A W' := by
  obtain ⟨v, h1, h2, h3⟩ := h.bl
  have hno : ∀ k, k ≠ w.heap.size + 2 → k ≠ w.heap.size + 3 → A k → ¬ (k = w.heap.size + 2 ∨ k = w.heap.size + 3 ∨ ¬ A k) := fun k h1 h2 h3 e => by
    rcases e with e | e | e
    · exact h1 e
    · exact h2 e
    · exact e h3
  exact ⟨h.le, h.lo, ⟨v, hf.get h1 (hno _ (by omega) (by omega) (h.lo _ (by omega))), own_frame h2 hf (fun g e => hno _ (by have := (h2.lt g e).1; omega) (by have := (h2.lt g e).1; omega) (h3 g e)), h3⟩,
    hf.get h.bi (hno _ (by omega) (by omega) (h.lo _ (by omega))), h.fr.trans' hf (fun i hi e => hno _ (by omega) (by omega) (h.lo _ (by omega)) e)⟩
set_option maxRecDepth 100000 in
set_option maxHeartbeats 4000000 in
theorem tree_any (w : World) (f : Nat) (σ : FSt) (S : Nat → Prop) (p : Nat → Nat) (h : FilesAt w f σ S p) (hV : Inv σ 0) (hc : Caps σ 1000000) :
    Calls Tryz.prog 16 #[.pointer (some ⟨f, 0, none⟩)] w (TreePost σ w) := by
  have hcap : CapB σ := fun i n hn => by have := hc i n hn; omega
  have hcount := treeL_count hV h.live hc
  obtain ⟨i0, hinf, hz0, hz1, hz2⟩ := info_parts Tryz.infoEntry
  refine (callsIn_wide (n := 8)).1 ?_
  refine callsIn_of_wp_marks Tryz.func16 rfl trivial ?_ rfl
  simp only [Tryz.ntmps16, List.size_toArray, List.length_cons, List.length_nil, Nat.reduceAdd, Nat.reduceSub, Array.replicate_succ, Array.replicate_zero, List.push_toArray, List.append_toArray, List.nil_append, List.cons_append]
  gi_wp2_with (refine ⟨trivial, ?_⟩; gi_at_call 55; refine (callsIn_wide.2 (Tree_some f _)).mono ?_; rintro e w' ⟨rfl, rfl⟩)
  have hbl := blk_alloc (blk_new w (.cells #[.slice none 0 0] 39 (0, 0))) (.cells #[.pointer (some ⟨f, 0, none⟩)] 24 (0, 0))
  have hbi := blk_new' (w.alloc (.cells #[.slice none 0 0] 39 (0, 0))) (.cells #[.pointer (some ⟨f, 0, none⟩)] 24 (0, 0)) (w.heap.size + 1) (by simp)
  have hz : ((w.alloc (.cells #[.slice none 0 0] 39 (0, 0))).alloc (.cells #[.pointer (some ⟨f, 0, none⟩)] 24 (0, 0))).heap.size = w.heap.size + 2 := by simp
  have hfw : Fr (fun _ => False) w ((w.alloc (.cells #[.slice none 0 0] 39 (0, 0))).alloc (.cells #[.pointer (some ⟨f, 0, none⟩)] 24 (0, 0))) := ((Fr.refl _ _).alloc _).alloc _
  generalize ((w.alloc (.cells #[.slice none 0 0] 39 (0, 0))).alloc (.cells #[.pointer (some ⟨f, 0, none⟩)] 24 (0, 0))) = w1 at *
  obtain ⟨L, hLe⟩ : ∃ L, Hid (L = treeL σ) := ⟨_, hide rfl⟩
  have hI0 : TreeI w f L 0 (fun k => k < w1.heap.size + 2) w1 := ⟨by omega, fun k hk => by omega, ⟨_, hbl, by simpa [entCells] using World.ownsRow_nil _ _ _ _, fun g e => by cases e⟩, hbi, hfw⟩
  clear hbl hbi hfw
  refine rf_law3 (α := EntQ) (σ := Nat) 86 #[.pointer (some ⟨w.heap.size + 1, 0, none⟩)] rfl (enters_of Tryz.func86 (by kernel_rfl) rfl) eenc (fun _ => rfl)
    (FStep L) (FFin L) 0 (TreeI w f L) (fun _ _ _ => False)
    (fun s A X Y h1 hf => h1.frame (by rw [hz] at hf; exact hf)) ?hImono (fun _ _ _ _ h _ => h) (fun _ _ _ _ h _ => h) hI0 ?hiter
    (fun x a' W' => ∃ xb : Nat, a' = tactx f w.heap.size x xb ∧ w1.heap.size + 2 ≤ xb ∧ W'.heap[xb]? = some (.cells #[.string (baL x.path), .int .i64 x.kind, .int .i64 x.mode, .string (baL x.data)] 98 (0, 0))) ?hAx ?assign ?body ?done ?stop
  case hImono =>
    rintro s A A' X h1 hA
    obtain ⟨v, k1, k2, k3⟩ := h1.bl
    exact ⟨h1.le, fun k hk => hA _ (h1.lo k hk), ⟨v, k1, k2, fun g e => hA _ (k3 g e)⟩, h1.bi, h1.fr⟩
  case hiter =>
    intro l' J' Jx' W' hJI' hJf' hJxf' hJA' hY' h0'
    obtain rfl := hLe.out
    refine ftree1_iter (f := f) (S := S) (p := p) hV hcap (8 - 1) (w.heap.size + 1) (TreeI w f (treeL σ)) ?_ l' J' Jx' W' hJI' hJf' hJxf' hJA' hY' h0'
    intro s A X h1
    exact ⟨h.frame h1.fr (fun _ _ _ e => e), by rw [blk_cell h1.bi]; rfl⟩
  case hAx =>
    rintro x a' X Y ⟨xb, h1, h2, h5⟩ hf
    exact ⟨xb, h1, h2, hf.get h5 (by omega)⟩
  case assign =>
    rintro l' s A x s' X K _ _ hsz hK
    have hK := hide hK
    simp only [eenc, entV]
    gi_wp2
    exact hK.out _ _ ((Fr.refl _ _).alloc _) ⟨X.heap.size, rfl, hsz, blk_new _ _⟩
  case body =>
    rintro l' s A x s' a' X ⟨hlt, hxx, rfl⟩ hI ⟨xb, rfl, g11, g12⟩ hsz hA0 hA1
    obtain ⟨le, lo, ⟨v, k1, k2, k3⟩, bi, fr⟩ := hI
    have htk := entCells_take L s hlt
    rw [← hxx] at htk
    have Htk := hide htk
    have hlen := hlt
    rw [hLe.out] at hlen
    obtain ⟨va, vc, rfl⟩ := own_form k2
    have c1 : X.cell? ⟨w.heap.size, 0, none⟩ = some (.slice va s vc) := by rw [blk_cell k1]; rfl
    have z1 := blk_frozen k1
    have c2 : X.cell? ⟨xb, 0, none⟩ = some (.string (baL x.path)) := by rw [blk_cell g12]; rfl
    have c3 : X.cell? ⟨xb, 1, none⟩ = some (.int .i64 x.kind) := by rw [blk_cell g12]; rfl
    have c4 : X.cell? ⟨xb, 2, none⟩ = some (.int .i64 x.mode) := by rw [blk_cell g12]; rfl
    have c6 : X.cell? ⟨xb, 3, none⟩ = some (.string (baL x.data)) := by rw [blk_cell g12]; rfl
    clear htk hxx g12 h
    unfold tactx
    gi_wp2_with (gi_at_builtin; refine wpListIn_append_own_at _ rfl _ _ 39 rfl (w.heap.size + 4) 98 i0 _ 4 48 Tryz.underlying39 hinf hz0 hz1 hz2 rfl (by decide) _ _ _ rfl (k2.alloc _) ⟨X.heap.size, 0, none⟩ 1 1 (entC x) rfl rfl ?c1 ?c2 ?c3 ?c4 ?c5 ?_)
    case c2 => first | rfl | (intro u hu; simp [entC] at hu; rcases hu with rfl | rfl | rfl | rfl <;> rfl)
    case c3 => unfold maxLen; omega
    case c4 => omega
    case c5 => first | omega | (simp only [World.size_alloc]; omega)
    case c1 =>
      intro j u hj
      have hadd : (⟨X.heap.size, 0, none⟩ : Addr).add j = ⟨X.heap.size, j, none⟩ := by unfold Addr.add; split <;> simp_all
      rw [hadd, blk_cell (blk_new _ _)]
      simpa [entC] using hj
    intro v' w3 hown' hgrow _ hat
    obtain ⟨va', vc', rfl⟩ := own_form hown'
    have hf1 : Fr (fun q => (Value.slice va s vc).ownBlock = some q) X w3 := ((Fr.refl _ _).alloc _).trans (Fr.of_grown hgrow)
    have hvb : ∀ q, (Value.slice va s vc).ownBlock = some q → w.heap.size + 4 ≤ q := fun q e => (k2.lt _ e).1
    have hs3 := hf1.size
    have k13 := hf1.get k1 (fun e => by have := hvb _ e; omega)
    have bi3 := hf1.get bi (fun e => by have := hvb _ e; omega)
    have hcell : w3.cell? ⟨w.heap.size, 0, none⟩ = some (.slice va s vc) := by rw [blk_cell k13]; rfl
    have hfz := blk_frozen k13
    have hset := frSet w3 w.heap.size 0 (.slice va' (s + 1) vc')
    have hfin := hide (show rfPost3 w1.heap.size A (TreeI w f L) (fun _ _ _ => False) (s + 1) X .normal ⟨#[], []⟩ (w3.setCell ⟨w.heap.size, 0, none⟩ (.slice va' (s + 1) vc')) from by
      have hall : Fr A X (w3.setCell ⟨w.heap.size, 0, none⟩ (.slice va' (s + 1) vc')) := (hf1.mono (fun k _ e => k3 k e)).trans (hset.mono (fun k _ e => e ▸ lo _ (by omega)))
      have hg2 : ∀ g, (Value.slice va' (s + 1) vc').ownBlock = some g → A g ∨ (X.heap.size ≤ g ∧ g < w3.heap.size) := fun g e => by
        rcases hat with hat | hat
        · rw [hat] at e; exact .inl (k3 g e)
        · rw [hat] at e
          simp only [Option.some.injEq] at e
          exact .inr ⟨by omega, (hown'.lt _ (by rw [hat, ← e])).2⟩
      have hb2 := blk_set k13 0 (.slice va' (s + 1) vc')
      refine ⟨⟨?_, ?_⟩, hall, hlt, fun k hk => .inl (lo k hk), ⟨_, hb2, ?_, fun g e => by simpa using hg2 g e⟩, blk_set_other bi3 _ _ (by simp), ?_⟩
      · rw [Below.heap_setCell _ _ _ _ (by simp; omega)]; exact hf1.block _ (by omega) (fun e => by have := hvb _ e; omega)
      · rw [Below.heap_setCell _ _ _ _ (by simp; omega)]; exact hf1.block _ (by omega) (fun e => by have := hvb _ e; omega)
      · rw [Htk.out]
        exact own_frame hown' hset (fun g e e2 => by have := (hown'.lt _ e).1; omega)
      · exact (fr.trans' hf1 (fun i hi e => by have := hvb _ e; omega)).trans' hset (fun i hi e => by omega))
    clear hf1 hset hown' hgrow k13 bi3 c1 z1 c2 c3 c4 c6
    gi_wp2
    exact hfin.out
  case done =>
    rintro s A X hfin hI hK
    obtain ⟨v, k1, k2, k3⟩ := hI.bl
    have hc : X.cell? ⟨w.heap.size, 0, none⟩ = some v := by rw [blk_cell k1]; rfl
    have hput : Fr (fun k => k = w1.heap.size) X (X.putObj w1.heap.size (.deferred none)) := fr_putObj _ rfl
    have hs : s = L.length := hfin
    subst hs
    rw [List.take_length, hLe.out] at k2
    have hfr := hI.fr
    have h9 : Fr (fun _ => False) w (X.putObj w1.heap.size (.deferred none)) := hfr.trans' hput (fun i hi e => by omega)
    have hfin := hide (show EntRow (X.putObj w1.heap.size (.deferred none)) w.heap.size v (treeL σ) ∧ Fr (fun _ => False) w (X.putObj w1.heap.size (.deferred none)) from ⟨own_base (own_frame k2 hput (fun g e e2 => by have := (k2.lt g e).1; omega)) (fun g e => by have := (k2.lt g e).1; omega), h9⟩)
    clear hI h9 hfr k2 h
    gi_wp2
    refine ⟨by simp, .inl ⟨_, _, rfl, run_takeDeferred hK, ?_⟩⟩
    exact ⟨_, results_tmp rfl _ _ _, v, rfl, hfin.out⟩
  case stop =>
    rintro c A W h9 _
    exact h9.elim
end Go.Proofs.YthikjdpnlahkfaaGreatDoor

/- shyardref08.Same at rows that hold the same entries. Conditions: the contract's own premises. -/
namespace Go.Proofs.YthikjdpnlahkfaaGreatDoor
open Go.RowKit

theorem ent_cells {w : World} {base : Nat} {a : Option Addr} {n cap : Nat} {L : List EntQ} (h : EntRow w base (.slice a n cap) L) : n = L.length ∧ (0 < L.length → ∃ g, a = some ⟨g, 0, none⟩ ∧ base ≤ g ∧ g < w.heap.size ∧ ∀ k (hk : k < L.length),
    w.cell? ⟨g, k * 4, none⟩ = some (.string (baL L[k].path)) ∧ w.cell? ⟨g, k * 4 + 1, none⟩ = some (.int .i64 L[k].kind) ∧ w.cell? ⟨g, k * 4 + 2, none⟩ = some (.int .i64 L[k].mode) ∧ w.cell? ⟨g, k * 4 + 3, none⟩ = some (.string (baL L[k].data))) := by
  obtain ⟨h1, h2⟩ := h
  rcases h2 with ⟨h2, h3⟩ | ⟨g, cap', cur, h2, hb, hg, h3, h4, h5, h6⟩
  · cases h2
    exact ⟨h3.symm, fun h0 => by omega⟩
  · cases h2
    refine ⟨rfl, fun h0 => ⟨g, rfl, hb, blk_lt hg, fun k hk => ?_⟩⟩
    have key : ∀ j, j < 4 → w.cell? ⟨g, k * 4 + j, none⟩ = (entC L[k])[j]? := fun j hj => by
      rw [blk_cell hg]
      have e1 : (entCells L)[k * 4 + j]? = (entC L[k])[j]? := by
        have e2 : entCells L = entCells (L.take k) ++ (entC L[k] ++ entCells (L.drop (k + 1))) := by
          rw [← List.append_assoc, ← entCells_take L k hk]
          unfold entCells
          rw [← List.flatten_append, ← List.map_append, List.take_append_drop]
        rw [e2, List.getElem?_append_right (by rw [entCells_length, List.length_take]; omega), entCells_length, List.length_take, show k * 4 + j - min k L.length * 4 = j by rw [Nat.min_eq_left (by omega)]; omega, List.getElem?_append_left (by simp [entC]; omega)]
      rw [← e1, ← h6]
      rw [List.getElem?_take_of_lt (by omega), Array.getElem?_toList]
    have k0 := key 0 (by omega)
    exact ⟨k0, key 1 (by omega), key 2 (by omega), key 3 (by omega)⟩
def SameRel (w : World) (len gk : Nat) (i : Value) (wr : World) : Prop := ∃ k, gk + k = len ∧ i = .int .i64 k ∧ Fr (fun _ => False) w wr
set_option maxRecDepth 100000 in
set_option maxHeartbeats 2000000 in
theorem same_any (w : World) (b1 b2 : Nat) (v1 v2 : Value) (L : List EntQ) (h1 : EntRow w b1 v1 L) (h2 : EntRow w b2 v2 L) (hz : L.length ≤ 1000000000) :
    Calls Tryz.prog 15 #[v1, v2] w fun e w' => e = .returned (.bool true) ∧ Fr (fun _ => False) w w' := by
  obtain ⟨a1, c1, rfl⟩ := own_form h1
  obtain ⟨a2, c2, rfl⟩ := own_form h2
  have H1 := hide (ent_cells h1).2
  have H2 := hide (ent_cells h2).2
  clear h1 h2
  go_enter Tryz.func15, Tryz.ntmps15
  go_wp2_with fail
  go_loopg [5] L.length (fun gk i wr => SameRel w L.length gk i wr)
  case atStart => exact ⟨0, by omega, rfl, Fr.refl _ _⟩
  case round =>
    obtain ⟨k, hgk, rfl, hfr⟩ := hrel
    by_cases hlt : k < L.length
    · obtain ⟨g1, rfl, _, l1, hc1⟩ := H1.out (by omega)
      obtain ⟨g2, rfl, _, l2, hc2⟩ := H2.out (by omega)
      obtain ⟨p0, p1, p2, p3⟩ := hc1 k hlt
      obtain ⟨q0, q1, q2, q3⟩ := hc2 k hlt
      have tr : ∀ g, g < w.heap.size → ∀ j, wr.drew.cell? ⟨g, j, none⟩ = w.cell? ⟨g, j, none⟩ := fun g hg j => World.cell?_of_block (w := w) (a := ⟨g, j, none⟩) (hfr.drew.block g hg (fun e => e))
      rw [← tr _ l1] at p0 p1 p2 p3
      rw [← tr _ l2] at q0 q1 q2 q3
      generalize L[k] = x at *
      obtain ⟨xp, xk, xm, xd⟩ := x
      simp only at p0 p1 p2 p3 q0 q1 q2 q3
      have Hfr := hide hfr
      have Hgk := hide hgk
      have hl1 : (0 : Int) ≤ (k : Int) := by omega
      have hl2 : (k : Int) < (L.length : Int) := by omega
      generalize baL xp = bp at *
      generalize baL xd = bd at *
      clear hc1 hc2 tr hfr hgk
      go_wp2_with fail
      refine region_still (by kernel_rfl) (by kernel_rfl) ?_
      repeat go_big_quiet_step (fail)
      refine wpQuiet_nil ?_
      go_wp2_with fail
      go_roundg (gk - 1)
      case measure => have := Hgk.out; omega
      case rel => exact ⟨k + 1, by have := Hgk.out; omega, by go_num, Hfr.out.drew⟩
    · have hkd : ¬ (k : Int) < (L.length : Int) := by omega
      have Hfr := hide hfr
      clear hfr
      go_wp2_with fail
      go_returns
      exact ⟨rfl, Hfr.out⟩
end Go.Proofs.YthikjdpnlahkfaaGreatDoor

/- The tree of files as plain data: a call that answers an error changes nothing; the bytes and the count are those of the inodes. And what a call has made is set aside. Conditions: the lemmas' own premises. -/
namespace Go.Proofs.YthikjdpnlahkfaaGreatDoor
open Go.RowKit

/-- What was made since then is not the tree's. -/
theorem FilesF.aparts {w w' : World} {f : Nat} {σ : FSt} {S : Nat → Prop} {p : Nat → Nat} {dv ev pv : Nat → Value} {lv : Value} (h : FilesF w f σ S p dv ev pv lv) (hf : Fr (fun _ => False) w w') : FilesF w' f σ (fun k => S k ∧ ¬ (w.heap.size ≤ k ∧ k < w'.heap.size)) p dv ev pv lv := by
  have h' := h.frame hf (fun _ _ _ e => e)
  have nl : ∀ i, (σ.nd i).isSome = true → ∃ n, NodeF w p (p i) i n (dv i) (ev i) (pv i) := fun i hi => by
    obtain ⟨n, hn⟩ := Option.isSome_iff_exists.1 hi
    exact ⟨n, h.nd i n hn⟩
  exact ⟨h'.hb, h'.hl, h'.nd, h.inj, h.injd, h.inje, ⟨h.own, by have := blk_lt h.hb; omega⟩, fun g e => ⟨h.ownl g e, by have := (h.hl.lt g e).2; omega⟩,
    fun i hi => ⟨h.ownn i hi, by obtain ⟨n, hn⟩ := nl i hi; have := blk_lt hn.hb; omega⟩, fun i g hi e => ⟨h.ownd i g hi e, by obtain ⟨n, hn⟩ := nl i hi; have := hn.data.lt e; omega⟩,
    fun i m hi e => ⟨h.owne i m hi e, by obtain ⟨n, hn⟩ := nl i hi; have := hn.map_lt e; omega⟩, fun k hk => ⟨h.up k (Nat.le_trans hf.size hk), by omega⟩, h.live⟩
theorem FilesAt.aparts {w w' : World} {f : Nat} {σ : FSt} {S : Nat → Prop} {p : Nat → Nat} (h : FilesAt w f σ S p) (hf : Fr (fun _ => False) w w') : FilesAt w' f σ (fun k => S k ∧ ¬ (w.heap.size ≤ k ∧ k < w'.heap.size)) p := by
  obtain ⟨_, _, _, _, h⟩ := h
  exact ⟨_, _, _, _, h.aparts hf⟩
/-- A directory has no bytes. -/
def DirD (σ : FSt) : Prop := ∀ i n, σ.nd i = some n → n.d = true → n.data = []
theorem FilesAt.dird {w : World} {f : Nat} {σ : FSt} {S : Nat → Prop} {p : Nat → Nat} (h : FilesAt w f σ S p) : DirD σ := fun i n hn hd => by
  obtain ⟨_, _, _, hN⟩ := h.node hn
  exact (hN.dir hd).1
/-- An entry row stands where nothing of it is touched. -/
theorem EntRow.frame {w w' : World} {base : Nat} {v : Value} {L : List EntQ} {T : Nat → Prop} (h : EntRow w base v L) (hf : Fr T w w') (hn : ∀ q, base ≤ q → q < w.heap.size → ¬ T q) : EntRow w' base v L :=
  own_frame h hf fun g e => hn g (h.lt g e).1 (h.lt g e).2
theorem makeR_still {σ : FSt} {i m : Int} {s : List UInt8} {d : Bool} (h : (makeR σ i s d m).1 ≠ 0) : (makeR σ i s d m).2 = σ := by
  unfold makeR at h ⊢
  split
  · rfl
  · rename_i e; rw [if_neg e] at h; exact absurd rfl h
theorem ite_still {E : Int} {σ τ : FSt} (h : (if E ≠ 0 then ((E, σ) : Int × FSt) else (0, τ)).1 ≠ 0) : (if E ≠ 0 then ((E, σ) : Int × FSt) else (0, τ)).2 = σ := by
  split
  · rfl
  · rename_i e; rw [if_neg e] at h; exact absurd rfl h
theorem truncR_still {σ : FSt} {i n : Int} (h : (truncR σ i n).1 ≠ 0) : (truncR σ i n).2 = σ := by
  unfold truncR at h ⊢
  split at h
  · rfl
  · repeat' split at h
    all_goals first | (simp at h; done) | (simp_all; done) | (simp_all; split <;> rfl)
theorem writeR_still {σ : FSt} {i a : Int} {s : List UInt8} (h : (writeR σ i a s).2.1 ≠ 0) : (writeR σ i a s).2.2 = σ := by
  unfold writeR at h ⊢
  split at h
  · rfl
  · repeat' split at h
    all_goals first | (simp at h; done) | (simp_all; done) | (simp_all; split <;> rfl)
theorem chmodR_still {σ : FSt} {i m : Int} (h : (chmodR σ i m).1 ≠ 0) : (chmodR σ i m).2 = σ := by
  unfold chmodR at h ⊢
  split at h
  · rfl
  · simp at h
theorem holdR_still {σ : FSt} {i : Int} (h : (holdR σ i).1 ≠ 0) : (holdR σ i).2 = σ := by
  unfold holdR at h ⊢
  split at h
  · rfl
  · simp at h
theorem dropR_still {σ : FSt} {i : Int} (h : (dropR σ i).1 ≠ 0) : (dropR σ i).2 = σ := by
  unfold dropR at h ⊢
  split at h
  · rfl
  · split at h
    · simp_all
    · simp at h
/-- Whoever only asks, or is refused, changes nothing. -/
theorem ask_keeps {σ : FSt} {c : CallQ} (h : (askA σ c).e ≠ 0 ∨ c.what = 0 ∨ c.what = 7 ∨ c.what = 11 ∨ c.what = 12 ∨ c.what = 15) : askS σ c = σ := by
  unfold askS
  split
  · rename_i e
    rw [e] at h
    unfold askA at h
    rw [if_neg (by omega), if_pos e] at h
    simp only [errA] at h
    exact makeR_still (h.resolve_right (by decide))
  split
  · rename_i e1 e
    rw [e] at h
    unfold askA at h
    rw [if_neg (by omega), if_neg e1, if_pos e] at h
    simp only [errA] at h
    exact makeR_still (h.resolve_right (by decide))
  split
  · rename_i e1 e2 e
    rw [e] at h
    unfold askA at h
    rw [if_neg (by omega), if_neg e1, if_neg e2, if_pos e] at h
    simp only [errA] at h
    exact ite_still (h.resolve_right (by decide))
  split
  · rename_i e1 e2 e3 e
    rw [e] at h
    unfold askA at h
    rw [if_neg (by omega), if_neg e1, if_neg e2, if_neg e3, if_pos e] at h
    simp only [errA] at h
    exact ite_still (h.resolve_right (by decide))
  split
  · rename_i e1 e2 e3 e4 e
    rw [e] at h
    unfold askA at h
    rw [if_neg (by omega), if_neg e1, if_neg e2, if_neg e3, if_neg e4, if_pos e] at h
    simp only [errA] at h
    exact ite_still (h.resolve_right (by decide))
  split
  · rename_i e1 e2 e3 e4 e5 e
    rw [e] at h
    unfold askA at h
    rw [if_neg (by omega), if_neg e1, if_neg e2, if_neg e3, if_neg e4, if_neg e5, if_pos e] at h
    simp only [errA] at h
    exact ite_still (h.resolve_right (by decide))
  split
  · rename_i e1 e2 e3 e4 e5 e6 e
    rw [e] at h
    unfold askA at h
    rw [if_neg (by omega), if_neg e1, if_neg e2, if_neg e3, if_neg e4, if_neg e5, if_neg e6, if_neg (by omega), if_pos e] at h
    simp only [errA] at h
    exact writeR_still (h.resolve_right (by decide))
  split
  · rename_i e1 e2 e3 e4 e5 e6 e8 e
    rw [e] at h
    unfold askA at h
    rw [if_neg (by omega), if_neg e1, if_neg e2, if_neg e3, if_neg e4, if_neg e5, if_neg e6, if_neg (by omega), if_neg e8, if_pos e] at h
    simp only [errA] at h
    exact truncR_still (h.resolve_right (by decide))
  split
  · rename_i e1 e2 e3 e4 e5 e6 e8 e9 e
    rw [e] at h
    unfold askA at h
    rw [if_neg (by omega), if_neg e1, if_neg e2, if_neg e3, if_neg e4, if_neg e5, if_neg e6, if_neg (by omega), if_neg e8, if_neg e9, if_pos e] at h
    simp only [errA] at h
    exact chmodR_still (h.resolve_right (by decide))
  split
  · rename_i e1 e2 e3 e4 e5 e6 e8 e9 e10 e
    rw [e] at h
    unfold askA at h
    rw [if_neg (by omega), if_neg e1, if_neg e2, if_neg e3, if_neg e4, if_neg e5, if_neg e6, if_neg (by omega), if_neg e8, if_neg e9, if_neg e10, if_neg (by omega), if_neg (by omega), if_pos e] at h
    simp only [errA] at h
    exact holdR_still (h.resolve_right (by decide))
  split
  · rename_i e1 e2 e3 e4 e5 e6 e8 e9 e10 e13 e
    rw [e] at h
    unfold askA at h
    rw [if_neg (by omega), if_neg e1, if_neg e2, if_neg e3, if_neg e4, if_neg e5, if_neg e6, if_neg (by omega), if_neg e8, if_neg e9, if_neg e10, if_neg (by omega), if_neg (by omega), if_neg e13, if_pos e] at h
    simp only [errA] at h
    exact dropR_still (h.resolve_right (by decide))
  · rfl
/-- The bytes and the count of the first inodes. -/
def sumTo (σ : FSt) (m : Nat) : Nat := ((σ.take m).map ndLen).sum
def cntTo (σ : FSt) (m : Nat) : Nat := ((σ.take m).filter (·.isSome)).length
theorem sumTo_all {σ : FSt} {m : Nat} (h : σ.length ≤ m) : sumTo σ m = σ.byts := by unfold sumTo FSt.byts; rw [List.take_of_length_le h]
theorem cntTo_all {σ : FSt} {m : Nat} (h : σ.length ≤ m) : cntTo σ m = σ.cnt := by unfold cntTo FSt.cnt; rw [List.take_of_length_le h]
theorem nd_succ (σ : FSt) (m : Nat) : σ.nd (m + 1) = (σ[m]?).join := by
  unfold FSt.nd
  rw [if_neg (by omega), Nat.add_sub_cancel]
theorem sumTo_none {σ : FSt} {m : Nat} (h : σ.nd (m + 1) = none) : sumTo σ (m + 1) = sumTo σ m ∧ cntTo σ (m + 1) = cntTo σ m := by
  rw [nd_succ] at h
  unfold sumTo cntTo
  cases hm : σ[m]? with
  | none =>
    have := List.getElem?_eq_none_iff.1 hm
    rw [List.take_of_length_le (by omega : σ.length ≤ m + 1), List.take_of_length_le this]
    exact ⟨rfl, rfl⟩
  | some o =>
    rw [hm] at h
    obtain rfl : o = none := h
    rw [List.take_add_one, hm]
    simp [ndLen]
theorem sumTo_some {σ : FSt} {m : Nat} {n : Nd} (h : σ.nd (m + 1) = some n) : sumTo σ (m + 1) = sumTo σ m + n.data.length ∧ cntTo σ (m + 1) = cntTo σ m + 1 := by
  rw [nd_succ] at h
  unfold sumTo cntTo
  cases hm : σ[m]? with
  | none => rw [hm] at h; cases h
  | some o =>
    rw [hm] at h
    obtain rfl : o = some n := h
    rw [List.take_add_one, hm]
    simp [ndLen]
theorem sumTo_le {σ : FSt} (m : Nat) (h : σ.byts ≤ 65536) : sumTo σ m ≤ 65536 := by
  refine Nat.le_trans ?_ h
  unfold sumTo FSt.byts
  conv => rhs; rw [← List.take_append_drop m σ]
  rw [List.map_append, List.sum_append]
  omega
theorem cntTo_le {σ : FSt} (m : Nat) : cntTo σ m ≤ m := by
  unfold cntTo
  exact Nat.le_trans (List.length_filter_le _ _) (List.length_take_le _ _)
end Go.Proofs.YthikjdpnlahkfaaGreatDoor
