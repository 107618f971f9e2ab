/- files.below: what is in a directory, told to whoever asks. Conditions: the contract's own premises. -/
import Derived.Test.YtlhmmiolnbgloaaGreatDoorFilesPathsL
import Derived.Test.YtlhmmiolnbgloaaGreatDoorGlobP
import Derived.Test.YtlhmmiolnbgloaaGreatDoorFilesN
import Derived.Test.YtlhmmiolnbgloaaGreatDoorRangeFuncB
import Derived.Test.YtlhmmiolnbgloaaGreatDoorRangeFuncC
import Derived.Shelf.Abstract
import Derived.Shelf.AbstractIn
import Derived.OwnWalkIn
import Derived.TacticsInMore
import Derived.LoopNIn
import Derived.LoopIn
import Derived.Maps.OwnIn
namespace Go.Proofs.YtlhmmiolnbgloaaGreatDoor
open Go.RowKit Go.Shelf Go.Maps

attribute [local go_sem] Oper.semAt_some

def baL (l : List UInt8) : ByteArray := ⟨l.toArray⟩
def entV (x : EntQ) : Value := .agg #[.string (baL x.path), .int .i64 x.kind, .int .i64 x.mode, .string (baL x.data)]
def eenc (x : EntQ) : Array Value := #[entV x]
/-- What a loop's body makes of the entries that it is told. -/
def YieldsTo (L : List EntQ) (l : Nat) (J : Nat → (Nat → Prop) → World → Prop) (Jx : (Nat → Prop) → World → Prop) : Prop :=
  ∀ (s : Nat) (A : Nat → Prop) (W : World) (h : s < L.length), J s A W → YieldAt FW (8 - 1) Tryz.prog l (eenc L[s]) W fun e W' => Fr A W W' ∧ ((e = .returned (.bool true) ∧ J (s + 1) (fun k => A k ∨ (W.heap.size ≤ k ∧ k < W'.heap.size)) W') ∨ (e = .returned (.bool false) ∧ Jx (fun k => A k ∨ (W.heap.size ≤ k ∧ k < W'.heap.size)) W'))
def BelowPost (J : Nat → (Nat → Prop) → World → Prop) (Jx : (Nat → Prop) → World → Prop) (A0 : Nat → Prop) (W0 : World) (s' : Nat) (e : Ending) (W' : World) : Prop :=
  Fr A0 W0 W' ∧ ((e = .returned (.bool true) ∧ ∃ A' : Nat → Prop, J s' A' W' ∧ ∀ k, A' k → A0 k ∨ W0.heap.size ≤ k) ∨ (e = .returned (.bool false) ∧ ∃ A' : Nat → Prop, Jx A' W'))
/-- What is told of a directory's first entries. -/
def tot (σ : FSt) (fuel : Nat) (P : List UInt8) (n : Nd) (j : Nat) : List EntQ := ((n.ents.take j).map (entL σ (treeF σ fuel) P)).flatten
theorem tot_succ (σ : FSt) (fuel : Nat) (P : List UInt8) (n : Nd) (j : Nat) (h : j < n.ents.length) : tot σ fuel P n (j + 1) = tot σ fuel P n j ++ entL σ (treeF σ fuel) P n.ents[j] := by
  unfold tot
  rw [List.take_succ_eq_append_getElem h, List.map_append, List.flatten_append]
  simp
theorem tot_all {σ : FSt} {i : Nat} {n : Nd} (h : σ.nd i = some n) (fuel : Nat) (P : List UInt8) : treeF σ (fuel + 1) P i = tot σ fuel P n n.ents.length := by
  rw [treeF_succ h, tot, List.take_length]
theorem tot_part (σ : FSt) (fuel : Nat) (P : List UInt8) (n : Nd) (j : Nat) (h : j < n.ents.length) : ∃ r, tot σ fuel P n n.ents.length = tot σ fuel P n j ++ (entL σ (treeF σ fuel) P n.ents[j] ++ r) := by
  refine ⟨((n.ents.drop (j + 1)).map (entL σ (treeF σ fuel) P)).flatten, ?_⟩
  unfold tot
  rw [List.take_length, ← List.append_assoc]
  have e : (entL σ (treeF σ fuel) P) n.ents[j] = (([n.ents[j]] : List (List UInt8 × Nat)).map (entL σ (treeF σ fuel) P)).flatten := by simp
  rw [e, ← List.flatten_append, ← List.map_append, ← List.flatten_append, ← List.map_append, ← List.take_succ_eq_append_getElem h, List.take_append_drop]
theorem conv_data {w : World} {dv : Value} {l : List UInt8} (h : DataV w dv l) : (convert 63 9 dv).run Tryz.prog w = .ok (.string (baL l)) w := by
  rcases h with ⟨rfl, rfl⟩ | ⟨g, cap, cur, rfl, hg, h1, h2, h3⟩
  · exact run_convert_bytes_nil w 63 5 (by kernel_rfl) (by kernel_rfl) 0 0 9 (by kernel_rfl)
  · refine conv_bytes l (fun j hj => ?_) cap
    rw [blk_cell hg, Nat.zero_add]
    have h4 := congrArg (fun x => x[j]?) h3
    simp only [List.getElem?_take_of_lt hj, Array.getElem?_toList, List.getElem?_map, List.getElem?_eq_getElem hj, Option.map_some] at h4
    exact h4
def BRel (σ : FSt) (fuel : Nat) (P : List UInt8) (n : Nd) (s0 : Nat) (A0 : Nat → Prop) (W0 : World) (J : Nat → (Nat → Prop) → World → Prop) (ka : Value) (i : Value) (wr : World) : Prop :=
  ∃ (j : Nat) (A : Nat → Prop), i = .int .i64 j ∧ j ≤ n.ents.length ∧ J (s0 + (tot σ fuel P n j).length) A wr ∧ wr.ownsRow (W0.heap.size + 1) 9 1 ka n.ents.length ((n.ents.map (·.1)).map encStr) ∧ (∀ q, ka.ownBlock = some q → ¬ A q) ∧ Fr A0 W0 wr ∧ (∀ k, A k → A0 k ∨ W0.heap.size ≤ k)
end Go.Proofs.YtlhmmiolnbgloaaGreatDoor

/- The tree of files as plain data: how many entries are told at most. No program in sight; no condition. -/
namespace Go.Proofs.YtlhmmiolnbgloaaGreatDoor
open Go.RowKit

theorem Under.depth {σ : FSt} {k : Nat} : ∀ {m x : Nat}, Dep σ k k x m → ∀ {dx : Nat}, Dep σ 0 1 x dx → ∃ dk, Dep σ 0 1 k dk ∧ dx = dk + m
  | _, _, .base _, dx, hd => ⟨dx, hd, rfl⟩
  | _, _, .up h1 h2 h3 h4 h5 h6, dx, hd => by
    obtain ⟨k', rfl, hd'⟩ := hd.go_up h3 h1
    obtain ⟨dk, h7, h8⟩ := Under.depth h6 hd'
    exact ⟨dk, h7, by omega⟩
theorem Under.same {σ : FSt} {a b : Nat} : ∀ {m x : Nat}, Dep σ a a x m → Dep σ b b x m → a = b
  | 0, x, h1, h2 => (h1.zero rfl).symm.trans (h2.zero rfl)
  | m + 1, x, .up h1 h2 h3 h4 h5 h6, .up g1 g2 g3 g4 g5 g6 => by
    rw [h3] at g3
    cases g3
    exact Under.same h6 g6
/-- Below two directories that are as deep there is nothing in common. -/
theorem Under.uniq {σ : FSt} {a b x d dx : Nat} (ha : Dep σ 0 1 a d) (hb : Dep σ 0 1 b d) (hx : Dep σ 0 1 x dx) (h1 : Under σ a x) (h2 : Under σ b x) : a = b := by
  obtain ⟨m1, h1⟩ := h1
  obtain ⟨m2, h2⟩ := h2
  obtain ⟨d1, a1, a2⟩ := Under.depth h1 hx
  obtain ⟨d2, b1, b2⟩ := Under.depth h2 hx
  have e1 := a1.det ha
  have e2 := b1.det hb
  have : m1 = m2 := by omega
  subst this
  exact Under.same h1 h2
theorem Under.trans_child {σ : FSt} {a k x : Nat} {m : Nd} (hm : σ.nd k = some m) (hd : m.d = true) (hl : m.links ≠ 0) (h1 : k ≠ 1) (hp : m.par = a) : ∀ {j x : Nat}, Dep σ k k x j → x ≠ a → (∀ y j', Dep σ k k y j' → y ≠ a) → Under σ a x
  | _, _, .base _, hx, _ => ⟨1, .up h1 hx hm hd hl (hp ▸ .base (.inr rfl))⟩
  | _, _, .up g1 g2 g3 g4 g5 g6, hx, hall => by
    obtain ⟨j, hj⟩ := Under.trans_child (x := x) hm hd hl h1 hp g6 (hall _ _ g6) hall
    exact ⟨j + 1, .up g1 hx g3 g4 g5 hj⟩
theorem treeF_count {σ : FSt} (h : Inv σ 0) (hL : Live σ) {c : Nat} (hc : Caps σ c) : ∀ (fuel i d : Nat) (P : List UInt8) (n : Nd), σ.nd i = some n → n.d = true → Dep σ 0 1 i d →
    ∃ l : List Nat, l.Nodup ∧ (∀ x ∈ l, Under σ i x ∧ (σ.nd x).isSome = true ∧ ∃ dx, Dep σ 0 1 x dx) ∧ (treeF σ fuel P i).length ≤ l.length * c
  | 0, i, d, P, n, hn, hd, hdep => ⟨[], List.nodup_nil, fun x hx => (by cases hx), by simp [treeF]⟩
  | fuel + 1, i, d, P, n, hn, hd, hdep => by
    have key : ∀ es : List (List UInt8 × Nat), es.Sublist n.ents → ∃ l : List Nat, l.Nodup ∧ (∀ x ∈ l, (∃ q ∈ es, (∃ m, σ.nd q.2 = some m ∧ m.d = true) ∧ Under σ q.2 x) ∧ (σ.nd x).isSome = true ∧ ∃ dx, Dep σ 0 1 x dx) ∧ ((es.map (entL σ (treeF σ fuel) P)).flatten).length ≤ es.length + l.length * c := by
      intro es
      induction es with
      | nil => intro _; exact ⟨[], List.nodup_nil, fun x hx => (by cases hx), by simp⟩
      | cons q es ih =>
        intro hs
        obtain ⟨l, h1, h2, h3⟩ := ih ((List.sublist_cons_self q es).trans hs)
        have hq : q ∈ n.ents := hs.subset (by simp)
        have hqk := kget_of_mem (h.srt _ _ hn) hq
        obtain ⟨m, hm⟩ := Option.isSome_iff_exists.1 (hL.ents i n hn q hq)
        obtain ⟨nm, k⟩ := q
        simp only at hqk hm
        cases hmd : m.d with
        | false =>
          refine ⟨l, h1, fun x hx => ?_, ?_⟩
          · obtain ⟨⟨q', a1, a2⟩, a3⟩ := h2 x hx
            exact ⟨⟨q', List.mem_cons_of_mem _ a1, a2⟩, a3⟩
          · rw [List.map_cons, List.flatten_cons, entL_file hm hmd]
            simp only [List.length_append, List.length_cons, List.length_nil]
            omega
        | true =>
          have hdk := h.deeper hdep hn hqk hm hmd
          obtain ⟨l2, b1, b2, b3⟩ := treeF_count h hL hc fuel k (d + 1) (P ++ nm ++ [slashB]) m hm hmd hdk
          refine ⟨l2 ++ l, List.nodup_append.2 ⟨b1, h1, fun x hx y hy e => ?_⟩, fun x hx => ?_, ?_⟩
          · subst e
            obtain ⟨c1, c2, dx, c3⟩ := b2 x hx
            obtain ⟨⟨q', a1, ⟨m', a2, a3⟩, a4⟩, _⟩ := h2 x hy
            have hq' : q' ∈ n.ents := hs.subset (List.mem_cons_of_mem _ a1)
            have hk' := kget_of_mem (h.srt _ _ hn) hq'
            have hd' := h.deeper hdep hn hk' a2 a3
            have e2 := Under.uniq hdk hd' c3 c1 a4
            rw [← e2] at hk' a2
            have hk1 := (h.par_of hn hqk hm hmd).1
            have e3 := h.name_one hm hmd hk1 hn hqk hk'
            have hnd := List.pairwise_cons.1 ((h.srt _ _ hn).sublist hs)
            have := hnd.1 q' a1
            simp only [e3, WideAt.bytes_irrefl] at this
            cases this
          · rcases List.mem_append.1 hx with hx | hx
            · obtain ⟨c1, c2⟩ := b2 x hx
              exact ⟨⟨(nm, k), by simp, ⟨m, hm, hmd⟩, c1⟩, c2⟩
            · obtain ⟨⟨q', a1, a2⟩, a3⟩ := h2 x hx
              exact ⟨⟨q', List.mem_cons_of_mem _ a1, a2⟩, a3⟩
          · rw [List.map_cons, List.flatten_cons, entL_dir hm hmd]
            simp only [List.length_append, List.length_cons, Nat.add_mul]
            omega
    obtain ⟨l, h1, h2, h3⟩ := key n.ents (List.Sublist.refl _)
    have hno : ∀ q ∈ n.ents, (∃ m, σ.nd q.2 = some m ∧ m.d = true) → ¬ Under σ q.2 i := fun q hq ⟨m, hm, hmd⟩ ⟨j, hj⟩ => by
      have hdk := h.deeper hdep hn (kget_of_mem (h.srt _ _ hn) hq) hm hmd
      obtain ⟨dk, e1, e2⟩ := Under.depth hj hdep
      have := e1.det hdk
      omega
    refine ⟨i :: l, List.nodup_cons.2 ⟨fun hi => ?_, h1⟩, fun x hx => ?_, ?_⟩
    · obtain ⟨⟨q, a1, a2, a3⟩, _⟩ := h2 i hi
      exact hno q a1 a2 a3
    · rcases List.mem_cons.1 hx with rfl | hx
      · exact ⟨Under.self _ _, by rw [hn]; rfl, d, hdep⟩
      · obtain ⟨⟨q, a1, ⟨m, hm, hmd⟩, j, hj⟩, a4⟩ := h2 x hx
        obtain ⟨k1, k2, k3⟩ := h.par_of hn (kget_of_mem (h.srt _ _ hn) a1) hm hmd
        have hall : ∀ y j', Dep σ q.2 q.2 y j' → y ≠ i := fun y j' hy e => by
          subst e
          exact hno q a1 ⟨m, hm, hmd⟩ ⟨j', hy⟩
        exact ⟨Under.trans_child (x := x) hm hmd k2 k1 k3 hj (hall _ _ hj) hall, a4⟩
    · rw [treeF_succ hn, List.length_cons, Nat.succ_mul]
      have := (hc i n hn).2.2
      omega
theorem treeL_count {σ : FSt} (h : Inv σ 0) (hL : Live σ) {c : Nat} (hc : Caps σ c) : (treeL σ).length ≤ 101 * c := by
  obtain ⟨n, hn, hd, _⟩ := hL.root
  obtain ⟨l, h1, h2, h3⟩ := treeF_count h hL hc 101 1 0 [] n hn hd (.base (.inl rfl))
  have h4 := nodup_le (σ.length + 1) l h1 fun x hx => by
    obtain ⟨a, b⟩ := FSt.nd_lt (h2 x hx).2.1
    omega
  have := hL.len
  exact Nat.le_trans h3 (Nat.mul_le_mul_right _ (by omega))
end Go.Proofs.YtlhmmiolnbgloaaGreatDoor

/- files.FS.Tree and shyardlaw08.tree. Conditions: the contracts' own premises. -/
namespace Go.Proofs.YtlhmmiolnbgloaaGreatDoor
open Go.RowKit Go.Shelf Go.Maps

attribute [local go_sem] Oper.semAt_some

theorem fyield_wide {P : Program} {m m' l : Nat} {args : Array Value} {W : World} {R : Ending → World → Prop} (h : YieldAt FW m P l args W R) : YieldAt FW m' P l args W R := by
  obtain ⟨fn, tmps, assign, body, h1, h2, h3⟩ := h
  exact ⟨fn, tmps, assign, body, h1, h2, fun c cs _ => h3 c cs (room_wide _)⟩
/-- A step through a list: its next thing. -/
def FStep {α : Type} (L : List α) (s : Nat) (x : α) (s' : Nat) : Prop := ∃ h : s < L.length, x = L[s] ∧ s' = s + 1
def FFin {α : Type} (L : List α) (s : Nat) : Prop := s = L.length
def entC (x : EntQ) : List Value := [.string (baL x.path), .int .i64 x.kind, .int .i64 x.mode, .string (baL x.data)]
def entCells (L : List EntQ) : List Value := (L.map entC).flatten
theorem entCells_length (L : List EntQ) : (entCells L).length = L.length * 4 := by
  induction L with
  | nil => rfl
  | cons x L ih =>
    unfold entCells at ih ⊢
    simp only [List.map_cons, List.flatten_cons, List.length_append, ih, List.length_cons]
    simp [entC]
    omega
theorem entCells_take (L : List EntQ) (k : Nat) (hk : k < L.length) : entCells (L.take (k + 1)) = entCells (L.take k) ++ entC L[k] := by
  unfold entCells
  rw [List.take_succ_eq_append_getElem hk, List.map_append, List.flatten_append]
  simp
end Go.Proofs.YtlhmmiolnbgloaaGreatDoor
