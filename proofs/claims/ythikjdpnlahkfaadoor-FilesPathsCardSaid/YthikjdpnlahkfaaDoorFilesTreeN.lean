/- The tree of files as plain data: how many entries are told at most. No program in sight; no condition. -/
import Derived.Test.YthikjdpnlahkfaaDoorFilesTreeS
namespace Go.Proofs.YthikjdpnlahkfaaDoor
open Go.RowKit

theorem Under.depth {σ : FSt} {k : Nat} : ∀ {m x : Nat}, Dep σ k k x m → ∀ {dx : Nat}, Dep σ 0 1 x dx → ∃ dk, Dep σ 0 1 k dk ∧ dx = dk + m
  | _, _, .base _, dx, hd => ⟨dx, hd, rfl⟩
  | _, _, .up h1 h2 h3 h4 h5 h6, dx, hd => by
    obtain ⟨k', rfl, hd'⟩ := hd.go_up h3 h1
    obtain ⟨dk, h7, h8⟩ := Under.depth h6 hd'
    exact ⟨dk, h7, by omega⟩
theorem Under.same {σ : FSt} {a b : Nat} : ∀ {m x : Nat}, Dep σ a a x m → Dep σ b b x m → a = b
  | 0, x, h1, h2 => (h1.zero rfl).symm.trans (h2.zero rfl)
  | m + 1, x, .up h1 h2 h3 h4 h5 h6, .up g1 g2 g3 g4 g5 g6 => by
    rw [h3] at g3
    cases g3
    exact Under.same h6 g6
/-- Below two directories that are as deep there is nothing in common. -/
theorem Under.uniq {σ : FSt} {a b x d dx : Nat} (ha : Dep σ 0 1 a d) (hb : Dep σ 0 1 b d) (hx : Dep σ 0 1 x dx) (h1 : Under σ a x) (h2 : Under σ b x) : a = b := by
  obtain ⟨m1, h1⟩ := h1
  obtain ⟨m2, h2⟩ := h2
  obtain ⟨d1, a1, a2⟩ := Under.depth h1 hx
  obtain ⟨d2, b1, b2⟩ := Under.depth h2 hx
  have e1 := a1.det ha
  have e2 := b1.det hb
  have : m1 = m2 := by omega
  subst this
  exact Under.same h1 h2
theorem Under.trans_child {σ : FSt} {a k x : Nat} {m : Nd} (hm : σ.nd k = some m) (hd : m.d = true) (hl : m.links ≠ 0) (h1 : k ≠ 1) (hp : m.par = a) : ∀ {j x : Nat}, Dep σ k k x j → x ≠ a → (∀ y j', Dep σ k k y j' → y ≠ a) → Under σ a x
  | _, _, .base _, hx, _ => ⟨1, .up h1 hx hm hd hl (hp ▸ .base (.inr rfl))⟩
  | _, _, .up g1 g2 g3 g4 g5 g6, hx, hall => by
    obtain ⟨j, hj⟩ := Under.trans_child (x := x) hm hd hl h1 hp g6 (hall _ _ g6) hall
    exact ⟨j + 1, .up g1 hx g3 g4 g5 hj⟩
theorem treeF_count {σ : FSt} (h : Inv σ 0) (hL : Live σ) {c : Nat} (hc : Caps σ c) : ∀ (fuel i d : Nat) (P : List UInt8) (n : Nd), σ.nd i = some n → n.d = true → Dep σ 0 1 i d →
    ∃ l : List Nat, l.Nodup ∧ (∀ x ∈ l, Under σ i x ∧ (σ.nd x).isSome = true ∧ ∃ dx, Dep σ 0 1 x dx) ∧ (treeF σ fuel P i).length ≤ l.length * c
  | 0, i, d, P, n, hn, hd, hdep => ⟨[], List.nodup_nil, fun x hx => (by cases hx), by simp [treeF]⟩
  | fuel + 1, i, d, P, n, hn, hd, hdep => by
    have key : ∀ es : List (List UInt8 × Nat), es.Sublist n.ents → ∃ l : List Nat, l.Nodup ∧ (∀ x ∈ l, (∃ q ∈ es, (∃ m, σ.nd q.2 = some m ∧ m.d = true) ∧ Under σ q.2 x) ∧ (σ.nd x).isSome = true ∧ ∃ dx, Dep σ 0 1 x dx) ∧ ((es.map (entL σ (treeF σ fuel) P)).flatten).length ≤ es.length + l.length * c := by
      intro es
      induction es with
      | nil => intro _; exact ⟨[], List.nodup_nil, fun x hx => (by cases hx), by simp⟩
      | cons q es ih =>
        intro hs
        obtain ⟨l, h1, h2, h3⟩ := ih ((List.sublist_cons_self q es).trans hs)
        have hq : q ∈ n.ents := hs.subset (by simp)
        have hqk := kget_of_mem (h.srt _ _ hn) hq
        obtain ⟨m, hm⟩ := Option.isSome_iff_exists.1 (hL.ents i n hn q hq)
        obtain ⟨nm, k⟩ := q
        simp only at hqk hm
        cases hmd : m.d with
        | false =>
          refine ⟨l, h1, fun x hx => ?_, ?_⟩
          · obtain ⟨⟨q', a1, a2⟩, a3⟩ := h2 x hx
            exact ⟨⟨q', List.mem_cons_of_mem _ a1, a2⟩, a3⟩
          · rw [List.map_cons, List.flatten_cons, entL_file hm hmd]
            simp only [List.length_append, List.length_cons, List.length_nil]
            omega
        | true =>
          have hdk := h.deeper hdep hn hqk hm hmd
          obtain ⟨l2, b1, b2, b3⟩ := treeF_count h hL hc fuel k (d + 1) (P ++ nm ++ [slashB]) m hm hmd hdk
          refine ⟨l2 ++ l, List.nodup_append.2 ⟨b1, h1, fun x hx y hy e => ?_⟩, fun x hx => ?_, ?_⟩
          · subst e
            obtain ⟨c1, c2, dx, c3⟩ := b2 x hx
            obtain ⟨⟨q', a1, ⟨m', a2, a3⟩, a4⟩, _⟩ := h2 x hy
            have hq' : q' ∈ n.ents := hs.subset (List.mem_cons_of_mem _ a1)
            have hk' := kget_of_mem (h.srt _ _ hn) hq'
            have hd' := h.deeper hdep hn hk' a2 a3
            have e2 := Under.uniq hdk hd' c3 c1 a4
            rw [← e2] at hk' a2
            have hk1 := (h.par_of hn hqk hm hmd).1
            have e3 := h.name_one hm hmd hk1 hn hqk hk'
            have hnd := List.pairwise_cons.1 ((h.srt _ _ hn).sublist hs)
            have := hnd.1 q' a1
            simp only [e3, WideAt.bytes_irrefl] at this
            cases this
          · rcases List.mem_append.1 hx with hx | hx
            · obtain ⟨c1, c2⟩ := b2 x hx
              exact ⟨⟨(nm, k), by simp, ⟨m, hm, hmd⟩, c1⟩, c2⟩
            · obtain ⟨⟨q', a1, a2⟩, a3⟩ := h2 x hx
              exact ⟨⟨q', List.mem_cons_of_mem _ a1, a2⟩, a3⟩
          · rw [List.map_cons, List.flatten_cons, entL_dir hm hmd]
            simp only [List.length_append, List.length_cons, Nat.add_mul]
            omega
    obtain ⟨l, h1, h2, h3⟩ := key n.ents (List.Sublist.refl _)
    have hno : ∀ q ∈ n.ents, (∃ m, σ.nd q.2 = some m ∧ m.d = true) → ¬ Under σ q.2 i := fun q hq ⟨m, hm, hmd⟩ ⟨j, hj⟩ => by
      have hdk := h.deeper hdep hn (kget_of_mem (h.srt _ _ hn) hq) hm hmd
      obtain ⟨dk, e1, e2⟩ := Under.depth hj hdep
      have := e1.det hdk
      omega
    refine ⟨i :: l, List.nodup_cons.2 ⟨fun hi => ?_, h1⟩, fun x hx => ?_, ?_⟩
    · obtain ⟨⟨q, a1, a2, a3⟩, _⟩ := h2 i hi
      exact hno q a1 a2 a3
    · rcases List.mem_cons.1 hx with rfl | hx
      · exact ⟨Under.self _ _, by rw [hn]; rfl, d, hdep⟩
      · obtain ⟨⟨q, a1, ⟨m, hm, hmd⟩, j, hj⟩, a4⟩ := h2 x hx
        obtain ⟨k1, k2, k3⟩ := h.par_of hn (kget_of_mem (h.srt _ _ hn) a1) hm hmd
        have hall : ∀ y j', Dep σ q.2 q.2 y j' → y ≠ i := fun y j' hy e => by
          subst e
          exact hno q a1 ⟨m, hm, hmd⟩ ⟨j', hy⟩
        exact ⟨Under.trans_child (x := x) hm hmd k2 k1 k3 hj (hall _ _ hj) hall, a4⟩
    · rw [treeF_succ hn, List.length_cons, Nat.succ_mul]
      have := (hc i n hn).2.2
      omega
theorem treeL_count {σ : FSt} (h : Inv σ 0) (hL : Live σ) {c : Nat} (hc : Caps σ c) : (treeL σ).length ≤ 101 * c := by
  obtain ⟨n, hn, hd, _⟩ := hL.root
  obtain ⟨l, h1, h2, h3⟩ := treeF_count h hL hc 101 1 0 [] n hn hd (.base (.inl rfl))
  have h4 := nodup_le (σ.length + 1) l h1 fun x hx => by
    obtain ⟨a, b⟩ := FSt.nd_lt (h2 x hx).2.1
    omega
  have := hL.len
  exact Nat.le_trans h3 (Nat.mul_le_mul_right _ (by omega))
end Go.Proofs.YthikjdpnlahkfaaDoor
