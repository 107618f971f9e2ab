/- shyardlaw08.ask, joined: over whatever the methods do. Conditions: the contracts' own premises. -/
import Derived.Test.YthikjdpnlahkfaaGreatDoorFilesNilA
namespace Go.Proofs.YthikjdpnlahkfaaGreatDoor
open Go.RowKit

/-- A call of the law's. -/
structure CallQ where
  what : Int
  n : Int
  m : Int
  k : Int
  path : ByteArray
  other : ByteArray
structure CallOk (c : CallQ) : Prop where
  w : -9223372036854775808 ≤ c.what ∧ c.what ≤ 9223372036854775807
  n : -9223372036854775808 ≤ c.n ∧ c.n ≤ 9223372036854775807
  m : -9223372036854775808 ≤ c.m ∧ c.m ≤ 9223372036854775807
  k : -9223372036854775808 ≤ c.k ∧ c.k ≤ 9223372036854775807
  path : c.path.size ≤ 140737488355328
  other : c.other.size ≤ 140737488355328
def callV (c : CallQ) : Value := .agg #[.int .i64 c.what, .int .i64 c.n, .int .i64 c.m, .int .i64 c.k, .string c.path, .string c.other]
structure StQ where
  ino : Int
  kind : Int
  mode : Int
  links : Int
  size : Int
def noSt : StQ := ⟨0, 0, 0, 0, 0⟩
/-- An answer. -/
structure AnsQ where
  n : Int
  s : ByteArray
  st : StQ
  list : ByteArray
  e : Int
def noBA : ByteArray := ⟨#[]⟩
def errA (e : Int) : AnsQ := ⟨0, noBA, noSt, noBA, e⟩
def stV (t : StQ) : Value := .agg #[.int .i64 t.ino, .int .i64 t.kind, .int .i64 t.mode, .int .i64 t.links, .int .i64 t.size]
def ansV (a : AnsQ) : Value := .agg #[.int .i64 a.n, .string a.s, .int .i64 a.st.ino, .int .i64 a.st.kind, .int .i64 a.st.mode, .int .i64 a.st.links, .int .i64 a.st.size, .string a.list, .int .i64 a.e]
/-- What joined makes of names. -/
def joinB : List ByteArray → ByteArray
  | [] => noBA
  | x :: r => x ++ ⟨#[47]⟩ ++ joinB r
def joinL (l : List ByteArray) : List UInt8 := (l.map fun x => x.data.toList ++ [47]).flatten

/-- What a call makes of the method that it asks for, in a world w0 (behind blocks of ask's own) and thereafter. -/
def AskOf (recv : Value) (c : CallQ) (w0 : World) (R : AnsQ → World → Prop) : Prop :=
  (c.what = 0 → Calls Tryz.prog 21 #[recv, .int .i64 c.n, .string c.path] w0 fun e w' => ∃ n E : Int, e = .returned (.tuple #[.int .i64 n, .int .i64 E]) ∧ R { errA E with n := n } w') ∧
  (c.what = 1 → Calls Tryz.prog 19 #[recv, .int .i64 c.n, .string c.path, .int .i64 c.m] w0 fun e w' => ∃ n E : Int, e = .returned (.tuple #[.int .i64 n, .int .i64 E]) ∧ R { errA E with n := n } w') ∧
  (c.what = 2 → Calls Tryz.prog 18 #[recv, .int .i64 c.n, .string c.path, .int .i64 c.m] w0 fun e w' => ∃ E : Int, e = .returned (.int .i64 E) ∧ R (errA E) w') ∧
  (c.what = 3 → Calls Tryz.prog 23 #[recv, .int .i64 c.n, .string c.path] w0 fun e w' => ∃ E : Int, e = .returned (.int .i64 E) ∧ R (errA E) w') ∧
  (c.what = 4 → Calls Tryz.prog 24 #[recv, .int .i64 c.n, .string c.path] w0 fun e w' => ∃ E : Int, e = .returned (.int .i64 E) ∧ R (errA E) w') ∧
  (c.what = 5 → Calls Tryz.prog 25 #[recv, .int .i64 c.n, .string c.path, .string c.other] w0 fun e w' => ∃ E : Int, e = .returned (.int .i64 E) ∧ R (errA E) w') ∧
  (c.what = 6 → Calls Tryz.prog 26 #[recv, .int .i64 c.n, .string c.path, .string c.other] w0 fun e w' => ∃ E : Int, e = .returned (.int .i64 E) ∧ R (errA E) w') ∧
  (c.what = 7 → Calls Tryz.prog 27 #[recv, .int .i64 c.n, .int .i64 c.m, .int .i64 c.k] w0 fun e w' => ∃ (s : ByteArray) (E : Int), e = .returned (.tuple #[.string s, .int .i64 E]) ∧ R { errA E with s := s } w') ∧
  (c.what = 8 → Calls Tryz.prog 20 #[recv, .int .i64 c.n, .int .i64 c.m, .string c.other] w0 fun e w' => ∃ n E : Int, e = .returned (.tuple #[.int .i64 n, .int .i64 E]) ∧ R { errA E with n := n } w') ∧
  (c.what = 9 → Calls Tryz.prog 28 #[recv, .int .i64 c.n, .int .i64 c.m] w0 fun e w' => ∃ E : Int, e = .returned (.int .i64 E) ∧ R (errA E) w') ∧
  (c.what = 10 → Calls Tryz.prog 29 #[recv, .int .i64 c.n, .int .i64 c.m] w0 fun e w' => ∃ E : Int, e = .returned (.int .i64 E) ∧ R (errA E) w') ∧
  (c.what = 11 → Calls Tryz.prog 30 #[recv, .int .i64 c.n] w0 fun e w' => ∃ (t : StQ) (E : Int), e = .returned (.tuple #[stV t, .int .i64 E]) ∧ R { errA E with st := t } w') ∧
  (c.what = 12 → Calls Tryz.prog 31 #[recv, .int .i64 c.n] w0 fun e w' => ∃ (v : Value) (l : List ByteArray) (E : Int) (S' : Nat → Prop), e = .returned (.tuple #[v, .int .i64 E]) ∧ ArgsV w' S' v l ∧ l.length ≤ 1000000 ∧ (∀ x ∈ l, x.size ≤ 1000000) ∧ R { errA E with list := ⟨(joinL l).toArray⟩ } w') ∧
  (c.what = 13 → Calls Tryz.prog 33 #[recv, .int .i64 c.n] w0 fun e w' => ∃ E : Int, e = .returned (.int .i64 E) ∧ R (errA E) w') ∧
  (c.what = 14 → Calls Tryz.prog 34 #[recv, .int .i64 c.n] w0 fun e w' => ∃ E : Int, e = .returned (.int .i64 E) ∧ R (errA E) w') ∧
  (c.what = 15 → Calls Tryz.prog 35 #[recv, .int .i64 c.n] w0 fun e w' => ∃ (s : ByteArray) (E : Int), e = .returned (.tuple #[.string s, .int .i64 E]) ∧ R { errA E with s := s } w') ∧
  ((c.what < 0 ∨ 15 < c.what) → R (errA 0) w0)
theorem joinL_succ (l : List ByteArray) (k : Nat) (hk : k < l.length) : joinL (l.take (k + 1)) = joinL (l.take k) ++ (l[k].data.toList ++ [47]) := by
  unfold joinL
  rw [List.take_succ_eq_append_getElem hk, List.map_append, List.flatten_append]
  simp
theorem joinL_len (l : List ByteArray) (h : ∀ x ∈ l, x.size ≤ 1000000) : (joinL l).length ≤ l.length * 1000001 := by
  induction l with
  | nil => exact Nat.le_refl _
  | cons x l ih =>
    have h1 := ih fun y hy => h y (by simp [hy])
    have h2 := h x (by simp)
    unfold joinL at h1 ⊢
    simp only [List.map_cons, List.flatten_cons, List.length_append, List.length_cons, List.length_nil, ba_len]
    omega
set_option maxRecDepth 100000 in
theorem joined_any (w : World) (S : Nat → Prop) (v : Value) (l : List ByteArray) (h : ArgsV w S v l) (hl : l.length ≤ 1000000) (hs : ∀ x ∈ l, x.size ≤ 1000000) :
    Calls Tryz.prog 32 #[v] w fun e w' => e = .returned (.string ⟨(joinL l).toArray⟩) ∧ w' = w := by
  obtain ⟨a, cap, rfl⟩ := h.form
  obtain ⟨_, _, hcells⟩ := h.at
  have Hc := hide hcells
  have Hs := hide hs
  clear hcells hs h
  go_enter Tryz.func32, Tryz.ntmps32
  go_wp2
  go_loop [3, 8] (fun s i => ∃ k : Nat, k ≤ l.length ∧ i = .int .i64 k ∧ ∃ t : ByteArray, s = .string t ∧ t.data.toList = joinL (l.take k)) (fun _ i => l.length - (intOf i).toNat)
  case atStart => exact ⟨0, Nat.zero_le _, rfl, _, rfl, rfl⟩
  case round =>
    obtain ⟨k, hk, rfl, t, rfl, ht⟩ := hrel
    by_cases hlt : k < l.length
    · obtain ⟨g, o, rfl, hc⟩ := Hc.out.resolve_left (by omega)
      have ck := hc k hlt
      have hsx := Hs.out l[k] (List.getElem_mem hlt)
      have hsucc := joinL_succ l k hlt
      have htl : t.size ≤ 1000000 * 1000001 := by
        rw [← ba_len, ht]
        refine Nat.le_trans (joinL_len _ fun x hx => Hs.out x (List.mem_of_mem_take hx)) ?_
        exact Nat.mul_le_mul_right _ (Nat.le_trans (List.length_take_le _ _) (by omega))
      have hkI : (k : Int) < (l.length : Int) := by omega
      have hk0 : (0 : Int) ≤ (k : Int) := by omega
      have Ht := hide ht
      have Hsucc := hide hsucc
      clear hc ht hsucc
      generalize l[k] = x at *
      have hfin := hide (show (t ++ (x ++ (⟨#[47]⟩ : ByteArray))).data.toList = joinL (l.take (k + 1)) by
        rw [ba_append, ba_append, Hsucc.out, Ht.out])
      clear Hsucc Ht
      have hm1 : (x ++ (⟨#[47]⟩ : ByteArray)).size ≤ 1000001 := by rw [← ba_len, ba_append, List.length_append, ba_len]; simp; omega
      go_wp2
      refine ⟨⟨k + 1, hlt, by go_num, _, rfl, hfin.out⟩, ?_⟩
      simp [intOf]
      omega
    · have e : k = l.length := by omega
      have hkI : ¬ (k : Int) < (l.length : Int) := by omega
      have Ht := hide (show t = ⟨(joinL l).toArray⟩ from ba_of_data (by rw [ht, e, List.take_length]))
      clear ht e
      go_wp2
      go_ret
      exact ⟨by rw [Ht.out]; rfl, rfl⟩

theorem cells9 {W : World} {b T : Nat} {x0 x1 x2 x3 x4 x5 x6 x7 x8 : Value} (h : W.heap[b]? = some (.cells #[x0, x1, x2, x3, x4, x5, x6, x7, x8] T (0, 0))) :
    W.cell? ⟨b, 0, none⟩ = some x0 ∧ W.cell? ⟨b, 1, none⟩ = some x1 ∧ W.cell? ⟨b, 2, none⟩ = some x2 ∧ W.cell? ⟨b, 3, none⟩ = some x3 ∧ W.cell? ⟨b, 4, none⟩ = some x4 ∧ W.cell? ⟨b, 5, none⟩ = some x5 ∧ W.cell? ⟨b, 6, none⟩ = some x6 ∧ W.cell? ⟨b, 7, none⟩ = some x7 ∧ W.cell? ⟨b, 8, none⟩ = some x8 := by
  refine ⟨?_, ?_, ?_, ?_, ?_, ?_, ?_, ?_, ?_⟩ <;> (rw [blk_cell h]; rfl)
/-- Where ask's own blocks lie. -/
def askW (w : World) (c : CallQ) : World := ((w.alloc (.cells #[.int .i64 c.what, .int .i64 c.n, .int .i64 c.m, .int .i64 c.k, .string c.path, .string c.other] 29 (0, 0))).alloc (.cells #[.int .i64 0, .string ⟨#[]⟩, .int .i64 0, .int .i64 0, .int .i64 0, .int .i64 0, .int .i64 0, .string ⟨#[]⟩, .int .i64 0] 33 (0, 0))).alloc
  (.cells #[.int .i64 0, .string ⟨#[]⟩, .int .i64 0, .int .i64 0, .int .i64 0, .int .i64 0, .int .i64 0, .string ⟨#[]⟩, .int .i64 0] 33 (0, 0))
theorem askW_size (w : World) (c : CallQ) : (askW w c).heap.size = w.heap.size + 1 + 1 + 1 := by unfold askW; simp
theorem askW_fr (w : World) (c : CallQ) : Fr (fun _ => False) w (askW w c) := by unfold askW; exact (((Fr.refl _ _).alloc _).alloc _).alloc _
def Mine (w : World) (k : Nat) : Prop := w.heap.size ≤ k ∧ k < w.heap.size + 1 + 1 + 1
/-- What the method leaves alone, and what stands behind it. -/
def AskR (w w0 : World) (R : AnsQ → World → Prop) (a : AnsQ) (w1 : World) : Prop := Fr (fun k => ¬ Mine w k) w0 w1 ∧ ∀ w2, Fr (Mine w) w1 w2 → R a w2
def AskPost (R : AnsQ → World → Prop) (e : Ending) (w' : World) : Prop := ∃ a, e = .returned (ansV a) ∧ R a w'
theorem ask_blocks (w w1 : World) (c : CallQ) (h : Fr (fun k => ¬ Mine w k) (askW w c) w1) :
    w1.heap[w.heap.size]? = some (.cells #[.int .i64 c.what, .int .i64 c.n, .int .i64 c.m, .int .i64 c.k, .string c.path, .string c.other] 29 (0, 0)) ∧
    w1.heap[w.heap.size + 1]? = some (.cells #[.int .i64 0, .string ⟨#[]⟩, .int .i64 0, .int .i64 0, .int .i64 0, .int .i64 0, .int .i64 0, .string ⟨#[]⟩, .int .i64 0] 33 (0, 0)) ∧
    w1.heap[w.heap.size + 1 + 1]? = some (.cells #[.int .i64 0, .string ⟨#[]⟩, .int .i64 0, .int .i64 0, .int .i64 0, .int .i64 0, .int .i64 0, .string ⟨#[]⟩, .int .i64 0] 33 (0, 0)) := by
  refine ⟨h.get ?_ (fun e => e ⟨by omega, by omega⟩), h.get ?_ (fun e => e ⟨by omega, by omega⟩), h.get ?_ (fun e => e ⟨by omega, by omega⟩)⟩
  · unfold askW; exact blk_alloc (blk_alloc (blk_new _ _) _) _
  · unfold askW; exact blk_alloc (blk_new' _ _ _ (by simp)) _
  · unfold askW; exact blk_new' _ _ _ (by simp)

theorem cells9w {X : World} {b T : Nat} {x0 x1 x2 x3 x4 x5 x6 x7 x8 : Value} (h0 : X.heap[b]? = some (.cells #[x0, x1, x2, x3, x4, x5, x6, x7, x8] T (0, 0))) (z0 z1 z2 z3 z4 z5 z6 z7 z8 : Value) :
    (X.setCell ⟨b, 0, none⟩ z0).cell? ⟨b, 0, none⟩ = some z0 ∧ ((X.setCell ⟨b, 0, none⟩ z0).setCell ⟨b, 1, none⟩ z1).cell? ⟨b, 1, none⟩ = some z1 ∧ (((X.setCell ⟨b, 0, none⟩ z0).setCell ⟨b, 1, none⟩ z1).setCell ⟨b, 2, none⟩ z2).cell? ⟨b, 2, none⟩ = some z2 ∧ ((((X.setCell ⟨b, 0, none⟩ z0).setCell ⟨b, 1, none⟩ z1).setCell ⟨b, 2, none⟩ z2).setCell ⟨b, 3, none⟩ z3).cell? ⟨b, 3, none⟩ = some z3 ∧ (((((X.setCell ⟨b, 0, none⟩ z0).setCell ⟨b, 1, none⟩ z1).setCell ⟨b, 2, none⟩ z2).setCell ⟨b, 3, none⟩ z3).setCell ⟨b, 4, none⟩ z4).cell? ⟨b, 4, none⟩ = some z4 ∧ ((((((X.setCell ⟨b, 0, none⟩ z0).setCell ⟨b, 1, none⟩ z1).setCell ⟨b, 2, none⟩ z2).setCell ⟨b, 3, none⟩ z3).setCell ⟨b, 4, none⟩ z4).setCell ⟨b, 5, none⟩ z5).cell? ⟨b, 5, none⟩ = some z5 ∧ (((((((X.setCell ⟨b, 0, none⟩ z0).setCell ⟨b, 1, none⟩ z1).setCell ⟨b, 2, none⟩ z2).setCell ⟨b, 3, none⟩ z3).setCell ⟨b, 4, none⟩ z4).setCell ⟨b, 5, none⟩ z5).setCell ⟨b, 6, none⟩ z6).cell? ⟨b, 6, none⟩ = some z6 ∧ ((((((((X.setCell ⟨b, 0, none⟩ z0).setCell ⟨b, 1, none⟩ z1).setCell ⟨b, 2, none⟩ z2).setCell ⟨b, 3, none⟩ z3).setCell ⟨b, 4, none⟩ z4).setCell ⟨b, 5, none⟩ z5).setCell ⟨b, 6, none⟩ z6).setCell ⟨b, 7, none⟩ z7).cell? ⟨b, 7, none⟩ = some z7 ∧ (((((((((X.setCell ⟨b, 0, none⟩ z0).setCell ⟨b, 1, none⟩ z1).setCell ⟨b, 2, none⟩ z2).setCell ⟨b, 3, none⟩ z3).setCell ⟨b, 4, none⟩ z4).setCell ⟨b, 5, none⟩ z5).setCell ⟨b, 6, none⟩ z6).setCell ⟨b, 7, none⟩ z7).setCell ⟨b, 8, none⟩ z8).cell? ⟨b, 8, none⟩ = some z8 := by
  have h1 := blk_set h0 0 z0
  have h2 := blk_set h1 1 z1
  have h3 := blk_set h2 2 z2
  have h4 := blk_set h3 3 z3
  have h5 := blk_set h4 4 z4
  have h6 := blk_set h5 5 z5
  have h7 := blk_set h6 6 z6
  have h8 := blk_set h7 7 z7
  have h9 := blk_set h8 8 z8
  exact ⟨by rw [blk_cell h1]; simp, by rw [blk_cell h2]; simp, by rw [blk_cell h3]; simp, by rw [blk_cell h4]; simp, by rw [blk_cell h5]; simp, by rw [blk_cell h6]; simp, by rw [blk_cell h7]; simp, by rw [blk_cell h8]; simp, by rw [blk_cell h9]; simp⟩
end Go.Proofs.YthikjdpnlahkfaaGreatDoor
