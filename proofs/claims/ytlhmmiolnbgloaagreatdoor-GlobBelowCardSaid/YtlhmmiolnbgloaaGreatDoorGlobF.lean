/- pattern.bracket, one. Conditions: the contracts' own premises. -/
import Derived.Test.YtlhmmiolnbgloaaGreatDoorGlobC
import Derived.Test.YtlhmmiolnbgloaaGreatDoorRangeFuncE
namespace Go.Proofs.YtlhmmiolnbgloaaGreatDoor
open Go.RowKit Go.Shelf

attribute [local go_sem] Oper.semAt_some

def noPanicB (Q : Exit → Act → World → Prop) : Exit → Act → World → Prop
  | .panic _, _, _ => False
  | e, a, w => Q e a w
theorem noPanicB_normal {Q : Exit → Act → World → Prop} {a : Act} {w : World} (h : Q .normal a w) : noPanicB Q .normal a w := h
theorem wp_noPanicB {P : Program} {c : Code} {Q : Exit → Act → World → Prop} {a : Act} {w : World} (h : c.wp P (noPanicB Q) a w) : c.wp P Q a w :=
  wp_mono h fun e _ _ h1 => by cases e <;> first | exact h1 | exact h1.elim
theorem members_any (w : World) (a : Option Addr) (n c : Nat) : Calls Tryz.prog 109 #[.slice a n c] w fun e w' => e = .returned (.func (.func 115) #[] #[.pointer (some ⟨w.heap.size, 0, none⟩)]) ∧ w' = w.alloc (.cells #[.slice a n c] 32 (0, 0)) := by
  go_enter Tryz.func109, Tryz.ntmps109
  go_wp2
  go_ret
  exact ⟨rfl, rfl⟩
/-- A suffix is told by its length. -/
theorem mem_suffix : ∀ (fuel : Nat) (f : Bool) (q : List Ch), ∀ m ∈ membersL fuel f q, ∃ j, j ≤ q.length ∧ m.2 = q.drop j
  | 0, _, q, m, h => by cases h
  | fuel + 1, f, [], m, h => by cases h
  | fuel + 1, f, c :: r, m, h => by
    unfold membersL at h
    split at h
    · rcases hx : memAt c r with ⟨mm, nn⟩
      rw [hx] at h
      simp only [List.mem_cons] at h
      rcases h with rfl | h
      · by_cases e : nn ≤ (c :: r).length
        · exact ⟨nn, e, rfl⟩
        · exact ⟨(c :: r).length, Nat.le_refl _, by rw [List.drop_length, List.drop_eq_nil_of_le (by omega)]⟩
      · obtain ⟨j, h1, h2⟩ := mem_suffix fuel false _ m h
        rw [List.drop_drop] at h2
        rw [List.length_drop] at h1
        by_cases e : nn ≤ (c :: r).length
        · exact ⟨nn + j, by omega, h2⟩
        · exact ⟨(c :: r).length, Nat.le_refl _, by rw [h2, List.drop_length, List.drop_eq_nil_of_le (by omega)]⟩
    · cases h
theorem mem_drop {fuel : Nat} {f : Bool} {q : List Ch} {m : Mem × List Ch} (h : m ∈ membersL fuel f q) : q.drop (q.length - m.2.length) = m.2 := by
  obtain ⟨j, h1, h2⟩ := mem_suffix fuel f q m h
  rw [h2, List.length_drop, show q.length - (q.length - j) = j by omega]
/-- Where the rest begins behind so many members. -/
def offs (q : List Ch) (s : Nat) : Nat := match ((membersL q.length true q).take s).getLast? with | none => 0 | some m => q.length - m.2.length
def fnd (q : List Ch) (c : UInt8) (s : Nat) : Bool := ((membersL q.length true q).take s).any fun m => holdsM m.1 c
theorem offs_succ {q : List Ch} {s : Nat} (h : s < (membersL q.length true q).length) : offs q (s + 1) = q.length - ((membersL q.length true q)[s]).2.length := by
  unfold offs
  rw [List.take_succ_eq_append_getElem h, List.getLast?_append]
  rfl
theorem fnd_succ {q : List Ch} {c : UInt8} {s : Nat} (h : s < (membersL q.length true q).length) : fnd q c (s + 1) = (fnd q c s || holdsM ((membersL q.length true q)[s]).1 c) := by
  unfold fnd
  rw [List.take_succ_eq_append_getElem h, List.any_append]
  simp
theorem offs_end (q : List Ch) : q.drop (offs q (membersL q.length true q).length) = ((membersL q.length true q).getLast?.map (·.2)).getD q := by
  unfold offs
  rw [List.take_length]
  cases h : (membersL q.length true q).getLast? with
  | none => rfl
  | some m => exact mem_drop (List.mem_of_getLast? h)
/-- Between two members. -/
structure BrI (w0 : World) (T : Nat → Prop) (D b3 b4 b9 bx : Nat) (c : UInt8) (iv : Value) (q : List Ch) (s : Nat) (A : Nat → Prop) (W : World) : Prop where
  le : s ≤ (membersL q.length true q).length
  lo : ∀ k, k < D → A k
  h3 : W.heap[b3]? = some (.cells #[.int .u8 c.toNat] 5 (0, 0))
  h4 : W.heap[b4]? = some (.cells #[.bool (fnd q c s)] 4 (0, 0))
  h9 : ∃ rv, W.heap[b9]? = some (.cells #[rv] 32 (0, 0)) ∧ Sub iv rv (offs q s)
  hx : W.heap[bx]? = some (.cells #[iv] 32 (0, 0))
  ch : ChV W (fun k => T k ∧ k < w0.heap.size) iv q
  fr : Fr (fun _ => False) w0 W
theorem BrI.frame {w0 : World} {T : Nat → Prop} {D b3 b4 b9 bx : Nat} {c : UInt8} {iv : Value} {q : List Ch} {s : Nat} {A : Nat → Prop} {W W' : World} (h : BrI w0 T D b3 b4 b9 bx c iv q s A W) (hb : b3 < D ∧ b4 < D ∧ b9 < D ∧ bx < D ∧ w0.heap.size ≤ D)
    (hf : Fr (fun k => k = D ∨ k = D + 1 ∨ ¬ A k) W W') : BrI w0 T D b3 b4 b9 bx c iv q s A W' := by
  obtain ⟨k3, k4, k9, kx, k0⟩ := hb
  have hno : ∀ k, k < D → ¬ (k = D ∨ k = D + 1 ∨ ¬ A k) := fun k hk e => by
    rcases e with e | e | e
    · omega
    · omega
    · exact e (h.lo k hk)
  obtain ⟨rv, h1, h2⟩ := h.h9
  exact ⟨h.le, h.lo, hf.get h.h3 (hno _ k3), hf.get h.h4 (hno _ k4), ⟨rv, hf.get h1 (hno _ k9), h2⟩, hf.get h.hx (hno _ kx), h.ch.frame hf (fun k _ e => hno k (by have := e.2; omega)), h.fr.trans' hf (fun i hi e => hno i (by omega) e)⟩
def BrPost (w : World) (T : Nat → Prop) (p : List Ch) (c : UInt8) (e : Ending) (w' : World) : Prop :=
  Fr (fun _ => False) w w' ∧ match bracketL p c with
    | some (b, r) => ∃ rv, e = .returned (.tuple #[.bool b, rv, .bool true]) ∧ ChV w' T rv r
    | none => e = .returned (.tuple #[.bool false, .slice none 0 0, .bool false])
/-- What it says of the members behind the [ (and the !). -/
def brRest (q : List Ch) (c : UInt8) (nb : Bool) : Option (Bool × List Ch) :=
  match q.drop (offs q (membersL q.length true q).length) with
  | d :: r => if d = un clB ∧ (d :: r).length ≠ q.length then some ((fnd q c (membersL q.length true q).length) != nb, r) else none
  | [] => none
theorem Sub.form {pv rv : Value} {k : Nat} (h : Sub pv rv k) : ∃ a n c, rv = .slice a n c := by
  obtain ⟨a, n, c, a', c', _, e, _⟩ := h
  exact ⟨_, _, _, e⟩
theorem br_key (inner : List Ch) (c : UInt8) (nb : Bool) : (match ((membersL inner.length true inner).getLast?.map (·.2)).getD inner with
    | d :: r => if d = un clB ∧ (((membersL inner.length true inner).getLast?.map (·.2)).getD inner).length ≠ inner.length then some (((membersL inner.length true inner).any fun m => holdsM m.1 c) != nb, r) else none
    | [] => none) = brRest inner c nb := by
  unfold brRest
  rw [offs_end]
  unfold fnd
  rw [List.take_length]
  generalize ((membersL inner.length true inner).getLast?.map (·.2)).getD inner = rest
  cases rest <;> rfl
theorem bracketL_eq (x : Ch) (q0 : List Ch) (c : UInt8) : bracketL (x :: q0) c = if startsL q0 [bangB] = true then brRest (q0.drop 1) c true else brRest q0 c false := by
  rw [← br_key, ← br_key]
  unfold bracketL
  simp only [List.drop_succ_cons, List.drop_zero]
  cases startsL q0 [bangB] <;> rfl
def memC (m : Mem) : Array Value := match memV m with | .agg cs => cs | _ => #[]
theorem memV_shape (m : Mem) : ∃ a b c, memV m = .agg #[.string a, .int .u8 b, .int .u8 c] := by
  match m with
  | .rng a z => exact ⟨_, _, _, rfl⟩
  | .cls 0 => exact ⟨_, _, _, rfl⟩
  | .cls 1 => exact ⟨_, _, _, rfl⟩
  | .cls 2 => exact ⟨_, _, _, rfl⟩
  | .cls 3 => exact ⟨_, _, _, rfl⟩
  | .cls 4 => exact ⟨_, _, _, rfl⟩
  | .cls (k + 5) => exact ⟨_, _, _, rfl⟩
set_option maxRecDepth 100000 in
set_option maxHeartbeats 16000000 in
theorem bracket_any (w : World) (T : Nat → Prop) (v : Value) (x : Ch) (q0 : List Ch) (h : ChV w T v (x :: q0)) (hlen : q0.length ≤ 1000000) (c : UInt8) : Calls Tryz.prog 103 #[v, .int .u8 c.toNat] w (BrPost w T (x :: q0) c) := by
  have h0 := h.mono (T := fun k => T k ∧ k < w.heap.size) (fun k hk ht => ⟨ht, hk⟩)
  obtain ⟨a, pc, rfl⟩ := h.form
  obtain ⟨g, o, rfl, hg, _, _⟩ := h.head
  obtain ⟨-, hpc, hpc2, -⟩ := h.at
  have hcut := h0.cut (l := 1) (k := (x :: q0).length) (by simp) (Nat.le_refl _) (m := q0.length) (by simp)
  rw [List.take_length, List.drop_succ_cons, List.drop_zero] at hcut
  obtain ⟨X, hX⟩ : ∃ X, X = (if pc = 1 then some (⟨g, o, none⟩ : Addr) else some ⟨g, o + 1 * 2, none⟩) := ⟨_, rfl⟩
  rw [← hX] at hcut
  have hX2 : (if pc = 1 then some (⟨g, o, none⟩ : Addr) else some ⟨g, o + 2, none⟩) = X := hX.symm
  clear hX h
  have hpc1 : q0.length + 1 ≤ pc := hpc
  have hl1 : (x :: q0).length = q0.length + 1 := rfl
  have h0' := hide h0
  have Hcut := hide hcut
  obtain ⟨w1, hw1⟩ : ∃ w1, w1 = (w.alloc (.cells #[.int .u8 c.toNat] 5 (0, 0))).alloc (.cells #[.bool false] 4 (0, 0)) := ⟨_, rfl⟩
  have k3 : w1.heap[w.heap.size]? = some (.cells #[.int .u8 c.toNat] 5 (0, 0)) := by rw [hw1]; exact blk_alloc (blk_new _ _) _
  have k4 : w1.heap[w.heap.size + 1]? = some (.cells #[.bool false] 4 (0, 0)) := by rw [hw1]; exact blk_new' _ _ _ (by simp)
  have hs1 : w1.heap.size = w.heap.size + 2 := by rw [hw1]; simp
  have hf1 : Fr (fun _ => False) w w1 := by rw [hw1]; exact ((Fr.refl _ _).alloc _).alloc _
  have hst := hide (starts_any w1 _ _ q0 (Hcut.out.still hf1) ⟨#[33]⟩)
  refine (callsIn_wide (n := 8)).1 ?_
  refine callsIn_of_wp_marks Tryz.func103 rfl trivial ?_ rfl
  simp only [Tryz.ntmps103, List.size_toArray, List.length_cons, List.length_nil, Nat.reduceAdd, Nat.reduceSub, Array.replicate_succ, Array.replicate_zero, List.push_toArray, List.append_toArray, List.nil_append, List.cons_append]
  have K3 := hide k3
  have K4 := hide k4
  have Hs1 := hide hs1
  have Hf1 := hide hf1
  clear k3 k4 hs1 hf1 h0 hcut hpc
  subst hw1
  gi_wp2
  refine ⟨trivial, callsIn_wide.2 (hst.out.mono ?_)⟩
  rintro e w2 ⟨rfl, hf2⟩
  have K32 := hide (hf2.get K3.out (fun e => e))
  have K42 := hide (hf2.get K4.out (fun e => e))
  have Hf2 := hide (Hf1.out.trans hf2)
  have Hs2 := hide (show w.heap.size + 2 ≤ w2.heap.size by have := hf2.size; have := Hs1.out; omega)
  clear hst hf2 K3 K4 Hf1
  cases hnb : startsL q0 (ByteArray.mk #[33]).data.toList with
  | true =>
    cases q0 with
    | nil => cases hnb
    | cons y q =>
      have hy : y = un bangB := by
        have h9 := starts_one y q bangB
        rw [show startsL (y :: q) [bangB] = true from hnb] at h9
        exact of_decide_eq_true h9.symm
      have hpc2' : q.length + 1 + 1 ≤ pc := hpc1
      have hX5 : X = some ⟨g, o + 2, none⟩ := by rw [← hX2, if_neg (by omega)]
      subst hX5
      have hci := Hcut.out.still Hf2.out
      have hcut3 := hci.cut (l := 1) (k := (y :: q).length) (by simp) (Nat.le_refl _) (m := q.length) (by simp)
      rw [List.take_length, List.drop_succ_cons, List.drop_zero] at hcut3
      obtain ⟨Y, hX3⟩ : ∃ Y, Y = (if pc - 1 = 1 then some (⟨g, o + 2, none⟩ : Addr) else some ⟨g, o + 2 + 1 * 2, none⟩) := ⟨_, rfl⟩
      rw [← hX3] at hcut3
      have hY2 : (if pc - 1 = 1 then some (⟨g, o + 2, none⟩ : Addr) else some ⟨g, o + 2 + 2, none⟩) = Y := hX3.symm
      have hY4 : (if pc = 2 then some (⟨g, o + 2, none⟩ : Addr) else some ⟨g, o + 2 + 2, none⟩) = Y := by rw [← hY2]; simp only [show (pc - 1 = 1) = (pc = 2) from propext (by omega)]
      have hinn : bracketL (x :: y :: q) c = brRest q c true := by rw [bracketL_eq, show startsL (y :: q) [bangB] = true from hnb]; rfl
      obtain ⟨yc, hyc⟩ : ∃ y, y = pc - 1 - 1 := ⟨_, rfl⟩
      rw [← hyc] at hcut3
      have Hci := hide hcut3
      have hy1 : q.length ≤ yc := by omega
      have hy2 : yc ≤ 9223372036854775807 := by omega
      have Hinn := hide hinn
      have Hyc := hide hyc
      clear hyc
      have hlen : q.length ≤ 1000000 := by rw [List.length_cons] at hlen; omega
      clear hX2 hpc1 hpc2 hl1 h0' Hcut hnb hinn hci hX3 hcut3 hy
      gi_wp2
      rw [← Hyc.out]
      clear hY2 hY4
      refine ⟨trivial, callsIn_wide.2 ((members_any _ _ _ _).mono ?_)⟩
      rintro e w' ⟨rfl, rfl⟩
      gi_wp2
      have k9 := blk_alloc (blk_new w2 (.cells #[.slice Y q.length yc] 32 (0, 0))) (.cells #[.slice Y q.length yc] 32 (0, 0))
      have kx := blk_new' (w2.alloc (.cells #[.slice Y q.length yc] 32 (0, 0))) (.cells #[.slice Y q.length yc] 32 (0, 0)) (w2.heap.size + 1) (by simp)
      have hz : ((w2.alloc (.cells #[.slice Y q.length yc] 32 (0, 0))).alloc (.cells #[.slice Y q.length yc] 32 (0, 0))).heap.size = w2.heap.size + 2 := by simp
      have hf3 : Fr (fun _ => False) w2 ((w2.alloc (.cells #[.slice Y q.length yc] 32 (0, 0))).alloc (.cells #[.slice Y q.length yc] 32 (0, 0))) := ((Fr.refl _ _).alloc _).alloc _
      generalize ((w2.alloc (.cells #[.slice Y q.length yc] 32 (0, 0))).alloc (.cells #[.slice Y q.length yc] 32 (0, 0))) = w3 at *
      have hsz2 := Hs2.out
      have hB : w.heap.size < w3.heap.size ∧ w.heap.size + 1 < w3.heap.size ∧ w2.heap.size < w3.heap.size ∧ w2.heap.size + 1 < w3.heap.size ∧ w.heap.size ≤ w3.heap.size := by omega
      have hI0 : BrI w T w3.heap.size w.heap.size (w.heap.size + 1) w2.heap.size (w2.heap.size + 1) c (.slice Y q.length yc) q 0 (fun k => k < w3.heap.size + 2 ∧ ¬ False) w3 := ⟨Nat.zero_le _, fun k hk => ⟨by omega, fun e => e⟩, hf3.get K32.out (fun e => e), hf3.get K42.out (fun e => e), ⟨_, k9, Sub.refl Hci.out⟩, kx, Hci.out.still hf3, Hf2.out.trans hf3⟩
      have HB := hide hB
      have Hz := hide hz
      clear k9 kx hf3 hz hB hsz2 K32 K42 Hf2
      refine rf_law4m (α := Mem × Value) (σ := Nat) (q := 22) (q2 := 23) (fun _ => False) (fun _ h => h.elim) 115 #[.pointer (some ⟨w2.heap.size + 1, 0, none⟩)] rfl (enters_of Tryz.func115 (by kernel_rfl) rfl) (fun x => memV x.1) (fun x => x.2) (fun x => memC x.1) 168 10 11
        (MStep (.slice Y q.length yc) q) (fun s => s = (membersL q.length true q).length) 0 (BrI w T w3.heap.size w.heap.size (w.heap.size + 1) w2.heap.size (w2.heap.size + 1) c (.slice Y q.length yc) q) (fun s A W1 W2 h1 hf => h1.frame HB.out hf) ?hImono hI0 (fun _ => True) (fun _ _ _ _ => trivial) ?hiter ?assign ?body ?done
      case hImono =>
        rintro s A A' W1 h1 hA _
        exact ⟨h1.le, fun k hk => hA _ (h1.lo k hk), h1.h3, h1.h4, h1.h9, h1.hx, h1.ch, h1.fr⟩
      case hiter =>
        intro l' J' W' hJI' hJf' hJA' hY' h0'
        refine callsIn_wide.2 ((members1_iter (8 - 1) (w2.heap.size + 1) _ (.slice Y q.length yc) q l' J' W' (fun s A W1 h1 => ⟨(hJI' s A W1 h1).ch, by rw [blk_cell (hJI' s A W1 h1).hx]; rfl⟩) hJf' hJA' hY' _ h0').mono ?_)
        rintro e W1 ⟨h1, A, h2⟩
        exact ⟨h1, _, A, rfl, h2, trivial⟩
      case assign =>
        rintro l' s A x s' W1 K _ _ hsz hK
        have hK := hide hK
        obtain ⟨ma, mb, mc, hm⟩ := memV_shape x.1
        have hmC : memC x.1 = #[.string ma, .int .u8 mb, .int .u8 mc] := by unfold memC; rw [hm]
        rw [hm, hmC] at hK
        rw [hm]
        gi_wp2
        exact hK.out _ _ ((Fr.refl _ _).alloc _) hsz (blk_new _ _)
      case body =>
        rintro s A ⟨xm, xv⟩ s' xb W1 _ ⟨hlt, hx1, hx2, rfl⟩ hI hsz hxb hW hA0 hA1
        simp only at hx1 hx2 hxb ⊢
        obtain ⟨xa, xn, xc, rfl⟩ := hx2.form
        obtain ⟨rv, g9, -⟩ := hI.h9
        have h3 := hI.h3
        have h4 := hI.h4
        have c4 : W1.cell? ⟨w.heap.size + 1, 0, none⟩ = some (.bool (fnd q c s)) := by rw [blk_cell h4]; rfl
        have z4 := blk_frozen h4
        have c9 : W1.cell? ⟨w2.heap.size, 0, none⟩ = some rv := by rw [blk_cell g9]; rfl
        have c3 : W1.cell? ⟨w.heap.size, 0, none⟩ = some (.int .u8 c.toNat) := by rw [blk_cell h3]; rfl
        have hsuc := fnd_succ (c := c) hlt
        rw [← hx1] at hsuc
        have hoff := offs_succ hlt
        obtain ⟨ma, mb, mc, hm⟩ := memV_shape xm
        have hmC : memC xm = #[.string ma, .int .u8 mb, .int .u8 mc] := by unfold memC; rw [hm]
        rw [hmC] at hxb
        have m0 : W1.cell? ⟨xb, 0, none⟩ = some (.string ma) := by rw [blk_cell hxb]; rfl
        have m1 : W1.cell? ⟨xb, 1, none⟩ = some (.int .u8 mb) := by rw [blk_cell hxb]; rfl
        have m2 : W1.cell? ⟨xb, 2, none⟩ = some (.int .u8 mc) := by rw [blk_cell hxb]; rfl
        have hh := holds_any W1 xm c
        rw [hm] at hh ⊢
        have hh := hide hh
        have hfin : ∀ (W2 : World) (b : Bool), b = fnd q c (s + 1) → Fr (fun _ => False) W1 W2 → rfPost3 w3.heap.size A (BrI w T w3.heap.size w.heap.size (w.heap.size + 1) w2.heap.size (w2.heap.size + 1) c (.slice Y q.length yc) q) (fun _ _ _ => False) (s + 1) W1 .normal ⟨#[], []⟩ ((W2.setCell ⟨w.heap.size + 1, 0, none⟩ (.bool b)).setCell ⟨w2.heap.size, 0, none⟩ (.slice xa xn xc)) := by
          intro W2 b hb hf
          have hH := HB.out
          have hs2 := hf.size
          have hsz2 := Hs2.out
          have hfA : Fr A W1 W2 := hf.mono (fun _ _ e => e.elim)
          have e1 := (hfA.setCell (p := ⟨w.heap.size + 1, 0, none⟩) (.inl (hI.lo _ hH.2.1)) (.bool b))
          have e2 := (e1.setCell (p := ⟨w2.heap.size, 0, none⟩) (.inl (hI.lo _ hH.2.2.1)) (.slice xa xn xc))
          have f3 := blk_set_other (blk_set_other (hf.get hI.h3 (fun e => e)) ⟨w.heap.size + 1, 0, none⟩ (.bool b) (by simp)) ⟨w2.heap.size, 0, none⟩ (.slice xa xn xc) (by simp; omega)
          have f4 := blk_set_other (blk_set (hf.get hI.h4 (fun e => e)) 0 (.bool b)) ⟨w2.heap.size, 0, none⟩ (.slice xa xn xc) (by simp; omega)
          have f9 := blk_set (blk_set_other (hf.get g9 (fun e => e)) ⟨w.heap.size + 1, 0, none⟩ (.bool b) (by simp; omega)) 0 (.slice xa xn xc)
          have fx := blk_set_other (blk_set_other (hf.get hI.hx (fun e => e)) ⟨w.heap.size + 1, 0, none⟩ (.bool b) (by simp; omega)) ⟨w2.heap.size, 0, none⟩ (.slice xa xn xc) (by simp)
          have hfw : Fr (fun k => k = w.heap.size + 1 ∨ k = w2.heap.size) W1 ((W2.setCell ⟨w.heap.size + 1, 0, none⟩ (.bool b)).setCell ⟨w2.heap.size, 0, none⟩ (.slice xa xn xc)) :=
            ((hf.mono (fun _ _ e => e.elim)).setCell (p := ⟨w.heap.size + 1, 0, none⟩) (.inl (.inl rfl)) (.bool b)).setCell (p := ⟨w2.heap.size, 0, none⟩) (.inl (.inr rfl)) (.slice xa xn xc)
          refine ⟨⟨?_, ?_⟩, e2, hlt, fun k hk => .inl (hI.lo k hk), f3, ?_, ⟨(.slice xa xn xc), f9, ?_⟩, fx, hI.ch.frame hfw (fun k _ hk e => by have := hk.2; omega), hI.fr.trans' hfw (fun i hi e => by omega)⟩
          · exact hfw.block _ (by omega) (by omega)
          · exact hfw.block _ (by omega) (by omega)
          · rw [← hb]; exact f4
          · rw [hoff]; exact hx2
        have hfin := hide hfin
        have hne1 : ¬ w.heap.size + 1 = w2.heap.size := by have := Hs2.out; omega
        have hne2 : ¬ w2.heap.size = w.heap.size + 1 := by have := Hs2.out; omega
        have H4 := hide h4
        have H9 := hide g9
        clear hx1 hx2 hI h3 h4 g9 hxb hA0 hA1 hoff hm hmC
        simp only [List.setIfInBounds_toArray, List.set_cons_succ, List.set_cons_zero]
        cases hfd : fnd q c s with
        | true =>
          rw [hfd] at c4 hsuc
          have hb : true = fnd q c (s + 1) := by rw [hsuc]; rfl
          have hf2 := hide (hfin.out W1 true hb (Fr.refl _ _))
          clear hfin hh hsuc hb
          have z9 := blk_frozen H9.out
          clear H4 H9
          gi_wp2
          refine ⟨trivial, ?_⟩
          gi_wp2
          exact hf2.out
        | false =>
          rw [hfd] at c4 hsuc
          clear z4 c9
          gi_wp2
          refine ⟨trivial, (CallsIn.inRound (w3.heap.size + 1) (callsIn_wide.2 hh.out)).mono ?_⟩
          rintro e W2 ⟨rfl, hfW⟩
          have hb : holdsM xm c = fnd q c (s + 1) := by rw [hsuc]; rfl
          have hf2 := hide (hfin.out W2 (holdsM xm c) hb hfW)
          have h42 := hfW.get H4.out (fun e => e)
          have h92 := hfW.get H9.out (fun e => e)
          rw [hfd] at h42
          have c4 : W2.cell? ⟨w.heap.size + 1, 0, none⟩ = some (.bool false) := by rw [blk_cell h42]; rfl
          have z4 := blk_frozen h42
          have c9 : W2.cell? ⟨w2.heap.size, 0, none⟩ = some rv := by rw [blk_cell h92]; rfl
          have z9 := blk_frozen h92
          clear hfin hh hsuc hb h42 h92 H4 H9 hfW
          gi_wp2
          exact hf2.out
      case done =>
        rintro s A W1 rfl hI _ hK
        obtain ⟨rv, k9, hsub⟩ := hI.h9
        have hch := hsub.ch hI.ch
        have k4 := hI.h4
        have hfr := hI.fr
        have hH := HB.out
        have hsz2 := Hs2.out
        have hbr : brRest q c true = match q.drop (offs q (membersL q.length true q).length) with
          | d :: r => if d = un clB ∧ (d :: r).length ≠ q.length then some ((fnd q c (membersL q.length true q).length) != true, r) else none
          | [] => none := rfl
        rw [← Hinn.out] at hbr
        generalize fnd q c (membersL q.length true q).length = fb at *
        generalize q.drop (offs q (membersL q.length true q).length) = rest at *
        have hst := hide (starts_any W1 _ rv rest hch ⟨#[93]⟩)
        obtain ⟨ra, rc, rfl⟩ := hch.form
        obtain ⟨-, hrc, hrc2, -⟩ := hch.at
        have c9 : W1.cell? ⟨w2.heap.size, 0, none⟩ = some (.slice ra rest.length rc) := by rw [blk_cell k9]; rfl
        have Hch := hide hch
        have K9 := hide k9
        have K4 := hide k4
        have Hfr := hide hfr
        have HK := hide hK
        have Hbr := hide hbr
        clear hI hch k9 k4 hfr hK hbr hsub
        gi_wp2
        refine ⟨trivial, callsIn_wide.2 (hst.out.mono ?_)⟩
        rintro e W4 ⟨rfl, hf4⟩
        have h49 := hf4.get K9.out (fun e => e)
        have h44 := hf4.get K4.out (fun e => e)
        have h4K := hf4.get HK.out (fun e => e)
        have c9 : W4.cell? ⟨w2.heap.size, 0, none⟩ = some (.slice ra rest.length rc) := by rw [blk_cell h49]; rfl
        have c4 : W4.cell? ⟨w.heap.size + 1, 0, none⟩ = some (.bool fb) := by rw [blk_cell h44]; rfl
        have z4 := blk_frozen h44
        have hend : ∀ (W5 : World) (b : Bool), Fr (fun _ => False) W4 W5 → ((W5.setCell ⟨w.heap.size + 1, 0, none⟩ (.bool b)).heap[w3.heap.size]? = some (.deferred (some []))) ∧ ((W5.setCell ⟨w.heap.size + 1, 0, none⟩ (.bool b)).putObj w3.heap.size (.deferred none)).cell? ⟨w.heap.size + 1, 0, none⟩ = some (.bool b) ∧ Fr (fun _ => False) w ((W5.setCell ⟨w.heap.size + 1, 0, none⟩ (.bool b)).putObj w3.heap.size (.deferred none)) := by
          intro W5 b hf5
          refine ⟨blk_set_other (hf5.get h4K (fun e => e)) _ _ (by simp; omega), ?_, ?_⟩
          · rw [blk_cell (t := 4) (f := (0, 0)) (c := #[.bool b])]
            · rfl
            · rw [World.putObj_heap_other (by omega), blk_set (hf5.get h44 (fun e => e))]
              rfl
          · exact (((Hfr.out.trans hf4).trans hf5).trans' (frSet _ _ _ _) (fun i hi e => by omega)).trans' (fr_putObj (S := fun k => k = w3.heap.size) _ rfl) (fun i hi e => by omega)
        have hnone := hide (fun (hb : bracketL (x :: y :: q) c = none) => (show BrPost w T (x :: y :: q) c (.returned (.tuple #[.bool false, .slice none 0 0, .bool false])) ((W4.setCell ⟨w.heap.size + 1, 0, none⟩ (.bool false)).putObj w3.heap.size (.deferred none)) from ⟨(hend W4 false (Fr.refl _ _)).2.2, by rw [hb]⟩))
        have He0 := hide (hend W4 false (Fr.refl _ _))
        cases hrest : rest with
        | nil =>
          subst hrest
          have hn := hide (hnone.out Hbr.out)
          have hs0 : startsL [] (ByteArray.mk #[93]).data.toList = false := rfl
          rw [hs0]
          clear hnone Hbr hend hst
          obtain ⟨e1, e2, e3⟩ := He0.out
          gi_wp2
          refine ⟨by simp, .inl ⟨_, _, rfl, run_takeDeferred e1, ?_⟩⟩
          refine ⟨.tuple #[.bool false, .slice none 0 0, .bool false], ?_, hn.out⟩
          simp [results, Tryz.results103, go_sem, e2]
        | cons d r =>
          subst hrest
          have hs0 : startsL (d :: r) (ByteArray.mk #[93]).data.toList = decide (d = un clB) := starts_one d r 93
          rw [hs0]
          have hb := Hbr.out
          simp only at hb
          by_cases hd : d = un clB
          · rw [decide_eq_true hd]
            by_cases hl : (d :: r).length = q.length
            · rw [if_neg (by simp [hl])] at hb
              have hn := hide (hnone.out hb)
              have hl2 : (r.length : Int) + 1 = (q.length : Int) := by rw [← hl, List.length_cons]; omega
              clear hnone Hbr hend hst hb hl
              obtain ⟨e1, e2, e3⟩ := He0.out
              gi_wp2
              refine ⟨by simp, .inl ⟨_, _, rfl, run_takeDeferred e1, ?_⟩⟩
              refine ⟨.tuple #[.bool false, .slice none 0 0, .bool false], ?_, hn.out⟩
              simp [results, Tryz.results103, go_sem, e2]
            · rw [if_pos ⟨hd, hl⟩] at hb
              obtain ⟨g2, o2, rfl, hg2, _, _⟩ := Hch.out.head
              have hcut2 := Hch.out.cut (l := 1) (k := (d :: r).length) (by simp) (Nat.le_refl _) (m := r.length) (by simp)
              rw [List.take_length, List.drop_succ_cons, List.drop_zero] at hcut2
              obtain ⟨X3, hX3⟩ : ∃ X, X = (if rc = 1 then some (⟨g2, o2, none⟩ : Addr) else some ⟨g2, o2 + 1 * 2, none⟩) := ⟨_, rfl⟩
              rw [← hX3] at hcut2
              have hX4 : (if rc = 1 then some (⟨g2, o2, none⟩ : Addr) else some ⟨g2, o2 + 2, none⟩) = X3 := hX3.symm
              have hl2 : ¬ (r.length : Int) + 1 = (q.length : Int) := fun e => hl (by rw [List.length_cons]; omega)
              have hrc4 : r.length + 1 ≤ rc := hrc
              have hout := hide (fun (b : Bool) (hbb : b = (fb != true)) => (show ((W4.drew.setCell ⟨w.heap.size + 1, 0, none⟩ (.bool b)).heap[w3.heap.size]? = some (.deferred (some []))) ∧ ((W4.drew.setCell ⟨w.heap.size + 1, 0, none⟩ (.bool b)).putObj w3.heap.size (.deferred none)).cell? ⟨w.heap.size + 1, 0, none⟩ = some (.bool b) ∧ BrPost w T (x :: y :: q) c (.returned (.tuple #[.bool b, .slice X3 r.length (rc - 1), .bool true])) ((W4.drew.setCell ⟨w.heap.size + 1, 0, none⟩ (.bool b)).putObj w3.heap.size (.deferred none)) from
                ⟨(hend W4.drew b (Fr.refl _ _).drew).1, (hend W4.drew b (Fr.refl _ _).drew).2.1, (hend W4.drew b (Fr.refl _ _).drew).2.2, by rw [hb, hbb]; exact ⟨_, rfl, ChV.mono (T := T) (hd := fun _ _ e => e.1) <| hcut2.frame (S := fun k => k = w.heap.size + 1 ∨ k = w3.heap.size) (((hf4.drew.mono (fun _ _ e => e.elim)).trans ((frSet _ _ _ _).mono fun _ _ e => .inl e)).trans ((fr_putObj (S := fun k => k = w3.heap.size) _ rfl).mono fun _ _ e => .inr e)) (fun k _ hk e => by have := hk.2; omega)⟩⟩))
              clear hnone Hbr hend hst hb hl hX3 hcut2 He0
              have c49 : W4.drew.cell? ⟨w2.heap.size, 0, none⟩ = some (.slice (some ⟨g2, o2, none⟩) (r.length + 1) rc) := c9
              have c44 : W4.drew.cell? ⟨w.heap.size + 1, 0, none⟩ = some (.bool fb) := c4
              have z44 : W4.drew.frozen? ⟨w.heap.size + 1, 0, none⟩ = false := z4 0
              gi_wp2
              refine wpIn_wide.2 (wp_noPanicB ?_)
              refine region_calls (fun w' => w'.cell? ⟨w2.heap.size, 0, none⟩ = some (.slice (some ⟨g2, o2, none⟩) (r.length + 1) rc)) [1, 3, 4] [0, 2, 5] 6 (by kernel_rfl) (by kernel_rfl) (fun _ _ _ _ _ h => h.elim) c49 ?_
              simp only [List.map_cons, List.map_nil, List.getD_cons_zero, List.getD_cons_succ, List.drop_succ_cons, List.drop_zero]
              go_big_quiet_step (fail)
              refine wpQuiet_val (.slice (some ⟨g2, o2, none⟩) (r.length + 1) rc) rfl (fun w' hS => by (go_simp)) ?_
              simp only [Act.put, List.setIfInBounds_toArray, List.set_cons_succ, List.set_cons_zero]
              refine wpQuiet_val (.slice X3 r.length (rc - 1)) rfl (fun w' hS => by (go_simp <;> (intro hle; exfalso; omega))) ?_
              simp only [Act.put, List.setIfInBounds_toArray, List.set_cons_succ, List.set_cons_zero]
              refine wpQuiet_nil ?_
              refine chainS_step rfl (fun K hK => ?_)
              go_wp2_with fail
              refine hK _ _ c49 ?_
              clear hK K
              refine chainS_step rfl (fun K hK => ?_)
              go_wp2_with fail
              refine hK _ _ c49 ?_
              clear hK K
              refine chainS_step rfl (fun K hK => ?_)
              go_wp2_with fail
              have hbw := hout.out _ (show (match true with | true => !fb | false => fb) = (fb != true) by cases fb <;> rfl)
              obtain ⟨f1, f2, f3⟩ := hbw
              have c9f : ∀ v, (W4.setCell ⟨w.heap.size + 1, 0, none⟩ v).drew.cell? ⟨w2.heap.size, 0, none⟩ = some (.slice (some ⟨g2, o2, none⟩) (r.length + 1) rc) := fun v => (World.cell?_of_block (w := W4) (a := ⟨w2.heap.size, 0, none⟩) (Below.heap_setCell _ _ _ _ (by simp; omega))).trans c9
              refine hK _ _ (c9f _) ?_
              clear hK K c9f
              refine chainS_nil ?_
              go_wp2_with fail
              refine noPanicB_normal ?_
              have F3 := hide f3
              clear hout f3
              gi_wp2
              refine ⟨by simp, .inl ⟨_, _, rfl, run_takeDeferred f1, ?_⟩⟩
              refine ⟨_, ?_, F3.out⟩
              have f4 : ((W4.setCell ⟨w.heap.size + 1, 0, none⟩ (.bool (!fb))).drew.putObj w3.heap.size (.deferred none)).cell? ⟨w.heap.size + 1, 0, none⟩ = some (.bool (!fb)) := f2
              simp [results, Tryz.results103, go_sem, f4]
          · rw [decide_eq_false hd]
            rw [if_neg (by simp [hd])] at hb
            have hn := hide (hnone.out hb)
            clear hnone Hbr hend hst hb
            obtain ⟨e1, e2, e3⟩ := He0.out
            gi_wp2
            refine ⟨by simp, .inl ⟨_, _, rfl, run_takeDeferred e1, ?_⟩⟩
            refine ⟨.tuple #[.bool false, .slice none 0 0, .bool false], ?_, hn.out⟩
            simp [results, Tryz.results103, go_sem, e2]
  | false =>
    obtain ⟨yc, hyc⟩ : ∃ y, y = pc - 1 := ⟨_, rfl⟩
    have Hci := hide (Hcut.out.still Hf2.out)
    rw [← hyc] at Hci ⊢
    have hy1 : q0.length ≤ yc := by omega
    have hy2 : yc ≤ 9223372036854775807 := by omega
    have hinn : bracketL (x :: q0) c = brRest q0 c false := by rw [bracketL_eq, show startsL q0 [bangB] = false from hnb]; rfl
    have Hinn := hide hinn
    clear hyc hX2 hpc1 hpc2 hl1 h0' Hcut hnb hinn
    generalize q0 = q at *
    generalize X = Y at *
    gi_wp2
    refine ⟨trivial, callsIn_wide.2 ((members_any _ _ _ _).mono ?_)⟩
    rintro e w' ⟨rfl, rfl⟩
    gi_wp2
    have k9 := blk_alloc (blk_new w2 (.cells #[.slice Y q.length yc] 32 (0, 0))) (.cells #[.slice Y q.length yc] 32 (0, 0))
    have kx := blk_new' (w2.alloc (.cells #[.slice Y q.length yc] 32 (0, 0))) (.cells #[.slice Y q.length yc] 32 (0, 0)) (w2.heap.size + 1) (by simp)
    have hz : ((w2.alloc (.cells #[.slice Y q.length yc] 32 (0, 0))).alloc (.cells #[.slice Y q.length yc] 32 (0, 0))).heap.size = w2.heap.size + 2 := by simp
    have hf3 : Fr (fun _ => False) w2 ((w2.alloc (.cells #[.slice Y q.length yc] 32 (0, 0))).alloc (.cells #[.slice Y q.length yc] 32 (0, 0))) := ((Fr.refl _ _).alloc _).alloc _
    generalize ((w2.alloc (.cells #[.slice Y q.length yc] 32 (0, 0))).alloc (.cells #[.slice Y q.length yc] 32 (0, 0))) = w3 at *
    have hsz2 := Hs2.out
    have hB : w.heap.size < w3.heap.size ∧ w.heap.size + 1 < w3.heap.size ∧ w2.heap.size < w3.heap.size ∧ w2.heap.size + 1 < w3.heap.size ∧ w.heap.size ≤ w3.heap.size := by omega
    have hI0 : BrI w T w3.heap.size w.heap.size (w.heap.size + 1) w2.heap.size (w2.heap.size + 1) c (.slice Y q.length yc) q 0 (fun k => k < w3.heap.size + 2 ∧ ¬ False) w3 := ⟨Nat.zero_le _, fun k hk => ⟨by omega, fun e => e⟩, hf3.get K32.out (fun e => e), hf3.get K42.out (fun e => e), ⟨_, k9, Sub.refl Hci.out⟩, kx, Hci.out.still hf3, Hf2.out.trans hf3⟩
    have HB := hide hB
    have Hz := hide hz
    clear k9 kx hf3 hz hB hsz2 K32 K42 Hf2
    refine rf_law4m (α := Mem × Value) (σ := Nat) (q := 22) (q2 := 23) (fun _ => False) (fun _ h => h.elim) 115 #[.pointer (some ⟨w2.heap.size + 1, 0, none⟩)] rfl (enters_of Tryz.func115 (by kernel_rfl) rfl) (fun x => memV x.1) (fun x => x.2) (fun x => memC x.1) 168 10 11
      (MStep (.slice Y q.length yc) q) (fun s => s = (membersL q.length true q).length) 0 (BrI w T w3.heap.size w.heap.size (w.heap.size + 1) w2.heap.size (w2.heap.size + 1) c (.slice Y q.length yc) q) (fun s A W1 W2 h1 hf => h1.frame HB.out hf) ?hImono hI0 (fun _ => True) (fun _ _ _ _ => trivial) ?hiter ?assign ?body ?done
    case hImono =>
      rintro s A A' W1 h1 hA _
      exact ⟨h1.le, fun k hk => hA _ (h1.lo k hk), h1.h3, h1.h4, h1.h9, h1.hx, h1.ch, h1.fr⟩
    case hiter =>
      intro l' J' W' hJI' hJf' hJA' hY' h0'
      refine callsIn_wide.2 ((members1_iter (8 - 1) (w2.heap.size + 1) _ (.slice Y q.length yc) q l' J' W' (fun s A W1 h1 => ⟨(hJI' s A W1 h1).ch, by rw [blk_cell (hJI' s A W1 h1).hx]; rfl⟩) hJf' hJA' hY' _ h0').mono ?_)
      rintro e W1 ⟨h1, A, h2⟩
      exact ⟨h1, _, A, rfl, h2, trivial⟩
    case assign =>
      rintro l' s A x s' W1 K _ _ hsz hK
      have hK := hide hK
      obtain ⟨ma, mb, mc, hm⟩ := memV_shape x.1
      have hmC : memC x.1 = #[.string ma, .int .u8 mb, .int .u8 mc] := by unfold memC; rw [hm]
      rw [hm, hmC] at hK
      rw [hm]
      gi_wp2
      exact hK.out _ _ ((Fr.refl _ _).alloc _) hsz (blk_new _ _)
    case body =>
      rintro s A ⟨xm, xv⟩ s' xb W1 _ ⟨hlt, hx1, hx2, rfl⟩ hI hsz hxb hW hA0 hA1
      simp only at hx1 hx2 hxb ⊢
      obtain ⟨xa, xn, xc, rfl⟩ := hx2.form
      obtain ⟨rv, g9, -⟩ := hI.h9
      have h3 := hI.h3
      have h4 := hI.h4
      have c4 : W1.cell? ⟨w.heap.size + 1, 0, none⟩ = some (.bool (fnd q c s)) := by rw [blk_cell h4]; rfl
      have z4 := blk_frozen h4
      have c9 : W1.cell? ⟨w2.heap.size, 0, none⟩ = some rv := by rw [blk_cell g9]; rfl
      have c3 : W1.cell? ⟨w.heap.size, 0, none⟩ = some (.int .u8 c.toNat) := by rw [blk_cell h3]; rfl
      have hsuc := fnd_succ (c := c) hlt
      rw [← hx1] at hsuc
      have hoff := offs_succ hlt
      obtain ⟨ma, mb, mc, hm⟩ := memV_shape xm
      have hmC : memC xm = #[.string ma, .int .u8 mb, .int .u8 mc] := by unfold memC; rw [hm]
      rw [hmC] at hxb
      have m0 : W1.cell? ⟨xb, 0, none⟩ = some (.string ma) := by rw [blk_cell hxb]; rfl
      have m1 : W1.cell? ⟨xb, 1, none⟩ = some (.int .u8 mb) := by rw [blk_cell hxb]; rfl
      have m2 : W1.cell? ⟨xb, 2, none⟩ = some (.int .u8 mc) := by rw [blk_cell hxb]; rfl
      have hh := holds_any W1 xm c
      rw [hm] at hh ⊢
      have hh := hide hh
      have hfin : ∀ (W2 : World) (b : Bool), b = fnd q c (s + 1) → Fr (fun _ => False) W1 W2 → rfPost3 w3.heap.size A (BrI w T w3.heap.size w.heap.size (w.heap.size + 1) w2.heap.size (w2.heap.size + 1) c (.slice Y q.length yc) q) (fun _ _ _ => False) (s + 1) W1 .normal ⟨#[], []⟩ ((W2.setCell ⟨w.heap.size + 1, 0, none⟩ (.bool b)).setCell ⟨w2.heap.size, 0, none⟩ (.slice xa xn xc)) := by
        intro W2 b hb hf
        have hH := HB.out
        have hs2 := hf.size
        have hsz2 := Hs2.out
        have hfA : Fr A W1 W2 := hf.mono (fun _ _ e => e.elim)
        have e1 := (hfA.setCell (p := ⟨w.heap.size + 1, 0, none⟩) (.inl (hI.lo _ hH.2.1)) (.bool b))
        have e2 := (e1.setCell (p := ⟨w2.heap.size, 0, none⟩) (.inl (hI.lo _ hH.2.2.1)) (.slice xa xn xc))
        have f3 := blk_set_other (blk_set_other (hf.get hI.h3 (fun e => e)) ⟨w.heap.size + 1, 0, none⟩ (.bool b) (by simp)) ⟨w2.heap.size, 0, none⟩ (.slice xa xn xc) (by simp; omega)
        have f4 := blk_set_other (blk_set (hf.get hI.h4 (fun e => e)) 0 (.bool b)) ⟨w2.heap.size, 0, none⟩ (.slice xa xn xc) (by simp; omega)
        have f9 := blk_set (blk_set_other (hf.get g9 (fun e => e)) ⟨w.heap.size + 1, 0, none⟩ (.bool b) (by simp; omega)) 0 (.slice xa xn xc)
        have fx := blk_set_other (blk_set_other (hf.get hI.hx (fun e => e)) ⟨w.heap.size + 1, 0, none⟩ (.bool b) (by simp; omega)) ⟨w2.heap.size, 0, none⟩ (.slice xa xn xc) (by simp)
        have hfw : Fr (fun k => k = w.heap.size + 1 ∨ k = w2.heap.size) W1 ((W2.setCell ⟨w.heap.size + 1, 0, none⟩ (.bool b)).setCell ⟨w2.heap.size, 0, none⟩ (.slice xa xn xc)) :=
          ((hf.mono (fun _ _ e => e.elim)).setCell (p := ⟨w.heap.size + 1, 0, none⟩) (.inl (.inl rfl)) (.bool b)).setCell (p := ⟨w2.heap.size, 0, none⟩) (.inl (.inr rfl)) (.slice xa xn xc)
        refine ⟨⟨?_, ?_⟩, e2, hlt, fun k hk => .inl (hI.lo k hk), f3, ?_, ⟨(.slice xa xn xc), f9, ?_⟩, fx, hI.ch.frame hfw (fun k _ hk e => by have := hk.2; omega), hI.fr.trans' hfw (fun i hi e => by omega)⟩
        · exact hfw.block _ (by omega) (by omega)
        · exact hfw.block _ (by omega) (by omega)
        · rw [← hb]; exact f4
        · rw [hoff]; exact hx2
      have hfin := hide hfin
      have hne1 : ¬ w.heap.size + 1 = w2.heap.size := by have := Hs2.out; omega
      have hne2 : ¬ w2.heap.size = w.heap.size + 1 := by have := Hs2.out; omega
      have H4 := hide h4
      have H9 := hide g9
      clear hx1 hx2 hI h3 h4 g9 hxb hA0 hA1 hoff hm hmC
      simp only [List.setIfInBounds_toArray, List.set_cons_succ, List.set_cons_zero]
      cases hfd : fnd q c s with
      | true =>
        rw [hfd] at c4 hsuc
        have hb : true = fnd q c (s + 1) := by rw [hsuc]; rfl
        have hf2 := hide (hfin.out W1 true hb (Fr.refl _ _))
        clear hfin hh hsuc hb
        have z9 := blk_frozen H9.out
        clear H4 H9
        gi_wp2
        refine ⟨trivial, ?_⟩
        gi_wp2
        exact hf2.out
      | false =>
        rw [hfd] at c4 hsuc
        clear z4 c9
        gi_wp2
        refine ⟨trivial, (CallsIn.inRound (w3.heap.size + 1) (callsIn_wide.2 hh.out)).mono ?_⟩
        rintro e W2 ⟨rfl, hfW⟩
        have hb : holdsM xm c = fnd q c (s + 1) := by rw [hsuc]; rfl
        have hf2 := hide (hfin.out W2 (holdsM xm c) hb hfW)
        have h42 := hfW.get H4.out (fun e => e)
        have h92 := hfW.get H9.out (fun e => e)
        rw [hfd] at h42
        have c4 : W2.cell? ⟨w.heap.size + 1, 0, none⟩ = some (.bool false) := by rw [blk_cell h42]; rfl
        have z4 := blk_frozen h42
        have c9 : W2.cell? ⟨w2.heap.size, 0, none⟩ = some rv := by rw [blk_cell h92]; rfl
        have z9 := blk_frozen h92
        clear hfin hh hsuc hb h42 h92 H4 H9 hfW
        gi_wp2
        exact hf2.out
    case done =>
      rintro s A W1 rfl hI _ hK
      obtain ⟨rv, k9, hsub⟩ := hI.h9
      have hch := hsub.ch hI.ch
      have k4 := hI.h4
      have hfr := hI.fr
      have hH := HB.out
      have hsz2 := Hs2.out
      have hbr : brRest q c false = match q.drop (offs q (membersL q.length true q).length) with
        | d :: r => if d = un clB ∧ (d :: r).length ≠ q.length then some ((fnd q c (membersL q.length true q).length) != false, r) else none
        | [] => none := rfl
      rw [← Hinn.out] at hbr
      generalize fnd q c (membersL q.length true q).length = fb at *
      generalize q.drop (offs q (membersL q.length true q).length) = rest at *
      have hst := hide (starts_any W1 _ rv rest hch ⟨#[93]⟩)
      obtain ⟨ra, rc, rfl⟩ := hch.form
      obtain ⟨-, hrc, hrc2, -⟩ := hch.at
      have c9 : W1.cell? ⟨w2.heap.size, 0, none⟩ = some (.slice ra rest.length rc) := by rw [blk_cell k9]; rfl
      have Hch := hide hch
      have K9 := hide k9
      have K4 := hide k4
      have Hfr := hide hfr
      have HK := hide hK
      have Hbr := hide hbr
      clear hI hch k9 k4 hfr hK hbr hsub
      gi_wp2
      refine ⟨trivial, callsIn_wide.2 (hst.out.mono ?_)⟩
      rintro e W4 ⟨rfl, hf4⟩
      have h49 := hf4.get K9.out (fun e => e)
      have h44 := hf4.get K4.out (fun e => e)
      have h4K := hf4.get HK.out (fun e => e)
      have c9 : W4.cell? ⟨w2.heap.size, 0, none⟩ = some (.slice ra rest.length rc) := by rw [blk_cell h49]; rfl
      have c4 : W4.cell? ⟨w.heap.size + 1, 0, none⟩ = some (.bool fb) := by rw [blk_cell h44]; rfl
      have z4 := blk_frozen h44
      have hend : ∀ (W5 : World) (b : Bool), Fr (fun _ => False) W4 W5 → ((W5.setCell ⟨w.heap.size + 1, 0, none⟩ (.bool b)).heap[w3.heap.size]? = some (.deferred (some []))) ∧ ((W5.setCell ⟨w.heap.size + 1, 0, none⟩ (.bool b)).putObj w3.heap.size (.deferred none)).cell? ⟨w.heap.size + 1, 0, none⟩ = some (.bool b) ∧ Fr (fun _ => False) w ((W5.setCell ⟨w.heap.size + 1, 0, none⟩ (.bool b)).putObj w3.heap.size (.deferred none)) := by
        intro W5 b hf5
        refine ⟨blk_set_other (hf5.get h4K (fun e => e)) _ _ (by simp; omega), ?_, ?_⟩
        · rw [blk_cell (t := 4) (f := (0, 0)) (c := #[.bool b])]
          · rfl
          · rw [World.putObj_heap_other (by omega), blk_set (hf5.get h44 (fun e => e))]
            rfl
        · exact (((Hfr.out.trans hf4).trans hf5).trans' (frSet _ _ _ _) (fun i hi e => by omega)).trans' (fr_putObj (S := fun k => k = w3.heap.size) _ rfl) (fun i hi e => by omega)
      have hnone := hide (fun (hb : bracketL (x :: q) c = none) => (show BrPost w T (x :: q) c (.returned (.tuple #[.bool false, .slice none 0 0, .bool false])) ((W4.setCell ⟨w.heap.size + 1, 0, none⟩ (.bool false)).putObj w3.heap.size (.deferred none)) from ⟨(hend W4 false (Fr.refl _ _)).2.2, by rw [hb]⟩))
      have He0 := hide (hend W4 false (Fr.refl _ _))
      cases hrest : rest with
      | nil =>
        subst hrest
        have hn := hide (hnone.out Hbr.out)
        have hs0 : startsL [] (ByteArray.mk #[93]).data.toList = false := rfl
        rw [hs0]
        clear hnone Hbr hend hst
        obtain ⟨e1, e2, e3⟩ := He0.out
        gi_wp2
        refine ⟨by simp, .inl ⟨_, _, rfl, run_takeDeferred e1, ?_⟩⟩
        refine ⟨.tuple #[.bool false, .slice none 0 0, .bool false], ?_, hn.out⟩
        simp [results, Tryz.results103, go_sem, e2]
      | cons d r =>
        subst hrest
        have hs0 : startsL (d :: r) (ByteArray.mk #[93]).data.toList = decide (d = un clB) := starts_one d r 93
        rw [hs0]
        have hb := Hbr.out
        simp only at hb
        by_cases hd : d = un clB
        · rw [decide_eq_true hd]
          by_cases hl : (d :: r).length = q.length
          · rw [if_neg (by simp [hl])] at hb
            have hn := hide (hnone.out hb)
            have hl2 : (r.length : Int) + 1 = (q.length : Int) := by rw [← hl, List.length_cons]; omega
            clear hnone Hbr hend hst hb hl
            obtain ⟨e1, e2, e3⟩ := He0.out
            gi_wp2
            refine ⟨by simp, .inl ⟨_, _, rfl, run_takeDeferred e1, ?_⟩⟩
            refine ⟨.tuple #[.bool false, .slice none 0 0, .bool false], ?_, hn.out⟩
            simp [results, Tryz.results103, go_sem, e2]
          · rw [if_pos ⟨hd, hl⟩] at hb
            obtain ⟨g2, o2, rfl, hg2, _, _⟩ := Hch.out.head
            have hcut2 := Hch.out.cut (l := 1) (k := (d :: r).length) (by simp) (Nat.le_refl _) (m := r.length) (by simp)
            rw [List.take_length, List.drop_succ_cons, List.drop_zero] at hcut2
            obtain ⟨X3, hX3⟩ : ∃ X, X = (if rc = 1 then some (⟨g2, o2, none⟩ : Addr) else some ⟨g2, o2 + 1 * 2, none⟩) := ⟨_, rfl⟩
            rw [← hX3] at hcut2
            have hX4 : (if rc = 1 then some (⟨g2, o2, none⟩ : Addr) else some ⟨g2, o2 + 2, none⟩) = X3 := hX3.symm
            have hl2 : ¬ (r.length : Int) + 1 = (q.length : Int) := fun e => hl (by rw [List.length_cons]; omega)
            have hrc4 : r.length + 1 ≤ rc := hrc
            have hout := hide (fun (b : Bool) (hbb : b = (fb != false)) => (show ((W4.drew.setCell ⟨w.heap.size + 1, 0, none⟩ (.bool b)).heap[w3.heap.size]? = some (.deferred (some []))) ∧ ((W4.drew.setCell ⟨w.heap.size + 1, 0, none⟩ (.bool b)).putObj w3.heap.size (.deferred none)).cell? ⟨w.heap.size + 1, 0, none⟩ = some (.bool b) ∧ BrPost w T (x :: q) c (.returned (.tuple #[.bool b, .slice X3 r.length (rc - 1), .bool true])) ((W4.drew.setCell ⟨w.heap.size + 1, 0, none⟩ (.bool b)).putObj w3.heap.size (.deferred none)) from
              ⟨(hend W4.drew b (Fr.refl _ _).drew).1, (hend W4.drew b (Fr.refl _ _).drew).2.1, (hend W4.drew b (Fr.refl _ _).drew).2.2, by rw [hb, hbb]; exact ⟨_, rfl, ChV.mono (T := T) (hd := fun _ _ e => e.1) <| hcut2.frame (S := fun k => k = w.heap.size + 1 ∨ k = w3.heap.size) (((hf4.drew.mono (fun _ _ e => e.elim)).trans ((frSet _ _ _ _).mono fun _ _ e => .inl e)).trans ((fr_putObj (S := fun k => k = w3.heap.size) _ rfl).mono fun _ _ e => .inr e)) (fun k _ hk e => by have := hk.2; omega)⟩⟩))
            clear hnone Hbr hend hst hb hl hX3 hcut2 He0
            have c49 : W4.drew.cell? ⟨w2.heap.size, 0, none⟩ = some (.slice (some ⟨g2, o2, none⟩) (r.length + 1) rc) := c9
            have c44 : W4.drew.cell? ⟨w.heap.size + 1, 0, none⟩ = some (.bool fb) := c4
            have z44 : W4.drew.frozen? ⟨w.heap.size + 1, 0, none⟩ = false := z4 0
            gi_wp2
            refine wpIn_wide.2 (wp_noPanicB ?_)
            refine region_calls (fun w' => w'.cell? ⟨w2.heap.size, 0, none⟩ = some (.slice (some ⟨g2, o2, none⟩) (r.length + 1) rc)) [1, 3, 4] [0, 2, 5] 6 (by kernel_rfl) (by kernel_rfl) (fun _ _ _ _ _ h => h.elim) c49 ?_
            simp only [List.map_cons, List.map_nil, List.getD_cons_zero, List.getD_cons_succ, List.drop_succ_cons, List.drop_zero]
            go_big_quiet_step (fail)
            refine wpQuiet_val (.slice (some ⟨g2, o2, none⟩) (r.length + 1) rc) rfl (fun w' hS => by (go_simp)) ?_
            simp only [Act.put, List.setIfInBounds_toArray, List.set_cons_succ, List.set_cons_zero]
            refine wpQuiet_val (.slice X3 r.length (rc - 1)) rfl (fun w' hS => by (go_simp <;> (intro hle; exfalso; omega))) ?_
            simp only [Act.put, List.setIfInBounds_toArray, List.set_cons_succ, List.set_cons_zero]
            refine wpQuiet_nil ?_
            refine chainS_step rfl (fun K hK => ?_)
            go_wp2_with fail
            refine hK _ _ c49 ?_
            clear hK K
            refine chainS_step rfl (fun K hK => ?_)
            go_wp2_with fail
            refine hK _ _ c49 ?_
            clear hK K
            refine chainS_step rfl (fun K hK => ?_)
            go_wp2_with fail
            have hbw := hout.out _ (show (match false with | true => !fb | false => fb) = (fb != false) by cases fb <;> rfl)
            obtain ⟨f1, f2, f3⟩ := hbw
            have c9f : ∀ v, (W4.setCell ⟨w.heap.size + 1, 0, none⟩ v).drew.cell? ⟨w2.heap.size, 0, none⟩ = some (.slice (some ⟨g2, o2, none⟩) (r.length + 1) rc) := fun v => (World.cell?_of_block (w := W4) (a := ⟨w2.heap.size, 0, none⟩) (Below.heap_setCell _ _ _ _ (by simp; omega))).trans c9
            refine hK _ _ (c9f _) ?_
            clear hK K c9f
            refine chainS_nil ?_
            go_wp2_with fail
            refine noPanicB_normal ?_
            have F3 := hide f3
            clear hout f3
            gi_wp2
            refine ⟨by simp, .inl ⟨_, _, rfl, run_takeDeferred f1, ?_⟩⟩
            refine ⟨_, ?_, F3.out⟩
            have f4 : ((W4.setCell ⟨w.heap.size + 1, 0, none⟩ (.bool fb)).drew.putObj w3.heap.size (.deferred none)).cell? ⟨w.heap.size + 1, 0, none⟩ = some (.bool fb) := f2
            simp [results, Tryz.results103, go_sem, f4]
        · rw [decide_eq_false hd]
          rw [if_neg (by simp [hd])] at hb
          have hn := hide (hnone.out hb)
          clear hnone Hbr hend hst hb
          obtain ⟨e1, e2, e3⟩ := He0.out
          gi_wp2
          refine ⟨by simp, .inl ⟨_, _, rfl, run_takeDeferred e1, ?_⟩⟩
          refine ⟨.tuple #[.bool false, .slice none 0 0, .bool false], ?_, hn.out⟩
          simp [results, Tryz.results103, go_sem, e2]
end Go.Proofs.YtlhmmiolnbgloaaGreatDoor
