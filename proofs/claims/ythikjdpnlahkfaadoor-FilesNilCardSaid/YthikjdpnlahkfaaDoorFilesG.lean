/- files.place.node, open. Conditions: the contract's own premises. -/
import Derived.Test.YthikjdpnlahkfaaDoorFilesF
import Derived.Test.YthikjdpnlahkfaaDoorRegionTree
namespace Go.Proofs.YthikjdpnlahkfaaDoor
open Go.RowKit

def nodePtr (p : Nat → Nat) (o : Option Nat) : Value := match o with | none => .pointer none | some k => .pointer (some ⟨p k, 0, none⟩)
def placeV (p : Nat → Nat) (a : Nat) (nm : ByteArray) (sl : Bool) : Value := .agg #[.pointer (some ⟨p a, 0, none⟩), .string nm, .bool sl]
theorem Hlook {w : World} {p : Nat → Nat} {b i : Nat} {n : Nd} {dv ev pv : Value} (h : NodeF w p b i n dv ev pv) (hd : n.d = true) : ∃ m, ev = .map (some m) ∧ ∀ nm : ByteArray, nm.size ≤ maxLen → ∀ w', Fr (fun _ => False) w w' → (Instr.lookup 70 (.map (some m)) (.string nm) false).run Tryd.prog w' = .ok (nodePtr p (kget nm.data.toList n.ents)) w' := by
  obtain ⟨-, mb, hev, hmp⟩ := h.dir hd
  refine ⟨mb, hev, fun nm hn w' hf => ?_⟩
  have := (hmp.frame hf (fun e => e)).look (t := 70) (e := 67) false Tryd.underlying9 Tryd.underlying70 (show (zeroValue 67).run Tryd.prog w' = .ok (.pointer none) w' by kernel_rfl) nm hn
  rw [if_neg (by simp), kget_kmap] at this
  rw [this]
  cases kget nm.data.toList n.ents <;> rfl
set_option maxRecDepth 100000 in
theorem placeNode_any (w : World) (p : Nat → Nat) (a : Nat) (n : Nd) (dv ev pv : Value) (h : NodeF w p (p a) a n dv ev pv) (hd : n.d = true) (nm : ByteArray) (hn : nm.size ≤ 32) (sl : Bool) :
    Calls Tryd.prog 48 #[placeV p a nm sl] w fun e w' => e = .returned (nodePtr p (kget nm.data.toList n.ents)) ∧ Fr (fun _ => False) w w' := by
  obtain ⟨m, rfl, hl⟩ := Hlook h hd
  have hl := hl nm (by unfold maxLen; omega)
  obtain ⟨v, hv⟩ : ∃ v, v = nodePtr p (kget nm.data.toList n.ents) := ⟨_, rfl⟩
  rw [← hv] at hl ⊢
  have hf1 : Fr (fun _ => False) w (w.alloc (.cells #[.pointer (some ⟨p a, 0, none⟩), .string nm, .bool sl] 90 (0, 0))) := (Fr.refl _ _).alloc _
  have hl1 := hl _ hf1.drew
  have c6 : (w.alloc (.cells #[.pointer (some ⟨p a, 0, none⟩), .string nm, .bool sl] 90 (0, 0))).cell? ⟨p a, 6, none⟩ = some (.map (some m)) := by rw [blk_cell (blk_alloc h.hb _)]; rfl
  clear hl hv
  unfold placeV
  go_enter Tryd.func48, Tryd.ntmps48
  go_wp2_with fail
  refine region_still (by kernel_rfl) (by kernel_rfl) ?_
  repeat go_big_quiet_step (fail)
  refine wpQuiet_nil ?_
  go_wp2_with fail
  go_ret
  exact ⟨rfl, hf1.drew⟩
def openE (n : Nd) (s : List UInt8) : Int := if (kget s n.ents).isSome = true then 17 else if n.links = 0 then 2 else if mayN n.mode 2 = false then 13 else 0
set_option maxRecDepth 100000 in
theorem placeOpen_any (w : World) (p : Nat → Nat) (a : Nat) (n : Nd) (dv ev pv : Value) (h : NodeF w p (p a) a n dv ev pv) (hd : n.d = true) (nm : ByteArray) (hn : nm.size ≤ 32) (sl : Bool) :
    Calls Tryd.prog 51 #[placeV p a nm sl] w fun e w' => e = .returned (.int .i64 (openE n nm.data.toList)) ∧ Fr (fun _ => False) w w' := by
  obtain ⟨w1, hw1⟩ : ∃ w1, w1 = w.alloc (.cells #[.pointer (some ⟨p a, 0, none⟩), .string nm, .bool sl] 90 (0, 0)) := ⟨_, rfl⟩
  have hf1 : Fr (fun _ => False) w w1 := by rw [hw1]; exact (Fr.refl _ _).alloc _
  have h1 := h.frame hf1 (fun e => e) (fun _ _ e => e) (fun _ _ e => e)
  have hnode := placeNode_any w1 p a n dv ev pv h1 hd nm hn sl
  unfold openE
  unfold placeV at hnode ⊢
  cases hk : kget nm.data.toList n.ents with
  | some k =>
    rw [hk] at hnode
    simp only [nodePtr] at hnode
    simp only [Option.isSome_some, if_true]
    subst hw1
    go_enter Tryd.func51, Tryd.ntmps51
    go_wp2_with fail
    refine hnode.mono ?_
    rintro e w2 ⟨rfl, hf2⟩
    clear hnode
    go_wp2_with fail
    go_ret
    exact ⟨rfl, hf1.trans hf2⟩
  | none =>
    rw [hk] at hnode
    simp only [nodePtr] at hnode
    simp only [Option.isSome_none, if_false, Bool.false_eq_true]
    have hb1 : w1.heap[w.heap.size]? = some (.cells #[.pointer (some ⟨p a, 0, none⟩), .string nm, .bool sl] 90 (0, 0)) := by rw [hw1]; exact blk_new _ _
    have Hnode := hide hnode
    by_cases hl : n.links = 0
    · rw [if_pos hl]
      subst hw1
      go_enter Tryd.func51, Tryd.ntmps51
      go_wp2_with fail
      refine hnode.mono ?_
      rintro e w2 ⟨rfl, hf2⟩
      have h2 := h1.frame hf2 (fun e => e) (fun _ _ e => e) (fun _ _ e => e)
      have c0 : w2.cell? ⟨w.heap.size, 0, none⟩ = some (.pointer (some ⟨p a, 0, none⟩)) := by rw [blk_cell (hf2.get hb1 (fun e => e))]; rfl
      have c3 : w2.cell? ⟨p a, 3, none⟩ = some (.int .i64 n.links) := by rw [blk_cell h2.hb]; rfl
      rw [hl] at c3
      clear hnode
      go_wp2_with fail
      go_ret
      exact ⟨rfl, hf1.trans hf2⟩
    · rw [if_neg hl]
      have hlI : ¬ (n.links : Int) = 0 := by omega
      cases hm : mayN n.mode 2 with
      | false =>
        simp only [if_true]
        subst hw1
        go_enter Tryd.func51, Tryd.ntmps51
        go_wp2_with fail
        refine hnode.mono ?_
        rintro e w2 ⟨rfl, hf2⟩
        have h2 := h1.frame hf2 (fun e => e) (fun _ _ e => e) (fun _ _ e => e)
        have c0 : w2.cell? ⟨w.heap.size, 0, none⟩ = some (.pointer (some ⟨p a, 0, none⟩)) := by rw [blk_cell (hf2.get hb1 (fun e => e))]; rfl
        have c3 : w2.cell? ⟨p a, 3, none⟩ = some (.int .i64 n.links) := by rw [blk_cell h2.hb]; rfl
        have hmay := may_any w2 p (p a) a n dv ev pv h2 2 (by omega)
        rw [hm] at hmay
        clear hnode
        go_wp2_with fail
        refine hmay.mono ?_
        rintro e w3 ⟨rfl, rfl⟩
        clear hmay
        go_wp2_with fail
        go_ret
        exact ⟨rfl, hf1.trans hf2⟩
      | true =>
        simp only [if_false, Bool.true_eq_false]
        subst hw1
        go_enter Tryd.func51, Tryd.ntmps51
        go_wp2_with fail
        refine hnode.mono ?_
        rintro e w2 ⟨rfl, hf2⟩
        have h2 := h1.frame hf2 (fun e => e) (fun _ _ e => e) (fun _ _ e => e)
        have c0 : w2.cell? ⟨w.heap.size, 0, none⟩ = some (.pointer (some ⟨p a, 0, none⟩)) := by rw [blk_cell (hf2.get hb1 (fun e => e))]; rfl
        have c3 : w2.cell? ⟨p a, 3, none⟩ = some (.int .i64 n.links) := by rw [blk_cell h2.hb]; rfl
        have hmay := may_any w2 p (p a) a n dv ev pv h2 2 (by omega)
        rw [hm] at hmay
        clear hnode
        go_wp2_with fail
        refine hmay.mono ?_
        rintro e w3 ⟨rfl, rfl⟩
        clear hmay
        go_wp2_with fail
        go_ret
        exact ⟨rfl, hf1.trans hf2⟩
end Go.Proofs.YthikjdpnlahkfaaDoor
