/- shyardref08.Same at rows that hold the same entries. Conditions: the contract's own premises. -/
import Derived.Test.YthikjdpnlahkfaaDoorFilesTreeT
import Derived.Deep.LoopGhost
import Derived.Laws.StructEq
namespace Go.Proofs.YthikjdpnlahkfaaDoor
open Go.RowKit

theorem ent_cells {w : World} {base : Nat} {a : Option Addr} {n cap : Nat} {L : List EntQ} (h : EntRow w base (.slice a n cap) L) : n = L.length ∧ (0 < L.length → ∃ g, a = some ⟨g, 0, none⟩ ∧ base ≤ g ∧ g < w.heap.size ∧ ∀ k (hk : k < L.length),
    w.cell? ⟨g, k * 4, none⟩ = some (.string (baL L[k].path)) ∧ w.cell? ⟨g, k * 4 + 1, none⟩ = some (.int .i64 L[k].kind) ∧ w.cell? ⟨g, k * 4 + 2, none⟩ = some (.int .i64 L[k].mode) ∧ w.cell? ⟨g, k * 4 + 3, none⟩ = some (.string (baL L[k].data))) := by
  obtain ⟨h1, h2⟩ := h
  rcases h2 with ⟨h2, h3⟩ | ⟨g, cap', cur, h2, hb, hg, h3, h4, h5, h6⟩
  · cases h2
    exact ⟨h3.symm, fun h0 => by omega⟩
  · cases h2
    refine ⟨rfl, fun h0 => ⟨g, rfl, hb, blk_lt hg, fun k hk => ?_⟩⟩
    have key : ∀ j, j < 4 → w.cell? ⟨g, k * 4 + j, none⟩ = (entC L[k])[j]? := fun j hj => by
      rw [blk_cell hg]
      have e1 : (entCells L)[k * 4 + j]? = (entC L[k])[j]? := by
        have e2 : entCells L = entCells (L.take k) ++ (entC L[k] ++ entCells (L.drop (k + 1))) := by
          rw [← List.append_assoc, ← entCells_take L k hk]
          unfold entCells
          rw [← List.flatten_append, ← List.map_append, List.take_append_drop]
        rw [e2, List.getElem?_append_right (by rw [entCells_length, List.length_take]; omega), entCells_length, List.length_take, show k * 4 + j - min k L.length * 4 = j by rw [Nat.min_eq_left (by omega)]; omega, List.getElem?_append_left (by simp [entC]; omega)]
      rw [← e1, ← h6]
      rw [List.getElem?_take_of_lt (by omega), Array.getElem?_toList]
    have k0 := key 0 (by omega)
    exact ⟨k0, key 1 (by omega), key 2 (by omega), key 3 (by omega)⟩
def SameRel (w : World) (len gk : Nat) (i : Value) (wr : World) : Prop := ∃ k, gk + k = len ∧ i = .int .i64 k ∧ Fr (fun _ => False) w wr
set_option maxRecDepth 100000 in
set_option maxHeartbeats 2000000 in
theorem same_any (w : World) (b1 b2 : Nat) (v1 v2 : Value) (L : List EntQ) (h1 : EntRow w b1 v1 L) (h2 : EntRow w b2 v2 L) (hz : L.length ≤ 1000000000) :
    Calls Tryd.prog 28 #[v1, v2] w fun e w' => e = .returned (.bool true) ∧ Fr (fun _ => False) w w' := by
  obtain ⟨a1, c1, rfl⟩ := own_form h1
  obtain ⟨a2, c2, rfl⟩ := own_form h2
  have H1 := hide (ent_cells h1).2
  have H2 := hide (ent_cells h2).2
  clear h1 h2
  go_enter Tryd.func28, Tryd.ntmps28
  go_wp2_with fail
  go_loopg [5] L.length (fun gk i wr => SameRel w L.length gk i wr)
  case atStart => exact ⟨0, by omega, rfl, Fr.refl _ _⟩
  case round =>
    obtain ⟨k, hgk, rfl, hfr⟩ := hrel
    by_cases hlt : k < L.length
    · obtain ⟨g1, rfl, _, l1, hc1⟩ := H1.out (by omega)
      obtain ⟨g2, rfl, _, l2, hc2⟩ := H2.out (by omega)
      obtain ⟨p0, p1, p2, p3⟩ := hc1 k hlt
      obtain ⟨q0, q1, q2, q3⟩ := hc2 k hlt
      have tr : ∀ g, g < w.heap.size → ∀ j, wr.drew.cell? ⟨g, j, none⟩ = w.cell? ⟨g, j, none⟩ := fun g hg j => World.cell?_of_block (w := w) (a := ⟨g, j, none⟩) (hfr.drew.block g hg (fun e => e))
      rw [← tr _ l1] at p0 p1 p2 p3
      rw [← tr _ l2] at q0 q1 q2 q3
      generalize L[k] = x at *
      obtain ⟨xp, xk, xm, xd⟩ := x
      simp only at p0 p1 p2 p3 q0 q1 q2 q3
      have Hfr := hide hfr
      have Hgk := hide hgk
      have hl1 : (0 : Int) ≤ (k : Int) := by omega
      have hl2 : (k : Int) < (L.length : Int) := by omega
      generalize baL xp = bp at *
      generalize baL xd = bd at *
      clear hc1 hc2 tr hfr hgk
      go_wp2_with fail
      refine region_still (by kernel_rfl) (by kernel_rfl) ?_
      repeat go_big_quiet_step (fail)
      refine wpQuiet_nil ?_
      go_wp2_with fail
      go_roundg (gk - 1)
      case measure => have := Hgk.out; omega
      case rel => exact ⟨k + 1, by have := Hgk.out; omega, by go_num, Hfr.out.drew⟩
    · have hkd : ¬ (k : Int) < (L.length : Int) := by omega
      have Hfr := hide hfr
      clear hfr
      go_wp2_with fail
      go_returns
      exact ⟨rfl, Hfr.out⟩
end Go.Proofs.YthikjdpnlahkfaaDoor
