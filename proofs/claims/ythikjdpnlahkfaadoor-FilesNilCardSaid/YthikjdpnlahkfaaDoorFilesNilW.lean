/- The walk of FilesNil: it returns true and leaves old memory as it was. Conditions: what the parameter is; the library's own variable. -/
import Derived.Test.YthikjdpnlahkfaaDoorFilesNilT
import Derived.Test.YthikjdpnlahkfaaDoorFilesT
namespace Go.Proofs.YthikjdpnlahkfaaDoor
open Go.RowKit

set_option maxRecDepth 100000 in
set_option maxHeartbeats 4000000 in
theorem fnil_walk0 (c : CallQ) (hc : CallOk c) (W : World) (hml : Ml W) : Calls Tryd.prog 4 #[callV c] W (LawPost W) := by
  have hst : ∀ w : World, (binOp .eql 37 (.agg #[.int .i64 0, .int .i64 0, .int .i64 0, .int .i64 0, .int .i64 0]) (.agg #[.int .i64 0, .int .i64 0, .int .i64 0, .int .i64 0, .int .i64 0])).run Tryd.prog w = .ok (.bool true) w := fun w => by kernel_rfl
  obtain ⟨what, n, m, k, path, other⟩ := c
  obtain ⟨w1, hw1⟩ : ∃ w1, w1 = W.alloc (.cells #[.int .i64 what, .int .i64 n, .int .i64 m, .int .i64 k, .string path, .string other] 35 (0, 0)) := ⟨_, rfl⟩
  have hf1 : Fr (fun _ => False) W w1 := by rw [hw1]; exact (Fr.refl _ _).alloc _
  have hb1 : w1.heap[W.heap.size]? = some (.cells #[.int .i64 what, .int .i64 n, .int .i64 m, .int .i64 k, .string path, .string other] 35 (0, 0)) := by rw [hw1]; exact blk_new _ _
  have haw := hide (awake_any w1 (hml.frame hf1 (fun e => e)))
  clear hml
  unfold callV
  dsimp only
  go_enter Tryd.func4, Tryd.ntmps4
  go_wp2_with fail
  rw [← hw1]
  refine haw.out.mono ?_
  rintro e w2 ⟨rfl, hf2⟩
  clear haw hw1
  have hb2 := hf2.get hb1 (fun e => e)
  have hf02 := hf1.trans hf2
  have p0 : w2.cell? ⟨W.heap.size, 0, none⟩ = some (.int .i64 what) := by rw [blk_cell hb2]; rfl
  have p1 : w2.cell? ⟨W.heap.size, 1, none⟩ = some (.int .i64 n) := by rw [blk_cell hb2]; rfl
  have p2 : w2.cell? ⟨W.heap.size, 2, none⟩ = some (.int .i64 m) := by rw [blk_cell hb2]; rfl
  have p3 : w2.cell? ⟨W.heap.size, 3, none⟩ = some (.int .i64 k) := by rw [blk_cell hb2]; rfl
  have p4 : w2.cell? ⟨W.heap.size, 4, none⟩ = some (.string path) := by rw [blk_cell hb2]; rfl
  have p5 : w2.cell? ⟨W.heap.size, 5, none⟩ = some (.string other) := by rw [blk_cell hb2]; rfl
  have hask := hide (ask_nil w2 ⟨what, n, m, k, path, other⟩)
  unfold callV at hask
  dsimp only at hask
  go_wp2_with fail
  refine hask.out.mono ?_
  clear hask
  rintro e w3 ⟨⟨an, az, ast, al, ae⟩, rfl, h1, h2, h3, h4, h5, hf3⟩
  dsimp only at h1 h2 h3 h4 h5
  subst h1 h2 h3 h4
  unfold ansV noSt noBA
  dsimp only
  have hb3 := hf3.get hb2 (fun e => e)
  have hf03 := hf02.trans hf3
  clear p0 p1 p2 p3 p4 p5 hf3 hf2 hf02 hf1 hb1 hb2
  have p0 : w3.cell? ⟨W.heap.size, 0, none⟩ = some (.int .i64 what) := by rw [blk_cell hb3]; rfl
  have p1 : w3.cell? ⟨W.heap.size, 1, none⟩ = some (.int .i64 n) := by rw [blk_cell hb3]; rfl
  have p3 : w3.cell? ⟨W.heap.size, 3, none⟩ = some (.int .i64 k) := by rw [blk_cell hb3]; rfl
  have hbn := Bytes_nil
  have hcn := Count_nil
  have hmn := May_nil
  have htn := hide (fun w => tree_nil w)
  have hres := hide (show ∀ X w4, Fr (fun _ => False) W X → Fr (fun _ => False) X w4 → LawPost W (.returned (.bool true)) w4 from fun X w4 h1 h2 => ⟨rfl, (h1.trans h2).below (fun _ _ e => e)⟩)
  have hlt := blk_lt hb3
  have HF := hide hf03
  clear hf03 hb3
  rcases h5 with h5 | h5 | rfl
  all_goals
    go_wp2_with (first
      | (go_at_call 15; refine (Bytes_nil _).mono ?_; rintro e w' ⟨rfl, rfl⟩)
      | (go_at_call 17; refine (Count_nil _).mono ?_; rintro e w' ⟨rfl, rfl⟩)
      | (go_at_call 18; refine (May_nil _ _ _).mono ?_; rintro e w' ⟨rfl, rfl⟩)
      | (go_at_call 19; refine (htn.out _).mono ?_; rintro e w4 ⟨rfl, hf4⟩; have hfin := hide (hres.out _ _ (HF.out.alloc _) hf4); clear hf4))
    all_goals
      go_ret
      exact hfin.out
theorem fnil_walk (v : Value) (W : World) (hml : Ml W) (h : ∃ c, CallOk c ∧ v = callV c) : Calls Tryd.prog 4 #[v] W (LawPost W) := by
  obtain ⟨c, hc, rfl⟩ := h
  exact fnil_walk0 c hc W hml
end Go.Proofs.YthikjdpnlahkfaaDoor
