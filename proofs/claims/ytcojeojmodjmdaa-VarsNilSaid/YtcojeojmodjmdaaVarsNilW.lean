/- The walk of VarsNil: it returns true and leaves old memory as it was. No condition. -/
import Derived.Test.YtcojeojmodjmdaaVarsNil
namespace Go.Proofs.Ytcojeojmodjmdaa
open Go.RowKit Go.Shelf

attribute [local go_sem] Oper.semAt_some

set_option maxRecDepth 100000 in
set_option maxHeartbeats 4000000 in
theorem vnil_walk (s v : ByteArray) (n : Int) (W : World) : Calls Try.prog 7 #[.string s, .string v, .int .i64 n] W (LawPost W) := by
  refine (callsIn_wide (n := 5)).1 ?_
  refine callsIn_of_wp_marks Try.func7 rfl trivial ?_ rfl
  simp only [Try.ntmps7, List.size_toArray, List.length_cons, List.length_nil, Nat.reduceAdd, Nat.reduceSub, Array.replicate_succ, Array.replicate_zero, List.push_toArray, List.append_toArray, List.nil_append, List.cons_append]
  gi_wp2_with (refine ⟨trivial, ?_⟩; first
    | (gi_at_call 8; refine (callsIn_wide.2 (vawake_any _)).mono ?_; rintro e w1 ⟨rfl, hf1⟩)
    | (gi_at_call 19; refine (callsIn_wide.2 (vget_nil _ _)).mono ?_; rintro e w' ⟨rfl, rfl⟩)
    | (gi_at_call 28; refine (callsIn_wide.2 (vall_nil _)).mono ?_; rintro e w' ⟨rfl, rfl⟩))
  have hr1 : w1.heap[W.heap.size]? = some (.cells #[.bool false] 4 (0, 0)) := hf1.get (blk_new _ _) (fun h => h)
  have hs1 : W.heap.size < w1.heap.size := blk_lt hr1
  have hW1 : Fr (fun _ => False) W w1 := ((Fr.refl _ _).alloc _).trans hf1
  clear hf1
  have hbx : (w1.alloc (.cells #[.pointer none] 24 (0, 0))).heap[w1.heap.size]? = some (.cells #[.pointer none] 24 (0, 0)) := blk_new _ _
  have hz2 : (w1.alloc (.cells #[.pointer none] 24 (0, 0))).heap.size = w1.heap.size + 1 := by simp
  have hr2 : (w1.alloc (.cells #[.pointer none] 24 (0, 0))).heap[W.heap.size]? = some (.cells #[.bool false] 4 (0, 0)) := blk_alloc hr1 _
  have hW2 : Fr (fun _ => False) W (w1.alloc (.cells #[.pointer none] 24 (0, 0))) := hW1.trans ((Fr.refl _ _).alloc _)
  generalize (w1.alloc (.cells #[.pointer none] 24 (0, 0))) = w2 at *
  refine rf_law3 (α := List UInt8 × VR) (σ := Unit) 38 #[.pointer (some ⟨w1.heap.size, 0, none⟩)] rfl (enters_of Try.func38 (by kernel_rfl) rfl) venc2 (fun _ => rfl)
    (fun _ _ _ => False) (fun _ => True) () (fun _ A X => (X.heap[w1.heap.size]? = some (.cells #[.pointer none] 24 (0, 0)) ∧ X.heap[W.heap.size]? = some (.cells #[.bool false] 4 (0, 0)) ∧ Fr (fun _ => False) W X) ∧ ∀ k, k < w1.heap.size + 1 → A k) (fun _ _ _ => False)
    ?hI (fun _ A A' X h hA => ⟨h.1, fun k hk => hA _ (h.2 k hk)⟩) (fun _ _ _ _ h _ => h) (fun _ _ _ _ h _ => h) ⟨⟨hbx, hr2, hW2⟩, fun k hk => by omega⟩
    (nil_iter trivial (fun A X h => by rw [blk_cell h.1.1]; rfl))
    (fun _ _ _ => True) (fun _ _ _ _ _ _ => trivial) (fun _ _ _ _ _ _ _ h => h.elim) (fun _ _ _ _ _ _ _ h => h.elim) ?done (fun _ _ _ h _ => h.elim)
  case hI =>
    rintro _ A X Y ⟨⟨h1, h2, h3⟩, h4⟩ hf
    have hno : ∀ k, k < w1.heap.size + 1 → ¬ (k = w2.heap.size ∨ k = w2.heap.size + 1 ∨ ¬ A k) := fun k hk e => by
      rcases e with e | e | e
      · omega
      · omega
      · exact e (h4 k hk)
    exact ⟨⟨hf.get h1 (hno _ (by omega)), hf.get h2 (hno _ (by omega)), h3.trans' hf (fun i hi e => hno _ (by omega) e)⟩, h4⟩
  case done =>
    rintro _ A X _ ⟨⟨h1, h2, h3⟩, h4⟩ hK
    have hc2 : X.cell? ⟨W.heap.size, 0, none⟩ = some (.bool false) := by rw [blk_cell h2]; rfl
    gi_wp2_with (refine ⟨trivial, ?_⟩; first
      | (gi_at_call 10; refine (callsIn_wide.2 (vset_nil _ _ _)).mono ?_; rintro e w' ⟨rfl, rfl⟩)
      | (gi_at_call 12; refine (callsIn_wide.2 (vunset_nil _ _)).mono ?_; rintro e w' ⟨rfl, rfl⟩)
      | (gi_at_call 11; refine (callsIn_wide.2 (vmark_nil _ _ _ _)).mono ?_; rintro e w' ⟨rfl, rfl⟩)
      | (gi_at_call 14; refine (callsIn_wide.2 (vsetargs_nil _ _)).mono ?_; rintro e w' ⟨rfl, rfl⟩)
      | (gi_at_call 15; refine (callsIn_wide.2 (vshift_nil _ _)).mono ?_; rintro e w' ⟨rfl, rfl⟩)
      | (gi_at_call 18; refine (callsIn_wide.2 (vcopy_nil _)).mono ?_; rintro e w' ⟨rfl, rfl⟩)
      | (gi_at_call 17; refine (callsIn_wide.2 (vargs_nil _)).mono ?_; rintro e w' ⟨rfl, rfl⟩)
      | (gi_at_call 13; refine (callsIn_wide.2 (venv_nil _)).mono ?_; rintro e w3 ⟨rfl, hf3⟩; have hr3 := hf3.get h2 (fun h => h); have hc3 : w3.cell? ⟨W.heap.size, 0, none⟩ = some (.bool false) := (by rw [blk_cell hr3]; rfl); have hz3 := blk_frozen hr3))
    have hk3 := hf3.get hK (fun h => h)
    rw [hz2] at hk3
    have hne : w1.heap.size + 1 ≠ W.heap.size := by omega
    refine ⟨by simp, .inl ⟨_, _, rfl, run_takeDeferred (blk_set_other hk3 _ _ hne), ?_⟩⟩
    have hput := fr_putObj (S := fun k => W.heap.size ≤ k) (W := w3.setCell ⟨W.heap.size, 0, none⟩ (.bool true)) (r := w1.heap.size + 1) (.deferred none) (by omega)
    have hW3 : Fr (fun k => W.heap.size ≤ k) W w3 := (h3.trans hf3).mono (fun _ _ h => h.elim)
    have hset : Fr (fun k => W.heap.size ≤ k) W (w3.setCell ⟨W.heap.size, 0, none⟩ (.bool true)) := hW3.setCell (p := ⟨W.heap.size, 0, none⟩) (.inl (Nat.le_refl _)) _
    have hall := hset.trans hput
    refine ⟨.bool true, ?_, rfl, hall.below (fun i h1 h2 => by omega)⟩
    have hc4 : ((w3.setCell ⟨W.heap.size, 0, none⟩ (.bool true)).putObj (w1.heap.size + 1) (.deferred none)).cell? ⟨W.heap.size, 0, none⟩ = some (.bool true) := by
      rw [blk_cell (t := 4) (f := (0, 0)) (c := #[.bool true])]
      · rfl
      · rw [World.putObj_heap_other (by omega), blk_set hr3]
        rfl
    simp [results, Try.results7, go_sem, hc4]
end Go.Proofs.Ytcojeojmodjmdaa
