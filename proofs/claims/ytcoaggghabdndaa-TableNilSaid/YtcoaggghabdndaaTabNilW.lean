/- The walk of TableNil: it returns true and leaves old memory as it was. No condition. -/
import Derived.Test.YtcoaggghabdndaaTabNil
namespace Go.Proofs.Ytcoaggghabdndaa
open Go.RowKit Go.Shelf

attribute [local go_sem] Oper.semAt_some

set_option maxRecDepth 100000 in
set_option maxHeartbeats 4000000 in
theorem tnil_walk (x fd : Int) (W : World) : Calls Try.prog 8 #[.int .i64 x, .int .i64 fd] W (LawPost W) := by
  refine (callsIn_wide (n := 5)).1 ?_
  refine callsIn_of_wp_marks Try.func8 rfl trivial ?_ rfl
  simp only [Try.ntmps8, List.size_toArray, List.length_cons, List.length_nil, Nat.reduceAdd, Nat.reduceSub, Array.replicate_succ, Array.replicate_zero, List.push_toArray, List.append_toArray, List.nil_append, List.cons_append]
  gi_wp2_with (refine ⟨trivial, ?_⟩; first
    | (gi_at_call 9; refine (callsIn_wide.2 (awake_any _)).mono ?_; rintro e w1 ⟨rfl, hf1⟩)
    | (gi_at_call 11; refine (callsIn_wide.2 (put_nil _ _ _)).mono ?_; rintro e w' ⟨rfl, rfl⟩)
    | (gi_at_call 29; refine (callsIn_wide.2 (set_nil _ _ _)).mono ?_; rintro e w' ⟨rfl, rfl⟩)
    | (gi_at_call 31; refine (callsIn_wide.2 (get_nil _ _)).mono ?_; rintro e w' ⟨rfl, rfl⟩)
    | (gi_at_call 12; refine (callsIn_wide.2 (cut_nil _ _)).mono ?_; rintro e w' ⟨rfl, rfl⟩)
    | (gi_at_call 40; refine (callsIn_wide.2 (all_any _ _)).mono ?_; rintro e w' ⟨rfl, rfl⟩))
  have hr1 : w1.heap[W.heap.size]? = some (.cells #[.bool false] 4 (0, 0)) := hf1.get (blk_new _ _) (fun h => h)
  have hs1 : W.heap.size < w1.heap.size := blk_lt hr1
  have h0 : NilI w1 w1.heap.size (w1.alloc (.cells #[.pointer none] 24 (0, 0))) := ⟨blk_new _ _, (Fr.refl _ _).alloc _⟩
  have hW1 : Fr (fun _ => False) W w1 := ((Fr.refl _ _).alloc _).trans hf1
  clear hf1
  refine rf_law (α := Nat × Int) (σ := Nat) 51 #[.pointer (some ⟨w1.heap.size, 0, none⟩)] rfl (enters_of Try.func51 (by kernel_rfl) rfl) tenc (fun _ => rfl)
    (TStep id (fun _ _ => none) (fun _ fd => fd + 1)) (TFin id (fun _ _ => none)) 0 (fun _ W => NilI w1 w1.heap.size W) (fun _ _ => False)
    (fun s A B h hg => h.frame hg (fun k e => by simp at e; omega) (by simp; omega)) (fun _ _ _ h _ => h) (fun _ _ _ _ _ h _ _ => h) h0
    (fun l J Jx W hJI _ _ hY h0 => all1_iter _ (by omega) _ none id (fun _ _ => none) (fun _ fd => fd + 1) (fun _ _ => rfl) (fun _ W => NilI w1 w1.heap.size W)
      (fun s W h => ⟨.inl ⟨rfl, fun _ => rfl⟩, by rw [blk_cell h.b]; rfl⟩) 0 rfl l J Jx W hJI hY h0)
    _ (fun l x W K hK => wpIn_skip hK) ?body ?done ?stop
  case body =>
    rintro l s x s' W ⟨hp1, hp2, hp3, ⟨m, hp4⟩, rfl⟩ hi _
    cases hp4
  case done =>
    rintro s w2 hfin hi hK
    have hfr2 := hi.fr
    have hr2 := hfr2.get hr1 (fun h => h)
    have hc2 : w2.cell? ⟨W.heap.size, 0, none⟩ = some (.bool false) := by rw [blk_cell hr2]; rfl
    clear hi hfin
    gi_wp2_with (refine ⟨trivial, ?_⟩; first
      | (gi_at_call 34; refine (callsIn_wide.2 (mark_nil _ _ _)).mono ?_; rintro e w' ⟨rfl, rfl⟩)
      | (gi_at_call 41; refine (callsIn_wide.2 (marked_nil _ _)).mono ?_; rintro e w' ⟨rfl, rfl⟩)
      | (gi_at_call 42; refine (callsIn_wide.2 (free_nil _)).mono ?_; rintro e w' ⟨rfl, rfl⟩)
      | (gi_at_call 38; refine (callsIn_wide.2 (copy_nil _)).mono ?_; rintro e w' ⟨rfl, rfl⟩)
      | (gi_at_call 36; refine (callsIn_wide.2 (exec_nil _)).mono ?_; rintro e w3 ⟨rfl, hf3⟩; have hr3 := hf3.get hr2 (fun h => h); have hc3 : w3.cell? ⟨W.heap.size, 0, none⟩ = some (.bool false) := (by rw [blk_cell hr3]; rfl); have hz3 := blk_frozen hr3))
    have hk3 := hf3.get hK (fun h => h)
    simp only [World.size_alloc] at hk3
    have hne : w1.heap.size + 1 ≠ W.heap.size := by omega
    refine ⟨by simp, .inl ⟨_, _, rfl, run_takeDeferred (blk_set_other hk3 _ _ hne), ?_⟩⟩
    have hput := fr_putObj (S := fun k => W.heap.size ≤ k) (W := w3.setCell ⟨W.heap.size, 0, none⟩ (.bool true)) (r := w1.heap.size + 1) (.deferred none) (by omega)
    have hW3 : Fr (fun k => W.heap.size ≤ k) W w3 := (hW1.trans (hfr2.trans hf3)).mono (fun _ _ h => h.elim)
    have hset : Fr (fun k => W.heap.size ≤ k) W (w3.setCell ⟨W.heap.size, 0, none⟩ (.bool true)) := hW3.setCell (p := ⟨W.heap.size, 0, none⟩) (.inl (Nat.le_refl _)) _
    have hall := hset.trans hput
    refine ⟨.bool true, ?_, rfl, hall.below (fun i h1 h2 => by omega)⟩
    have hc4 : ((w3.setCell ⟨W.heap.size, 0, none⟩ (.bool true)).putObj (w1.heap.size + 1) (.deferred none)).cell? ⟨W.heap.size, 0, none⟩ = some (.bool true) := by
      rw [blk_cell (t := 4) (f := (0, 0)) (c := #[.bool true])]
      · rfl
      · rw [World.putObj_heap_other (by omega), blk_set hr3]
        rfl
    simp [results, Try.results8, go_sem, hc4]
  case stop =>
    rintro c W h _
    exact h.elim
end Go.Proofs.Ytcoaggghabdndaa
