/- Contracts of the methods of table.Table[int] at nil, and the walk of TableNil. No condition. -/
import Derived.Test.YtcoaggghabdndaaTabAwake
namespace Go.Proofs.Ytcoaggghabdndaa
open Go.RowKit Go.Shelf

attribute [local go_sem] Oper.semAt_some

theorem put_nil (x fd : Int) (w : World) : Calls Try.prog 11 #[.pointer none, .int .i64 x, .int .i64 fd] w fun e w' => e = .returned (.tuple #[.int .i64 0, .int .i64 9]) ∧ w = w' := by
  go_enter Try.func11, Try.ntmps11
  go_wp2
  go_ret2
  exact ⟨rfl, rfl⟩
theorem set_nil (x fd : Int) (w : World) : Calls Try.prog 29 #[.pointer none, .int .i64 fd, .int .i64 x] w fun e w' => e = .returned (.tuple #[.int .i64 0, .bool false, .int .i64 9]) ∧ w = w' := by
  go_enter Try.func29, Try.ntmps29
  go_wp2
  go_ret3
  exact ⟨rfl, rfl⟩
theorem get_nil (fd : Int) (w : World) : Calls Try.prog 31 #[.pointer none, .int .i64 fd] w fun e w' => e = .returned (.tuple #[.int .i64 0, .int .i64 9]) ∧ w = w' := by
  go_enter Try.func31, Try.ntmps31
  go_wp2_with fail
  refine (at_nil w fd).mono ?_
  rintro e w' ⟨rfl, rfl⟩
  go_wp2
  go_ret2
  exact ⟨rfl, rfl⟩
theorem cut_nil (fd : Int) (w : World) : Calls Try.prog 12 #[.pointer none, .int .i64 fd] w fun e w' => e = .returned (.tuple #[.int .i64 0, .int .i64 9]) ∧ w = w' := by
  go_enter Try.func12, Try.ntmps12
  go_wp2_with fail
  refine (get_nil fd w).mono ?_
  rintro e w' ⟨rfl, rfl⟩
  go_wp2
  go_ret2
  exact ⟨rfl, rfl⟩
theorem mark_nil (fd : Int) (b : Bool) (w : World) : Calls Try.prog 34 #[.pointer none, .int .i64 fd, .bool b] w fun e w' => e = .returned (.int .i64 9) ∧ w = w' := by
  go_enter Try.func34, Try.ntmps34
  go_wp2_with fail
  refine (at_nil w fd).mono ?_
  rintro e w' ⟨rfl, rfl⟩
  go_wp2
  go_ret
  exact ⟨rfl, rfl⟩
theorem marked_nil (fd : Int) (w : World) : Calls Try.prog 41 #[.pointer none, .int .i64 fd] w fun e w' => e = .returned (.bool false) ∧ w = w' := by
  go_enter Try.func41, Try.ntmps41
  go_wp2_with fail
  refine (at_nil w fd).mono ?_
  rintro e w' ⟨rfl, rfl⟩
  go_wp2
  go_ret
  exact ⟨rfl, rfl⟩
theorem free_nil (w : World) : Calls Try.prog 42 #[.pointer none] w fun e w' => e = .returned (.int .i64 0) ∧ w = w' := by
  go_enter Try.func42, Try.ntmps42
  go_wp2
  go_ret
  exact ⟨rfl, rfl⟩
theorem copy_nil (w : World) : Calls Try.prog 38 #[.pointer none] w fun e w' => e = .returned (.pointer none) ∧ w = w' := by
  go_enter Try.func38, Try.ntmps38
  go_wp2
  go_ret
  exact ⟨rfl, rfl⟩
/-- Nothing to range over. -/
structure NilI (w : World) (k : Nat) (W : World) : Prop where
  b : W.heap[k]? = some (.cells #[.pointer none] 24 (0, 0))
  fr : Fr (fun _ => False) w W
theorem NilI.frame {w W W' : World} {k : Nat} {S : Nat → Prop} (h : NilI w k W) (hf : Fr S W W') (hS : ∀ i, S i → w.heap.size ≤ i) (hk : ¬ S k) : NilI w k W' :=
  ⟨hf.get h.b hk, h.fr.trans' hf (fun i hi e => by have := hS _ e; omega)⟩
def ExecNilPost (w : World) (e : Ending) (w' : World) : Prop := e = .returned (.slice none 0 0) ∧ Fr (fun _ => False) w w'
set_option maxHeartbeats 1000000 in
theorem exec_nil (w : World) : Calls Try.prog 36 #[.pointer none] w (ExecNilPost w) := by
  refine (callsIn_wide (n := 5)).1 ?_
  refine callsIn_of_wp_marks Try.func36 rfl trivial ?_ rfl
  simp only [Try.ntmps36, List.size_toArray, List.length_cons, List.length_nil, Nat.reduceAdd, Nat.reduceSub, Array.replicate_succ, Array.replicate_zero, List.push_toArray, List.append_toArray, List.nil_append, List.cons_append]
  gi_wp2_with (refine ⟨trivial, ?_⟩; gi_at_call 40; refine (callsIn_wide.2 (all_any _ _)).mono ?_; rintro e w' ⟨rfl, rfl⟩)
  have h0 : NilI w (w.heap.size + 2) (((w.alloc (.cells #[.pointer none] 24 (0, 0))).alloc (.cells #[.slice none 0 0] 22 (0, 0))).alloc (.cells #[.pointer none] 24 (0, 0))) :=
    ⟨blk_new' _ _ _ (by simp), (((Fr.refl _ _).alloc _).alloc _).alloc _⟩
  have hl0 : (((w.alloc (.cells #[.pointer none] 24 (0, 0))).alloc (.cells #[.slice none 0 0] 22 (0, 0))).alloc (.cells #[.pointer none] 24 (0, 0))).heap[w.heap.size + 1]? = some (.cells #[.slice none 0 0] 22 (0, 0)) :=
    blk_alloc (blk_new' _ _ _ (by simp)) _
  refine rf_law (α := Nat × Int) (σ := Nat) 51 #[.pointer (some ⟨w.heap.size + 2, 0, none⟩)] rfl (enters_of Try.func51 (by kernel_rfl) rfl) tenc (fun _ => rfl)
    (TStep id (fun _ _ => none) (fun _ fd => fd + 1)) (TFin id (fun _ _ => none)) 0 (fun _ W => NilI w (w.heap.size + 2) W ∧ W.heap[w.heap.size + 1]? = some (.cells #[.slice none 0 0] 22 (0, 0))) (fun _ _ => False)
    (fun s A B h hg => ⟨h.1.frame hg (fun k e => by simp at e; omega) (by simp), hg.get h.2 (by simp)⟩) (fun _ _ _ h _ => h) (fun _ _ _ _ _ h _ _ => h) ⟨h0, hl0⟩
    (fun l J Jx W hJI _ _ hY h0 => all1_iter _ (by omega) _ none id (fun _ _ => none) (fun _ fd => fd + 1) (fun _ _ => rfl) (fun _ W => NilI w (w.heap.size + 2) W ∧ W.heap[w.heap.size + 1]? = some (.cells #[.slice none 0 0] 22 (0, 0)))
      (fun s W h => ⟨.inl ⟨rfl, fun _ => rfl⟩, by rw [blk_cell h.1.b]; rfl⟩) 0 rfl l J Jx W hJI hY h0)
    (fun x => { tmps := #[.pointer none, .pointer (some ⟨w.heap.size, 0, none⟩), .slice none 0 0, .pointer (some ⟨w.heap.size + 1, 0, none⟩), .int .i64 x.1, .int .i64 x.2, .pointer none,
      .func (.func 51) #[] #[.pointer (some ⟨w.heap.size + 2, 0, none⟩)], .int .i64 x.1, .int .i64 x.2, undef, undef, undef, undef, undef, undef, undef, undef, undef, undef, undef, undef, undef, undef, undef, undef, undef, undef, undef], defers := [] }) ?assign ?body ?done ?stop
  case assign =>
    intro l x W K hK
    gi_wp2
    simpa [tenc] using hK
  case body =>
    rintro l s x s' W ⟨hp1, hp2, hp3, ⟨m, hp4⟩, rfl⟩ hi _
    cases hp4
  case done =>
    rintro s W hfin ⟨hi, hl⟩ hK
    have hc : W.cell? ⟨w.heap.size + 1, 0, none⟩ = some (.slice none 0 0) := by rw [blk_cell hl]; rfl
    gi_wp2
    refine ⟨by simp, .inl ⟨_, _, rfl, run_takeDeferred hK, ?_⟩⟩
    refine ⟨_, results_tmp rfl _ _ _, rfl, hi.fr.trans' (fr_putObj (S := fun k => w.heap.size ≤ k) _ (by simp; omega)) (fun i h1 h2 => by omega)⟩
  case stop =>
    rintro c W h _
    exact h.elim
end Go.Proofs.Ytcoaggghabdndaa
