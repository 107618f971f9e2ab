/- Contract of table.Table[int].Free. Conditions: the contract's own premises. -/
import Derived.Test.YtcoaggghabdndaaTabIter
namespace Go.Proofs.Ytcoaggghabdndaa
open Go.RowKit Go.Shelf

attribute [local go_sem] Oper.semAt_some

/-- How many numbers below k have something. -/
def used (st : TSt) (k : Nat) : Nat := ((List.range k).filter (fun i => (st i).isSome)).length
theorem used_succ (st : TSt) (k : Nat) : used st (k + 1) = used st k + if (st k).isSome = true then 1 else 0 := by
  unfold used
  rw [List.range_succ, List.filter_append, List.length_append]
  congr 1
  by_cases e : (st k).isSome = true <;> simp [e]
theorem used_skip {st : TSt} {a : Nat} : ∀ (n : Nat), (∀ j, a ≤ j → j < a + n → st j = none) → used st (a + n) = used st a
  | 0, _ => rfl
  | n + 1, h => by
    rw [show a + (n + 1) = (a + n) + 1 by omega, used_succ, used_skip n (fun j h1 h2 => h j h1 (by omega)), h (a + n) (by omega) (by omega)]
    simp
theorem used_step {st : TSt} {a b : Nat} (hab : a ≤ b) (h : ∀ j, a ≤ j → j < b → st j = none) (hb : (st b).isSome = true) : used st (b + 1) = used st a + 1 := by
  have := used_skip (st := st) (a := a) (b - a) (fun j h1 h2 => h j h1 (by omega))
  rw [show a + (b - a) = b by omega] at this
  rw [used_succ, this, if_pos hb]
theorem used_end {st : TSt} {a b : Nat} (hab : a ≤ b) (h : ∀ j, a ≤ j → j < b → st j = none) : used st b = used st a := by
  have := used_skip (st := st) (a := a) (b - a) (fun j h1 h2 => h j h1 (by omega))
  rwa [show a + (b - a) = b by omega] at this
theorem used_le (st : TSt) (k : Nat) : used st k ≤ k := by
  unfold used
  exact Nat.le_trans (List.length_filter_le _ _) (by simp)

def FreePost (w : World) (st : TSt) (e : Ending) (w' : World) : Prop := e = .returned (.int .i64 ((32 - used st 32 : Nat) : Int)) ∧ Fr (fun _ => False) w w'
structure FreeI (w : World) (t : Nat) (st : TSt) (s : Nat × Nat) (W : World) : Prop where
  le : s.1 ≤ 32
  c : s.2 = used st s.1
  n : W.heap[w.heap.size]? = some (.cells #[.int .i64 ((32 : Int) - (s.2 : Int))] 3 (0, 0))
  b : W.heap[w.heap.size + 1]? = some (.cells #[.pointer (some ⟨t, 0, none⟩)] 24 (0, 0))
  fr : Fr (fun _ => False) w W
theorem FreeI.frame {w W W' : World} {t : Nat} {st : TSt} {s : Nat × Nat} {S : Nat → Prop} (h : FreeI w t st s W) (hf : Fr S W W') (hS : ∀ k, S k → w.heap.size + 2 ≤ k) : FreeI w t st s W' :=
  ⟨h.le, h.c, hf.get h.n (fun e => by have := hS _ e; omega), hf.get h.b (fun e => by have := hS _ e; omega), h.fr.trans' hf (fun i hi e => by have := hS _ e; omega)⟩

set_option maxHeartbeats 1000000 in
theorem free_any (w : World) (t : Nat) (st : TSt) (S : Nat → Prop) (ht : TabAt w t st S) :
    Calls Try.prog 42 #[.pointer (some ⟨t, 0, none⟩)] w (FreePost w st) := by
  refine (callsIn_wide (n := 5)).1 ?_
  refine callsIn_of_wp_marks Try.func42 rfl trivial ?_ rfl
  simp only [Try.ntmps42, List.size_toArray, List.length_cons, List.length_nil, Nat.reduceAdd, Nat.reduceSub, Array.replicate_succ, Array.replicate_zero, List.push_toArray, List.append_toArray, List.nil_append, List.cons_append]
  gi_wp2_with (refine ⟨trivial, ?_⟩; gi_at_call 40; refine (callsIn_wide.2 (all_any _ _)).mono ?_; rintro e w' ⟨rfl, rfl⟩)
  have h0 : FreeI w t st (0, 0) ((w.alloc (.cells #[.int .i64 32] 3 (0, 0))).alloc (.cells #[.pointer (some ⟨t, 0, none⟩)] 24 (0, 0))) :=
    ⟨by simp, rfl, blk_alloc (blk_new _ _) _, blk_new' _ _ _ (by simp), ((Fr.refl _ _).alloc _).alloc _⟩
  refine rf_law (α := Nat × Int) (σ := Nat × Nat) 51 #[.pointer (some ⟨w.heap.size + 1, 0, none⟩)] rfl (enters_of Try.func51 (by kernel_rfl) rfl) tenc (fun _ => rfl)
    (TStep Prod.fst (fun _ => st) (fun s fd => (fd + 1, s.2 + 1))) (TFin Prod.fst (fun _ => st)) (0, 0) (FreeI w t st) (fun _ _ => False)
    (fun s A B h hg => h.frame hg (fun k e => by simp at e; omega)) (fun _ _ _ h _ => h) (fun _ _ _ _ _ h _ _ => h) h0
    (fun l J Jx W hJI _ _ hY h0 => all1_iter _ (by omega) _ (some ⟨t, 0, none⟩) Prod.fst (fun _ => st) (fun s fd => (fd + 1, s.2 + 1)) (fun _ _ => rfl) (FreeI w t st)
      (fun s W h => ⟨.inr ⟨t, S, rfl, ht.frame h.fr (fun _ _ _ e => e)⟩, by rw [blk_cell h.b]; rfl⟩) (0, 0) rfl l J Jx W hJI hY h0)
    (fun x => { tmps := #[.pointer (some ⟨t, 0, none⟩), undef, .int .i64 0, .pointer (some ⟨w.heap.size, 0, none⟩), .pointer (some ⟨t, 0, none⟩), .bool false, .pointer (some ⟨t, 0, none⟩),
      .func (.func 51) #[] #[.pointer (some ⟨w.heap.size + 1, 0, none⟩)], .int .i64 x.1, .int .i64 x.2, undef, undef, undef], defers := [] }) ?assign ?body ?done ?stop
  case assign =>
    intro l x W K hK
    gi_wp2
    simpa [tenc] using hK
  case body =>
    rintro l s x s' W ⟨hp1, hp2, hp3, ⟨m, hp4⟩, rfl⟩ hi _
    have hi' : FreeI w t st (x.1 + 1, s.2 + 1) (W.setCell ⟨w.heap.size, 0, none⟩ (.int .i64 ((32 : Int) - (s.2 : Int) - 1))) := by
      refine ⟨by simp; omega, ?_, ?_, ?_, ?_⟩
      · simp only [hi.c]
        rw [used_step hp1 hp3 (by rw [hp4]; rfl)]
      · rw [blk_set hi.n]; simp; omega
      · exact blk_set_other hi.b _ _ (by simp)
      · exact hi.fr.setCell (.inr (Nat.le_refl _)) _
    have hc : W.cell? ⟨w.heap.size, 0, none⟩ = some (.int .i64 ((32 : Int) - (s.2 : Int))) := by rw [blk_cell hi.n]; rfl
    have hf := blk_frozen hi.n
    have hle : s.2 ≤ 32 := by rw [hi.c]; exact Nat.le_trans (used_le _ _) hi.le
    gi_wp2
    exact ⟨⟨Below.heap_setCell _ _ _ _ (by simp; omega), Below.heap_setCell _ _ _ _ (by simp; omega)⟩, hi'⟩
  case done =>
    rintro s W hfin hi hK
    have hc : W.cell? ⟨w.heap.size, 0, none⟩ = some (.int .i64 ((32 : Int) - (s.2 : Int))) := by rw [blk_cell hi.n]; rfl
    gi_wp2
    refine ⟨by simp, .inl ⟨_, _, rfl, run_takeDeferred hK, ?_⟩⟩
    refine ⟨_, results_tmp rfl _ _ _, ?_, hi.fr.trans' (fr_putObj (S := fun k => w.heap.size ≤ k) _ (by simp; omega)) (fun i h1 h2 => by omega)⟩
    have : used st 32 = used st s.1 := used_end hi.le hfin
    have h2 := hi.c
    have h3 := used_le st 32
    exact ret_int (by omega)
  case stop =>
    rintro c W h _
    exact h.elim
end Go.Proofs.Ytcoaggghabdndaa
