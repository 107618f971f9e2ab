/- shyardlaw08.tree at no tree; ask at no tree. No condition. -/
import Derived.Test.YthikjdpnlahkfaaDoorFilesAskE
import Derived.Test.YthikjdpnlahkfaaDoorRangeFuncC
import Derived.Shelf.Abstract
import Derived.Shelf.AbstractIn
import Derived.OwnWalkIn
import Derived.TacticsInMore
import Derived.LoopNIn
import Derived.LoopIn
namespace Go.Proofs.YthikjdpnlahkfaaDoor
open Go.RowKit Go.Shelf

attribute [local go_sem] Oper.semAt_some

theorem Tree_nil (w : World) : Calls Tryd.prog 25 #[.pointer none] w fun e w' =>
    e = .returned (.func (.func 45) #[] #[.pointer (some ⟨w.heap.size, 0, none⟩)]) ∧ w' = w.alloc (.cells #[.pointer none] 23 (0, 0)) := by
  go_enter Tryd.func25, Tryd.ntmps25
  go_wp2
  go_ret
  exact ⟨rfl, rfl⟩
theorem tree1_nil (box l : Nat) (W : World) (h : W.cell? ⟨box, 0, none⟩ = some (.pointer none)) :
    Calls Tryd.prog 45 #[.func (.yield l) #[] #[], .pointer (some ⟨box, 0, none⟩)] W fun e W' => (∃ v, e = .returned v) ∧ Fr (fun _ => False) W W' := by
  have hlb := World.block_lt_of_cell? _ _ h
  refine (callsIn_wide (n := 5)).1 ?_
  refine callsIn_of_wp_marks Tryd.func45 rfl trivial ?_ rfl
  simp only [Tryd.ntmps45, List.size_toArray, List.length_cons, List.length_nil, Nat.reduceAdd, Nat.reduceSub, Array.replicate_succ, Array.replicate_zero, List.push_toArray, List.append_toArray, List.nil_append, List.cons_append]
  gi_wp2
  exact ⟨_, results_none rfl _ _ _, ⟨_, rfl⟩, by first | exact Fr.refl _ _ | exact (Fr.refl _ _).alloc _⟩
theorem ftnil_iter {σ α : Type} {n box : Nat} {encs : α → Array Value} {Step : σ → α → σ → Prop} {Fin : σ → Prop} {s0 : σ} (hfin : Fin s0) {I : σ → (Nat → Prop) → World → Prop} (hI : ∀ A W, I s0 A W → W.cell? ⟨box, 0, none⟩ = some (.pointer none))
    (l : Nat) (J : σ → (Nat → Prop) → World → Prop) (Jx : (Nat → Prop) → World → Prop) (W : World) (hJI : ∀ s A W, J s A W → I s A W)
      (hJf : ∀ s (A : Nat → Prop) W W', J s A W → Fr (fun k => ¬ A k) W W' → J s A W') (_ : ∀ (A : Nat → Prop) W W', Jx A W → Fr (fun k => ¬ A k) W W' → Jx A W') (_ : ∀ s A W, J s A W → ∀ k, A k → k < W.heap.size)
      (_ : ∀ s A x s' W, Step s x s' → J s A W → YieldAt FW (n - 1 - 1) Tryd.prog l (encs x) W fun e W' => Fr A W W' ∧ ((e = .returned (.bool true) ∧ J s' (fun k => A k ∨ (W.heap.size ≤ k ∧ k < W'.heap.size)) W') ∨ (e = .returned (.bool false) ∧ Jx (fun k => A k ∨ (W.heap.size ≤ k ∧ k < W'.heap.size)) W')))
      (h0 : J s0 (fun k => k < W.heap.size) W) : CallsIn FW (n - 1) Tryd.prog 45 (#[.func (.yield l) #[] #[]] ++ #[.pointer (some ⟨box, 0, none⟩)]) W fun e W' => (∃ v, e = .returned v) ∧ ((∃ s A, Fin s ∧ J s A W') ∨ ∃ A, Jx A W') := by
  simp only [List.append_toArray, List.cons_append, List.nil_append]
  refine callsIn_wide.2 ((tree1_nil box l W (hI _ _ (hJI _ _ _ h0))).mono ?_)
  rintro e W' ⟨hv, hf⟩
  exact ⟨hv, .inl ⟨s0, _, hfin, hJf _ _ _ _ h0 (hf.mono (fun _ _ h => h.elim))⟩⟩
structure TNilI (w : World) (k : Nat) (W : World) : Prop where
  lb : W.heap[w.heap.size]? = some (.cells #[.slice none 0 0] 42 (0, 0))
  b : W.heap[k]? = some (.cells #[.pointer none] 23 (0, 0))
  fr : Fr (fun _ => False) w W
set_option maxRecDepth 100000 in
set_option maxHeartbeats 1000000 in
theorem tree_nil (w : World) : Calls Tryd.prog 19 #[.pointer none] w fun e w' => e = .returned (.slice none 0 0) ∧ Fr (fun _ => False) w w' := by
  refine (callsIn_wide (n := 8)).1 ?_
  refine callsIn_of_wp_marks Tryd.func19 rfl trivial ?_ rfl
  simp only [Tryd.ntmps19, List.size_toArray, List.length_cons, List.length_nil, Nat.reduceAdd, Nat.reduceSub, Array.replicate_succ, Array.replicate_zero, List.push_toArray, List.append_toArray, List.nil_append, List.cons_append]
  gi_wp2_with (refine ⟨trivial, ?_⟩; gi_at_call 25; refine (callsIn_wide.2 (Tree_nil _)).mono ?_; rintro e w' ⟨rfl, rfl⟩)
  have hbl := blk_alloc (blk_new w (.cells #[.slice none 0 0] 42 (0, 0))) (.cells #[.pointer none] 23 (0, 0))
  have hbi := blk_new' (w.alloc (.cells #[.slice none 0 0] 42 (0, 0))) (.cells #[.pointer none] 23 (0, 0)) (w.heap.size + 1) (by simp)
  have hz : ((w.alloc (.cells #[.slice none 0 0] 42 (0, 0))).alloc (.cells #[.pointer none] 23 (0, 0))).heap.size = w.heap.size + 2 := by simp
  have hfw : Fr (fun _ => False) w ((w.alloc (.cells #[.slice none 0 0] 42 (0, 0))).alloc (.cells #[.pointer none] 23 (0, 0))) := ((Fr.refl _ _).alloc _).alloc _
  generalize ((w.alloc (.cells #[.slice none 0 0] 42 (0, 0))).alloc (.cells #[.pointer none] 23 (0, 0))) = w1 at *
  refine rf_law3 (α := Array Value) (σ := Unit) 45 #[.pointer (some ⟨w.heap.size + 1, 0, none⟩)] rfl (enters_of Tryd.func45 (by kernel_rfl) rfl) (fun x => #[.agg x]) (fun _ => rfl)
    (fun _ _ _ => False) (fun _ => True) () (fun _ A W => TNilI w (w.heap.size + 1) W ∧ ∀ k, k < w.heap.size + 2 → A k) (fun _ _ _ => False)
    ?hI (fun _ A A' W h hA => ⟨h.1, fun k hk => hA _ (h.2 k hk)⟩) (fun _ _ _ _ h _ => h) (fun _ _ _ _ h _ => h) ⟨⟨hbl, hbi, hfw⟩, fun k hk => by omega⟩
    (ftnil_iter trivial (fun A W h => by rw [blk_cell h.1.b]; rfl))
    (fun _ _ _ => True) (fun _ _ _ _ _ _ => trivial) (fun _ _ _ _ _ _ _ h => h.elim) (fun _ _ _ _ _ _ _ h => h.elim) ?done (fun _ _ _ h _ => h.elim)
  case hI =>
    rintro _ A X Y ⟨⟨h1, h2, h3⟩, h4⟩ hf
    have hno : ∀ k, k < w.heap.size + 2 → ¬ (k = w1.heap.size ∨ k = w1.heap.size + 1 ∨ ¬ A k) := fun k hk e => by
      rcases e with e | e | e
      · omega
      · omega
      · exact e (h4 k hk)
    exact ⟨⟨hf.get h1 (hno _ (by omega)), hf.get h2 (hno _ (by omega)), h3.trans' hf (fun i hi e => hno _ (by omega) e)⟩, h4⟩
  case done =>
    rintro _ A X _ ⟨⟨h1, h2, h3⟩, h4⟩ hK
    have hc : X.cell? ⟨w.heap.size, 0, none⟩ = some (.slice none 0 0) := by rw [blk_cell h1]; rfl
    have hput : Fr (fun k => k = w1.heap.size) X (X.putObj w1.heap.size (.deferred none)) := fr_putObj _ rfl
    have h9 : Fr (fun _ => False) w (X.putObj w1.heap.size (.deferred none)) := h3.trans' hput (fun i hi e => by omega)
    gi_wp2
    refine ⟨by simp, .inl ⟨_, _, rfl, run_takeDeferred hK, ?_⟩⟩
    exact ⟨_, results_tmp rfl _ _ _, rfl, h9⟩
/-- What no tree answers. -/
def NilR (w : World) (c : CallQ) (a : AnsQ) (w' : World) : Prop := a.n = 0 ∧ a.s = noBA ∧ a.st = noSt ∧ a.list = noBA ∧ (c.what < 0 ∨ 15 < c.what ∨ a.e = 9) ∧ Fr (fun _ => False) w w'
theorem nilR_ok {w w1 : World} {c : CallQ} {a : AnsQ} (h1 : a = errA 9 ∨ (a = errA 0 ∧ (c.what < 0 ∨ 15 < c.what))) (hf : Fr (fun _ => False) (askW w c) w1) : AskR w (askW w c) (NilR w c) a w1 := by
  refine ⟨hf.mono (fun _ _ e => e.elim), fun w2 h2 => ?_⟩
  have hfr : Fr (fun _ => False) w w2 := ((askW_fr w c).trans hf).trans' h2 (fun i hi e => by have := e.1; omega)
  rcases h1 with rfl | ⟨rfl, h⟩
  · exact ⟨rfl, rfl, rfl, rfl, .inr (.inr rfl), hfr⟩
  · exact ⟨rfl, rfl, rfl, rfl, h.imp id .inl, hfr⟩
theorem askOf_nil (w : World) (c : CallQ) : AskOf (.pointer none) c (askW w c) (AskR w (askW w c) (NilR w c)) := by
  have ok : ∀ w1, Fr (fun _ => False) (askW w c) w1 → AskR w (askW w c) (NilR w c) (errA 9) w1 := fun w1 h => nilR_ok (.inl rfl) h
  have ok' : ∀ w1, askW w c = w1 → AskR w (askW w c) (NilR w c) (errA 9) w1 := fun w1 h => ok w1 (h ▸ Fr.refl _ _)
  refine ⟨fun _ => (Walk_nil _ _ _).mono ?_, fun _ => (Create_nil _ _ _ _).mono ?_, fun _ => (Mkdir_nil _ _ _ _).mono ?_, fun _ => (Unlink_nil _ _ _).mono ?_, fun _ => (Rmdir_nil _ _ _).mono ?_, fun _ => (Link_nil _ _ _ _).mono ?_, fun _ => (Rename_nil _ _ _ _).mono ?_,
    fun _ => (Read_nil _ _ _ _).mono ?_, fun _ => (Write_nil _ _ _ _).mono ?_, fun _ => (Truncate_nil _ _ _).mono ?_, fun _ => (Chmod_nil _ _ _).mono ?_, fun _ => (Stat_nil _ _).mono ?_, fun _ => (List_nil _ _).mono ?_, fun _ => (Hold_nil _ _).mono ?_, fun _ => (Drop_nil _ _).mono ?_, fun _ => (Path_nil _ _).mono ?_, fun h => nilR_ok (.inr ⟨rfl, h⟩) (Fr.refl _ _)⟩
  · rintro e w' ⟨rfl, hf⟩; exact ⟨_, _, rfl, ok _ hf⟩
  · rintro e w' ⟨rfl, hf⟩; exact ⟨_, _, rfl, ok _ hf⟩
  · rintro e w' ⟨rfl, hf⟩; exact ⟨_, rfl, ok _ hf⟩
  · rintro e w' ⟨rfl, hf⟩; exact ⟨_, rfl, ok _ hf⟩
  · rintro e w' ⟨rfl, hf⟩; exact ⟨_, rfl, ok _ hf⟩
  · rintro e w' ⟨rfl, hf⟩; exact ⟨_, rfl, ok _ hf⟩
  · rintro e w' ⟨rfl, hf⟩; exact ⟨_, rfl, ok _ hf⟩
  · rintro e w' ⟨rfl, hf⟩; exact ⟨_, _, rfl, ok' _ hf⟩
  · rintro e w' ⟨rfl, hf⟩; exact ⟨_, _, rfl, ok' _ hf⟩
  · rintro e w' ⟨rfl, hf⟩; exact ⟨_, rfl, ok' _ hf⟩
  · rintro e w' ⟨rfl, hf⟩; exact ⟨_, rfl, ok' _ hf⟩
  · rintro e w' ⟨rfl, hf⟩; exact ⟨noSt, _, rfl, ok _ (by first | exact hf | exact hf ▸ Fr.refl _ _)⟩
  · rintro e w' ⟨rfl, hf⟩; exact ⟨_, [], _, fun _ => True, rfl, ⟨none, 0, rfl, Nat.le_refl _, fun _ => rfl, .inl rfl⟩, Nat.zero_le _, (fun x hx => by cases hx), ok' _ hf⟩
  · rintro e w' ⟨rfl, hf⟩; exact ⟨_, rfl, ok' _ hf⟩
  · rintro e w' ⟨rfl, hf⟩; exact ⟨_, rfl, ok' _ hf⟩
  · rintro e w' ⟨rfl, hf⟩; exact ⟨_, _, rfl, ok' _ hf⟩
theorem ask_nil (w : World) (c : CallQ) : Calls Tryd.prog 16 #[.pointer none, callV c] w (AskPost (NilR w c)) := ask_any _ _ _ _ (askOf_nil w c)
end Go.Proofs.YthikjdpnlahkfaaDoor
