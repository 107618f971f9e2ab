/- Contracts of the methods of vars.Vars at nil. No condition. -/
import Derived.Test.YtcojeojmodjmdaaVarsAwake
namespace Go.Proofs.Ytcojeojmodjmdaa
open Go.RowKit Go.Shelf

attribute [local go_sem] Oper.semAt_some

theorem vget_nil (s : ByteArray) (w : World) : Calls Try.prog 19 #[.pointer none, .string s] w fun e w' => e = .returned (.tuple #[.string ⟨#[]⟩, .bool false]) ∧ w = w' := by
  go_enter Try.func19, Try.ntmps19
  go_wp2
  go_ret2
  exact ⟨rfl, rfl⟩
theorem vset_nil (s v : ByteArray) (w : World) : Calls Try.prog 10 #[.pointer none, .string s, .string v] w fun e w' => e = .returned (.int .i64 22) ∧ w = w' := by
  go_enter Try.func10, Try.ntmps10
  go_wp2
  go_ret
  exact ⟨rfl, rfl⟩
theorem vunset_nil (s : ByteArray) (w : World) : Calls Try.prog 12 #[.pointer none, .string s] w fun e w' => e = .returned (.int .i64 22) ∧ w = w' := by
  go_enter Try.func12, Try.ntmps12
  go_wp2
  go_ret
  exact ⟨rfl, rfl⟩
theorem vmark_nil (s : ByteArray) (a b : Bool) (w : World) : Calls Try.prog 11 #[.pointer none, .string s, .bool a, .bool b] w fun e w' => e = .returned (.int .i64 22) ∧ w = w' := by
  go_enter Try.func11, Try.ntmps11
  go_wp2
  go_ret
  exact ⟨rfl, rfl⟩
theorem vsetargs_nil (v : Value) (w : World) : Calls Try.prog 14 #[.pointer none, v] w fun e w' => e = .returned (.int .i64 22) ∧ w = w' := by
  go_enter Try.func14, Try.ntmps14
  go_wp2
  go_ret
  exact ⟨rfl, rfl⟩
theorem vshift_nil (n : Int) (w : World) : Calls Try.prog 15 #[.pointer none, .int .i64 n] w fun e w' => e = .returned (.int .i64 22) ∧ w = w' := by
  go_enter Try.func15, Try.ntmps15
  go_wp2
  go_ret
  exact ⟨rfl, rfl⟩
theorem vcopy_nil (w : World) : Calls Try.prog 18 #[.pointer none] w fun e w' => e = .returned (.pointer none) ∧ w = w' := by
  go_enter Try.func18, Try.ntmps18
  go_wp2
  go_ret
  exact ⟨rfl, rfl⟩
theorem vargs_nil (w : World) : Calls Try.prog 17 #[.pointer none] w fun e w' => e = .returned (.slice none 0 0) ∧ w = w' := by
  go_enter Try.func17, Try.ntmps17
  go_wp2
  go_ret
  exact ⟨rfl, rfl⟩
theorem vall_nil (w : World) : Calls Try.prog 28 #[.pointer none] w fun e w' =>
    e = .returned (.func (.func 38) #[] #[.pointer (some ⟨w.heap.size, 0, none⟩)]) ∧ w' = w.alloc (.cells #[.pointer none] 24 (0, 0)) := by
  go_enter Try.func28, Try.ntmps28
  go_wp2
  go_ret
  exact ⟨rfl, rfl⟩
/-- Nothing to range over: the iterator lays one block and is done. -/
theorem vall1_nil (box l : Nat) (W : World) (h : W.cell? ⟨box, 0, none⟩ = some (.pointer none)) :
    Calls Try.prog 38 #[.func (.yield l) #[] #[], .pointer (some ⟨box, 0, none⟩)] W fun e W' => (∃ v, e = .returned v) ∧ Fr (fun _ => False) W W' := by
  have hlb := World.block_lt_of_cell? _ _ h
  refine (callsIn_wide (n := 5)).1 ?_
  refine callsIn_of_wp_marks Try.func38 rfl trivial ?_ rfl
  simp only [Try.ntmps38, List.size_toArray, List.length_cons, List.length_nil, Nat.reduceAdd, Nat.reduceSub, Array.replicate_succ, Array.replicate_zero, List.push_toArray, List.append_toArray, List.nil_append, List.cons_append]
  gi_wp2
  exact ⟨_, results_none rfl _ _ _, ⟨_, rfl⟩, (Fr.refl _ _).alloc _⟩
/-- Nothing to range over, as the law takes it. -/
theorem nil_iter {σ α : Type} {n box : Nat} {encs : α → Array Value} {Step : σ → α → σ → Prop} {Fin : σ → Prop} {s0 : σ} (hfin : Fin s0) {I : σ → (Nat → Prop) → World → Prop} (hI : ∀ A W, I s0 A W → W.cell? ⟨box, 0, none⟩ = some (.pointer none))
    (l : Nat) (J : σ → (Nat → Prop) → World → Prop) (Jx : (Nat → Prop) → World → Prop) (W : World) (hJI : ∀ s A W, J s A W → I s A W)
      (hJf : ∀ s (A : Nat → Prop) W W', J s A W → Fr (fun k => ¬ A k) W W' → J s A W') (_ : ∀ (A : Nat → Prop) W W', Jx A W → Fr (fun k => ¬ A k) W W' → Jx A W') (_ : ∀ s A W, J s A W → ∀ k, A k → k < W.heap.size)
      (_ : ∀ s A x s' W, Step s x s' → J s A W → YieldAt FW (n - 1 - 1) Try.prog l (encs x) W fun e W' => Fr A W W' ∧ ((e = .returned (.bool true) ∧ J s' (fun k => A k ∨ (W.heap.size ≤ k ∧ k < W'.heap.size)) W') ∨ (e = .returned (.bool false) ∧ Jx (fun k => A k ∨ (W.heap.size ≤ k ∧ k < W'.heap.size)) W')))
      (h0 : J s0 (fun k => k < W.heap.size) W) : CallsIn FW (n - 1) Try.prog 38 (#[.func (.yield l) #[] #[]] ++ #[.pointer (some ⟨box, 0, none⟩)]) W fun e W' => (∃ v, e = .returned v) ∧ ((∃ s A, Fin s ∧ J s A W') ∨ ∃ A, Jx A W') := by
  simp only [List.append_toArray, List.cons_append, List.nil_append]
  refine callsIn_wide.2 ((vall1_nil box l W (hI _ _ (hJI _ _ _ h0))).mono ?_)
  rintro e W' ⟨hv, hf⟩
  exact ⟨hv, .inl ⟨s0, _, hfin, hJf _ _ _ _ h0 (hf.mono (fun _ _ h => h.elim))⟩⟩
def VEnvNilPost (w : World) (e : Ending) (w' : World) : Prop := e = .returned (.slice none 0 0) ∧ Fr (fun _ => False) w w'
structure VNilI (w : World) (k : Nat) (W : World) : Prop where
  lb : W.heap[w.heap.size]? = some (.cells #[.slice none 0 0] 22 (0, 0))
  b : W.heap[k]? = some (.cells #[.pointer none] 24 (0, 0))
  fr : Fr (fun _ => False) w W
set_option maxHeartbeats 1000000 in
theorem venv_nil (w : World) : Calls Try.prog 13 #[.pointer none] w (VEnvNilPost w) := by
  refine (callsIn_wide (n := 8)).1 ?_
  refine callsIn_of_wp_marks Try.func13 rfl trivial ?_ rfl
  simp only [Try.ntmps13, List.size_toArray, List.length_cons, List.length_nil, Nat.reduceAdd, Nat.reduceSub, Array.replicate_succ, Array.replicate_zero, List.push_toArray, List.append_toArray, List.nil_append, List.cons_append]
  gi_wp2_with (refine ⟨trivial, ?_⟩; gi_at_call 28; refine (callsIn_wide.2 (vall_nil _)).mono ?_; rintro e w' ⟨rfl, rfl⟩)
  have hbl := blk_alloc (blk_new w (.cells #[.slice none 0 0] 22 (0, 0))) (.cells #[.pointer none] 24 (0, 0))
  have hbi := blk_new' (w.alloc (.cells #[.slice none 0 0] 22 (0, 0))) (.cells #[.pointer none] 24 (0, 0)) (w.heap.size + 1) (by simp)
  have hz : ((w.alloc (.cells #[.slice none 0 0] 22 (0, 0))).alloc (.cells #[.pointer none] 24 (0, 0))).heap.size = w.heap.size + 2 := by simp
  have hfw : Fr (fun _ => False) w ((w.alloc (.cells #[.slice none 0 0] 22 (0, 0))).alloc (.cells #[.pointer none] 24 (0, 0))) := ((Fr.refl _ _).alloc _).alloc _
  generalize ((w.alloc (.cells #[.slice none 0 0] 22 (0, 0))).alloc (.cells #[.pointer none] 24 (0, 0))) = w1 at *
  refine rf_law3 (α := List UInt8 × VR) (σ := Unit) 38 #[.pointer (some ⟨w.heap.size + 1, 0, none⟩)] rfl (enters_of Try.func38 (by kernel_rfl) rfl) venc2 (fun _ => rfl)
    (fun _ _ _ => False) (fun _ => True) () (fun _ A W => VNilI w (w.heap.size + 1) W ∧ ∀ k, k < w.heap.size + 2 → A k) (fun _ _ _ => False)
    ?hI (fun _ A A' W h hA => ⟨h.1, fun k hk => hA _ (h.2 k hk)⟩) (fun _ _ _ _ h _ => h) (fun _ _ _ _ h _ => h) ⟨⟨hbl, hbi, hfw⟩, fun k hk => by omega⟩
    (nil_iter trivial (fun A W h => by rw [blk_cell h.1.b]; rfl))
    (fun _ _ _ => True) (fun _ _ _ _ _ _ => trivial) (fun _ _ _ _ _ _ _ h => h.elim) (fun _ _ _ _ _ _ _ h => h.elim) ?done (fun _ _ _ h _ => h.elim)
  case hI =>
    rintro _ A X Y ⟨⟨h1, h2, h3⟩, h4⟩ hf
    have hno : ∀ k, k < w.heap.size + 2 → ¬ (k = w1.heap.size ∨ k = w1.heap.size + 1 ∨ ¬ A k) := fun k hk e => by
      rcases e with e | e | e
      · omega
      · omega
      · exact e (h4 k hk)
    exact ⟨⟨hf.get h1 (hno _ (by omega)), hf.get h2 (hno _ (by omega)), h3.trans' hf (fun i hi e => hno _ (by omega) e)⟩, h4⟩
  case done =>
    rintro _ A X _ ⟨⟨h1, h2, h3⟩, h4⟩ hK
    have hc : X.cell? ⟨w.heap.size, 0, none⟩ = some (.slice none 0 0) := by rw [blk_cell h1]; rfl
    have hput : Fr (fun k => k = w1.heap.size) X (X.putObj w1.heap.size (.deferred none)) := fr_putObj _ rfl
    have h9 : Fr (fun _ => False) w (X.putObj w1.heap.size (.deferred none)) := h3.trans' hput (fun i hi e => by omega)
    gi_wp2
    refine ⟨by simp, .inl ⟨_, _, rfl, run_takeDeferred hK, ?_⟩⟩
    exact ⟨_, results_tmp rfl _ _ _, rfl, h9⟩
end Go.Proofs.Ytcojeojmodjmdaa
