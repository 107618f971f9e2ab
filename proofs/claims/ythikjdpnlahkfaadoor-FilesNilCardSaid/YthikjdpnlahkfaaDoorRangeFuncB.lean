/- A range over a function, where the loop's variable is boxed: the assignment makes memory. Conditions: the premises. -/
import Derived.Test.YthikjdpnlahkfaaDoorRangeFunc
namespace Go.Proofs.YthikjdpnlahkfaaDoor
open Go.RowKit

theorem rf_law2 {P : Program} {α σ : Type} {n : Nat} {g : Operand} {ps : Array Tmp} {assign body : Code} {Q : Exit → Act → World → Prop} {a : Act} {w : World}
    (gf : Nat) (lb : Array Value) (hg : a.eval g = .func (.func gf) #[] lb) (eg : ∀ args w, (callFunc gf args).run P w = .ok (.enter gf args) w)
    (encs : α → Array Value) (hps : ∀ x, (encs x).size = ps.size)
    (Step : σ → α → σ → World → Prop) (Fin : σ → Prop) (s0 : σ) (I : σ → World → Prop) (Ix : Code → World → Prop)
    (hI : ∀ s W W', I s W → Fr (fun k => k = w.heap.size ∨ k = w.heap.size + 1) W W' → I s W')
    (hIx : ∀ c W W', Ix c W → Fr (fun k => k = w.heap.size ∨ k = w.heap.size + 1) W W' → Ix c W')
    (hStep : ∀ s x s' W W', Step s x s' W → I s W → Fr (fun k => k = w.heap.size ∨ k = w.heap.size + 1) W W' → Step s x s' W')
    (h0 : I s0 w)
    (hiter : ∀ (l : Nat) (J : σ → World → Prop) (Jx : World → Prop) (W : World), (∀ s W, J s W → I s W) →
      (∀ s W W', J s W → Fr (fun _ => False) W W' → J s W') → (∀ W W', Jx W → Fr (fun _ => False) W W' → Jx W') →
      (∀ s x s' W, Step s x s' W → J s W → YieldAt FW (n - 1 - 1) P l (encs x) W fun e W' => (e = .returned (.bool true) ∧ J s' W') ∨ (e = .returned (.bool false) ∧ Jx W')) →
      J s0 W → CallsIn FW (n - 1) P gf (#[.func (.yield l) #[] #[]] ++ lb) W fun e W' => (∃ v, e = .returned v) ∧ ((∃ s, Fin s ∧ J s W') ∨ Jx W'))
    (Ax : α → Act → World → Prop) (hAx : ∀ x a' W W', Ax x a' W → Fr (fun k => k = w.heap.size ∨ k = w.heap.size + 1) W W' → Ax x a' W')
    (hassign : ∀ (l : Nat) (s : σ) (x : α) (s' : σ) (W : World) (K : Act → World → Prop), Step s x s' W → I s W → w.heap.size + 2 ≤ W.heap.size → (∀ a' W', Fr (fun _ => False) W W' → Ax x a' W' → K a' W') →
      assign.wpIn (FW.inRound l) (n - 1 - 1) P (Exit.then K (fun _ _ _ => False)) { tmps := (ps.zip (encs x)).foldl (fun t (p, v) => t.setIfInBounds p v) a.tmps, defers := [] } W)
    (hbody : ∀ (l : Nat) (s : σ) (x : α) (s' : σ) (a' : Act) (W : World), Step s x s' W → I s W → Ax x a' W → w.heap.size + 2 ≤ W.heap.size → body.wpIn (FW.inRound l) (n - 1 - 1) P (rfPost w.heap.size I Ix s' W) a' W)
    (hdone : ∀ (s : σ) (W : World), Fin s → I s W → W.heap[w.heap.size]? = some (.deferred (some [])) → Q .normal { a with defers := { target := .collected w.heap.size, args := #[] } :: a.defers } W)
    (hstop : ∀ (c : Code) (W : World), Ix c W → W.heap[w.heap.size]? = some (.deferred (some [])) → c.wpIn FW n P Q { a with defers := { target := .collected w.heap.size, args := #[] } :: a.defers } W) :
    (Code.rangeFunc g ps assign body).wpIn FW n P Q a w := by
  refine wpIn_rangeFunc fun fn hfn => ?_
  obtain ⟨rec, hrec⟩ : ∃ rec : LoopState → Option Code → Loop, rec = fun st pd => { state := st, pending := pd, fn := fn, tmps := a.tmps, params := ps, assign := assign, body := body, defers := w.heap.size } := ⟨_, rfl⟩
  obtain ⟨W1, hW1⟩ : ∃ W1, W1 = (w.alloc (.deferred (some []))).alloc (.loop (rec .ready none)) := ⟨_, rfl⟩
  have hf1 : Fr (fun _ => False) w W1 := by rw [hW1]; exact ((Fr.refl _ _).alloc _).alloc _
  have hL1 : W1.heap[w.heap.size + 1]? = some (.loop (rec .ready none)) := by rw [hW1]; exact blk_new' _ _ _ (by simp)
  have hK1 : W1.heap[w.heap.size]? = some (.deferred (some [])) := by rw [hW1]; exact blk_alloc (blk_new _ _) _
  have hI1 : I s0 W1 := hI _ _ _ h0 (hf1.mono fun _ _ h => h.elim)
  have hR : ∀ {A B : World}, Fr (fun _ => False) A B → Fr (fun k => k = w.heap.size ∨ k = w.heap.size + 1) A B := fun h => h.mono fun _ _ h => h.elim
  have hput : ∀ (A : World) (o : Obj), Fr (fun k => k = w.heap.size ∨ k = w.heap.size + 1) A (A.putObj (w.heap.size + 1) o) := fun A o => fr_putObj o (.inr rfl)
  refine ⟨w.heap.size + 1, [{ target := .collected w.heap.size, args := #[] }], W1, { target := .fn (.func gf) lb, args := #[.func (.yield (w.heap.size + 1)) #[] #[]] }, W1, gf,
    #[.func (.yield (w.heap.size + 1)) #[] #[]] ++ lb, W1, ?_, ?_, ?_, ?_, fun h => (by cases h), ?_⟩
  · rw [hW1, hrec]; exact run_enterLoop_outer _ _ _ _ _
  · simp only [resolve, hg]
    simp [go_sem]
  · intro f' hf'; trivial
  · simp [invoke, go_sem, eg]
  · refine (hiter (w.heap.size + 1)
      (fun s W => I s W ∧ W.heap[w.heap.size + 1]? = some (.loop (rec .ready none)) ∧ W.heap[w.heap.size]? = some (.deferred (some [])))
      (fun W => ∃ c, Ix c W ∧ W.heap[w.heap.size + 1]? = some (.loop (rec .done (some c))) ∧ W.heap[w.heap.size]? = some (.deferred (some [])))
      W1 (fun _ _ h => h.1)
      (fun s A B hs hg' => ⟨hI s A B hs.1 (hR hg'), hg'.get hs.2.1 (fun h => h), hg'.get hs.2.2 (fun h => h)⟩)
      (fun A B hs hg' => by
        obtain ⟨c, hc, hl, hk⟩ := hs
        exact ⟨c, hIx c A B hc (hR hg'), hg'.get hl (fun h => h), hg'.get hk (fun h => h)⟩)
      ?_ ⟨hI1, hL1, hK1⟩).mono ?_
    · rintro s x s' W0 hst0 ⟨hi0, hl0, hk0⟩
      have hlt0 : w.heap.size + 1 < W0.heap.size := blk_lt hl0
      have hy := run_yield (P := P) (args := encs x) hl0 (by rw [hrec]; exact hps x)
      rw [hrec] at hy
      refine ⟨fn, _, assign, body, hy, roundIn_of_wpIn hfn (hassign _ s x s' W0 _ hst0 hi0 (by omega) fun a' W hfW hax => ?_)⟩
      have hi := hI _ _ _ hi0 (hR hfW)
      have hst := hStep _ _ _ _ _ hst0 hi0 (hR hfW)
      have hl := hfW.get hl0 (fun h => h)
      have hk := hfW.get hk0 (fun h => h)
      have hlt : w.heap.size + 1 < W.heap.size := blk_lt hl
      refine ⟨_, run_beginRound hl (by rw [hrec]), ?_⟩
      have hl2 : (W.putObj (w.heap.size + 1) (.loop { rec .ready none with state := .busy })).heap[w.heap.size + 1]? = some (.loop { rec .ready none with state := .busy }) := World.putObj_heap_same hlt
      have hk2 : (W.putObj (w.heap.size + 1) (.loop { rec .ready none with state := .busy })).heap[w.heap.size]? = some (.deferred (some [])) := (World.putObj_heap_other (by omega)).trans hk
      refine wpIn_mono (hbody _ s x s' a' _ (hStep _ _ _ _ _ hst hi (hput _ _)) (hI _ _ _ hi (hput _ _)) (hAx _ _ _ _ hax (hput _ _)) (by simp; omega)) ?_
      have fin : ∀ (jump : Option Code) (W3 : World), (W3.heap[w.heap.size]? = (W.putObj (w.heap.size + 1) (.loop { rec .ready none with state := .busy })).heap[w.heap.size]? ∧ W3.heap[w.heap.size + 1]? = (W.putObj (w.heap.size + 1) (.loop { rec .ready none with state := .busy })).heap[w.heap.size + 1]?) →
          (Instr.endRound (w.heap.size + 1) jump).run P W3 = .ok (.bool jump.isNone) (W3.putObj (w.heap.size + 1) (.loop (rec (if jump.isNone then .ready else .done) jump))) ∧
          (W3.putObj (w.heap.size + 1) (.loop (rec (if jump.isNone then .ready else .done) jump))).heap[w.heap.size + 1]? = some (.loop (rec (if jump.isNone then .ready else .done) jump)) ∧
          (W3.putObj (w.heap.size + 1) (.loop (rec (if jump.isNone then .ready else .done) jump))).heap[w.heap.size]? = some (.deferred (some [])) := fun jump W3 hk3 => by
        have hl3 : W3.heap[w.heap.size + 1]? = some (.loop { rec .ready none with state := .busy }) := hk3.2.trans hl2
        have := run_endRound (P := P) jump hl3
        rw [hrec] at this ⊢
        exact ⟨this, World.putObj_heap_same (blk_lt hl3), (World.putObj_heap_other (by omega)).trans (hk3.1.trans hk2)⟩
      rintro e a3 W3 hp
      cases e with
      | normal =>
        obtain ⟨hk3, hi3⟩ := hp
        obtain ⟨hr, hl4, hk4⟩ := fin none W3 hk3
        exact ⟨_, _, hr, .inl ⟨rfl, hI _ _ _ hi3 (hput _ _), hl4, hk4⟩⟩
      | ret =>
        obtain ⟨hk3, hi3⟩ := hp
        obtain ⟨hr, hl4, hk4⟩ := fin (some .ret) W3 hk3
        exact ⟨_, _, hr, .inr ⟨rfl, .ret, hIx _ _ _ hi3 (hput _ _), hl4, hk4⟩⟩
      | exit id =>
        obtain ⟨hk3, hi3⟩ := hp
        obtain ⟨hr, hl4, hk4⟩ := fin (some (.exit id)) W3 hk3
        exact ⟨_, _, hr, .inr ⟨rfl, .exit id, hIx _ _ _ hi3 (hput _ _), hl4, hk4⟩⟩
      | goto t =>
        obtain ⟨hk3, hi3⟩ := hp
        obtain ⟨hr, hl4, hk4⟩ := fin (some (.goto t)) W3 hk3
        exact ⟨_, _, hr, .inr ⟨rfl, .goto t, hIx _ _ _ hi3 (hput _ _), hl4, hk4⟩⟩
      | panic chain => exact hp.elim
      | outgrown => exact hp.elim
    · rintro e W' ⟨⟨v, rfl⟩, hend⟩
      rcases hend with ⟨s, hfin, hi, hl, hk⟩ | ⟨c, hc, hl, hk⟩
      · have he := run_endLoop (P := P) hl (by rw [hrec]; simp)
        rw [show (rec .ready none).pending = none by rw [hrec]] at he
        refine ⟨none, _, he, ?_⟩
        exact hdone s _ hfin (hI _ _ _ hi (hput _ _)) ((World.putObj_heap_other (by omega)).trans hk)
      · have he := run_endLoop (P := P) hl (by rw [hrec]; simp)
        rw [show (rec .done (some c)).pending = some c by rw [hrec]] at he
        refine ⟨some c, _, he, ?_⟩
        exact hstop c _ (hIx _ _ _ hc (hput _ _)) ((World.putObj_heap_other (by omega)).trans hk)
end Go.Proofs.YthikjdpnlahkfaaDoor
