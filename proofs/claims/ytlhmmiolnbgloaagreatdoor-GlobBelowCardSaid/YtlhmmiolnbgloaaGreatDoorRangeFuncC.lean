/- A range over a function whose iterator has memory of its own: the body says which blocks it may touch. Conditions: the premises. -/
import Derived.Test.YtlhmmiolnbgloaaGreatDoorRangeFuncB
namespace Go.Proofs.YtlhmmiolnbgloaaGreatDoor
open Go.RowKit

/-- What a round's body must come to; A: what it may touch of what was there. -/
def rfPost3 {σ : Type} (D : Nat) (A : Nat → Prop) (I : σ → (Nat → Prop) → World → Prop) (Ix : Code → (Nat → Prop) → World → Prop) (s' : σ) (W : World) : Exit → Act → World → Prop
  | .normal, _, W' => (W'.heap[D]? = W.heap[D]? ∧ W'.heap[D + 1]? = W.heap[D + 1]?) ∧ Fr A W W' ∧ I s' (fun k => A k ∨ (W.heap.size ≤ k ∧ k < W'.heap.size)) W'
  | .ret, _, W' => (W'.heap[D]? = W.heap[D]? ∧ W'.heap[D + 1]? = W.heap[D + 1]?) ∧ Fr A W W' ∧ Ix .ret (fun k => A k ∨ (W.heap.size ≤ k ∧ k < W'.heap.size)) W'
  | .exit id, _, W' => (W'.heap[D]? = W.heap[D]? ∧ W'.heap[D + 1]? = W.heap[D + 1]?) ∧ Fr A W W' ∧ Ix (.exit id) (fun k => A k ∨ (W.heap.size ≤ k ∧ k < W'.heap.size)) W'
  | .goto t, _, W' => (W'.heap[D]? = W.heap[D]? ∧ W'.heap[D + 1]? = W.heap[D + 1]?) ∧ Fr A W W' ∧ Ix (.goto t) (fun k => A k ∨ (W.heap.size ≤ k ∧ k < W'.heap.size)) W'
  | .panic _, _, _ => False
  | .outgrown, _, _ => False

theorem rf_law3 {P : Program} {α σ : Type} {n : Nat} {g : Operand} {ps : Array Tmp} {assign body : Code} {Q : Exit → Act → World → Prop} {a : Act} {w : World}
    (gf : Nat) (lb : Array Value) (hg : a.eval g = .func (.func gf) #[] lb) (eg : ∀ args w, (callFunc gf args).run P w = .ok (.enter gf args) w)
    (encs : α → Array Value) (hps : ∀ x, (encs x).size = ps.size)
    (Step : σ → α → σ → Prop) (Fin : σ → Prop) (s0 : σ) (I : σ → (Nat → Prop) → World → Prop) (Ix : Code → (Nat → Prop) → World → Prop)
    (hI : ∀ s (A : Nat → Prop) W W', I s A W → Fr (fun k => k = w.heap.size ∨ k = w.heap.size + 1 ∨ ¬ A k) W W' → I s A W')
    (hImono : ∀ s (A A' : Nat → Prop) W, I s A W → (∀ k, A k → A' k) → I s A' W)
    (hIx : ∀ c (A : Nat → Prop) W W', Ix c A W → Fr (fun k => k = w.heap.size ∨ k = w.heap.size + 1 ∨ ¬ A k) W W' → Ix c A W')
    (hIxmono : ∀ c (A A' : Nat → Prop) W, Ix c A W → (∀ k, A k → A' k) → Ix c A' W)
    (h0 : I s0 (fun k => k < w.heap.size + 2) w)
    (hiter : ∀ (l : Nat) (J : σ → (Nat → Prop) → World → Prop) (Jx : (Nat → Prop) → World → Prop) (W : World), (∀ s A W, J s A W → I s A W) →
      (∀ s (A : Nat → Prop) W W', J s A W → Fr (fun k => ¬ A k) W W' → J s A W') → (∀ (A : Nat → Prop) W W', Jx A W → Fr (fun k => ¬ A k) W W' → Jx A W') → (∀ s A W, J s A W → ∀ k, A k → k < W.heap.size) →
      (∀ s A x s' W, Step s x s' → J s A W → YieldAt FW (n - 1 - 1) P l (encs x) W fun e W' => Fr A W W' ∧ ((e = .returned (.bool true) ∧ J s' (fun k => A k ∨ (W.heap.size ≤ k ∧ k < W'.heap.size)) W') ∨ (e = .returned (.bool false) ∧ Jx (fun k => A k ∨ (W.heap.size ≤ k ∧ k < W'.heap.size)) W'))) →
      J s0 (fun k => k < W.heap.size) W → CallsIn FW (n - 1) P gf (#[.func (.yield l) #[] #[]] ++ lb) W fun e W' => (∃ v, e = .returned v) ∧ ((∃ s A, Fin s ∧ J s A W') ∨ ∃ A, Jx A W'))
    (Ax : α → Act → World → Prop) (hAx : ∀ x a' W W', Ax x a' W → Fr (fun k => k = w.heap.size ∨ k = w.heap.size + 1) W W' → Ax x a' W')
    (hassign : ∀ (l : Nat) (s : σ) (A : Nat → Prop) (x : α) (s' : σ) (W : World) (K : Act → World → Prop), Step s x s' → I s A W → w.heap.size + 2 ≤ W.heap.size → (∀ a' W', Fr (fun _ => False) W W' → Ax x a' W' → K a' W') →
      assign.wpIn (FW.inRound l) (n - 1 - 1) P (Exit.then K (fun _ _ _ => False)) { tmps := (ps.zip (encs x)).foldl (fun t (p, v) => t.setIfInBounds p v) a.tmps, defers := [] } W)
    (hbody : ∀ (l : Nat) (s : σ) (A : Nat → Prop) (x : α) (s' : σ) (a' : Act) (W : World), Step s x s' → I s A W → Ax x a' W → w.heap.size + 2 ≤ W.heap.size → (∀ k, k < w.heap.size + 2 → A k) → (∀ k, A k → k < W.heap.size) →
      body.wpIn (FW.inRound l) (n - 1 - 1) P (rfPost3 w.heap.size A I Ix s' W) a' W)
    (hdone : ∀ (s : σ) (A : Nat → Prop) (W : World), Fin s → I s A W → W.heap[w.heap.size]? = some (.deferred (some [])) → Q .normal { a with defers := { target := .collected w.heap.size, args := #[] } :: a.defers } W)
    (hstop : ∀ (c : Code) (A : Nat → Prop) (W : World), Ix c A W → W.heap[w.heap.size]? = some (.deferred (some [])) → c.wpIn FW n P Q { a with defers := { target := .collected w.heap.size, args := #[] } :: a.defers } W) :
    (Code.rangeFunc g ps assign body).wpIn FW n P Q a w := by
  refine wpIn_rangeFunc fun fn hfn => ?_
  obtain ⟨rec, hrec⟩ : ∃ rec : LoopState → Option Code → Loop, rec = fun st pd => { state := st, pending := pd, fn := fn, tmps := a.tmps, params := ps, assign := assign, body := body, defers := w.heap.size } := ⟨_, rfl⟩
  obtain ⟨W1, hW1⟩ : ∃ W1, W1 = (w.alloc (.deferred (some []))).alloc (.loop (rec .ready none)) := ⟨_, rfl⟩
  have hf1 : Fr (fun _ => False) w W1 := by rw [hW1]; exact ((Fr.refl _ _).alloc _).alloc _
  have hL1 : W1.heap[w.heap.size + 1]? = some (.loop (rec .ready none)) := by rw [hW1]; exact blk_new' _ _ _ (by simp)
  have hK1 : W1.heap[w.heap.size]? = some (.deferred (some [])) := by rw [hW1]; exact blk_alloc (blk_new _ _) _
  have hI1 : I s0 (fun k => k < W1.heap.size) W1 := by
    have hz : W1.heap.size = w.heap.size + 2 := by rw [hW1]; simp
    rw [hz]; exact hI _ _ _ _ h0 (hf1.mono fun _ _ h => h.elim)
  have hz1 : W1.heap.size = w.heap.size + 2 := by rw [hW1]; simp
  have hR : ∀ {T : Nat → Prop} {A B : World}, Fr (fun _ => False) A B → Fr (fun k => k = w.heap.size ∨ k = w.heap.size + 1 ∨ T k) A B := fun h => h.mono fun _ _ h => h.elim
  have hput : ∀ {T : Nat → Prop} (A : World) (o : Obj), Fr (fun k => k = w.heap.size ∨ k = w.heap.size + 1 ∨ T k) A (A.putObj (w.heap.size + 1) o) := fun A o => fr_putObj o (.inr (.inl rfl))
  have hput2 : ∀ (A : World) (o : Obj), Fr (fun k => k = w.heap.size ∨ k = w.heap.size + 1) A (A.putObj (w.heap.size + 1) o) := fun A o => fr_putObj o (.inr rfl)
  have hrec2 : ∀ {T : Nat → Prop} {A B : World} {k : Nat} {o : Obj}, Fr (fun q => ¬ T q) A B → T k → A.heap[k]? = some o → B.heap[k]? = some o := fun h hT hk => h.get hk (fun h9 => h9 hT)
  refine ⟨w.heap.size + 1, [{ target := .collected w.heap.size, args := #[] }], W1, { target := .fn (.func gf) lb, args := #[.func (.yield (w.heap.size + 1)) #[] #[]] }, W1, gf,
    #[.func (.yield (w.heap.size + 1)) #[] #[]] ++ lb, W1, ?_, ?_, ?_, ?_, fun h => (by cases h), ?_⟩
  · rw [hW1, hrec]; exact run_enterLoop_outer _ _ _ _ _
  · simp only [resolve, hg]
    simp [go_sem]
  · intro f' hf'; trivial
  · simp [invoke, go_sem, eg]
  · refine (hiter (w.heap.size + 1)
      (fun s A W => I s A W ∧ W.heap[w.heap.size + 1]? = some (.loop (rec .ready none)) ∧ W.heap[w.heap.size]? = some (.deferred (some [])) ∧ (∀ k, k < w.heap.size + 2 → A k) ∧ (∀ k, A k → k < W.heap.size))
      (fun A W => ∃ c, Ix c A W ∧ W.heap[w.heap.size + 1]? = some (.loop (rec .done (some c))) ∧ W.heap[w.heap.size]? = some (.deferred (some [])) ∧ (∀ k, k < w.heap.size + 2 → A k))
      W1 (fun _ _ _ h => h.1)
      (fun s A X Y hs hg' => ⟨hI s A X Y hs.1 (hg'.mono fun _ _ h => .inr (.inr h)), hrec2 hg' (hs.2.2.2.1 _ (by omega)) hs.2.1, hrec2 hg' (hs.2.2.2.1 _ (by omega)) hs.2.2.1, hs.2.2.2.1, fun k hk => Nat.lt_of_lt_of_le (hs.2.2.2.2 k hk) hg'.size⟩)
      (fun A X Y hs hg' => by
        obtain ⟨c, hc, hl, hk, hA⟩ := hs
        exact ⟨c, hIx c A X Y hc (hg'.mono fun _ _ h => .inr (.inr h)), hrec2 hg' (hA _ (by omega)) hl, hrec2 hg' (hA _ (by omega)) hk, hA⟩)
      (fun _ _ _ h => h.2.2.2.2)
      ?_ ⟨hI1, hL1, hK1, fun k hk => by rw [hz1]; exact hk, fun _ h => h⟩).mono ?_
    · rintro s A x s' W0 hst ⟨hi0, hl0, hk0, hA0, hA1⟩
      have hlt0 : w.heap.size + 1 < W0.heap.size := blk_lt hl0
      have hy := run_yield (P := P) (args := encs x) hl0 (by rw [hrec]; exact hps x)
      rw [hrec] at hy
      refine ⟨fn, _, assign, body, hy, roundIn_of_wpIn hfn (hassign _ s A x s' W0 _ hst hi0 (by omega) fun a' W hfW hax => ?_)⟩
      have hi := hImono s A (fun k => A k ∨ (W0.heap.size ≤ k ∧ k < W.heap.size)) _ (hI _ _ _ _ hi0 (hR hfW)) (fun _ h => .inl h)
      have hl := hfW.get hl0 (fun h => h)
      have hk := hfW.get hk0 (fun h => h)
      have hlt : w.heap.size + 1 < W.heap.size := blk_lt hl
      have hsz := hfW.size
      refine ⟨_, run_beginRound hl (by rw [hrec]), ?_⟩
      have hl2 : (W.putObj (w.heap.size + 1) (.loop { rec .ready none with state := .busy })).heap[w.heap.size + 1]? = some (.loop { rec .ready none with state := .busy }) := World.putObj_heap_same hlt
      have hk2 : (W.putObj (w.heap.size + 1) (.loop { rec .ready none with state := .busy })).heap[w.heap.size]? = some (.deferred (some [])) := (World.putObj_heap_other (by omega)).trans hk
      have hsz2 : (W.putObj (w.heap.size + 1) (.loop { rec .ready none with state := .busy })).heap.size = W.heap.size := by simp
      refine wpIn_mono (hbody _ s (fun k => A k ∨ (W0.heap.size ≤ k ∧ k < W.heap.size)) x s' a' _ hst (hI _ _ _ _ hi (hput _ _)) (hAx _ _ _ _ hax (hput2 _ _)) (by simp; omega) (fun k hk => .inl (hA0 k hk)) (fun k hk => by
        rw [hsz2]
        rcases hk with hk | hk
        · have := hA1 k hk; omega
        · exact hk.2)) ?_
      have fin : ∀ (jump : Option Code) (W3 : World), (W3.heap[w.heap.size]? = (W.putObj (w.heap.size + 1) (.loop { rec .ready none with state := .busy })).heap[w.heap.size]? ∧ W3.heap[w.heap.size + 1]? = (W.putObj (w.heap.size + 1) (.loop { rec .ready none with state := .busy })).heap[w.heap.size + 1]?) →
          (Instr.endRound (w.heap.size + 1) jump).run P W3 = .ok (.bool jump.isNone) (W3.putObj (w.heap.size + 1) (.loop (rec (if jump.isNone then .ready else .done) jump))) ∧
          (W3.putObj (w.heap.size + 1) (.loop (rec (if jump.isNone then .ready else .done) jump))).heap[w.heap.size + 1]? = some (.loop (rec (if jump.isNone then .ready else .done) jump)) ∧
          (W3.putObj (w.heap.size + 1) (.loop (rec (if jump.isNone then .ready else .done) jump))).heap[w.heap.size]? = some (.deferred (some [])) := fun jump W3 hk3 => by
        have hl3 : W3.heap[w.heap.size + 1]? = some (.loop { rec .ready none with state := .busy }) := hk3.2.trans hl2
        have := run_endRound (P := P) jump hl3
        rw [hrec] at this ⊢
        exact ⟨this, World.putObj_heap_same (blk_lt hl3), (World.putObj_heap_other (by omega)).trans (hk3.1.trans hk2)⟩
      have hfrm : ∀ (jump : Option Code) (W3 : World), Fr (fun k => A k ∨ (W0.heap.size ≤ k ∧ k < W.heap.size)) (W.putObj (w.heap.size + 1) (.loop { rec .ready none with state := .busy })) W3 → Fr A W0 (W3.putObj (w.heap.size + 1) (.loop (rec (if jump.isNone then .ready else .done) jump))) := by
        intro jump W3 h3
        have e1 : Fr A W0 (W.putObj (w.heap.size + 1) (.loop { rec .ready none with state := .busy })) := (hfW.mono (fun _ _ h => h.elim)).trans (fr_putObj _ (hA0 _ (by omega)))
        have e2 : Fr A W0 W3 := e1.trans' h3 (fun i hi e => e.elim id (fun e => by omega))
        exact e2.trans (fr_putObj _ (hA0 _ (by omega)))
      have hgrow : ∀ {jump : Option Code} (W3 : World), Fr (fun k => A k ∨ (W0.heap.size ≤ k ∧ k < W.heap.size)) (W.putObj (w.heap.size + 1) (.loop { rec .ready none with state := .busy })) W3 → ∀ k, ((A k ∨ (W0.heap.size ≤ k ∧ k < W.heap.size)) ∨ ((W.putObj (w.heap.size + 1) (.loop { rec .ready none with state := .busy })).heap.size ≤ k ∧ k < W3.heap.size)) → A k ∨ (W0.heap.size ≤ k ∧ k < (W3.putObj (w.heap.size + 1) (.loop (rec (if jump.isNone then .ready else .done) jump))).heap.size) := by
        intro jump W3 hf3 k hk
        have hs3 := hf3.size
        rw [hsz2] at hs3 hk
        rcases hk with (hk | hk) | hk
        · exact .inl hk
        · exact .inr ⟨hk.1, by simp; omega⟩
        · exact .inr ⟨by omega, by simpa using hk.2⟩
      rintro e a3 W3 hp
      cases e with
      | normal =>
        obtain ⟨hk3, hf3, hi3⟩ := hp
        obtain ⟨hr, hl4, hk4⟩ := fin none W3 hk3
        have hs3 := hf3.size
        rw [hsz2] at hs3 hi3
        refine ⟨_, _, hr, hfrm none W3 hf3, .inl ⟨rfl, hImono _ _ _ _ (hI _ _ _ _ hi3 (hput _ _)) (fun k hk => ?_), hl4, hk4, fun k hk => .inl (hA0 k hk), fun k hk => ?_⟩⟩
        · rcases hk with (hk | hk) | hk
          · exact .inl hk
          · exact .inr ⟨hk.1, by simp; omega⟩
          · exact .inr ⟨by omega, by simpa using hk.2⟩
        · rcases hk with hk | hk
          · have := hA1 k hk; simp; omega
          · exact hk.2
      | ret =>
        obtain ⟨hk3, hf3, hi3⟩ := hp
        obtain ⟨hr, hl4, hk4⟩ := fin (some .ret) W3 hk3
        refine ⟨_, _, hr, hfrm (some .ret) W3 hf3, .inr ⟨rfl, .ret, hIxmono _ _ _ _ (hIx _ _ _ _ hi3 (hput _ _)) (hgrow W3 hf3), hl4, hk4, fun k hk => .inl (hA0 k hk)⟩⟩
      | exit id =>
        obtain ⟨hk3, hf3, hi3⟩ := hp
        obtain ⟨hr, hl4, hk4⟩ := fin (some (.exit id)) W3 hk3
        refine ⟨_, _, hr, hfrm (some (.exit id)) W3 hf3, .inr ⟨rfl, .exit id, hIxmono _ _ _ _ (hIx _ _ _ _ hi3 (hput _ _)) (hgrow W3 hf3), hl4, hk4, fun k hk => .inl (hA0 k hk)⟩⟩
      | goto t =>
        obtain ⟨hk3, hf3, hi3⟩ := hp
        obtain ⟨hr, hl4, hk4⟩ := fin (some (.goto t)) W3 hk3
        refine ⟨_, _, hr, hfrm (some (.goto t)) W3 hf3, .inr ⟨rfl, .goto t, hIxmono _ _ _ _ (hIx _ _ _ _ hi3 (hput _ _)) (hgrow W3 hf3), hl4, hk4, fun k hk => .inl (hA0 k hk)⟩⟩
      | panic chain => exact hp.elim
      | outgrown => exact hp.elim
    · rintro e W' ⟨⟨v, rfl⟩, hend⟩
      rcases hend with ⟨s, A, hfin, hi, hl, hk, _⟩ | ⟨A, c, hc, hl, hk, _⟩
      · have he := run_endLoop (P := P) hl (by rw [hrec]; simp)
        rw [show (rec .ready none).pending = none by rw [hrec]] at he
        refine ⟨none, _, he, ?_⟩
        exact hdone s A _ hfin (hI _ _ _ _ hi (hput _ _)) ((World.putObj_heap_other (by omega)).trans hk)
      · have he := run_endLoop (P := P) hl (by rw [hrec]; simp)
        rw [show (rec .done (some c)).pending = some c by rw [hrec]] at he
        refine ⟨some c, _, he, ?_⟩
        exact hstop c A _ (hIx _ _ _ _ hc (hput _ _)) ((World.putObj_heap_other (by omega)).trans hk)
end Go.Proofs.YtlhmmiolnbgloaaGreatDoor
