/- A range over a function whose iterator has memory of its own, old memory too (X): the body leaves that alone, and never stops it. Conditions: the premises. -/
import Derived.Test.YtlhmmiolnbgloaaGreatDoorRangeFuncC
namespace Go.Proofs.YtlhmmiolnbgloaaGreatDoor
open Go.RowKit

theorem rf_law4 {P : Program} {α σ : Type} {n : Nat} {g : Operand} {ps : Array Tmp} {assign body : Code} {Q : Exit → Act → World → Prop} {a : Act} {w : World}
    (X : Nat → Prop) (hX : ∀ k, X k → k < w.heap.size) (gf : Nat) (lb : Array Value) (hg : a.eval g = .func (.func gf) #[] lb) (eg : ∀ args w, (callFunc gf args).run P w = .ok (.enter gf args) w)
    (encs : α → Array Value) (hps : ∀ x, (encs x).size = ps.size)
    (Step : σ → α → σ → Prop) (Fin : σ → Prop) (s0 : σ) (I : σ → (Nat → Prop) → World → Prop)
    (hI : ∀ s (A : Nat → Prop) W W', I s A W → Fr (fun k => k = w.heap.size ∨ k = w.heap.size + 1 ∨ ¬ A k) W W' → I s A W')
    (hImono : ∀ s (A A' : Nat → Prop) W, I s A W → (∀ k, A k → A' k) → (∀ k, A' k → A k ∨ w.heap.size + 2 ≤ k) → I s A' W)
    (h0 : I s0 (fun k => k < w.heap.size + 2 ∧ ¬ X k) w)
    (Dn : World → Prop) (hDn : ∀ W W', Dn W → Fr (fun k => k = w.heap.size ∨ k = w.heap.size + 1) W W' → Dn W')
    (hiter : ∀ (l : Nat) (J : σ → (Nat → Prop) → World → Prop) (W : World), (∀ s A W, J s A W → I s A W) →
      (∀ s (A : Nat → Prop) W W', J s A W → Fr (fun k => ¬ A k) W W' → J s A W') → (∀ s A W, J s A W → ∀ k, A k → k < W.heap.size) →
      (∀ s A x s' W, Step s x s' → J s A W → YieldAt FW (n - 1 - 1) P l (encs x) W fun e W' => Fr A W W' ∧ e = .returned (.bool true) ∧ J s' (fun k => A k ∨ (W.heap.size ≤ k ∧ k < W'.heap.size)) W') →
      J s0 (fun k => k < W.heap.size ∧ ¬ X k) W → Fr (fun _ => False) w W → CallsIn FW (n - 1) P gf (#[.func (.yield l) #[] #[]] ++ lb) W fun e W' => (∃ v, e = .returned v) ∧ ∃ s A, Fin s ∧ J s A W' ∧ Dn W')
    (Ax : α → Act → World → Prop) (hAx : ∀ x a' W W', Ax x a' W → Fr (fun k => k = w.heap.size ∨ k = w.heap.size + 1) W W' → Ax x a' W')
    (hassign : ∀ (l : Nat) (s : σ) (A : Nat → Prop) (x : α) (s' : σ) (W : World) (K : Act → World → Prop), Step s x s' → I s A W → w.heap.size + 2 ≤ W.heap.size → (∀ a' W', Fr (fun _ => False) W W' → Ax x a' W' → K a' W') →
      assign.wpIn (FW.inRound l) (n - 1 - 1) P (Exit.then K (fun _ _ _ => False)) { tmps := (ps.zip (encs x)).foldl (fun t (p, v) => t.setIfInBounds p v) a.tmps, defers := [] } W)
    (hbody : ∀ (s : σ) (A : Nat → Prop) (x : α) (s' : σ) (a' : Act) (W : World), (∃ r, W.heap[w.heap.size + 1]? = some (.loop r)) → Step s x s' → I s A W → Ax x a' W → w.heap.size + 2 ≤ W.heap.size → (∀ k, k < w.heap.size + 2 → ¬ X k → A k) → (∀ k, A k → k < W.heap.size) →
      body.wpIn (FW.inRound (w.heap.size + 1)) (n - 1 - 1) P (rfPost3 w.heap.size A I (fun _ _ _ => False) s' W) a' W)
    (hdone : ∀ (s : σ) (A : Nat → Prop) (W : World), Fin s → I s A W → Dn W → W.heap[w.heap.size]? = some (.deferred (some [])) → Q .normal { a with defers := { target := .collected w.heap.size, args := #[] } :: a.defers } W) :
    (Code.rangeFunc g ps assign body).wpIn FW n P Q a w := by
  refine wpIn_rangeFunc fun fn hfn => ?_
  obtain ⟨rec, hrec⟩ : ∃ rec : LoopState → Option Code → Loop, rec = fun st pd => { state := st, pending := pd, fn := fn, tmps := a.tmps, params := ps, assign := assign, body := body, defers := w.heap.size } := ⟨_, rfl⟩
  obtain ⟨W1, hW1⟩ : ∃ W1, W1 = (w.alloc (.deferred (some []))).alloc (.loop (rec .ready none)) := ⟨_, rfl⟩
  have hf1 : Fr (fun _ => False) w W1 := by rw [hW1]; exact ((Fr.refl _ _).alloc _).alloc _
  have hL1 : W1.heap[w.heap.size + 1]? = some (.loop (rec .ready none)) := by rw [hW1]; exact blk_new' _ _ _ (by simp)
  have hK1 : W1.heap[w.heap.size]? = some (.deferred (some [])) := by rw [hW1]; exact blk_alloc (blk_new _ _) _
  have hI1 : I s0 (fun k => k < W1.heap.size ∧ ¬ X k) W1 := by
    have hz : W1.heap.size = w.heap.size + 2 := by rw [hW1]; simp
    rw [hz]; exact hI _ _ _ _ h0 (hf1.mono fun _ _ h => h.elim)
  have hz1 : W1.heap.size = w.heap.size + 2 := by rw [hW1]; simp
  have hn0 : ¬ X w.heap.size := fun e => by have := hX _ e; omega
  have hn1 : ¬ X (w.heap.size + 1) := fun e => by have := hX _ e; omega
  have hR : ∀ {T : Nat → Prop} {A B : World}, Fr (fun _ => False) A B → Fr (fun k => k = w.heap.size ∨ k = w.heap.size + 1 ∨ T k) A B := fun h => h.mono fun _ _ h => h.elim
  have hput : ∀ {T : Nat → Prop} (A : World) (o : Obj), Fr (fun k => k = w.heap.size ∨ k = w.heap.size + 1 ∨ T k) A (A.putObj (w.heap.size + 1) o) := fun A o => fr_putObj o (.inr (.inl rfl))
  have hput2 : ∀ (A : World) (o : Obj), Fr (fun k => k = w.heap.size ∨ k = w.heap.size + 1) A (A.putObj (w.heap.size + 1) o) := fun A o => fr_putObj o (.inr rfl)
  have hrec2 : ∀ {T : Nat → Prop} {A B : World} {k : Nat} {o : Obj}, Fr (fun q => ¬ T q) A B → T k → A.heap[k]? = some o → B.heap[k]? = some o := fun h hT hk => h.get hk (fun h9 => h9 hT)
  refine ⟨w.heap.size + 1, [{ target := .collected w.heap.size, args := #[] }], W1, { target := .fn (.func gf) lb, args := #[.func (.yield (w.heap.size + 1)) #[] #[]] }, W1, gf,
    #[.func (.yield (w.heap.size + 1)) #[] #[]] ++ lb, W1, ?_, ?_, ?_, ?_, fun h => (by cases h), ?_⟩
  · rw [hW1, hrec]; exact run_enterLoop_outer _ _ _ _ _
  · simp only [resolve, hg]
    simp [go_sem]
  · intro f' hf'; trivial
  · simp [invoke, go_sem, eg]
  · refine (hiter (w.heap.size + 1)
      (fun s A W => I s A W ∧ W.heap[w.heap.size + 1]? = some (.loop (rec .ready none)) ∧ W.heap[w.heap.size]? = some (.deferred (some [])) ∧ (∀ k, k < w.heap.size + 2 → ¬ X k → A k) ∧ (∀ k, A k → k < W.heap.size))
      W1 (fun _ _ _ h => h.1)
      (fun s A X Y hs hg' => ⟨hI s A X Y hs.1 (hg'.mono fun _ _ h => .inr (.inr h)), hrec2 hg' (hs.2.2.2.1 _ (by omega) hn1) hs.2.1, hrec2 hg' (hs.2.2.2.1 _ (by omega) hn0) hs.2.2.1, hs.2.2.2.1, fun k hk => Nat.lt_of_lt_of_le (hs.2.2.2.2 k hk) hg'.size⟩)
      (fun _ _ _ h => h.2.2.2.2)
      ?_ ⟨hI1, hL1, hK1, fun k hk hx => ⟨by rw [hz1]; exact hk, hx⟩, fun _ h => h.1⟩ hf1).mono ?_
    · rintro s A x s' W0 hst ⟨hi0, hl0, hk0, hA0, hA1⟩
      have hlt0 : w.heap.size + 1 < W0.heap.size := blk_lt hl0
      have hy := run_yield (P := P) (args := encs x) hl0 (by rw [hrec]; exact hps x)
      rw [hrec] at hy
      refine ⟨fn, _, assign, body, hy, roundIn_of_wpIn hfn (hassign _ s A x s' W0 _ hst hi0 (by omega) fun a' W hfW hax => ?_)⟩
      have hi := hImono s A (fun k => A k ∨ (W0.heap.size ≤ k ∧ k < W.heap.size)) _ (hI _ _ _ _ hi0 (hR hfW)) (fun _ h => .inl h) (fun k hk => hk.imp id (fun h => by omega))
      have hl := hfW.get hl0 (fun h => h)
      have hk := hfW.get hk0 (fun h => h)
      have hlt : w.heap.size + 1 < W.heap.size := blk_lt hl
      have hsz := hfW.size
      refine ⟨_, run_beginRound hl (by rw [hrec]), ?_⟩
      have hl2 : (W.putObj (w.heap.size + 1) (.loop { rec .ready none with state := .busy })).heap[w.heap.size + 1]? = some (.loop { rec .ready none with state := .busy }) := World.putObj_heap_same hlt
      have hk2 : (W.putObj (w.heap.size + 1) (.loop { rec .ready none with state := .busy })).heap[w.heap.size]? = some (.deferred (some [])) := (World.putObj_heap_other (by omega)).trans hk
      have hsz2 : (W.putObj (w.heap.size + 1) (.loop { rec .ready none with state := .busy })).heap.size = W.heap.size := by simp
      refine wpIn_mono (hbody s (fun k => A k ∨ (W0.heap.size ≤ k ∧ k < W.heap.size)) x s' a' _ ⟨_, hl2⟩ hst (hI _ _ _ _ hi (hput _ _)) (hAx _ _ _ _ hax (hput2 _ _)) (by simp; omega) (fun k hk hx => .inl (hA0 k hk hx)) (fun k hk => by
        rw [hsz2]
        rcases hk with hk | hk
        · have := hA1 k hk; omega
        · exact hk.2)) ?_
      have fin : ∀ (jump : Option Code) (W3 : World), (W3.heap[w.heap.size]? = (W.putObj (w.heap.size + 1) (.loop { rec .ready none with state := .busy })).heap[w.heap.size]? ∧ W3.heap[w.heap.size + 1]? = (W.putObj (w.heap.size + 1) (.loop { rec .ready none with state := .busy })).heap[w.heap.size + 1]?) →
          (Instr.endRound (w.heap.size + 1) jump).run P W3 = .ok (.bool jump.isNone) (W3.putObj (w.heap.size + 1) (.loop (rec (if jump.isNone then .ready else .done) jump))) ∧
          (W3.putObj (w.heap.size + 1) (.loop (rec (if jump.isNone then .ready else .done) jump))).heap[w.heap.size + 1]? = some (.loop (rec (if jump.isNone then .ready else .done) jump)) ∧
          (W3.putObj (w.heap.size + 1) (.loop (rec (if jump.isNone then .ready else .done) jump))).heap[w.heap.size]? = some (.deferred (some [])) := fun jump W3 hk3 => by
        have hl3 : W3.heap[w.heap.size + 1]? = some (.loop { rec .ready none with state := .busy }) := hk3.2.trans hl2
        have := run_endRound (P := P) jump hl3
        rw [hrec] at this ⊢
        exact ⟨this, World.putObj_heap_same (blk_lt hl3), (World.putObj_heap_other (by omega)).trans (hk3.1.trans hk2)⟩
      have hfrm : ∀ (jump : Option Code) (W3 : World), Fr (fun k => A k ∨ (W0.heap.size ≤ k ∧ k < W.heap.size)) (W.putObj (w.heap.size + 1) (.loop { rec .ready none with state := .busy })) W3 → Fr A W0 (W3.putObj (w.heap.size + 1) (.loop (rec (if jump.isNone then .ready else .done) jump))) := by
        intro jump W3 h3
        have e1 : Fr A W0 (W.putObj (w.heap.size + 1) (.loop { rec .ready none with state := .busy })) := (hfW.mono (fun _ _ h => h.elim)).trans (fr_putObj _ (hA0 _ (by omega) hn1))
        have e2 : Fr A W0 W3 := e1.trans' h3 (fun i hi e => e.elim id (fun e => by omega))
        exact e2.trans (fr_putObj _ (hA0 _ (by omega) hn1))
      rintro e a3 W3 hp
      cases e with
      | normal =>
        obtain ⟨hk3, hf3, hi3⟩ := hp
        obtain ⟨hr, hl4, hk4⟩ := fin none W3 hk3
        have hs3 := hf3.size
        rw [hsz2] at hs3 hi3
        refine ⟨_, _, hr, hfrm none W3 hf3, rfl, hImono _ _ _ _ (hI _ _ _ _ hi3 (hput _ _)) (fun k hk => ?_) (fun k hk => ?_), hl4, hk4, fun k hk hx => .inl (hA0 k hk hx), fun k hk => ?_⟩
        · rcases hk with (hk | hk) | hk
          · exact .inl hk
          · exact .inr ⟨hk.1, by simp; omega⟩
          · exact .inr ⟨by omega, by simpa using hk.2⟩
        · rcases hk with hk | hk
          · exact .inl (.inl (.inl hk))
          · exact .inr (by omega)
        · rcases hk with hk | hk
          · have := hA1 k hk; simp; omega
          · exact hk.2
      | ret => exact hp.2.2.elim
      | exit id => exact hp.2.2.elim
      | goto t => exact hp.2.2.elim
      | panic chain => exact hp.elim
      | outgrown => exact hp.elim
    · rintro e W' ⟨⟨v, rfl⟩, hend⟩
      obtain ⟨s, A, hfin, ⟨hi, hl, hk, _⟩, hdn⟩ := hend
      have he := run_endLoop (P := P) hl (by rw [hrec]; simp)
      rw [show (rec .ready none).pending = none by rw [hrec]] at he
      refine ⟨none, _, he, ?_⟩
      exact hdone s A _ hfin (hI _ _ _ _ hi (hput _ _)) (hDn _ _ hdn (hput2 _ _)) ((World.putObj_heap_other (by omega)).trans hk)
/-- The loop variable is plain. -/
theorem rf_law4a {P : Program} {α σ : Type} {n : Nat} {g : Operand} {q : Tmp} {assign body : Code} {Q : Exit → Act → World → Prop} {a : Act} {w : World}
    (X : Nat → Prop) (hX : ∀ k, X k → k < w.heap.size) (gf : Nat) (lb : Array Value) (hg : a.eval g = .func (.func gf) #[] lb) (eg : ∀ args w, (callFunc gf args).run P w = .ok (.enter gf args) w)
    (val : α → Value) (bs : Nat)
    (Step : σ → α → σ → Prop) (Fin : σ → Prop) (s0 : σ) (I : σ → (Nat → Prop) → World → Prop)
    (hI : ∀ s (A : Nat → Prop) W W', I s A W → Fr (fun k => k = w.heap.size ∨ k = w.heap.size + 1 ∨ ¬ A k) W W' → I s A W')
    (hImono : ∀ s (A A' : Nat → Prop) W, I s A W → (∀ k, A k → A' k) → (∀ k, A' k → A k ∨ w.heap.size + 2 ≤ k) → I s A' W)
    (h0 : I s0 (fun k => k < w.heap.size + 2 ∧ ¬ X k) w)
    (Dn : World → Prop) (hDn : ∀ W W', Dn W → Fr (fun k => k = w.heap.size ∨ k = w.heap.size + 1) W W' → Dn W')
    (hiter : ∀ (l : Nat) (J : σ → (Nat → Prop) → World → Prop) (W : World), (∀ s A W, J s A W → I s A W) →
      (∀ s (A : Nat → Prop) W W', J s A W → Fr (fun k => ¬ A k) W W' → J s A W') → (∀ s A W, J s A W → ∀ k, A k → k < W.heap.size) →
      (∀ s A x s' W, Step s x s' → J s A W → YieldAt FW (n - 1 - 1) P l #[val x] W fun e W' => Fr A W W' ∧ e = .returned (.bool true) ∧ J s' (fun k => A k ∨ (W.heap.size ≤ k ∧ k < W'.heap.size)) W') →
      J s0 (fun k => k < W.heap.size ∧ ¬ X k) W → Fr (fun _ => False) w W → CallsIn FW (n - 1) P gf (#[.func (.yield l) #[] #[]] ++ lb) W fun e W' => (∃ v, e = .returned v) ∧ ∃ s A, Fin s ∧ J s A W' ∧ Dn W')
    (hassign : ∀ (l : Nat) (x : α) (W : World) (K : Act → World → Prop), K ⟨(a.tmps.setIfInBounds q (val x)).setIfInBounds bs (val x), []⟩ W →
      assign.wpIn (FW.inRound l) (n - 1 - 1) P (Exit.then K (fun _ _ _ => False)) { tmps := a.tmps.setIfInBounds q (val x), defers := [] } W)
    (hbody : ∀ (s : σ) (A : Nat → Prop) (x : α) (s' : σ) (W : World), (∃ r, W.heap[w.heap.size + 1]? = some (.loop r)) → Step s x s' → I s A W → w.heap.size + 2 ≤ W.heap.size → (∀ k, k < w.heap.size + 2 → ¬ X k → A k) → (∀ k, A k → k < W.heap.size) →
      body.wpIn (FW.inRound (w.heap.size + 1)) (n - 1 - 1) P (rfPost3 w.heap.size A I (fun _ _ _ => False) s' W) ⟨(a.tmps.setIfInBounds q (val x)).setIfInBounds bs (val x), []⟩ W)
    (hdone : ∀ (s : σ) (A : Nat → Prop) (W : World), Fin s → I s A W → Dn W → W.heap[w.heap.size]? = some (.deferred (some [])) → Q .normal { a with defers := { target := .collected w.heap.size, args := #[] } :: a.defers } W) :
    (Code.rangeFunc g #[q] assign body).wpIn FW n P Q a w := by
  refine rf_law4 (ps := #[q]) X hX gf lb hg eg (fun x => #[val x]) (fun _ => rfl) Step Fin s0 I hI hImono h0 Dn hDn hiter
    (fun x a' W' => a' = ⟨(a.tmps.setIfInBounds q (val x)).setIfInBounds bs (val x), []⟩)
    ?_ ?_ ?_ hdone
  · rintro x a' Y Z h1 hf
    exact h1
  · intro l s A x s' W K h1 h2 h3 hK
    have e : (#[q].zip #[val x]).foldl (fun t (p, v) => t.setIfInBounds p v) a.tmps = a.tmps.setIfInBounds q (val x) := by simp
    rw [e]
    exact hassign l x W K (hK _ _ (Fr.refl _ _) rfl)
  · rintro s A x s' a' W h0 h1 h2 rfl h5 h6 h7
    exact hbody s A x s' W h0 h1 h2 h5 h6 h7
/-- Two loop variables: the first one boxed, the second one plain. -/
theorem rf_law4m {P : Program} {α σ : Type} {n : Nat} {g : Operand} {q q2 : Tmp} {assign body : Code} {Q : Exit → Act → World → Prop} {a : Act} {w : World}
    (X : Nat → Prop) (hX : ∀ k, X k → k < w.heap.size) (gf : Nat) (lb : Array Value) (hg : a.eval g = .func (.func gf) #[] lb) (eg : ∀ args w, (callFunc gf args).run P w = .ok (.enter gf args) w)
    (val val2 : α → Value) (cls : α → Array Value) (ty : TypeId) (bs bs2 : Nat)
    (Step : σ → α → σ → Prop) (Fin : σ → Prop) (s0 : σ) (I : σ → (Nat → Prop) → World → Prop)
    (hI : ∀ s (A : Nat → Prop) W W', I s A W → Fr (fun k => k = w.heap.size ∨ k = w.heap.size + 1 ∨ ¬ A k) W W' → I s A W')
    (hImono : ∀ s (A A' : Nat → Prop) W, I s A W → (∀ k, A k → A' k) → (∀ k, A' k → A k ∨ w.heap.size + 2 ≤ k) → I s A' W)
    (h0 : I s0 (fun k => k < w.heap.size + 2 ∧ ¬ X k) w)
    (Dn : World → Prop) (hDn : ∀ W W', Dn W → Fr (fun k => k = w.heap.size ∨ k = w.heap.size + 1) W W' → Dn W')
    (hiter : ∀ (l : Nat) (J : σ → (Nat → Prop) → World → Prop) (W : World), (∀ s A W, J s A W → I s A W) →
      (∀ s (A : Nat → Prop) W W', J s A W → Fr (fun k => ¬ A k) W W' → J s A W') → (∀ s A W, J s A W → ∀ k, A k → k < W.heap.size) →
      (∀ s A x s' W, Step s x s' → J s A W → YieldAt FW (n - 1 - 1) P l #[val x, val2 x] W fun e W' => Fr A W W' ∧ e = .returned (.bool true) ∧ J s' (fun k => A k ∨ (W.heap.size ≤ k ∧ k < W'.heap.size)) W') →
      J s0 (fun k => k < W.heap.size ∧ ¬ X k) W → CallsIn FW (n - 1) P gf (#[.func (.yield l) #[] #[]] ++ lb) W fun e W' => (∃ v, e = .returned v) ∧ ∃ s A, Fin s ∧ J s A W' ∧ Dn W')
    (hassign : ∀ (l : Nat) (s : σ) (A : Nat → Prop) (x : α) (s' : σ) (W : World) (K : Act → World → Prop), Step s x s' → I s A W → w.heap.size + 2 ≤ W.heap.size → (∀ xb W', Fr (fun _ => False) W W' → w.heap.size + 2 ≤ xb → W'.heap[xb]? = some (.cells (cls x) ty (0, 0)) → K ⟨(((a.tmps.setIfInBounds q (val x)).setIfInBounds q2 (val2 x)).setIfInBounds bs (.pointer (some ⟨xb, 0, none⟩))).setIfInBounds bs2 (val2 x), []⟩ W') →
      assign.wpIn (FW.inRound l) (n - 1 - 1) P (Exit.then K (fun _ _ _ => False)) { tmps := (a.tmps.setIfInBounds q (val x)).setIfInBounds q2 (val2 x), defers := [] } W)
    (hbody : ∀ (s : σ) (A : Nat → Prop) (x : α) (s' : σ) (xb : Nat) (W : World), (∃ r, W.heap[w.heap.size + 1]? = some (.loop r)) → Step s x s' → I s A W → w.heap.size + 2 ≤ xb → W.heap[xb]? = some (.cells (cls x) ty (0, 0)) → w.heap.size + 2 ≤ W.heap.size → (∀ k, k < w.heap.size + 2 → ¬ X k → A k) → (∀ k, A k → k < W.heap.size) →
      body.wpIn (FW.inRound (w.heap.size + 1)) (n - 1 - 1) P (rfPost3 w.heap.size A I (fun _ _ _ => False) s' W) ⟨(((a.tmps.setIfInBounds q (val x)).setIfInBounds q2 (val2 x)).setIfInBounds bs (.pointer (some ⟨xb, 0, none⟩))).setIfInBounds bs2 (val2 x), []⟩ W)
    (hdone : ∀ (s : σ) (A : Nat → Prop) (W : World), Fin s → I s A W → Dn W → W.heap[w.heap.size]? = some (.deferred (some [])) → Q .normal { a with defers := { target := .collected w.heap.size, args := #[] } :: a.defers } W) :
    (Code.rangeFunc g #[q, q2] assign body).wpIn FW n P Q a w := by
  refine rf_law4 (ps := #[q, q2]) X hX gf lb hg eg (fun x => #[val x, val2 x]) (fun _ => rfl) Step Fin s0 I hI hImono h0 Dn hDn (fun l J W a b c d e _ => hiter l J W a b c d e)
    (fun x a' W' => ∃ xb : Nat, a' = ⟨(((a.tmps.setIfInBounds q (val x)).setIfInBounds q2 (val2 x)).setIfInBounds bs (.pointer (some ⟨xb, 0, none⟩))).setIfInBounds bs2 (val2 x), []⟩ ∧ w.heap.size + 2 ≤ xb ∧ W'.heap[xb]? = some (.cells (cls x) ty (0, 0)))
    ?_ ?_ ?_ hdone
  · rintro x a' Y Z ⟨xb, h1, h2, h5⟩ hf
    exact ⟨xb, h1, h2, hf.get h5 (by omega)⟩
  · intro l s A x s' W K h1 h2 h3 hK
    have e : (#[q, q2].zip #[val x, val2 x]).foldl (fun t (p, v) => t.setIfInBounds p v) a.tmps = (a.tmps.setIfInBounds q (val x)).setIfInBounds q2 (val2 x) := by simp
    rw [e]
    exact hassign l s A x s' W K h1 h2 h3 fun xb W' h4 h5 h6 => hK _ _ h4 ⟨xb, rfl, h5, h6⟩
  · rintro s A x s' a' W h0 h1 h2 ⟨xb, rfl, h3, h4⟩ h5 h6 h7
    exact hbody s A x s' xb W h0 h1 h2 h3 h4 h5 h6 h7
/-- What a round's body of a loop within a round must come to. -/
def rfPost5 {σ : Type} (D : Nat) (A : Nat → Prop) (I : σ → (Nat → Prop) → World → Prop) (s' : σ) (W : World) : Exit → Act → World → Prop
  | .normal, _, W' => W'.heap[D]? = W.heap[D]? ∧ Fr A W W' ∧ I s' (fun k => A k ∨ (W.heap.size ≤ k ∧ k < W'.heap.size)) W'
  | _, _, _ => False
/-- A range over a function within a round of another one. -/
theorem rf_law5 {P : Program} {α σ : Type} {n : Nat} {g : Operand} {ps : Array Tmp} {assign body : Code} {Q : Exit → Act → World → Prop} {a : Act} {w : World}
    {l₀ : Nat} {r₀ : Loop} (hl₀ : w.heap[l₀]? = some (.loop r₀)) (X : Nat → Prop) (hX : ∀ k, X k → k < w.heap.size) (gf : Nat) (lb : Array Value) (hg : a.eval g = .func (.func gf) #[] lb) (eg : ∀ args w, (callFunc gf args).run P w = .ok (.enter gf args) w)
    (encs : α → Array Value) (hps : ∀ x, (encs x).size = ps.size)
    (Step : σ → α → σ → Prop) (Fin : σ → Prop) (s0 : σ) (I : σ → (Nat → Prop) → World → Prop)
    (hI : ∀ s (A : Nat → Prop) W W', I s A W → Fr (fun k => k = w.heap.size ∨ ¬ A k) W W' → I s A W')
    (hImono : ∀ s (A A' : Nat → Prop) W, I s A W → (∀ k, A k → A' k) → (∀ k, A' k → A k ∨ w.heap.size + 1 ≤ k) → I s A' W)
    (h0 : I s0 (fun k => k < w.heap.size + 1 ∧ ¬ X k) w)
    (Dn : World → Prop) (hDn : ∀ W W', Dn W → Fr (fun k => k = w.heap.size) W W' → Dn W')
    (hiter : ∀ (l : Nat) (J : σ → (Nat → Prop) → World → Prop) (W : World), (∀ s A W, J s A W → I s A W) →
      (∀ s (A : Nat → Prop) W W', J s A W → Fr (fun k => ¬ A k) W W' → J s A W') → (∀ s A W, J s A W → ∀ k, A k → k < W.heap.size) →
      (∀ s A x s' W, Step s x s' → J s A W → YieldAt FW (n - 1 - 1) P l (encs x) W fun e W' => Fr A W W' ∧ e = .returned (.bool true) ∧ J s' (fun k => A k ∨ (W.heap.size ≤ k ∧ k < W'.heap.size)) W') →
      J s0 (fun k => k < W.heap.size ∧ ¬ X k) W → Fr (fun _ => False) w W → CallsIn FW (n - 1) P gf (#[.func (.yield l) #[] #[]] ++ lb) W fun e W' => (∃ v, e = .returned v) ∧ ∃ s A, Fin s ∧ J s A W' ∧ Dn W')
    (Ax : α → Act → World → Prop) (hAx : ∀ x a' W W', Ax x a' W → Fr (fun k => k = w.heap.size) W W' → Ax x a' W')
    (hassign : ∀ (l : Nat) (s : σ) (A : Nat → Prop) (x : α) (s' : σ) (W : World) (K : Act → World → Prop), Step s x s' → I s A W → w.heap.size + 1 ≤ W.heap.size → (∀ a' W', Fr (fun _ => False) W W' → Ax x a' W' → K a' W') →
      assign.wpIn (FW.inRound l) (n - 1 - 1) P (Exit.then K (fun _ _ _ => False)) { tmps := (ps.zip (encs x)).foldl (fun t (p, v) => t.setIfInBounds p v) a.tmps, defers := [] } W)
    (hbody : ∀ (s : σ) (A : Nat → Prop) (x : α) (s' : σ) (a' : Act) (W : World), (∃ r, W.heap[w.heap.size]? = some (.loop r)) → Step s x s' → I s A W → Ax x a' W → w.heap.size + 1 ≤ W.heap.size → (∀ k, k < w.heap.size + 1 → ¬ X k → A k) → (∀ k, A k → k < W.heap.size) →
      body.wpIn (FW.inRound w.heap.size) (n - 1 - 1) P (rfPost5 w.heap.size A I s' W) a' W)
    (hdone : ∀ (s : σ) (A : Nat → Prop) (W : World), Fin s → I s A W → Dn W → Q .normal a W) :
    (Code.rangeFunc g ps assign body).wpIn (FW.inRound l₀) n P Q a w := by
  refine wpIn_rangeFunc fun fn hfn => ?_
  obtain ⟨rec, hrec⟩ : ∃ rec : LoopState → Option Code → Loop, rec = fun st pd => { state := st, pending := pd, fn := fn, tmps := a.tmps, params := ps, assign := assign, body := body, defers := r₀.defers } := ⟨_, rfl⟩
  obtain ⟨W1, hW1⟩ : ∃ W1, W1 = w.alloc (.loop (rec .ready none)) := ⟨_, rfl⟩
  have hf1 : Fr (fun _ => False) w W1 := by rw [hW1]; exact (Fr.refl _ _).alloc _
  have hL1 : W1.heap[w.heap.size]? = some (.loop (rec .ready none)) := by rw [hW1]; exact blk_new _ _
  have hI1 : I s0 (fun k => k < W1.heap.size ∧ ¬ X k) W1 := by
    have hz : W1.heap.size = w.heap.size + 1 := by rw [hW1]; simp
    rw [hz]; exact hI _ _ _ _ h0 (hf1.mono fun _ _ h => h.elim)
  have hz1 : W1.heap.size = w.heap.size + 1 := by rw [hW1]; simp
  have hn0 : ¬ X w.heap.size := fun e => by have := hX _ e; omega
  have hR : ∀ {T : Nat → Prop} {A B : World}, Fr (fun _ => False) A B → Fr (fun k => k = w.heap.size ∨ T k) A B := fun h => h.mono fun _ _ h => h.elim
  have hput : ∀ {T : Nat → Prop} (A : World) (o : Obj), Fr (fun k => k = w.heap.size ∨ T k) A (A.putObj w.heap.size o) := fun A o => fr_putObj o (.inl rfl)
  have hput2 : ∀ (A : World) (o : Obj), Fr (fun k => k = w.heap.size) A (A.putObj w.heap.size o) := fun A o => fr_putObj o rfl
  have hrec2 : ∀ {T : Nat → Prop} {A B : World} {k : Nat} {o : Obj}, Fr (fun q => ¬ T q) A B → T k → A.heap[k]? = some o → B.heap[k]? = some o := fun h hT hk => h.get hk (fun h9 => h9 hT)
  refine ⟨w.heap.size, [], W1, { target := .fn (.func gf) lb, args := #[.func (.yield w.heap.size) #[] #[]] }, W1, gf,
    #[.func (.yield w.heap.size) #[] #[]] ++ lb, W1, ?_, ?_, ?_, ?_, fun h => (by cases h), ?_⟩
  · rw [hW1, hrec]; exact run_enterLoop_inner hl₀ _ _ _ _ _
  · simp only [resolve, hg]
    simp [go_sem]
  · intro f' hf'; trivial
  · simp [invoke, go_sem, eg]
  · refine (hiter w.heap.size
      (fun s A W => I s A W ∧ W.heap[w.heap.size]? = some (.loop (rec .ready none)) ∧ (∀ k, k < w.heap.size + 1 → ¬ X k → A k) ∧ (∀ k, A k → k < W.heap.size))
      W1 (fun _ _ _ h => h.1)
      (fun s A X Y hs hg' => ⟨hI s A X Y hs.1 (hg'.mono fun _ _ h => .inr h), hrec2 hg' (hs.2.2.1 _ (by omega) hn0) hs.2.1, hs.2.2.1, fun k hk => Nat.lt_of_lt_of_le (hs.2.2.2 k hk) hg'.size⟩)
      (fun _ _ _ h => h.2.2.2)
      ?_ ⟨hI1, hL1, fun k hk hx => ⟨by rw [hz1]; exact hk, hx⟩, fun _ h => h.1⟩ hf1).mono ?_
    · rintro s A x s' W0 hst ⟨hi0, hl0, hA0, hA1⟩
      have hlt0 : w.heap.size < W0.heap.size := blk_lt hl0
      have hy := run_yield (P := P) (args := encs x) hl0 (by rw [hrec]; exact hps x)
      rw [hrec] at hy
      refine ⟨fn, _, assign, body, hy, roundIn_of_wpIn hfn (hassign _ s A x s' W0 _ hst hi0 (by omega) fun a' W hfW hax => ?_)⟩
      have hi := hImono s A (fun k => A k ∨ (W0.heap.size ≤ k ∧ k < W.heap.size)) _ (hI _ _ _ _ hi0 (hR hfW)) (fun _ h => .inl h) (fun k hk => hk.imp id (fun h => by omega))
      have hl := hfW.get hl0 (fun h => h)
      have hlt : w.heap.size < W.heap.size := blk_lt hl
      have hsz := hfW.size
      refine ⟨_, run_beginRound hl (by rw [hrec]), ?_⟩
      have hl2 : (W.putObj w.heap.size (.loop { rec .ready none with state := .busy })).heap[w.heap.size]? = some (.loop { rec .ready none with state := .busy }) := World.putObj_heap_same hlt
      have hsz2 : (W.putObj w.heap.size (.loop { rec .ready none with state := .busy })).heap.size = W.heap.size := by simp
      refine wpIn_mono (hbody s (fun k => A k ∨ (W0.heap.size ≤ k ∧ k < W.heap.size)) x s' a' _ ⟨_, hl2⟩ hst (hI _ _ _ _ hi (hput _ _)) (hAx _ _ _ _ hax (hput2 _ _)) (by simp; omega) (fun k hk hx => .inl (hA0 k hk hx)) (fun k hk => by
        rw [hsz2]
        rcases hk with hk | hk
        · have := hA1 k hk; omega
        · exact hk.2)) ?_
      have fin : ∀ (W3 : World), W3.heap[w.heap.size]? = (W.putObj w.heap.size (.loop { rec .ready none with state := .busy })).heap[w.heap.size]? →
          (Instr.endRound w.heap.size none).run P W3 = .ok (.bool true) (W3.putObj w.heap.size (.loop (rec .ready none))) ∧ (W3.putObj w.heap.size (.loop (rec .ready none))).heap[w.heap.size]? = some (.loop (rec .ready none)) := fun W3 hk3 => by
        have hl3 : W3.heap[w.heap.size]? = some (.loop { rec .ready none with state := .busy }) := hk3.trans hl2
        have := run_endRound (P := P) none hl3
        rw [hrec] at this ⊢
        exact ⟨this, World.putObj_heap_same (blk_lt hl3)⟩
      have hfrm : ∀ (W3 : World), Fr (fun k => A k ∨ (W0.heap.size ≤ k ∧ k < W.heap.size)) (W.putObj w.heap.size (.loop { rec .ready none with state := .busy })) W3 → Fr A W0 (W3.putObj w.heap.size (.loop (rec .ready none))) := by
        intro W3 h3
        have e1 : Fr A W0 (W.putObj w.heap.size (.loop { rec .ready none with state := .busy })) := (hfW.mono (fun _ _ h => h.elim)).trans (fr_putObj _ (hA0 _ (by omega) hn0))
        have e2 : Fr A W0 W3 := e1.trans' h3 (fun i hi e => e.elim id (fun e => by omega))
        exact e2.trans (fr_putObj _ (hA0 _ (by omega) hn0))
      rintro e a3 W3 hp
      cases e with
      | normal =>
        obtain ⟨hk3, hf3, hi3⟩ := hp
        obtain ⟨hr, hl4⟩ := fin W3 hk3
        have hs3 := hf3.size
        rw [hsz2] at hs3 hi3
        refine ⟨_, _, hr, hfrm W3 hf3, rfl, hImono _ _ _ _ (hI _ _ _ _ hi3 (hput _ _)) (fun k hk => ?_) (fun k hk => ?_), hl4, fun k hk hx => .inl (hA0 k hk hx), fun k hk => ?_⟩
        · rcases hk with (hk | hk) | hk
          · exact .inl hk
          · exact .inr ⟨hk.1, by simp; omega⟩
          · exact .inr ⟨by omega, by simpa using hk.2⟩
        · rcases hk with hk | hk
          · exact .inl (.inl (.inl hk))
          · exact .inr (by omega)
        · rcases hk with hk | hk
          · have := hA1 k hk; simp; omega
          · exact hk.2
      | ret => exact hp.elim
      | exit id => exact hp.elim
      | goto t => exact hp.elim
      | panic chain => exact hp.elim
      | outgrown => exact hp.elim
    · rintro e W' ⟨⟨v, rfl⟩, hend⟩
      obtain ⟨s, A, hfin, ⟨hi, hl, _⟩, hdn⟩ := hend
      have he := run_endLoop (P := P) hl (by rw [hrec]; simp)
      rw [show (rec .ready none).pending = none by rw [hrec]] at he
      refine ⟨none, _, he, ?_⟩
      exact hdone s A _ hfin (hI _ _ _ _ hi (hput _ _)) (hDn _ _ hdn (hput2 _ _))
theorem rf_law5a {P : Program} {α σ : Type} {n : Nat} {g : Operand} {q : Tmp} {assign body : Code} {Q : Exit → Act → World → Prop} {a : Act} {w : World}
    {l₀ : Nat} {r₀ : Loop} (hl₀ : w.heap[l₀]? = some (.loop r₀)) (X : Nat → Prop) (hX : ∀ k, X k → k < w.heap.size) (gf : Nat) (lb : Array Value) (hg : a.eval g = .func (.func gf) #[] lb) (eg : ∀ args w, (callFunc gf args).run P w = .ok (.enter gf args) w)
    (val : α → Value) (bs : Nat)
    (Step : σ → α → σ → Prop) (Fin : σ → Prop) (s0 : σ) (I : σ → (Nat → Prop) → World → Prop)
    (hI : ∀ s (A : Nat → Prop) W W', I s A W → Fr (fun k => k = w.heap.size ∨ ¬ A k) W W' → I s A W')
    (hImono : ∀ s (A A' : Nat → Prop) W, I s A W → (∀ k, A k → A' k) → (∀ k, A' k → A k ∨ w.heap.size + 1 ≤ k) → I s A' W)
    (h0 : I s0 (fun k => k < w.heap.size + 1 ∧ ¬ X k) w)
    (Dn : World → Prop) (hDn : ∀ W W', Dn W → Fr (fun k => k = w.heap.size) W W' → Dn W')
    (hiter : ∀ (l : Nat) (J : σ → (Nat → Prop) → World → Prop) (W : World), (∀ s A W, J s A W → I s A W) →
      (∀ s (A : Nat → Prop) W W', J s A W → Fr (fun k => ¬ A k) W W' → J s A W') → (∀ s A W, J s A W → ∀ k, A k → k < W.heap.size) →
      (∀ s A x s' W, Step s x s' → J s A W → YieldAt FW (n - 1 - 1) P l #[val x] W fun e W' => Fr A W W' ∧ e = .returned (.bool true) ∧ J s' (fun k => A k ∨ (W.heap.size ≤ k ∧ k < W'.heap.size)) W') →
      J s0 (fun k => k < W.heap.size ∧ ¬ X k) W → Fr (fun _ => False) w W → CallsIn FW (n - 1) P gf (#[.func (.yield l) #[] #[]] ++ lb) W fun e W' => (∃ v, e = .returned v) ∧ ∃ s A, Fin s ∧ J s A W' ∧ Dn W')
    (hassign : ∀ (l : Nat) (x : α) (W : World) (K : Act → World → Prop), K ⟨(a.tmps.setIfInBounds q (val x)).setIfInBounds bs (val x), []⟩ W →
      assign.wpIn (FW.inRound l) (n - 1 - 1) P (Exit.then K (fun _ _ _ => False)) { tmps := a.tmps.setIfInBounds q (val x), defers := [] } W)
    (hbody : ∀ (s : σ) (A : Nat → Prop) (x : α) (s' : σ) (W : World), (∃ r, W.heap[w.heap.size]? = some (.loop r)) → Step s x s' → I s A W → w.heap.size + 1 ≤ W.heap.size → (∀ k, k < w.heap.size + 1 → ¬ X k → A k) → (∀ k, A k → k < W.heap.size) →
      body.wpIn (FW.inRound w.heap.size) (n - 1 - 1) P (rfPost5 w.heap.size A I s' W) ⟨(a.tmps.setIfInBounds q (val x)).setIfInBounds bs (val x), []⟩ W)
    (hdone : ∀ (s : σ) (A : Nat → Prop) (W : World), Fin s → I s A W → Dn W → Q .normal a W) :
    (Code.rangeFunc g #[q] assign body).wpIn (FW.inRound l₀) n P Q a w := by
  refine rf_law5 (ps := #[q]) hl₀ X hX gf lb hg eg (fun x => #[val x]) (fun _ => rfl) Step Fin s0 I hI hImono h0 Dn hDn hiter
    (fun x a' W' => a' = ⟨(a.tmps.setIfInBounds q (val x)).setIfInBounds bs (val x), []⟩)
    ?_ ?_ ?_ hdone
  · rintro x a' Y Z h1 hf
    exact h1
  · intro l s A x s' W K h1 h2 h3 hK
    have e : (#[q].zip #[val x]).foldl (fun t (p, v) => t.setIfInBounds p v) a.tmps = a.tmps.setIfInBounds q (val x) := by simp
    rw [e]
    exact hassign l x W K (hK _ _ (Fr.refl _ _) rfl)
  · rintro s A x s' a' W h0 h1 h2 rfl h5 h6 h7
    exact hbody s A x s' W h0 h1 h2 h5 h6 h7
theorem roundIn_free {m m' : Nat} {P : Program} {l : Nat} {f : FuncId} {tmps : Array Value} {assign body : Code} {w : World} {R : Ending → World → Prop} (l0 : Nat) (h : RoundIn FW m P l f tmps assign body w R) : RoundIn (FW.inRound l0) m' P l f tmps assign body w R :=
  ⟨trivial, fun c cs _ => h.2 c cs (room_wide _)⟩
theorem roundIn_wide {m m' : Nat} {P : Program} {l : Nat} {f : FuncId} {tmps : Array Value} {assign body : Code} {w : World} {R : Ending → World → Prop} (h : RoundIn FW m P l f tmps assign body w R) : RoundIn FW m' P l f tmps assign body w R :=
  ⟨trivial, fun c cs _ => h.2 c cs (room_wide _)⟩
end Go.Proofs.YtlhmmiolnbgloaaGreatDoor
