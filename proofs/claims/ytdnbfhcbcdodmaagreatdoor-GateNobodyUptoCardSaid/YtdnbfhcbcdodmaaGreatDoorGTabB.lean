/- A range over a function whose iterator has memory of its own: the body says which blocks it may touch. Conditions: the premises. -/
import Derived.Test.YtdnbfhcbcdodmaaGreatDoorRegionIn
import Derived.Test.YtdnbfhcbcdodmaaGreatDoorFilesT
import Derived.Shelf.Abstract
import Derived.Shelf.AbstractIn
import Derived.OwnWalkIn
import Derived.TacticsInMore
import Derived.LoopNIn
import Derived.LoopIn
import Derived.Test.YtdnbfhcbcdodmaaGreatDoorProg
import Derived.Test.YtdnbfhcbcdodmaaGreatDoorStrs
import Derived.Deep.QuietTactic
import Derived.BigQuiet
import Derived.StillTailTactics
namespace Go.Proofs.YtdnbfhcbcdodmaaGreatDoor
open Go.RowKit

/-- What a round's body must come to; A: what it may touch of what was there. -/
def rfPost3 {σ : Type} (D : Nat) (A : Nat → Prop) (I : σ → (Nat → Prop) → World → Prop) (Ix : Code → (Nat → Prop) → World → Prop) (s' : σ) (W : World) : Exit → Act → World → Prop
  | .normal, _, W' => (W'.heap[D]? = W.heap[D]? ∧ W'.heap[D + 1]? = W.heap[D + 1]?) ∧ Fr A W W' ∧ I s' (fun k => A k ∨ (W.heap.size ≤ k ∧ k < W'.heap.size)) W'
  | .ret, _, W' => (W'.heap[D]? = W.heap[D]? ∧ W'.heap[D + 1]? = W.heap[D + 1]?) ∧ Fr A W W' ∧ Ix .ret (fun k => A k ∨ (W.heap.size ≤ k ∧ k < W'.heap.size)) W'
  | .exit id, _, W' => (W'.heap[D]? = W.heap[D]? ∧ W'.heap[D + 1]? = W.heap[D + 1]?) ∧ Fr A W W' ∧ Ix (.exit id) (fun k => A k ∨ (W.heap.size ≤ k ∧ k < W'.heap.size)) W'
  | .goto t, _, W' => (W'.heap[D]? = W.heap[D]? ∧ W'.heap[D + 1]? = W.heap[D + 1]?) ∧ Fr A W W' ∧ Ix (.goto t) (fun k => A k ∨ (W.heap.size ≤ k ∧ k < W'.heap.size)) W'
  | .panic _, _, _ => False
  | .outgrown, _, _ => False

theorem rf_law3 {P : Program} {α σ : Type} {n : Nat} {g : Operand} {ps : Array Tmp} {assign body : Code} {Q : Exit → Act → World → Prop} {a : Act} {w : World}
    (gf : Nat) (lb : Array Value) (hg : a.eval g = .func (.func gf) #[] lb) (eg : ∀ args w, (callFunc gf args).run P w = .ok (.enter gf args) w)
    (encs : α → Array Value) (hps : ∀ x, (encs x).size = ps.size)
    (Step : σ → α → σ → Prop) (Fin : σ → Prop) (s0 : σ) (I : σ → (Nat → Prop) → World → Prop) (Ix : Code → (Nat → Prop) → World → Prop)
    (hI : ∀ s (A : Nat → Prop) W W', I s A W → Fr (fun k => k = w.heap.size ∨ k = w.heap.size + 1 ∨ ¬ A k) W W' → I s A W')
    (hImono : ∀ s (A A' : Nat → Prop) W, I s A W → (∀ k, A k → A' k) → I s A' W)
    (hIx : ∀ c (A : Nat → Prop) W W', Ix c A W → Fr (fun k => k = w.heap.size ∨ k = w.heap.size + 1 ∨ ¬ A k) W W' → Ix c A W')
    (hIxmono : ∀ c (A A' : Nat → Prop) W, Ix c A W → (∀ k, A k → A' k) → Ix c A' W)
    (h0 : I s0 (fun k => k < w.heap.size + 2) w)
    (hiter : ∀ (l : Nat) (J : σ → (Nat → Prop) → World → Prop) (Jx : (Nat → Prop) → World → Prop) (W : World), (∀ s A W, J s A W → I s A W) →
      (∀ s (A : Nat → Prop) W W', J s A W → Fr (fun k => ¬ A k) W W' → J s A W') → (∀ (A : Nat → Prop) W W', Jx A W → Fr (fun k => ¬ A k) W W' → Jx A W') → (∀ s A W, J s A W → ∀ k, A k → k < W.heap.size) →
      (∀ s A x s' W, Step s x s' → J s A W → YieldAt FW (n - 1 - 1) P l (encs x) W fun e W' => Fr A W W' ∧ ((e = .returned (.bool true) ∧ J s' (fun k => A k ∨ (W.heap.size ≤ k ∧ k < W'.heap.size)) W') ∨ (e = .returned (.bool false) ∧ Jx (fun k => A k ∨ (W.heap.size ≤ k ∧ k < W'.heap.size)) W'))) →
      J s0 (fun k => k < W.heap.size) W → CallsIn FW (n - 1) P gf (#[.func (.yield l) #[] #[]] ++ lb) W fun e W' => (∃ v, e = .returned v) ∧ ((∃ s A, Fin s ∧ J s A W') ∨ ∃ A, Jx A W'))
    (Ax : α → Act → World → Prop) (hAx : ∀ x a' W W', Ax x a' W → Fr (fun k => k = w.heap.size ∨ k = w.heap.size + 1) W W' → Ax x a' W')
    (hassign : ∀ (l : Nat) (s : σ) (A : Nat → Prop) (x : α) (s' : σ) (W : World) (K : Act → World → Prop), Step s x s' → I s A W → w.heap.size + 2 ≤ W.heap.size → (∀ a' W', Fr (fun _ => False) W W' → Ax x a' W' → K a' W') →
      assign.wpIn (FW.inRound l) (n - 1 - 1) P (Exit.then K (fun _ _ _ => False)) { tmps := (ps.zip (encs x)).foldl (fun t (p, v) => t.setIfInBounds p v) a.tmps, defers := [] } W)
    (hbody : ∀ (l : Nat) (s : σ) (A : Nat → Prop) (x : α) (s' : σ) (a' : Act) (W : World), Step s x s' → I s A W → Ax x a' W → w.heap.size + 2 ≤ W.heap.size → (∀ k, k < w.heap.size + 2 → A k) → (∀ k, A k → k < W.heap.size) →
      body.wpIn (FW.inRound l) (n - 1 - 1) P (rfPost3 w.heap.size A I Ix s' W) a' W)
    (hdone : ∀ (s : σ) (A : Nat → Prop) (W : World), Fin s → I s A W → W.heap[w.heap.size]? = some (.deferred (some [])) → Q .normal { a with defers := { target := .collected w.heap.size, args := #[] } :: a.defers } W)
    (hstop : ∀ (c : Code) (A : Nat → Prop) (W : World), Ix c A W → W.heap[w.heap.size]? = some (.deferred (some [])) → c.wpIn FW n P Q { a with defers := { target := .collected w.heap.size, args := #[] } :: a.defers } W) :
    (Code.rangeFunc g ps assign body).wpIn FW n P Q a w := by
  refine wpIn_rangeFunc fun fn hfn => ?_
  obtain ⟨rec, hrec⟩ : ∃ rec : LoopState → Option Code → Loop, rec = fun st pd => { state := st, pending := pd, fn := fn, tmps := a.tmps, params := ps, assign := assign, body := body, defers := w.heap.size } := ⟨_, rfl⟩
  obtain ⟨W1, hW1⟩ : ∃ W1, W1 = (w.alloc (.deferred (some []))).alloc (.loop (rec .ready none)) := ⟨_, rfl⟩
  have hf1 : Fr (fun _ => False) w W1 := by rw [hW1]; exact ((Fr.refl _ _).alloc _).alloc _
  have hL1 : W1.heap[w.heap.size + 1]? = some (.loop (rec .ready none)) := by rw [hW1]; exact blk_new' _ _ _ (by simp)
  have hK1 : W1.heap[w.heap.size]? = some (.deferred (some [])) := by rw [hW1]; exact blk_alloc (blk_new _ _) _
  have hI1 : I s0 (fun k => k < W1.heap.size) W1 := by
    have hz : W1.heap.size = w.heap.size + 2 := by rw [hW1]; simp
    rw [hz]; exact hI _ _ _ _ h0 (hf1.mono fun _ _ h => h.elim)
  have hz1 : W1.heap.size = w.heap.size + 2 := by rw [hW1]; simp
  have hR : ∀ {T : Nat → Prop} {A B : World}, Fr (fun _ => False) A B → Fr (fun k => k = w.heap.size ∨ k = w.heap.size + 1 ∨ T k) A B := fun h => h.mono fun _ _ h => h.elim
  have hput : ∀ {T : Nat → Prop} (A : World) (o : Obj), Fr (fun k => k = w.heap.size ∨ k = w.heap.size + 1 ∨ T k) A (A.putObj (w.heap.size + 1) o) := fun A o => fr_putObj o (.inr (.inl rfl))
  have hput2 : ∀ (A : World) (o : Obj), Fr (fun k => k = w.heap.size ∨ k = w.heap.size + 1) A (A.putObj (w.heap.size + 1) o) := fun A o => fr_putObj o (.inr rfl)
  have hrec2 : ∀ {T : Nat → Prop} {A B : World} {k : Nat} {o : Obj}, Fr (fun q => ¬ T q) A B → T k → A.heap[k]? = some o → B.heap[k]? = some o := fun h hT hk => h.get hk (fun h9 => h9 hT)
  refine ⟨w.heap.size + 1, [{ target := .collected w.heap.size, args := #[] }], W1, { target := .fn (.func gf) lb, args := #[.func (.yield (w.heap.size + 1)) #[] #[]] }, W1, gf,
    #[.func (.yield (w.heap.size + 1)) #[] #[]] ++ lb, W1, ?_, ?_, ?_, ?_, fun h => (by cases h), ?_⟩
  · rw [hW1, hrec]; exact run_enterLoop_outer _ _ _ _ _
  · simp only [resolve, hg]
    simp [go_sem]
  · intro f' hf'; trivial
  · simp [invoke, go_sem, eg]
  · refine (hiter (w.heap.size + 1)
      (fun s A W => I s A W ∧ W.heap[w.heap.size + 1]? = some (.loop (rec .ready none)) ∧ W.heap[w.heap.size]? = some (.deferred (some [])) ∧ (∀ k, k < w.heap.size + 2 → A k) ∧ (∀ k, A k → k < W.heap.size))
      (fun A W => ∃ c, Ix c A W ∧ W.heap[w.heap.size + 1]? = some (.loop (rec .done (some c))) ∧ W.heap[w.heap.size]? = some (.deferred (some [])) ∧ (∀ k, k < w.heap.size + 2 → A k))
      W1 (fun _ _ _ h => h.1)
      (fun s A X Y hs hg' => ⟨hI s A X Y hs.1 (hg'.mono fun _ _ h => .inr (.inr h)), hrec2 hg' (hs.2.2.2.1 _ (by omega)) hs.2.1, hrec2 hg' (hs.2.2.2.1 _ (by omega)) hs.2.2.1, hs.2.2.2.1, fun k hk => Nat.lt_of_lt_of_le (hs.2.2.2.2 k hk) hg'.size⟩)
      (fun A X Y hs hg' => by
        obtain ⟨c, hc, hl, hk, hA⟩ := hs
        exact ⟨c, hIx c A X Y hc (hg'.mono fun _ _ h => .inr (.inr h)), hrec2 hg' (hA _ (by omega)) hl, hrec2 hg' (hA _ (by omega)) hk, hA⟩)
      (fun _ _ _ h => h.2.2.2.2)
      ?_ ⟨hI1, hL1, hK1, fun k hk => by rw [hz1]; exact hk, fun _ h => h⟩).mono ?_
    · rintro s A x s' W0 hst ⟨hi0, hl0, hk0, hA0, hA1⟩
      have hlt0 : w.heap.size + 1 < W0.heap.size := blk_lt hl0
      have hy := run_yield (P := P) (args := encs x) hl0 (by rw [hrec]; exact hps x)
      rw [hrec] at hy
      refine ⟨fn, _, assign, body, hy, roundIn_of_wpIn hfn (hassign _ s A x s' W0 _ hst hi0 (by omega) fun a' W hfW hax => ?_)⟩
      have hi := hImono s A (fun k => A k ∨ (W0.heap.size ≤ k ∧ k < W.heap.size)) _ (hI _ _ _ _ hi0 (hR hfW)) (fun _ h => .inl h)
      have hl := hfW.get hl0 (fun h => h)
      have hk := hfW.get hk0 (fun h => h)
      have hlt : w.heap.size + 1 < W.heap.size := blk_lt hl
      have hsz := hfW.size
      refine ⟨_, run_beginRound hl (by rw [hrec]), ?_⟩
      have hl2 : (W.putObj (w.heap.size + 1) (.loop { rec .ready none with state := .busy })).heap[w.heap.size + 1]? = some (.loop { rec .ready none with state := .busy }) := World.putObj_heap_same hlt
      have hk2 : (W.putObj (w.heap.size + 1) (.loop { rec .ready none with state := .busy })).heap[w.heap.size]? = some (.deferred (some [])) := (World.putObj_heap_other (by omega)).trans hk
      have hsz2 : (W.putObj (w.heap.size + 1) (.loop { rec .ready none with state := .busy })).heap.size = W.heap.size := by simp
      refine wpIn_mono (hbody _ s (fun k => A k ∨ (W0.heap.size ≤ k ∧ k < W.heap.size)) x s' a' _ hst (hI _ _ _ _ hi (hput _ _)) (hAx _ _ _ _ hax (hput2 _ _)) (by simp; omega) (fun k hk => .inl (hA0 k hk)) (fun k hk => by
        rw [hsz2]
        rcases hk with hk | hk
        · have := hA1 k hk; omega
        · exact hk.2)) ?_
      have fin : ∀ (jump : Option Code) (W3 : World), (W3.heap[w.heap.size]? = (W.putObj (w.heap.size + 1) (.loop { rec .ready none with state := .busy })).heap[w.heap.size]? ∧ W3.heap[w.heap.size + 1]? = (W.putObj (w.heap.size + 1) (.loop { rec .ready none with state := .busy })).heap[w.heap.size + 1]?) →
          (Instr.endRound (w.heap.size + 1) jump).run P W3 = .ok (.bool jump.isNone) (W3.putObj (w.heap.size + 1) (.loop (rec (if jump.isNone then .ready else .done) jump))) ∧
          (W3.putObj (w.heap.size + 1) (.loop (rec (if jump.isNone then .ready else .done) jump))).heap[w.heap.size + 1]? = some (.loop (rec (if jump.isNone then .ready else .done) jump)) ∧
          (W3.putObj (w.heap.size + 1) (.loop (rec (if jump.isNone then .ready else .done) jump))).heap[w.heap.size]? = some (.deferred (some [])) := fun jump W3 hk3 => by
        have hl3 : W3.heap[w.heap.size + 1]? = some (.loop { rec .ready none with state := .busy }) := hk3.2.trans hl2
        have := run_endRound (P := P) jump hl3
        rw [hrec] at this ⊢
        exact ⟨this, World.putObj_heap_same (blk_lt hl3), (World.putObj_heap_other (by omega)).trans (hk3.1.trans hk2)⟩
      have hfrm : ∀ (jump : Option Code) (W3 : World), Fr (fun k => A k ∨ (W0.heap.size ≤ k ∧ k < W.heap.size)) (W.putObj (w.heap.size + 1) (.loop { rec .ready none with state := .busy })) W3 → Fr A W0 (W3.putObj (w.heap.size + 1) (.loop (rec (if jump.isNone then .ready else .done) jump))) := by
        intro jump W3 h3
        have e1 : Fr A W0 (W.putObj (w.heap.size + 1) (.loop { rec .ready none with state := .busy })) := (hfW.mono (fun _ _ h => h.elim)).trans (fr_putObj _ (hA0 _ (by omega)))
        have e2 : Fr A W0 W3 := e1.trans' h3 (fun i hi e => e.elim id (fun e => by omega))
        exact e2.trans (fr_putObj _ (hA0 _ (by omega)))
      have hgrow : ∀ {jump : Option Code} (W3 : World), Fr (fun k => A k ∨ (W0.heap.size ≤ k ∧ k < W.heap.size)) (W.putObj (w.heap.size + 1) (.loop { rec .ready none with state := .busy })) W3 → ∀ k, ((A k ∨ (W0.heap.size ≤ k ∧ k < W.heap.size)) ∨ ((W.putObj (w.heap.size + 1) (.loop { rec .ready none with state := .busy })).heap.size ≤ k ∧ k < W3.heap.size)) → A k ∨ (W0.heap.size ≤ k ∧ k < (W3.putObj (w.heap.size + 1) (.loop (rec (if jump.isNone then .ready else .done) jump))).heap.size) := by
        intro jump W3 hf3 k hk
        have hs3 := hf3.size
        rw [hsz2] at hs3 hk
        rcases hk with (hk | hk) | hk
        · exact .inl hk
        · exact .inr ⟨hk.1, by simp; omega⟩
        · exact .inr ⟨by omega, by simpa using hk.2⟩
      rintro e a3 W3 hp
      cases e with
      | normal =>
        obtain ⟨hk3, hf3, hi3⟩ := hp
        obtain ⟨hr, hl4, hk4⟩ := fin none W3 hk3
        have hs3 := hf3.size
        rw [hsz2] at hs3 hi3
        refine ⟨_, _, hr, hfrm none W3 hf3, .inl ⟨rfl, hImono _ _ _ _ (hI _ _ _ _ hi3 (hput _ _)) (fun k hk => ?_), hl4, hk4, fun k hk => .inl (hA0 k hk), fun k hk => ?_⟩⟩
        · rcases hk with (hk | hk) | hk
          · exact .inl hk
          · exact .inr ⟨hk.1, by simp; omega⟩
          · exact .inr ⟨by omega, by simpa using hk.2⟩
        · rcases hk with hk | hk
          · have := hA1 k hk; simp; omega
          · exact hk.2
      | ret =>
        obtain ⟨hk3, hf3, hi3⟩ := hp
        obtain ⟨hr, hl4, hk4⟩ := fin (some .ret) W3 hk3
        refine ⟨_, _, hr, hfrm (some .ret) W3 hf3, .inr ⟨rfl, .ret, hIxmono _ _ _ _ (hIx _ _ _ _ hi3 (hput _ _)) (hgrow W3 hf3), hl4, hk4, fun k hk => .inl (hA0 k hk)⟩⟩
      | exit id =>
        obtain ⟨hk3, hf3, hi3⟩ := hp
        obtain ⟨hr, hl4, hk4⟩ := fin (some (.exit id)) W3 hk3
        refine ⟨_, _, hr, hfrm (some (.exit id)) W3 hf3, .inr ⟨rfl, .exit id, hIxmono _ _ _ _ (hIx _ _ _ _ hi3 (hput _ _)) (hgrow W3 hf3), hl4, hk4, fun k hk => .inl (hA0 k hk)⟩⟩
      | goto t =>
        obtain ⟨hk3, hf3, hi3⟩ := hp
        obtain ⟨hr, hl4, hk4⟩ := fin (some (.goto t)) W3 hk3
        refine ⟨_, _, hr, hfrm (some (.goto t)) W3 hf3, .inr ⟨rfl, .goto t, hIxmono _ _ _ _ (hIx _ _ _ _ hi3 (hput _ _)) (hgrow W3 hf3), hl4, hk4, fun k hk => .inl (hA0 k hk)⟩⟩
      | panic chain => exact hp.elim
      | outgrown => exact hp.elim
    · rintro e W' ⟨⟨v, rfl⟩, hend⟩
      rcases hend with ⟨s, A, hfin, hi, hl, hk, _⟩ | ⟨A, c, hc, hl, hk, _⟩
      · have he := run_endLoop (P := P) hl (by rw [hrec]; simp)
        rw [show (rec .ready none).pending = none by rw [hrec]] at he
        refine ⟨none, _, he, ?_⟩
        exact hdone s A _ hfin (hI _ _ _ _ hi (hput _ _)) ((World.putObj_heap_other (by omega)).trans hk)
      · have he := run_endLoop (P := P) hl (by rw [hrec]; simp)
        rw [show (rec .done (some c)).pending = some c by rw [hrec]] at he
        refine ⟨some c, _, he, ?_⟩
        exact hstop c A _ (hIx _ _ _ _ hc (hput _ _)) ((World.putObj_heap_other (by omega)).trans hk)
end Go.Proofs.YtdnbfhcbcdodmaaGreatDoor

/- files.below: what is in a directory, told to whoever asks. Conditions: the contract's own premises. -/
namespace Go.Proofs.YtdnbfhcbcdodmaaGreatDoor
open Go.RowKit Go.Shelf Go.Maps

attribute [local go_sem] Oper.semAt_some

def baL (l : List UInt8) : ByteArray := ⟨l.toArray⟩
def entV (x : EntQ) : Value := .agg #[.string (baL x.path), .int .i64 x.kind, .int .i64 x.mode, .string (baL x.data)]
def eenc (x : EntQ) : Array Value := #[entV x]
/-- What a loop's body makes of the entries that it is told. -/
def YieldsTo (L : List EntQ) (l : Nat) (J : Nat → (Nat → Prop) → World → Prop) (Jx : (Nat → Prop) → World → Prop) : Prop :=
  ∀ (s : Nat) (A : Nat → Prop) (W : World) (h : s < L.length), J s A W → YieldAt FW (8 - 1) Tryz.prog l (eenc L[s]) W fun e W' => Fr A W W' ∧ ((e = .returned (.bool true) ∧ J (s + 1) (fun k => A k ∨ (W.heap.size ≤ k ∧ k < W'.heap.size)) W') ∨ (e = .returned (.bool false) ∧ Jx (fun k => A k ∨ (W.heap.size ≤ k ∧ k < W'.heap.size)) W'))
def BelowPost (J : Nat → (Nat → Prop) → World → Prop) (Jx : (Nat → Prop) → World → Prop) (A0 : Nat → Prop) (W0 : World) (s' : Nat) (e : Ending) (W' : World) : Prop :=
  Fr A0 W0 W' ∧ ((e = .returned (.bool true) ∧ ∃ A' : Nat → Prop, J s' A' W' ∧ ∀ k, A' k → A0 k ∨ W0.heap.size ≤ k) ∨ (e = .returned (.bool false) ∧ ∃ A' : Nat → Prop, Jx A' W'))
/-- What is told of a directory's first entries. -/
def tot (σ : FSt) (fuel : Nat) (P : List UInt8) (n : Nd) (j : Nat) : List EntQ := ((n.ents.take j).map (entL σ (treeF σ fuel) P)).flatten
theorem tot_succ (σ : FSt) (fuel : Nat) (P : List UInt8) (n : Nd) (j : Nat) (h : j < n.ents.length) : tot σ fuel P n (j + 1) = tot σ fuel P n j ++ entL σ (treeF σ fuel) P n.ents[j] := by
  unfold tot
  rw [List.take_succ_eq_append_getElem h, List.map_append, List.flatten_append]
  simp
theorem tot_all {σ : FSt} {i : Nat} {n : Nd} (h : σ.nd i = some n) (fuel : Nat) (P : List UInt8) : treeF σ (fuel + 1) P i = tot σ fuel P n n.ents.length := by
  rw [treeF_succ h, tot, List.take_length]
theorem tot_part (σ : FSt) (fuel : Nat) (P : List UInt8) (n : Nd) (j : Nat) (h : j < n.ents.length) : ∃ r, tot σ fuel P n n.ents.length = tot σ fuel P n j ++ (entL σ (treeF σ fuel) P n.ents[j] ++ r) := by
  refine ⟨((n.ents.drop (j + 1)).map (entL σ (treeF σ fuel) P)).flatten, ?_⟩
  unfold tot
  rw [List.take_length, ← List.append_assoc]
  have e : (entL σ (treeF σ fuel) P) n.ents[j] = (([n.ents[j]] : List (List UInt8 × Nat)).map (entL σ (treeF σ fuel) P)).flatten := by simp
  rw [e, ← List.flatten_append, ← List.map_append, ← List.flatten_append, ← List.map_append, ← List.take_succ_eq_append_getElem h, List.take_append_drop]
theorem conv_data {w : World} {dv : Value} {l : List UInt8} (h : DataV w dv l) : (convert 118 9 dv).run Tryz.prog w = .ok (.string (baL l)) w := by
  rcases h with ⟨rfl, rfl⟩ | ⟨g, cap, cur, rfl, hg, h1, h2, h3⟩
  · exact run_convert_bytes_nil w 118 5 (by kernel_rfl) (by kernel_rfl) 0 0 9 (by kernel_rfl)
  · refine conv_bytes l (fun j hj => ?_) cap
    rw [blk_cell hg, Nat.zero_add]
    have h4 := congrArg (fun x => x[j]?) h3
    simp only [List.getElem?_take_of_lt hj, Array.getElem?_toList, List.getElem?_map, List.getElem?_eq_getElem hj, Option.map_some] at h4
    exact h4
def BRel (σ : FSt) (fuel : Nat) (P : List UInt8) (n : Nd) (s0 : Nat) (A0 : Nat → Prop) (W0 : World) (J : Nat → (Nat → Prop) → World → Prop) (ka : Value) (i : Value) (wr : World) : Prop :=
  ∃ (j : Nat) (A : Nat → Prop), i = .int .i64 j ∧ j ≤ n.ents.length ∧ J (s0 + (tot σ fuel P n j).length) A wr ∧ wr.ownsRow (W0.heap.size + 1) 9 1 ka n.ents.length ((n.ents.map (·.1)).map encStr) ∧ (∀ q, ka.ownBlock = some q → ¬ A q) ∧ Fr A0 W0 wr ∧ (∀ k, A k → A0 k ∨ W0.heap.size ≤ k)
set_option maxRecDepth 100000 in
set_option maxHeartbeats 8000000 in
theorem below_any {σ : FSt} {f : Nat} {S : Nat → Prop} {p : Nat → Nat} {L : List EntQ} {l : Nat} {J : Nat → (Nat → Prop) → World → Prop} {Jx : (Nat → Prop) → World → Prop} (hV : Inv σ 0) (hcap : CapB σ)
    (hJI : ∀ s A W, J s A W → FilesAt W f σ S p) (hJf : ∀ s (A : Nat → Prop) W W', J s A W → Fr (fun k => ¬ A k) W W' → J s A W') (hJA : ∀ s A W, J s A W → ∀ k, A k → k < W.heap.size) (hY : YieldsTo L l J Jx) :
    ∀ (fuel i d s : Nat) (P : List UInt8) (A : Nat → Prop) (W : World) (rest : List EntQ) (n : Nd), σ.nd i = some n → n.d = true → Dep σ 0 1 i d → d + fuel = 101 → P.length ≤ 33 * d → L.drop s = treeF σ fuel P i ++ rest → J s A W →
    Calls Tryz.prog 70 #[.pointer (some ⟨p i, 0, none⟩), .string (baL P), .func (.yield l) #[] #[]] W (BelowPost J Jx A W (s + (treeF σ fuel P i).length))
  | 0, i, d, s, P, A, W, rest, n, hn, hd, hdep, hfu, hP, hL, hJ0 => by
    have := hdep.short (hJI _ _ _ hJ0).live
    omega
  | fuel + 1, i, d, s, P, A, W, rest, n, hn, hd, hdep, hfu, hP, hL, hJ0 => by
    have IH := hide (below_any hV hcap hJI hJf hJA hY fuel)
    have hA0 := hJI _ _ _ hJ0
    have hdl := hdep.short hA0.live
    rw [tot_all hn] at hL ⊢
    obtain ⟨dv0, ev0, pv0, hN0⟩ := hA0.node hn
    obtain ⟨-, mk, rfl, hsm⟩ := hN0.dir hd
    have hel := (hcap i n hn).2.2
    have c6 : W.cell? ⟨p i, 6, none⟩ = some (.map (some mk)) := by rw [blk_cell hN0.hb]; rfl
    have hK := hide (callsIn_wide.1 (Tryz.maps_Keys_118 (some mk) W))
    have hS := hide (callsIn_wide.1 (Tryz.slices_Sorted_keys_117_118 mk (kmap (fun _ k => Value.pointer (some ⟨p k, 0, none⟩)) n.ents).length (dOf (kmap (fun _ k => Value.pointer (some ⟨p k, 0, none⟩)) n.ents)) rV W hsm.own (by rw [dOf_size, kmap_length]; unfold maxLen; omega) (by rw [dOf_size, kmap_length]; omega)))
    have hsrt := hide hsm.sorted
    have HJ0 := hide hJ0
    have HL := hide hL
    have Hn := hide hn
    have Hd := hide hd
    have Hdep := hide hdep
    clear hJ0 hL hn hd hdep hA0 hN0 hsm
    refine (callsIn_wide (n := 8)).1 ?_
    refine callsIn_of_wp Tryz.func70 rfl trivial ?_ rfl
    simp only [Tryz.ntmps70, List.size_toArray, List.length_cons, List.length_nil, Nat.reduceAdd, Nat.reduceSub, Array.replicate_succ, Array.replicate_zero, List.push_toArray, List.append_toArray, List.nil_append, List.cons_append]
    gi_wp2_with (refine ⟨trivial, ?_⟩; first
      | (gi_at_call 118; refine (callsIn_wide.2 hK.out).mono ?_; rintro e w1 ⟨rfl, rfl⟩)
      | (gi_at_call 117; refine (callsIn_wide.2 hS.out).mono ?_; rintro e w2 ⟨v, ss, rfl, hp, hrow, _, hb2⟩; rw [dOf_keys] at hp; rw [sorted_keys hsrt.out hp, kmap_keys, show ss.length = n.ents.length from (by rw [hp.length_eq]; simp [kmap_length])] at hrow; clear hp; obtain ⟨va, vc, rfl⟩ := own_form hrow))
    have hfW : Fr (fun _ => False) W w2 := ((Fr.refl _ _).alloc _).trans (Fr.of_below hb2 _)
    have hJ2 := hJf _ _ _ _ HJ0.out (hfW.mono (fun _ _ e => e.elim))
    have hvb : ∀ q, (Value.slice va n.ents.length vc).ownBlock = some q → W.heap.size < q := fun q e => by have := (hrow.lt q e).1; simp at this; omega
    have h0 : BRel σ fuel P n s A W J (.slice va n.ents.length vc) (.int .i64 0) w2 := ⟨0, A, rfl, by omega, by simpa [tot] using hJ2, by simpa using hrow, fun q e h => by have := hvb q e; have := hJA _ _ _ HJ0.out q h; omega, hfW.mono (fun _ _ e => e.elim), fun k hk => .inl hk⟩
    have h0 := hide h0
    clear hfW hJ2 hvb hrow hb2 hK hS c6
    gi_loopw [17] (fun i wr => BRel σ fuel P n s A W J (.slice va n.ents.length vc) i wr) (fun i _ => n.ents.length - (intOf i).toNat)
    case atStart => exact h0.out
    case round =>
      clear h0 HJ0
      obtain ⟨j, A1, rfl, hj, hJ, hrow, hnA, hfr, hAA⟩ := hrel
      by_cases hlt : j < n.ents.length
      · obtain ⟨g, rfl, hg1, hg2, hc⟩ := own_cells hrow (by omega)
        have hck := hc j (.string (baL n.ents[j].1)) (by simp [encStr, hlt, baL])
        have hA := hJI _ _ _ hJ
        have hlv := hA.live
        obtain ⟨dv, ev, pv, hN⟩ := hA.node Hn.out
        have hnl := hlv.names _ _ Hn.out _ (List.getElem_mem hlt)
        have hkg := kget_of_mem (hV.srt _ _ Hn.out) (List.getElem_mem hlt)
        obtain ⟨m, hm⟩ := Option.isSome_iff_exists.1 (hlv.ents _ _ Hn.out _ (List.getElem_mem hlt))
        have htot := tot_succ σ fuel P n j hlt
        obtain ⟨r, hr⟩ := tot_part σ fuel P n j hlt
        have hLd := HL.out
        rw [hr] at hLd
        generalize n.ents[j] = x at *
        obtain ⟨nm, k⟩ := x
        simp only at hck hnl hkg hm htot hLd
        have hLs : L.drop (s + (tot σ fuel P n j).length) = entL σ (treeF σ fuel) P (nm, k) ++ (r ++ rest) := by
          rw [← List.drop_drop, hLd, List.append_assoc, List.drop_left, List.append_assoc]
        obtain ⟨el, hel', hel1, hel2⟩ : ∃ el, entL σ (treeF σ fuel) P (nm, k) = entQ P nm m :: el ∧ (m.d = false → el = []) ∧ (m.d = true → el = treeF σ fuel (P ++ nm ++ [slashB]) k) := by
          cases hmd : m.d with
          | false => exact ⟨_, entL_file hm hmd, fun _ => rfl, fun e => (by cases e)⟩
          | true => exact ⟨_, entL_dir hm hmd, fun e => (by cases e), fun _ => rfl⟩
        have hsl : s + (tot σ fuel P n j).length < L.length := by
          apply Decidable.byContradiction
          intro hge
          rw [List.drop_eq_nil_of_le (by omega), hel'] at hLs
          cases hLs
        have hat : L[s + (tot σ fuel P n j).length] = entQ P nm m := by
          have := congrArg (fun l => l[0]?) hLs
          rw [hel'] at this
          simpa [List.getElem?_drop, hsl] using this
        obtain ⟨mk', rfl, hlk⟩ := Hlook hN Hd.out
        have hlk := hlk (baL nm) (by unfold maxLen baL; simp [ByteArray.size]; omega) wr (Fr.refl _ _)
        rw [show (baL nm).data.toList = nm from rfl, hkg] at hlk
        simp only [nodePtr] at hlk
        have d6 : wr.cell? ⟨p i, 6, none⟩ = some (.map (some mk')) := by rw [blk_cell hN.hb]; rfl
        obtain ⟨dvk, evk, pvk, hNk⟩ := hA.node hm
        have hbk := blk_drew hNk.hb
        have k1 : wr.drew.cell? ⟨p k, 1, none⟩ = some (.int .i64 (kindN m)) := by rw [blk_cell hbk]; rfl
        have k2 : wr.drew.cell? ⟨p k, 2, none⟩ = some (.int .i64 m.mode) := by rw [blk_cell hbk]; rfl
        have k5 : wr.drew.cell? ⟨p k, 5, none⟩ = some dvk := by rw [blk_cell hbk]; rfl
        have hdrew : Fr (fun _ => False) wr wr.drew := (Fr.refl _ _).drew
        have hconv := conv_data (hNk.data.frame hdrew (fun _ _ e => e))
        obtain ⟨da, dc, rfl⟩ := hNk.data.form
        have hcat : baL (P ++ nm) = baL P ++ baL nm := ba_of_data (by rw [ba_append]; simp [baL])
        have hz1 : (baL P).size ≤ 3300 := by simp [baL, ByteArray.size]; omega
        have hz2 : (baL nm).size ≤ 32 := by simpa [baL, ByteArray.size] using hnl
        have hyl := hY _ A1 wr.drew hsl (hJf _ _ _ _ hJ (hdrew.mono (fun _ _ e => e.elim)))
        rw [hat] at hyl
        obtain ⟨fn, tmps, assign, body, hy, hR⟩ := hyl
        simp only [eenc, entV, entQ, hcat] at hy hR
        have HR := hide hR
        have HJ := hide hJ
        have Hm := hide hm
        have Hrow := hide hrow
        have HnA := hide hnA
        have Hfr := hide hfr
        have HAA := hide hAA
        rw [hel'] at htot hLs
        have Htot := hide htot
        have HLs := hide hLs
        have Hkg := hide hkg
        have Hel1 := hide hel1
        have Hel2 := hide hel2
        have hwr : wr.drew.heap.size = wr.heap.size := rfl
        have hgq : ∀ q, (Value.slice (some ⟨g, 0, none⟩) n.ents.length vc).ownBlock = some q → q < wr.heap.size := fun q e => (hrow.lt q e).2
        have Hgq := hide hgq
        have hcat2 : baL (P ++ nm ++ [slashB]) = baL P ++ baL nm ++ (⟨#[47]⟩ : ByteArray) := ba_of_data (by rw [ba_append, ba_append]; simp [baL, slashB])
        have Hcat2 := hide hcat2
        have hnl' := hnl
        have hl1 : (0 : Int) ≤ (j : Int) := by omega
        have hl2 : (j : Int) < (n.ents.length : Int) := by omega
        clear hR hJ hm hrow hnA hfr hAA htot hLd hLs hel' hel1 hel2 hr hat hsl hN hA hNk hbk hkg hlv hc hgq hcat hcat2
        generalize hq1 : baL P = qP at *
        generalize hq2 : baL nm = qn at *
        generalize hq3 : baL m.data = qd at *
        generalize hq4 : kindN m = kd at *
        gi_wp2
        refine region_mix_in [0] [1, 2, 3, 4, 5, 6, 7, 8, 9, 10, 11, 12, 13, 14, 15, 16] 17 (by kernel_rfl) (by kernel_rfl) (by kernel_rfl) (fun _ _ d _ _ h => by cases d <;> exact h) ?_
        simp only [List.map_cons, List.map_nil, List.getD_cons_zero, List.getD_cons_succ, List.drop_succ_cons, List.drop_zero]
        repeat go_big_quiet_step (fail)
        refine wpQuiet_nil ?_
        repeat go_big_quiet_step (fail)
        refine wpQuiet_nil ?_
        gi_wp2
        refine HR.out.mono ?_
        rintro e W3 ⟨hf3, (⟨rfl, hJ3⟩ | ⟨rfl, hJx3⟩)⟩
        · have hs3 := hf3.size
          rw [hwr] at hs3 hJ3
          have hA3 := hJI _ _ _ hJ3
          obtain ⟨dv3, ev3, pv3, hN3⟩ := hA3.node Hm.out
          have hdir := hide (dir_any W3 p (p k) k m dv3 ev3 pv3 hN3)
          have hf3' : Fr A1 wr W3 := (hdrew.mono (fun _ _ e => e.elim)).trans hf3
          have hfr3 := hide (Hfr.out.trans' hf3' (fun q hq e => (HAA.out q e).resolve_right (by omega)))
          have hrow3 := hide (own_frame Hrow.out hf3' (fun q e => HnA.out q e))
          have HJ3 := hide hJ3
          clear hJ3 hA3 hN3 HR
          cases hmd : m.d with
          | false =>
            rw [hmd] at hdir
            have hnext : BRel σ fuel P n s A W J (.slice (some ⟨g, 0, none⟩) n.ents.length vc) (.int .i64 ((j : Int) + 1)) W3 :=
              ⟨j + 1, (fun k => A1 k ∨ (wr.heap.size ≤ k ∧ k < W3.heap.size)), by go_num, by omega, by
                have e : s + (tot σ fuel P n (j + 1)).length = s + (tot σ fuel P n j).length + 1 := by rw [Htot.out, Hel1.out hmd]; simp; omega
                rw [e]; exact HJ3.out, hrow3.out, fun q e h => h.elim (HnA.out q e) (fun h => by have := Hgq.out q e; omega), hfr3.out, fun q h => h.elim (HAA.out q) (fun h => .inr (by have := Hfr.out.size; omega))⟩
            have hnext := hide hnext
            clear hmd
            gi_wp2_with (refine ⟨trivial, ?_⟩; gi_at_call 99; refine (callsIn_wide.2 hdir.out).mono ?_; rintro e w' ⟨rfl, rfl⟩)
            refine ⟨trivial, ?_⟩
            gi_wp2
            go_roundw
            case rel => exact hnext.out
            case measure => simp [intOf]; omega
          | true =>
            rw [hmd] at hdir
            have hrec := IH.out k (d + 1) (s + (tot σ fuel P n j).length + 1) (P ++ nm ++ [slashB]) (fun k => A1 k ∨ (wr.heap.size ≤ k ∧ k < W3.heap.size)) W3 (r ++ rest) m Hm.out hmd (hV.deeper Hdep.out Hn.out Hkg.out Hm.out hmd) (by omega) (by simp; omega) (by
              rw [← List.drop_drop, HLs.out, ← Hel2.out hmd]; rfl) HJ3.out
            rw [Hcat2.out] at hrec
            have hrec := hide hrec
            have hel3 := Hel2.out hmd
            have hlen : s + (tot σ fuel P n (j + 1)).length = s + (tot σ fuel P n j).length + 1 + (treeF σ fuel (P ++ nm ++ [slashB]) k).length := by rw [Htot.out, hel3]; simp; omega
            have Hlen := hide hlen
            clear hmd hel3 hlen
            gi_wp2_with (refine ⟨trivial, ?_⟩; first
              | (gi_at_call 99; refine (callsIn_wide.2 hdir.out).mono ?_; rintro e w' ⟨rfl, rfl⟩)
              | (gi_at_call 70; refine (callsIn_wide.2 hrec.out).mono ?_; rintro e W4 ⟨hf4, (⟨rfl, A4, hJ4, hA4⟩ | ⟨rfl, A4, hJx4⟩)⟩))
            · have hfr4 := hfr3.out.trans' hf4 (fun q hq e => e.elim (fun e => (HAA.out q e).resolve_right (by omega)) (fun e => by have := Hfr.out.size; omega))
              have hnext : BRel σ fuel P n s A W J (.slice (some ⟨g, 0, none⟩) n.ents.length vc) (.int .i64 ((j : Int) + 1)) W4 :=
                ⟨j + 1, A4, by go_num, by omega, by rw [Hlen.out]; exact hJ4, own_frame hrow3.out hf4 (fun q e h => h.elim (HnA.out q e) (fun h => by have := Hgq.out q e; omega)),
                  fun q e h => (hA4 q h).elim (fun h => h.elim (HnA.out q e) (fun h => by have := Hgq.out q e; omega)) (fun h => by have := Hgq.out q e; omega), hfr4,
                  fun q h => (hA4 q h).elim (fun h => h.elim (HAA.out q) (fun h => .inr (by have := Hfr.out.size; omega))) (fun h => .inr (by have := Hfr.out.size; omega))⟩
              have hnext := hide hnext
              clear hJ4 hA4 hfr4 hf4 hrec
              gi_wp2
              go_roundw
              case rel => exact hnext.out
              case measure => simp [intOf]; omega
            · have hfr4 := hfr3.out.trans' hf4 (fun q hq e => e.elim (fun e => (HAA.out q e).resolve_right (by omega)) (fun e => by have := Hfr.out.size; omega))
              have hfin := hide (show BelowPost J Jx A W (s + (tot σ fuel P n n.ents.length).length) (.returned (.bool false)) W4 from ⟨hfr4, .inr ⟨rfl, _, hJx4⟩⟩)
              clear hJx4 hfr4 hf4 hrec
              gi_wp2
              refine bodyPost_ret (results_tmp rfl _ _ _) rfl ?_
              exact hfin.out
        · have hf3' : Fr A1 wr W3 := (hdrew.mono (fun _ _ e => e.elim)).trans hf3
          have hfr3 := Hfr.out.trans' hf3' (fun q hq e => (HAA.out q e).resolve_right (by omega))
          have hfin := hide (show BelowPost J Jx A W (s + (tot σ fuel P n n.ents.length).length) (.returned (.bool false)) W3 from ⟨hfr3, .inr ⟨rfl, _, hJx3⟩⟩)
          clear hJx3 hfr3 hf3' hf3 HR
          gi_wp2
          refine bodyPost_ret (results_tmp rfl _ _ _) rfl ?_
          exact hfin.out
      · have hje : j = n.ents.length := by omega
        subst hje
        have hfin := hide (show BelowPost J Jx A W (s + (tot σ fuel P n n.ents.length).length) (.returned (.bool true)) wr from ⟨hfr, .inl ⟨rfl, A1, hJ, hAA⟩⟩)
        have hkd : decide ((n.ents.length : Int) < (n.ents.length : Int)) = false := decide_eq_false (by omega)
        clear hrow hnA hJ hfr hAA
        gi_wp2
        refine bodyPost_ret (results_tmp rfl _ _ _) rfl ?_
        exact hfin.out
end Go.Proofs.YtdnbfhcbcdodmaaGreatDoor

/- shyardlaw12.num: a number as a text. No condition. -/
namespace Go.Proofs.YtdnbfhcbcdodmaaGreatDoor
open Go.RowKit

attribute [local go_sem] Oper.semAt_some

def digB (d : Nat) : ByteArray := ⟨#[UInt8.ofNat (48 + d)]⟩
def natB (n : Nat) : ByteArray := if n < 10 then digB n else natB (n / 10) ++ digB (n % 10)
termination_by n
decreasing_by omega
def numB (n : Int) : ByteArray := if n < 0 then ⟨#[45]⟩ else natB n.toNat
theorem natB_size : ∀ (k n : Nat), n < 10 ^ (k + 1) → (natB n).size ≤ k + 1
  | 0, n, h => by
    rw [natB, if_pos (by simpa using h)]
    exact Nat.le_refl _
  | k + 1, n, h => by
    rw [natB]
    split
    · show 1 ≤ _
      omega
    · rw [ByteArray.size_append]
      have := natB_size k (n / 10) (by rw [Nat.pow_succ] at h; omega)
      have e : (digB (n % 10)).size = 1 := rfl
      omega
theorem numB_size {n : Int} (h : n ≤ 9223372036854775807) : (numB n).size ≤ 20 := by
  unfold numB
  split
  · show 1 ≤ 20; decide
  · exact Nat.le_trans (natB_size 18 n.toNat (by omega)) (by decide)
theorem conv_dig (w : World) (b d : Nat) (hd : d < 10) (h : w.heap[b]? = some (.cells #[.int .u8 (48 + (d : Int))] 5 (0, 0))) : (convert 118 9 (.slice (some ⟨b, 0, none⟩) 1 1)).run Tryz.prog w = .ok (.string (digB d)) w := by
  refine conv_data (l := [UInt8.ofNat (48 + d)]) (.inr ⟨b, 1, _, rfl, h, Nat.le_refl _, Nat.le_refl _, ?_⟩)
  have e : ((UInt8.ofNat (48 + d)).toNat : Int) = 48 + (d : Int) := by
    rw [UInt8.toNat_ofNat_of_lt' (by show 48 + d < 256; omega)]
    omega
  simp
  omega
set_option maxRecDepth 100000 in
set_option maxHeartbeats 2000000 in
theorem num_small (n : Nat) (w : World) (hn : n < 10) : Calls Tryz.prog 35 #[.int .i64 n] w fun e w' => e = .returned (.string (natB n)) ∧ Fr (fun _ => False) w w' := by
  rw [natB, if_pos hn]
  have hc := conv_dig (w.alloc (.cells #[.int .u8 (48 + (n : Int))] 5 (0, 0))) w.heap.size n hn (blk_new _ _)
  have l1 : ¬ (n : Int) < 0 := by omega
  have l2 : (n : Int) < 10 := by omega
  go_enter Tryz.func35, Tryz.ntmps35
  go_wp2_with fail
  go_ret
  exact ⟨rfl, (Fr.refl _ _).alloc _⟩
set_option maxRecDepth 100000 in
set_option maxHeartbeats 4000000 in
theorem num_big (n : Nat) (w : World) (hn : ¬ n < 10) (hn2 : n ≤ 9223372036854775807) (ih : ∀ w, Calls Tryz.prog 35 #[.int .i64 ((n / 10 : Nat) : Int)] w fun e w' => e = .returned (.string (natB (n / 10))) ∧ Fr (fun _ => False) w w') :
    Calls Tryz.prog 35 #[.int .i64 n] w fun e w' => e = .returned (.string (natB n)) ∧ Fr (fun _ => False) w w' := by
  rw [natB, if_neg hn]
  obtain ⟨m, hm⟩ : ∃ m, m = n / 10 := ⟨_, rfl⟩
  obtain ⟨d, hd⟩ : ∃ d, d = n % 10 := ⟨_, rfl⟩
  have hsz : (natB m).size ≤ 20 := Nat.le_trans (natB_size 18 m (by omega)) (by decide)
  have hds : (digB d).size = 1 := rfl
  have hz : ¬ 9223372036854775807 < (natB m).size + (digB d).size := by omega
  have l3 : d < 10 := by omega
  have Hc := hide (fun W b => conv_dig W b d l3)
  rw [← hm] at ih
  have hIH := hide ih
  have Hv := hide ((Fr.refl (fun _ => False) w).drew)
  have l1 : ¬ (n : Int) < 0 := by omega
  have l2 : ¬ (n : Int) < 10 := by omega
  have l4 : IntKind.i64.wrap ((n : Int) / 10) = (m : Int) := by rw [IntKind.wrap_i64]; omega
  have l6 : IntKind.i64.wrap (48 + (d : Int)) = 48 + (d : Int) := by rw [IntKind.wrap_i64]; omega
  have l7 : IntKind.u8.wrap (48 + (d : Int)) = 48 + (d : Int) := by rw [IntKind.wrap_u8]; omega
  have l5 : (n : Int).tmod 10 = (d : Int) := by rw [Int.tmod_eq_emod_of_nonneg (by omega)]; omega
  rw [← hm, ← hd]
  generalize natB m = s1 at *
  generalize digB d = s2 at *
  clear ih hsz hds hn hm hd
  go_enter Tryz.func35, Tryz.ntmps35
  go_wp2_with fail
  refine region_tree (fun _ => True) [0, 1, 3, 4, 5, 6] 3 9 (by kernel_rfl) (by kernel_rfl) (fun _ _ d _ _ h => by cases d <;> exact h) trivial ?_
  simp only [List.map_cons, List.map_nil, List.getD_cons_zero, List.getD_cons_succ, List.drop_succ_cons, List.drop_zero]
  generalize w.drew = v at *
  refine wpQuiet_val (.int .i64 (n : Nat)) rfl (fun w' hS => by (go_simp)) ?_
  simp only [Act.put, List.setIfInBounds_toArray, List.set_cons_succ, List.set_cons_zero]
  refine wpQuiet_val (.int .i64 (m : Nat)) rfl (fun w' hS => by (go_simp)) ?_
  simp only [Act.put, List.setIfInBounds_toArray, List.set_cons_succ, List.set_cons_zero]
  refine wpQuiet_val (.int .i64 (n : Nat)) rfl (fun w' hS => by (go_simp)) ?_
  simp only [Act.put, List.setIfInBounds_toArray, List.set_cons_succ, List.set_cons_zero]
  refine wpQuiet_val (.int .i64 (d : Int)) rfl (fun w' hS => by (go_simp)) ?_
  simp only [Act.put, List.setIfInBounds_toArray, List.set_cons_succ, List.set_cons_zero]
  refine wpQuiet_val (.int .i64 (48 + (d : Int))) rfl (fun w' hS => by (go_simp)) ?_
  simp only [Act.put, List.setIfInBounds_toArray, List.set_cons_succ, List.set_cons_zero]
  refine wpQuiet_val (.int .u8 (48 + (d : Int))) rfl (fun w' hS => by (go_simp)) ?_
  simp only [Act.put, List.setIfInBounds_toArray, List.set_cons_succ, List.set_cons_zero]
  refine wpQuiet_nil ?_
  refine tree_two' 2 7 (by kernel_rfl) (by decide) (by decide) (by simp) (by simp) rfl rfl (fun Kc hK => ?_) (fun Kc hK => ?_)
  · simp only [List.getD_cons_zero, List.getD_cons_succ]
    go_wp2_with fail
    refine (hIH.out v).mono ?_
    rintro e w2 ⟨rfl, hf2⟩
    refine hK _ _ trivial ?_
    clear hK Kc
    refine tree_one' 7 (by kernel_rfl) (by decide) (by simp) rfl (fun Kc hK => ?_)
    simp only [List.getD_cons_zero, List.getD_cons_succ]
    go_wp2_with fail
    refine hK _ _ trivial ?_
    clear hK Kc
    have hc := Hc.out (w2.alloc (.cells #[.int .u8 (48 + (d : Int))] 5 (0, 0))) w2.heap.size (blk_new _ _)
    refine tree_one' 8 (by kernel_rfl) (by decide) (by simp) rfl (fun Kc hK => ?_)
    simp only [List.getD_cons_zero, List.getD_cons_succ]
    go_wp2_with fail
    refine hK _ _ trivial ?_
    clear hK Kc hc
    refine tree_end (by kernel_rfl) ?_
    try (simp only [List.map_cons, List.map_nil, List.getD_cons_zero, List.getD_cons_succ, List.drop_succ_cons, List.drop_zero])
    go_wp2_with fail
    go_ret
    exact ⟨rfl, (Hv.out.trans hf2).alloc _⟩
  · simp only [List.getD_cons_zero, List.getD_cons_succ]
    go_wp2_with fail
    refine hK _ _ trivial ?_
    clear hK Kc
    obtain ⟨u, hu⟩ : ∃ u, u = v.alloc (.cells #[.int .u8 (48 + (d : Int))] 5 (0, 0)) := ⟨_, rfl⟩
    have hub : u.heap[v.heap.size]? = some (.cells #[.int .u8 (48 + (d : Int))] 5 (0, 0)) := by rw [hu]; exact blk_new _ _
    have hfu : Fr (fun _ => False) v u := by rw [hu]; exact (Fr.refl _ _).alloc _
    rw [← hu]
    have Hu := hide hu
    clear hu
    refine tree_two' 2 8 (by kernel_rfl) (by decide) (by decide) (by simp) (by simp) rfl rfl (fun Kc hK => ?_) (fun Kc hK => ?_)
    · simp only [List.getD_cons_zero, List.getD_cons_succ]
      go_wp2_with fail
      refine (hIH.out u).mono ?_
      rintro e w2 ⟨rfl, hf2⟩
      refine hK _ _ trivial ?_
      clear hK Kc
      have hc := Hc.out w2 v.heap.size (hf2.get hub (fun e => e))
      refine tree_one' 8 (by kernel_rfl) (by decide) (by simp) rfl (fun Kc hK => ?_)
      simp only [List.getD_cons_zero, List.getD_cons_succ]
      go_wp2_with fail
      refine hK _ _ trivial ?_
      clear hK Kc hc
      refine tree_end (by kernel_rfl) ?_
      try (simp only [List.map_cons, List.map_nil, List.getD_cons_zero, List.getD_cons_succ, List.drop_succ_cons, List.drop_zero])
      go_wp2_with fail
      go_ret
      exact ⟨rfl, (Hv.out.trans hfu).trans hf2⟩
    · have hc := Hc.out u v.heap.size hub
      simp only [List.getD_cons_zero, List.getD_cons_succ]
      go_wp2_with fail
      refine hK _ _ trivial ?_
      clear hK Kc hc
      refine tree_one' 2 (by kernel_rfl) (by decide) (by simp) rfl (fun Kc hK => ?_)
      simp only [List.getD_cons_zero, List.getD_cons_succ]
      go_wp2_with fail
      refine (hIH.out u).mono ?_
      rintro e w2 ⟨rfl, hf2⟩
      refine hK _ _ trivial ?_
      clear hK Kc
      refine tree_end (by kernel_rfl) ?_
      try (simp only [List.map_cons, List.map_nil, List.getD_cons_zero, List.getD_cons_succ, List.drop_succ_cons, List.drop_zero])
      go_wp2_with fail
      go_ret
      exact ⟨rfl, (Hv.out.trans hfu).trans hf2⟩
theorem num_nat (w : World) (n : Nat) (hn : n ≤ 9223372036854775807) : Calls Tryz.prog 35 #[.int .i64 n] w fun e w' => e = .returned (.string (natB n)) ∧ Fr (fun _ => False) w w' := by
  induction n using Nat.strongRecOn generalizing w with
  | ind n ih =>
    by_cases h : n < 10
    · exact num_small n w h
    · exact num_big n w h hn fun w => ih (n / 10) (by omega) w (by omega)
set_option maxRecDepth 100000 in
theorem num_any (w : World) (n : Int) (hn : n ≤ 9223372036854775807) : Calls Tryz.prog 35 #[.int .i64 n] w fun e w' => e = .returned (.string (numB n)) ∧ Fr (fun _ => False) w w' := by
  unfold numB
  by_cases h : n < 0
  · rw [if_pos h]
    go_enter Tryz.func35, Tryz.ntmps35
    go_wp2_with fail
    go_ret
    exact ⟨rfl, Fr.refl _ _⟩
  · rw [if_neg h]
    have := num_nat w n.toNat (by omega)
    rwa [Int.toNat_of_nonneg (by omega)] at this
end Go.Proofs.YtdnbfhcbcdodmaaGreatDoor

/- Contracts of the methods of table.Table[*shyard/gate.desc] that walk no other. Conditions: each contract's own premises. -/
namespace Go.Proofs.YtdnbfhcbcdodmaaGreatDoor
open Go.RowKit

def TSt : Type := Nat → Option (Nat × Bool)
def tptrOf (o : Option (Nat × Bool)) (b : Nat) : Value := match o with | none => .pointer none | some _ => .pointer (some ⟨b, 0, none⟩)

/-- A table lies in block t, what number i has in block p i; S: its own blocks, and all that are new. -/
structure TabF (w : World) (t : Nat) (p : Nat → Nat) (st : TSt) (S : Nat → Prop) (cs : Array Value) : Prop where
  hb : w.heap[t]? = some (.cells cs 125 (0, 0))
  hcs : cs.size = 32
  hc : ∀ i, i < 32 → cs[i]? = some (tptrOf (st i) (p i))
  hs : ∀ i x m, i < 32 → st i = some (x, m) → w.heap[p i]? = some (.cells #[.pointer (some ⟨x, 0, none⟩), .bool m] 149 (0, 0))
  inj : ∀ i j, i < 32 → j < 32 → (st i).isSome = true → (st j).isSome = true → p i = p j → i = j
  hne : ∀ i, i < 32 → (st i).isSome = true → p i ≠ t
  own : S t
  owns : ∀ i, i < 32 → (st i).isSome = true → S (p i)
  up : ∀ k, w.heap.size ≤ k → S k

def TabAt (w : World) (t : Nat) (st : TSt) (S : Nat → Prop) : Prop := ∃ p cs, TabF w t p st S cs
def inB (fd : Int) : Bool := decide (0 ≤ fd) && decide (fd < 32)
def TSt.set (st : TSt) (fd : Nat) (o : Option (Nat × Bool)) : TSt := fun i => if i = fd then o else st i

theorem TabF.frame {w w' : World} {t : Nat} {p : Nat → Nat} {st : TSt} {S S' : Nat → Prop} {cs : Array Value} (h : TabF w t p st S cs) (hf : Fr S' w w') (hd : ∀ k, k < w.heap.size → S k → ¬ S' k) : TabF w' t p st S cs where
  hb := hf.get h.hb (hd _ (blk_lt h.hb) h.own)
  hcs := h.hcs
  hc := h.hc
  hs i x m hi e := hf.get (h.hs i x m hi e) (hd _ (blk_lt (h.hs i x m hi e)) (h.owns i hi (by simp [e])))
  inj := h.inj
  hne := h.hne
  own := h.own
  owns := h.owns
  up k hk := h.up k (Nat.le_trans hf.size hk)
theorem TabAt.frame {w w' : World} {t : Nat} {st : TSt} {S S' : Nat → Prop} (h : TabAt w t st S) (hf : Fr S' w w') (hd : ∀ k, k < w.heap.size → S k → ¬ S' k) : TabAt w' t st S := by
  obtain ⟨p, cs, h⟩ := h
  exact ⟨p, cs, h.frame hf hd⟩
theorem TabF.ext {w : World} {t : Nat} {p : Nat → Nat} {st st' : TSt} {S : Nat → Prop} {cs : Array Value} (h : TabF w t p st S cs) (he : ∀ i, i < 32 → st' i = st i) : TabF w t p st' S cs where
  hb := h.hb
  hcs := h.hcs
  hc i hi := by rw [he i hi]; exact h.hc i hi
  hs i x m hi e := h.hs i x m hi (by rw [← he i hi]; exact e)
  inj i j hi hj a b := h.inj i j hi hj (by rw [← he i hi]; exact a) (by rw [← he j hj]; exact b)
  hne i hi a := h.hne i hi (by rw [← he i hi]; exact a)
  own := h.own
  owns i hi a := h.owns i hi (by rw [← he i hi]; exact a)
  up := h.up

/-- A number is free. -/
theorem TabF.cut {w : World} {t : Nat} {p : Nat → Nat} {st : TSt} {S : Nat → Prop} {cs : Array Value} (h : TabF w t p st S cs) (fd : Nat) (hfd : fd < 32) : TabF (w.setCell ⟨t, fd, none⟩ (.pointer none)) t p (st.set fd none) S (cs.setIfInBounds fd (.pointer none)) where
  hb := blk_set h.hb _ _
  hcs := by simp [h.hcs]
  hc i hi := by
    by_cases e : i = fd
    · subst e; simp [TSt.set, h.hcs, hi, tptrOf]
    · rw [Array.getElem?_setIfInBounds_ne (Ne.symm e), h.hc i hi]; simp [TSt.set, e]
  hs i x m hi e := by
    by_cases e1 : i = fd
    · simp [TSt.set, e1] at e
    · have e2 : st i = some (x, m) := by simpa [TSt.set, e1] using e
      exact blk_set_other (h.hs i x m hi e2) _ _ (h.hne i hi (by simp [e2]))
  inj i j hi hj a b := h.inj i j hi hj (by by_cases e : i = fd <;> simp_all [TSt.set]) (by by_cases e : j = fd <;> simp_all [TSt.set])
  hne i hi a := h.hne i hi (by by_cases e : i = fd <;> simp_all [TSt.set])
  own := h.own
  owns i hi a := h.owns i hi (by by_cases e : i = fd <;> simp_all [TSt.set])
  up k hk := h.up k (by simpa using hk)
/-- A number has a new thing. -/
theorem TabF.put {w : World} {t : Nat} {p : Nat → Nat} {st : TSt} {S : Nat → Prop} {cs : Array Value} (h : TabF w t p st S cs) (fd : Nat) (hfd : fd < 32) (b : Nat) (hS : S b) (hbt : b ≠ t) (hp : ∀ i, i < 32 → i ≠ fd → (st i).isSome = true → p i ≠ b) (x : Nat) (m : Bool) (hx : w.heap[b]? = some (.cells #[.pointer (some ⟨x, 0, none⟩), .bool m] 149 (0, 0))) :
    TabF (w.setCell ⟨t, fd, none⟩ (.pointer (some ⟨b, 0, none⟩))) t (fun i => if i = fd then b else p i) (st.set fd (some (x, m))) S (cs.setIfInBounds fd (.pointer (some ⟨b, 0, none⟩))) where
  hb := blk_set h.hb _ _
  hcs := by simp [h.hcs]
  hc i hi := by
    by_cases e : i = fd
    · subst e; simp [TSt.set, h.hcs, hi, tptrOf]
    · rw [Array.getElem?_setIfInBounds_ne (Ne.symm e), h.hc i hi]; simp [TSt.set, e]
  hs i y n hi e := by
    by_cases e1 : i = fd
    · simp [TSt.set, e1] at e
      obtain ⟨rfl, rfl⟩ := e
      rw [if_pos e1]
      exact blk_set_other hx _ _ hbt
    · have e2 : st i = some (y, n) := by simpa [TSt.set, e1] using e
      rw [if_neg e1]
      exact blk_set_other (h.hs i y n hi e2) _ _ (h.hne i hi (by simp [e2]))
  inj i j hi hj a c e := by
    by_cases e1 : i = fd <;> by_cases e2 : j = fd <;> simp only [e1, e2, if_true, if_false, TSt.set] at a c e ⊢
    · exact absurd e.symm (hp j hj e2 c)
    · exact absurd e (hp i hi e1 a)
    · exact h.inj i j hi hj a c e
  hne i hi a := by
    by_cases e1 : i = fd
    · rw [if_pos e1]; exact hbt
    · rw [if_neg e1]; exact h.hne i hi (by simpa [TSt.set, e1] using a)
  own := h.own
  owns i hi a := by
    by_cases e1 : i = fd
    · rw [if_pos e1]; exact hS
    · rw [if_neg e1]; exact h.owns i hi (by simpa [TSt.set, e1] using a)
  up k hk := h.up k (by simpa using hk)
/-- A new thing in a block of its own. -/
theorem TabF.putNew {w w1 : World} {t : Nat} {p : Nat → Nat} {st : TSt} {S : Nat → Prop} {cs : Array Value} (h : TabF w t p st S cs) (fd : Nat) (hfd : fd < 32) (x : Nat) (m : Bool)
    (hw : w1 = w.alloc (.cells #[.pointer (some ⟨x, 0, none⟩), .bool m] 149 (0, 0))) : TabAt (w1.setCell ⟨t, fd, none⟩ (.pointer (some ⟨w.heap.size, 0, none⟩))) t (st.set fd (some (x, m))) S := by
  subst hw
  have h1 := h.frame ((Fr.refl (fun _ => False) w).alloc (.cells #[.pointer (some ⟨x, 0, none⟩), .bool m] 149 (0, 0))) (fun _ _ _ e => e)
  refine ⟨_, _, h1.put fd hfd w.heap.size (h.up _ (Nat.le_refl _)) (by have := blk_lt h.hb; omega) ?_ x m (blk_new _ _)⟩
  intro i hi _ hsome e
  obtain ⟨⟨y, n⟩, hy⟩ := Option.isSome_iff_exists.1 hsome
  have := blk_lt (h.hs i y n hi hy)
  omega
theorem in_any (fd : Int) (w : World) : Calls Tryz.prog 73 #[.int .i64 fd] w fun e w' => e = .returned (.bool (inB fd)) ∧ w = w' := by
  go_enter Tryz.func73, Tryz.ntmps73
  by_cases h1 : 0 ≤ fd
  · by_cases h2 : fd < 32
    · go_wp2
      go_ret
      exact ⟨by simp [inB, h1, h2], rfl⟩
    · go_wp2
      go_ret
      exact ⟨by simp [inB, h1, h2], rfl⟩
  · go_wp2
    go_ret
    exact ⟨by simp [inB]; omega, rfl⟩
theorem new_any (w : World) : Calls Tryz.prog 22 #[] w fun e w' => e = .returned (.pointer (some ⟨w.heap.size, 0, none⟩)) ∧ w' = w.alloc (.cells (Array.replicate 32 (.pointer none)) 125 (0, 0)) := by
  go_enter Tryz.func22, Tryz.ntmps22
  go_wp2
  go_ret
  exact ⟨rfl, rfl⟩
theorem TabF.new (w : World) (S : Nat → Prop) (hS : ∀ k, w.heap.size ≤ k → S k) (w' : World) (hw : w' = w.alloc (.cells (Array.replicate 32 (.pointer none)) 125 (0, 0))) : TabAt w' w.heap.size (fun _ => none) S := by
  subst hw
  exact ⟨fun _ => 0, _, blk_new _ _, by simp, fun i hi => by simp [hi, tptrOf], by simp, by simp, by simp, hS _ (Nat.le_refl _), by simp, fun k hk => hS k (by simp at hk; omega)⟩
theorem at_in (w : World) (t : Nat) (p : Nat → Nat) (st : TSt) (S : Nat → Prop) (cs : Array Value) (h : TabF w t p st S cs) (fd : Nat) (hfd : fd < 32) :
    Calls Tryz.prog 66 #[.pointer (some ⟨t, 0, none⟩), .int .i64 fd] w fun e w' => e = .returned (tptrOf (st fd) (p fd)) ∧ w = w' := by
  have hc : w.cell? ⟨t, fd, none⟩ = some (tptrOf (st fd) (p fd)) := by rw [blk_cell h.hb]; exact h.hc fd hfd
  go_enter Tryz.func66, Tryz.ntmps66
  go_wp2_with fail
  refine (in_any fd w).mono ?_
  rintro e w' ⟨rfl, rfl⟩
  have hi : inB fd = true := by simp [inB]; omega
  rw [hi]
  go_wp2
  go_ret
  exact ⟨rfl, rfl⟩
theorem at_out (w : World) (t : Nat) (fd : Int) (hi : inB fd = false) :
    Calls Tryz.prog 66 #[.pointer (some ⟨t, 0, none⟩), .int .i64 fd] w fun e w' => e = .returned (.pointer none) ∧ w = w' := by
  go_enter Tryz.func66, Tryz.ntmps66
  go_wp2_with fail
  refine (in_any fd w).mono ?_
  rintro e w' ⟨rfl, rfl⟩
  rw [hi]
  go_wp2
  go_ret
  exact ⟨rfl, rfl⟩
theorem at_nil (w : World) (fd : Int) :
    Calls Tryz.prog 66 #[.pointer none, .int .i64 fd] w fun e w' => e = .returned (.pointer none) ∧ w = w' := by
  go_enter Tryz.func66, Tryz.ntmps66
  go_wp2
  go_ret
  exact ⟨rfl, rfl⟩
end Go.Proofs.YtdnbfhcbcdodmaaGreatDoor

/- Contracts of the methods of table.Table[*shyard/gate.desc]. Conditions: each contract's own premises. -/
namespace Go.Proofs.YtdnbfhcbcdodmaaGreatDoor
open Go.RowKit

/-- What number fd has. -/
def TSt.at (st : TSt) (fd : Int) : Option (Nat × Bool) := if inB fd = true then st fd.toNat else none
def getV (o : Option (Nat × Bool)) : Value := match o with | none => .tuple #[.pointer none, .int .i64 9] | some (x, _) => .tuple #[.pointer (some ⟨x, 0, none⟩), .int .i64 0]

theorem at_out' {st : TSt} {fd : Int} (h : inB fd = false) : st.at fd = none := by simp [TSt.at, h]
theorem at_in' {st : TSt} {fd : Nat} (h : fd < 32) : st.at fd = st fd := by
  have : inB (fd : Int) = true := by simp [inB]; omega
  simp [TSt.at, this]
theorem inB_nat {fd : Int} (h : inB fd = true) : ∃ n : Nat, fd = n ∧ n < 32 := by
  simp [inB] at h
  exact ⟨fd.toNat, by omega, by omega⟩

theorem get_any (w : World) (t : Nat) (st : TSt) (S : Nat → Prop) (ht : TabAt w t st S) (fd : Int) :
    Calls Tryz.prog 37 #[.pointer (some ⟨t, 0, none⟩), .int .i64 fd] w fun e w' => e = .returned (getV (st.at fd)) ∧ w = w' := by
  obtain ⟨p, cs, ht⟩ := ht
  cases hi : inB fd with
  | false =>
    go_enter Tryz.func37, Tryz.ntmps37
    go_wp2_with fail
    refine (at_out w t fd hi).mono ?_
    rintro e w' ⟨rfl, rfl⟩
    go_wp2
    go_ret2
    exact ⟨by rw [at_out' hi]; rfl, rfl⟩
  | true =>
    obtain ⟨n, rfl, hn⟩ := inB_nat hi
    rw [at_in' hn]
    go_enter Tryz.func37, Tryz.ntmps37
    go_wp2_with fail
    refine (at_in w t p st S cs ht n hn).mono ?_
    rintro e w' ⟨rfl, rfl⟩
    rcases hst : st n with _ | ⟨x, m⟩
    · simp only [tptrOf]
      go_wp2
      go_ret2
      exact ⟨by rw [hst]; rfl, rfl⟩
    · have hc : w.cell? ⟨p n, 0, none⟩ = some (.pointer (some ⟨x, 0, none⟩)) := by rw [blk_cell (ht.hs n x m hn hst)]; rfl
      simp only [tptrOf]
      go_wp2
      go_ret2
      exact ⟨by rw [hst]; rfl, rfl⟩
/-- The first free number from k on, of n. -/
def ff (st : TSt) (k : Nat) : Nat → Option Nat
  | 0 => none
  | n + 1 => if (st k).isSome then ff st (k + 1) n else some k
def firstFree (st : TSt) (least : Nat) : Option Nat := ff st least (32 - least)
theorem ff_skip (st : TSt) : ∀ (n k m : Nat), (∀ j, k ≤ j → j < k + n → (st j).isSome = true) → ff st k (n + m) = ff st (k + n) m
  | 0, k, m, _ => by simp
  | n + 1, k, m, h => by
    rw [show n + 1 + m = (n + m) + 1 by omega, ff, if_pos (h k (Nat.le_refl _) (by omega)), ff_skip st n (k + 1) m (fun j h1 h2 => h j (by omega) (by omega))]
    congr 1; omega
theorem firstFree_none {st : TSt} {l : Nat} (h : ∀ j, l ≤ j → j < 32 → (st j).isSome = true) : firstFree st l = none := by
  unfold firstFree
  have := ff_skip st (32 - l) l 0 (fun j h1 h2 => h j h1 (by omega))
  simpa [ff] using this
theorem firstFree_some {st : TSt} {l k : Nat} (hl : l ≤ k) (hk : k < 32) (h : ∀ j, l ≤ j → j < k → (st j).isSome = true) (hn : st k = none) : firstFree st l = some k := by
  unfold firstFree
  have := ff_skip st (k - l) l (32 - k) (fun j h1 h2 => h j h1 (by omega))
  rw [show k - l + (32 - k) = 32 - l by omega, show l + (k - l) = k by omega] at this
  rw [this, show 32 - k = (32 - k - 1) + 1 by omega, ff, if_neg (by simp [hn])]
def PutTPost (w : World) (t : Nat) (st : TSt) (S : Nat → Prop) (x : Nat) (least : Int) (e : Ending) (w' : World) : Prop :=
  (inB least = false ∧ e = .returned (.tuple #[.int .i64 0, .int .i64 22]) ∧ w = w') ∨
  (inB least = true ∧ firstFree st least.toNat = none ∧ e = .returned (.tuple #[.int .i64 0, .int .i64 24]) ∧ w = w') ∨
  (inB least = true ∧ ∃ k : Nat, k < 32 ∧ firstFree st least.toNat = some k ∧ e = .returned (.tuple #[.int .i64 k, .int .i64 0]) ∧ TabAt w' t (st.set k (some (x, false))) S ∧ Fr S w w')
def PutTRel (w : World) (l : Nat) (st : TSt) (i : Value) (wr : World) : Prop :=
  ∃ k : Nat, i = .int .i64 k ∧ l ≤ k ∧ k ≤ 32 ∧ (∀ j, l ≤ j → j < k → (st j).isSome = true) ∧ wr = w
theorem putT_any (w : World) (t : Nat) (st : TSt) (S : Nat → Prop) (ht : TabAt w t st S) (x : Nat) (least : Int) :
    Calls Tryz.prog 43 #[.pointer (some ⟨t, 0, none⟩), .pointer (some ⟨x, 0, none⟩), .int .i64 least] w (PutTPost w t st S x least) := by
  obtain ⟨p, cs, htf⟩ := ht
  cases hi : inB least with
  | false =>
    go_enter Tryz.func43, Tryz.ntmps43
    go_wp2_with fail
    refine (in_any least w).mono ?_
    rintro e w' ⟨rfl, rfl⟩
    rw [hi]
    go_wp2
    go_ret2
    exact .inl ⟨hi, rfl, rfl⟩
  | true =>
    obtain ⟨l, rfl, hl⟩ := inB_nat hi
    go_enter Tryz.func43, Tryz.ntmps43
    go_wp2_with fail
    refine (in_any l w).mono ?_
    rintro e w' ⟨rfl, rfl⟩
    rw [hi]
    go_wp2
    go_loopw [8] (fun i wr => PutTRel w l st i wr) (fun i _ => 32 - (intOf i).toNat)
    case atStart => exact ⟨l, rfl, Nat.le_refl _, by omega, fun j h1 h2 => by omega, rfl⟩
    case round =>
      obtain ⟨k, rfl, hk1, hk2, hall, rfl⟩ := hrel
      by_cases h1 : k < 32
      · have hc : wr.cell? ⟨t, k, none⟩ = some (tptrOf (st k) (p k)) := by rw [blk_cell htf.hb]; exact htf.hc k h1
        have hf := blk_frozen htf.hb
        have hbt := blk_lt htf.hb
        have hall := hide hall
        rcases hst : st k with _ | ⟨x0, m0⟩
        · have hnew := htf.putNew k h1 x false rfl
          have hfin : PutTPost wr t st S x l (.returned (.tuple #[.int .i64 k, .int .i64 0])) ((wr.alloc (.cells #[.pointer (some ⟨x, 0, none⟩), .bool false] 149 (0, 0))).setCell ⟨t, k, none⟩ (.pointer (some ⟨wr.heap.size, 0, none⟩))) :=
            .inr (.inr ⟨hi, k, h1, firstFree_some hk1 h1 hall.out hst, rfl, hnew, ((Fr.refl _ _).alloc _).setCell (.inl htf.own) _⟩)
          rw [World.setCell_alloc_past _ _ _ _ hbt] at hfin
          have hfin := hide hfin
          clear hnew
          rw [hst] at hc
          simp only [tptrOf] at hc
          go_wp2
          go_ret2
          exact hfin.out
        · rw [hst] at hc
          simp only [tptrOf] at hc
          go_wp2
          go_roundw
          case rel =>
            refine ⟨k + 1, by go_num, by omega, by omega, fun j h2 h3 => ?_, rfl⟩
            by_cases e : j = k
            · rw [e, hst]; rfl
            · exact hall.out j h2 (by omega)
          case measure => simp [intOf]; omega
      · have e : k = 32 := by omega
        subst e
        have hfin : PutTPost wr t st S x l (.returned (.tuple #[.int .i64 0, .int .i64 24])) wr := .inr (.inl ⟨hi, firstFree_none hall, rfl, rfl⟩)
        have hfin := hide hfin
        clear hall
        go_wp2
        go_ret2
        exact hfin.out
end Go.Proofs.YtdnbfhcbcdodmaaGreatDoor
