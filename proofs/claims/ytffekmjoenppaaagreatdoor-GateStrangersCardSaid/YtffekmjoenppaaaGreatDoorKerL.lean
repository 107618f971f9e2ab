/- shyardlaw08.ask, joined: over whatever the methods do. Conditions: the contracts' own premises. -/
import Derived.Test.YtffekmjoenppaaaGreatDoorFilesR
import Derived.Test.YtffekmjoenppaaaGreatDoorFilesX
import Derived.Test.YtffekmjoenppaaaGreatDoorOwn
import Derived.RangeFuncNested
import Derived.RangeFuncBound
import Derived.RangeFuncCalls
import Derived.RangeFuncLeaves
import Derived.OrdersIn
import Derived.Test.YtffekmjoenppaaaGreatDoorGTabX
import Derived.Shelf.Abstract
import Derived.OwnWalkIn
import Derived.TacticsInMore
import Derived.LoopNIn
import Derived.LoopIn
import Derived.Test.YtffekmjoenppaaaGreatDoorFilesP
namespace Go.Proofs.YtffekmjoenppaaaGreatDoor
open Go.RowKit

structure StQ where
  ino : Int
  kind : Int
  mode : Int
  links : Int
  size : Int
def noSt : StQ := ⟨0, 0, 0, 0, 0⟩
def stV (t : StQ) : Value := .agg #[.int .i64 t.ino, .int .i64 t.kind, .int .i64 t.mode, .int .i64 t.links, .int .i64 t.size]
end Go.Proofs.YtffekmjoenppaaaGreatDoor

/- files.FS.Stat, List. Conditions: the contracts' own premises. -/
namespace Go.Proofs.YtffekmjoenppaaaGreatDoor
open Go.RowKit

def statT (σ : FSt) (i : Int) : StQ := match σ.ndI i with | none => noSt | some n => ⟨i, if n.d then 2 else 1, n.mode, n.links, (n.data.length : Int) + (n.ents.length : Int)⟩
def statE (σ : FSt) (i : Int) : Int := match σ.ndI i with | none => 9 | some _ => 0
set_option maxRecDepth 100000 in
set_option maxHeartbeats 2000000 in
theorem Stat_any (w : World) (f : Nat) (σ : FSt) (S : Nat → Prop) (p : Nat → Nat) (h : FilesAt w f σ S p) (hcap : CapB σ) (i : Int) (hi : -9223372036854775808 ≤ i ∧ i ≤ 9223372036854775807) :
    Calls Tryz.prog 48 #[.pointer (some ⟨f, 0, none⟩), .int .i64 i] w fun e w' => e = .returned (.tuple #[stV (statT σ i), .int .i64 (statE σ i)]) ∧ Fr (fun _ => False) w w' := by
  obtain ⟨w1, hw1⟩ : ∃ w1, w1 = w.alloc (.cells #[.int .i64 0, .int .i64 0, .int .i64 0, .int .i64 0, .int .i64 0] 28 (0, 0)) := ⟨_, rfl⟩
  have hf1 : Fr (fun _ => False) w w1 := by rw [hw1]; exact (Fr.refl _ _).alloc _
  have hb1 : w1.heap[w.heap.size]? = some (.cells #[.int .i64 0, .int .i64 0, .int .i64 0, .int .i64 0, .int .i64 0] 28 (0, 0)) := by rw [hw1]; exact blk_new _ _
  have hA := h.frame hf1 (fun _ _ _ e => e)
  have hget := hide (fget_any w1 f σ S p hA i hi)
  cases hn : σ.ndI i with
  | none =>
    rw [show statT σ i = noSt by unfold statT; rw [hn], show statE σ i = 9 by unfold statE; rw [hn]]
    rw [ptrI_none hn] at hget
    clear hn hA hb1
    subst hw1
    go_enter Tryz.func48, Tryz.ntmps48
    go_wp2_with fail
    refine hget.out.mono ?_
    rintro e w2 ⟨rfl, rfl⟩
    clear hget
    go_wp2_with fail
    go_returns
    exact ⟨rfl, (Fr.refl _ _).alloc _⟩
  | some n =>
    obtain ⟨k, rfl, hk⟩ := ndI_some hn
    rw [show statT σ k = ⟨k, if n.d then 2 else 1, n.mode, n.links, (n.data.length : Int) + (n.ents.length : Int)⟩ by unfold statT; rw [hn], show statE σ k = 0 by unfold statE; rw [hn]]
    rw [ptrI_nat hk] at hget
    obtain ⟨dk, ek, pk, hN⟩ := hA.node hk
    obtain ⟨da, dc, hdv⟩ := hN.data.form
    have hlen : ∃ mo, ek = .map mo ∧ ∀ ty, (Builtin.len_ #[87] ty #[.map mo]).run Tryz.prog w1.drew = .ok (.int .i64 n.ents.length) w1.drew := by
      cases hd : n.d with
      | true =>
        obtain ⟨-, mk, hmk, hsm⟩ := hN.dir hd
        refine ⟨some mk, hmk, fun ty => ?_⟩
        rw [(hsm.frame (Fr.refl (fun _ => False) w1).drew (fun e => e)).len (t := 87) Tryz.underlying87 ty, kmap_length]
      | false =>
        obtain ⟨h1, h2⟩ := hN.file hd
        exact ⟨none, h1, fun ty => by rw [h2]; kernel_rfl⟩
    obtain ⟨mo, rfl, hl6⟩ := hlen
    have hbyts := hA.live.byts
    have hdl := byts_nd hk
    have hel := (hcap k n hk).2.2
    have hbd := blk_drew hN.hb
    have c1 : w1.drew.cell? ⟨p k, 1, none⟩ = some (.int .i64 (if n.d then 2 else 1)) := by rw [blk_cell hbd]; rfl
    have c2 : w1.drew.cell? ⟨p k, 2, none⟩ = some (.int .i64 n.mode) := by rw [blk_cell hbd]; rfl
    have c3 : w1.drew.cell? ⟨p k, 3, none⟩ = some (.int .i64 n.links) := by rw [blk_cell hbd]; rfl
    have c5 : w1.drew.cell? ⟨p k, 5, none⟩ = some (.slice da n.data.length dc) := by rw [blk_cell hbd, hdv]; rfl
    have c6 : w1.drew.cell? ⟨p k, 6, none⟩ = some (.map mo) := by rw [blk_cell hbd]; rfl
    obtain ⟨kd, hkd⟩ : ∃ kd : Int, kd = if n.d then 2 else 1 := ⟨_, rfl⟩
    rw [← hkd] at c1 ⊢
    clear hn hA hb1 hN hbd hk hcap h hkd
    subst hw1
    go_enter Tryz.func48, Tryz.ntmps48
    go_wp2_with fail
    refine hget.out.mono ?_
    rintro e w2 ⟨rfl, rfl⟩
    clear hget
    go_wp2_with fail
    refine region_tail 25 (by kernel_rfl) (by kernel_rfl) ?_
    simp only [List.take_succ_cons, List.take_zero, List.drop_succ_cons, List.drop_zero]
    repeat go_big_quiet_step (fail)
    refine wpQuiet_nil ?_
    go_wp2_with fail
    go_returns
    exact ⟨rfl, ((Fr.refl _ _).alloc _).drew⟩
end Go.Proofs.YtffekmjoenppaaaGreatDoor

/- A range over a function, by an invariant over ghost states: the caller and the iterator share a relation on steps. Conditions: the premises. -/
namespace Go.Proofs.YtffekmjoenppaaaGreatDoor
open Go.RowKit

abbrev FW : Fence := Fence.wide

/-- What a round's body must come to. -/
def rfPost {σ : Type} (D : Nat) (I : σ → World → Prop) (Ix : Code → World → Prop) (s' : σ) (W : World) : Exit → Act → World → Prop
  | .normal, _, W' => (W'.heap[D]? = W.heap[D]? ∧ W'.heap[D + 1]? = W.heap[D + 1]?) ∧ I s' W'
  | .ret, _, W' => (W'.heap[D]? = W.heap[D]? ∧ W'.heap[D + 1]? = W.heap[D + 1]?) ∧ Ix .ret W'
  | .exit id, _, W' => (W'.heap[D]? = W.heap[D]? ∧ W'.heap[D + 1]? = W.heap[D + 1]?) ∧ Ix (.exit id) W'
  | .goto t, _, W' => (W'.heap[D]? = W.heap[D]? ∧ W'.heap[D + 1]? = W.heap[D + 1]?) ∧ Ix (.goto t) W'
  | .panic _, _, _ => False
  | .outgrown, _, _ => False

theorem fr_putObj {S : Nat → Prop} {W : World} {r : Nat} (o : Obj) (hS : S r) : Fr S W (W.putObj r o) :=
  ⟨rfl, rfl, rfl, by simp, fun k _ hk => World.putObj_heap_other (fun e => hk (e ▸ hS))⟩

theorem rf_law {P : Program} {α σ : Type} {n : Nat} {g : Operand} {ps : Array Tmp} {assign body : Code} {Q : Exit → Act → World → Prop} {a : Act} {w : World}
    (gf : Nat) (lb : Array Value) (hg : a.eval g = .func (.func gf) #[] lb) (eg : ∀ args w, (callFunc gf args).run P w = .ok (.enter gf args) w)
    (encs : α → Array Value) (hps : ∀ x, (encs x).size = ps.size)
    (Step : σ → α → σ → World → Prop) (Fin : σ → Prop) (s0 : σ) (I : σ → World → Prop) (Ix : Code → World → Prop)
    (hI : ∀ s W W', I s W → Fr (fun k => k = w.heap.size ∨ k = w.heap.size + 1) W W' → I s W')
    (hIx : ∀ c W W', Ix c W → Fr (fun k => k = w.heap.size ∨ k = w.heap.size + 1) W W' → Ix c W')
    (hStep : ∀ s x s' W W', Step s x s' W → I s W → Fr (fun k => k = w.heap.size ∨ k = w.heap.size + 1) W W' → Step s x s' W')
    (h0 : I s0 w)
    (hiter : ∀ (l : Nat) (J : σ → World → Prop) (Jx : World → Prop) (W : World), (∀ s W, J s W → I s W) →
      (∀ s W W', J s W → Fr (fun _ => False) W W' → J s W') → (∀ W W', Jx W → Fr (fun _ => False) W W' → Jx W') →
      (∀ s x s' W, Step s x s' W → J s W → YieldAt FW (n - 1 - 1) P l (encs x) W fun e W' => (e = .returned (.bool true) ∧ J s' W') ∨ (e = .returned (.bool false) ∧ Jx W')) →
      J s0 W → CallsIn FW (n - 1) P gf (#[.func (.yield l) #[] #[]] ++ lb) W fun e W' => (∃ v, e = .returned v) ∧ ((∃ s, Fin s ∧ J s W') ∨ Jx W'))
    (a₁ : α → Act)
    (hassign : ∀ (l : Nat) (x : α) (W : World) (K : Act → World → Prop), K (a₁ x) W →
      assign.wpIn (FW.inRound l) (n - 1 - 1) P (Exit.then K (fun _ _ _ => False)) { tmps := (ps.zip (encs x)).foldl (fun t (p, v) => t.setIfInBounds p v) a.tmps, defers := [] } W)
    (hbody : ∀ (l : Nat) (s : σ) (x : α) (s' : σ) (W : World), Step s x s' W → I s W → w.heap.size + 2 ≤ W.heap.size → body.wpIn (FW.inRound l) (n - 1 - 1) P (rfPost w.heap.size I Ix s' W) (a₁ x) W)
    (hdone : ∀ (s : σ) (W : World), Fin s → I s W → W.heap[w.heap.size]? = some (.deferred (some [])) → Q .normal { a with defers := { target := .collected w.heap.size, args := #[] } :: a.defers } W)
    (hstop : ∀ (c : Code) (W : World), Ix c W → W.heap[w.heap.size]? = some (.deferred (some [])) → c.wpIn FW n P Q { a with defers := { target := .collected w.heap.size, args := #[] } :: a.defers } W) :
    (Code.rangeFunc g ps assign body).wpIn FW n P Q a w := by
  refine wpIn_rangeFunc fun fn hfn => ?_
  obtain ⟨rec, hrec⟩ : ∃ rec : LoopState → Option Code → Loop, rec = fun st pd => { state := st, pending := pd, fn := fn, tmps := a.tmps, params := ps, assign := assign, body := body, defers := w.heap.size } := ⟨_, rfl⟩
  obtain ⟨W1, hW1⟩ : ∃ W1, W1 = (w.alloc (.deferred (some []))).alloc (.loop (rec .ready none)) := ⟨_, rfl⟩
  have hf1 : Fr (fun _ => False) w W1 := by rw [hW1]; exact ((Fr.refl _ _).alloc _).alloc _
  have hL1 : W1.heap[w.heap.size + 1]? = some (.loop (rec .ready none)) := by rw [hW1]; exact blk_new' _ _ _ (by simp)
  have hK1 : W1.heap[w.heap.size]? = some (.deferred (some [])) := by rw [hW1]; exact blk_alloc (blk_new _ _) _
  have hI1 : I s0 W1 := hI _ _ _ h0 (hf1.mono fun _ _ h => h.elim)
  have hR : ∀ {A B : World}, Fr (fun _ => False) A B → Fr (fun k => k = w.heap.size ∨ k = w.heap.size + 1) A B := fun h => h.mono fun _ _ h => h.elim
  have hput : ∀ (A : World) (o : Obj), Fr (fun k => k = w.heap.size ∨ k = w.heap.size + 1) A (A.putObj (w.heap.size + 1) o) := fun A o => fr_putObj o (.inr rfl)
  refine ⟨w.heap.size + 1, [{ target := .collected w.heap.size, args := #[] }], W1, { target := .fn (.func gf) lb, args := #[.func (.yield (w.heap.size + 1)) #[] #[]] }, W1, gf,
    #[.func (.yield (w.heap.size + 1)) #[] #[]] ++ lb, W1, ?_, ?_, ?_, ?_, fun h => (by cases h), ?_⟩
  · rw [hW1, hrec]; exact run_enterLoop_outer _ _ _ _ _
  · simp only [resolve, hg]
    simp [go_sem]
  · intro f' hf'; trivial
  · simp [invoke, go_sem, eg]
  · refine (hiter (w.heap.size + 1)
      (fun s W => I s W ∧ W.heap[w.heap.size + 1]? = some (.loop (rec .ready none)) ∧ W.heap[w.heap.size]? = some (.deferred (some [])))
      (fun W => ∃ c, Ix c W ∧ W.heap[w.heap.size + 1]? = some (.loop (rec .done (some c))) ∧ W.heap[w.heap.size]? = some (.deferred (some [])))
      W1 (fun _ _ h => h.1)
      (fun s A B hs hg' => ⟨hI s A B hs.1 (hR hg'), hg'.get hs.2.1 (fun h => h), hg'.get hs.2.2 (fun h => h)⟩)
      (fun A B hs hg' => by
        obtain ⟨c, hc, hl, hk⟩ := hs
        exact ⟨c, hIx c A B hc (hR hg'), hg'.get hl (fun h => h), hg'.get hk (fun h => h)⟩)
      ?_ ⟨hI1, hL1, hK1⟩).mono ?_
    · rintro s x s' W hst ⟨hi, hl, hk⟩
      have hlt : w.heap.size + 1 < W.heap.size := blk_lt hl
      have hy := run_yield (P := P) (args := encs x) hl (by rw [hrec]; exact hps x)
      rw [hrec] at hy
      refine ⟨fn, _, assign, body, hy, roundIn_of_wpIn hfn (hassign _ x W _ ⟨_, run_beginRound hl (by rw [hrec]), ?_⟩)⟩
      have hl2 : (W.putObj (w.heap.size + 1) (.loop { rec .ready none with state := .busy })).heap[w.heap.size + 1]? = some (.loop { rec .ready none with state := .busy }) := World.putObj_heap_same hlt
      have hk2 : (W.putObj (w.heap.size + 1) (.loop { rec .ready none with state := .busy })).heap[w.heap.size]? = some (.deferred (some [])) := (World.putObj_heap_other (by omega)).trans hk
      refine wpIn_mono (hbody _ s x s' _ (hStep _ _ _ _ _ hst hi (hput _ _)) (hI _ _ _ hi (hput _ _)) (by simp; omega)) ?_
      have fin : ∀ (jump : Option Code) (W3 : World), (W3.heap[w.heap.size]? = (W.putObj (w.heap.size + 1) (.loop { rec .ready none with state := .busy })).heap[w.heap.size]? ∧ W3.heap[w.heap.size + 1]? = (W.putObj (w.heap.size + 1) (.loop { rec .ready none with state := .busy })).heap[w.heap.size + 1]?) →
          (Instr.endRound (w.heap.size + 1) jump).run P W3 = .ok (.bool jump.isNone) (W3.putObj (w.heap.size + 1) (.loop (rec (if jump.isNone then .ready else .done) jump))) ∧
          (W3.putObj (w.heap.size + 1) (.loop (rec (if jump.isNone then .ready else .done) jump))).heap[w.heap.size + 1]? = some (.loop (rec (if jump.isNone then .ready else .done) jump)) ∧
          (W3.putObj (w.heap.size + 1) (.loop (rec (if jump.isNone then .ready else .done) jump))).heap[w.heap.size]? = some (.deferred (some [])) := fun jump W3 hk3 => by
        have hl3 : W3.heap[w.heap.size + 1]? = some (.loop { rec .ready none with state := .busy }) := hk3.2.trans hl2
        have := run_endRound (P := P) jump hl3
        rw [hrec] at this ⊢
        exact ⟨this, World.putObj_heap_same (blk_lt hl3), (World.putObj_heap_other (by omega)).trans (hk3.1.trans hk2)⟩
      rintro e a3 W3 hp
      cases e with
      | normal =>
        obtain ⟨hk3, hi3⟩ := hp
        obtain ⟨hr, hl4, hk4⟩ := fin none W3 hk3
        exact ⟨_, _, hr, .inl ⟨rfl, hI _ _ _ hi3 (hput _ _), hl4, hk4⟩⟩
      | ret =>
        obtain ⟨hk3, hi3⟩ := hp
        obtain ⟨hr, hl4, hk4⟩ := fin (some .ret) W3 hk3
        exact ⟨_, _, hr, .inr ⟨rfl, .ret, hIx _ _ _ hi3 (hput _ _), hl4, hk4⟩⟩
      | exit id =>
        obtain ⟨hk3, hi3⟩ := hp
        obtain ⟨hr, hl4, hk4⟩ := fin (some (.exit id)) W3 hk3
        exact ⟨_, _, hr, .inr ⟨rfl, .exit id, hIx _ _ _ hi3 (hput _ _), hl4, hk4⟩⟩
      | goto t =>
        obtain ⟨hk3, hi3⟩ := hp
        obtain ⟨hr, hl4, hk4⟩ := fin (some (.goto t)) W3 hk3
        exact ⟨_, _, hr, .inr ⟨rfl, .goto t, hIx _ _ _ hi3 (hput _ _), hl4, hk4⟩⟩
      | panic chain => exact hp.elim
      | outgrown => exact hp.elim
    · rintro e W' ⟨⟨v, rfl⟩, hend⟩
      rcases hend with ⟨s, hfin, hi, hl, hk⟩ | ⟨c, hc, hl, hk⟩
      · have he := run_endLoop (P := P) hl (by rw [hrec]; simp)
        rw [show (rec .ready none).pending = none by rw [hrec]] at he
        refine ⟨none, _, he, ?_⟩
        exact hdone s _ hfin (hI _ _ _ hi (hput _ _)) ((World.putObj_heap_other (by omega)).trans hk)
      · have he := run_endLoop (P := P) hl (by rw [hrec]; simp)
        rw [show (rec .done (some c)).pending = some c by rw [hrec]] at he
        refine ⟨some c, _, he, ?_⟩
        exact hstop c _ (hIx _ _ _ hc (hput _ _)) ((World.putObj_heap_other (by omega)).trans hk)
theorem wpIn_of_wp_op {P : Program} {o : Oper} {a : Act} {w : World} {K : Act → World → Prop} {Q : Exit → Act → World → Prop} (l n : Nat) (hd : ∀ c, o.op ≠ .defer c) (h : o.wp P a w K Q) :
    o.wpIn (Fence.wide.inRound l) n P a w K Q := by
  refine ⟨fun _ _ => trivial, ?_⟩
  rw [Oper.semAt_eq _ _ _ hd]
  unfold Oper.wp at h
  generalize (execOp a.eval o).run P w = r at *
  cases r with
  | ok x w' =>
    cases x <;> simp only [Oper.upon] at h <;> simp only [Oper.uponIn] <;>
      first
        | exact h
        | exact h.elim
        | skip
    case enter f args =>
      exact ⟨fun h0 => (by cases h0), CallsIn.inRound l (callsIn_wide.2 (h.mono fun e w' he => by cases e <;> exact he))⟩
    case row row args =>
      refine ⟨fun h0 => (by cases h0), fun c cs _ => ?_⟩
      obtain ⟨v, w2, hR, hs⟩ := h c cs
      exact ⟨v, w2, hR, stepsIn_wide.2 hs⟩
  | halt x w' => cases x <;> simp only [Oper.upon] at h <;> simp only [Oper.uponIn] <;> exact h

theorem wpIn_of_wpOp {P : Program} {ops : Array Oper} {i : Nat} {a : Act} {w : World} {K : Act → World → Prop} {Q : Exit → Act → World → Prop} (l n : Nat) (hd : ∀ o ∈ ops, ∀ c, o.op ≠ .defer c) (hlo : ¬ LetsOut Q) (h : wpOp P ops Q i K a w) :
    wpOpIn (Fence.wide.inRound l) n P ops Q i K a w := by
  unfold wpOp at h
  unfold wpOpIn
  split
  · rename_i ho; simpa [ho] using h
  · rename_i o ho
    simp only [ho] at h
    split
    · rename_i hw
      rw [if_pos hw] at h
      rcases h with h | h
      · exact wpIn_of_wp_op l n (hd o (Array.mem_of_getElem? ho)) h
      · exact absurd h.2 hlo
    · rename_i hw
      rw [if_neg hw] at h
      exact ⟨fun _ _ => trivial, h⟩
theorem wpIn_of_wpAny {P : Program} {ops : Array Oper} {md : Region.Mode} {Q : Exit → Act → World → Prop} (l n : Nat) (hd : ∀ o ∈ ops, ∀ c, o.op ≠ .defer c) (hlo : ¬ LetsOut Q) :
    ∀ (f : Nat) (listed : Array Bool) (a : Act) (w : World), wpAny P md ops Q f listed a w → wpAnyIn (Fence.wide.inRound l) n P md ops Q f listed a w
  | 0, _, _, _, h => h
  | f + 1, _, _, _, h => ⟨h.1, fun i hi => wpOpIn_mono (fun a' w' h' => wpIn_of_wpAny l n hd hlo f _ a' w' h') (wpIn_of_wpOp l n hd hlo (h.2 i hi))⟩
def noDefer (ops : Array Oper) : Bool := ops.all fun o => match o.op with | .defer _ => false | _ => true
theorem noDefer_spec {ops : Array Oper} (h : noDefer ops = true) : ∀ o ∈ ops, ∀ c, o.op ≠ .defer c := by
  intro o ho c heq
  have := Array.all_eq_true_iff_forall_mem.1 h o ho
  simp [heq] at this
/-- A region that draws its order, in a round of a range over a function. -/
theorem round_any {P : Program} {id : Nat} {a : Act} {w : World} {ops : Array Oper} {Q : Exit → Act → World → Prop} {l n : Nat} (hm : P.follows .mixedOrders = true) (hd : noDefer ops = true) (hlo : ¬ LetsOut Q)
    (h : wpAny P .any ops Q ops.size (Array.replicate ops.size false) a w.drew) : (Code.region id ops true).wpIn (Fence.wide.inRound l) n P Q a w :=
  wpIn_region_any hm (wpIn_of_wpAny l n (noDefer_spec hd) hlo _ _ _ _ h)
end Go.Proofs.YtffekmjoenppaaaGreatDoor

/- The iterator of table.Table[*shyard/gate.desc].All. Conditions: each contract's own premises. -/
namespace Go.Proofs.YtffekmjoenppaaaGreatDoor
open Go.RowKit Go.Shelf

attribute [local go_sem] Oper.semAt_some

/-- A table, or none. -/
def TabV (W : World) (tv : Value) (st : TSt) : Prop := (tv = .pointer none ∧ ∀ i, st i = none) ∨ ∃ t S, tv = .pointer (some ⟨t, 0, none⟩) ∧ TabAt W t st S
def AtPost (W : World) (st : TSt) (fd : Nat) (e : Ending) (W' : World) : Prop :=
  W = W' ∧ ∃ b, e = .returned (tptrOf (st fd) b) ∧ ∀ x m, st fd = some (x, m) → W.cell? ⟨b, 0, none⟩ = some (.pointer (some ⟨x, 0, none⟩))
theorem at_gen {W : World} {tv : Value} {st : TSt} (h : TabV W tv st) (fd : Nat) (hfd : fd < 32) : Calls Tryz.prog 39 #[tv, .int .i64 fd] W (AtPost W st fd) := by
  rcases h with ⟨rfl, hn⟩ | ⟨t, S, rfl, p, cs, ht⟩
  · refine (at_nil W fd).mono ?_
    rintro e w' ⟨rfl, rfl⟩
    exact ⟨rfl, 0, by rw [hn]; rfl, fun x m e => by rw [hn] at e; cases e⟩
  · refine (at_in W t p st S cs ht fd hfd).mono ?_
    rintro e w' ⟨rfl, rfl⟩
    exact ⟨rfl, p fd, rfl, fun x m e => by rw [blk_cell (ht.hs fd x m hfd e)]; rfl⟩
theorem all_any (tv : Option Addr) (w : World) : Calls Tryz.prog 17 #[.pointer tv] w fun e w' =>
    e = .returned (.func (.func 38) #[] #[.pointer (some ⟨w.heap.size, 0, none⟩)]) ∧ w' = w.alloc (.cells #[.pointer tv] 58 (0, 0)) := by
  go_enter Tryz.func17, Tryz.ntmps17
  go_wp2
  go_ret
  exact ⟨rfl, rfl⟩
/-- What a step of the iterator is: the next number that has something. -/
def TStep {σ : Type} (pos : σ → Nat) (sst : σ → TSt) (next : σ → Nat → σ) (s : σ) (x : Nat × Nat) (s' : σ) (_ : World) : Prop :=
  pos s ≤ x.1 ∧ x.1 < 32 ∧ (∀ j, pos s ≤ j → j < x.1 → sst s j = none) ∧ (∃ m, sst s x.1 = some (x.2, m)) ∧ s' = next s x.1
def TFin {σ : Type} (pos : σ → Nat) (sst : σ → TSt) (s : σ) : Prop := ∀ j, pos s ≤ j → j < 32 → sst s j = none
def tenc (x : Nat × Nat) : Array Value := #[.int .i64 x.1, .pointer (some ⟨x.2, 0, none⟩)]
def ItRel {σ : Type} (pos : σ → Nat) (sst : σ → TSt) (J : σ → World → Prop) (i : Value) (wr : World) : Prop :=
  ∃ (k : Nat) (s : σ), i = .int .i64 k ∧ k ≤ 32 ∧ pos s ≤ k ∧ (∀ j, pos s ≤ j → j < k → sst s j = none) ∧ J s wr

set_option maxHeartbeats 1000000 in
theorem all1_iter {σ : Type} (n : Nat) (hn : 2 ≤ n) (box : Nat) (tv : Option Addr) (pos : σ → Nat) (sst : σ → TSt) (next : σ → Nat → σ) (hpos : ∀ s fd, pos (next s fd) = fd + 1) (I : σ → World → Prop)
    (hI : ∀ s W, I s W → TabV W (.pointer tv) (sst s) ∧ W.cell? ⟨box, 0, none⟩ = some (.pointer tv)) (s0 : σ) (hs0 : pos s0 = 0)
    (l : Nat) (J : σ → World → Prop) (Jx : World → Prop) (W : World) (hJI : ∀ s W, J s W → I s W) 
    (hY : ∀ s x s' W, TStep pos sst next s x s' W → J s W → YieldAt FW (n - 1) Tryz.prog l (tenc x) W fun e W' => (e = .returned (.bool true) ∧ J s' W') ∨ (e = .returned (.bool false) ∧ Jx W'))
    (h0 : J s0 W) :
    CallsIn FW n Tryz.prog 38 (#[.func (.yield l) #[] #[]] ++ #[.pointer (some ⟨box, 0, none⟩)]) W fun e W' => (∃ v, e = .returned v) ∧ ((∃ s, TFin pos sst s ∧ J s W') ∨ Jx W') := by
  simp only [List.append_toArray, List.cons_append, List.nil_append]
  refine callsIn_of_wp Tryz.func38 rfl trivial ?_ rfl
  simp only [Tryz.ntmps38, List.size_toArray, List.length_cons, List.length_nil, Nat.reduceAdd, Nat.reduceSub, Array.replicate_succ, Array.replicate_zero, List.push_toArray, List.append_toArray, List.nil_append, List.cons_append]
  gi_wp2
  gi_loopw [5] (fun i wr => ItRel pos sst J i wr) (fun i _ => 32 - (intOf i).toNat)
  case atStart => exact ⟨0, s0, rfl, by omega, by omega, fun j _ h2 => by omega, h0⟩
  case round =>
    obtain ⟨k, s, rfl, hk, hps, hall, hJ⟩ := hrel
    by_cases h1 : k < 32
    · obtain ⟨hT, hbox⟩ := hI s wr (hJI s wr hJ)
      have hall := hide hall
      have hat := at_gen hT k h1
      have hn1 : 1 ≤ n := by omega
      gi_wp2_with (refine ⟨trivial, ?_⟩; gi_at_call 39; refine (callsIn_wide.2 hat).mono ?_)
      rintro e w' ⟨rfl, b, rfl, hx⟩
      rcases hst : sst s k with _ | ⟨x, m⟩
      · simp only [tptrOf]
        gi_wp2
        refine ⟨fun _ h => (by cases h), ?_⟩
        gi_wp2
        go_roundw
        case rel =>
          refine ⟨k + 1, s, by go_num, by omega, by omega, fun j h2 h3 => ?_, hJ⟩
          by_cases e : j = k
          · rw [e]; exact hst
          · exact hall.out j h2 (by omega)
        case measure => simp [intOf]; omega
      · have hc := hx x m hst
        have hstep : TStep pos sst next s (k, x) (next s k) wr := ⟨hps, h1, hall.out, ⟨m, hst⟩, rfl⟩
        obtain ⟨fn, tmps, assign, body, hy, hR⟩ := hY s (k, x) (next s k) wr hstep hJ
        simp only [tenc] at hy hR
        simp only [tptrOf]
        gi_wp2
        refine hR.mono ?_
        rintro e W3 (⟨rfl, hJ3⟩ | ⟨rfl, hJx3⟩)
        · gi_wp2
          go_roundw
          case rel => exact ⟨k + 1, next s k, by go_num, by omega, by rw [hpos]; omega, fun j h2 h3 => by rw [hpos] at h2; omega, hJ3⟩
          case measure => simp [intOf]; omega
        · gi_wp2
          refine bodyPost_ret (results_none rfl _ _ _) rfl ?_
          exact ⟨⟨_, rfl⟩, .inr hJx3⟩
    · have e : k = 32 := by omega
      subst e
      have hfin : ∃ s, TFin pos sst s ∧ J s wr := ⟨s, hall, hJ⟩
      clear hall
      gi_wp2
      go_end0
      exact ⟨⟨_, rfl⟩, .inl hfin⟩
end Go.Proofs.YtffekmjoenppaaaGreatDoor

/- Contract of table.Table[*shyard/gate.desc].Free. Conditions: the contract's own premises. -/
namespace Go.Proofs.YtffekmjoenppaaaGreatDoor
open Go.RowKit Go.Shelf

attribute [local go_sem] Oper.semAt_some

/-- How many numbers below k have something. -/
def used (st : TSt) (k : Nat) : Nat := ((List.range k).filter (fun i => (st i).isSome)).length
theorem used_succ (st : TSt) (k : Nat) : used st (k + 1) = used st k + if (st k).isSome = true then 1 else 0 := by
  unfold used
  rw [List.range_succ, List.filter_append, List.length_append]
  congr 1
  by_cases e : (st k).isSome = true <;> simp [e]
theorem used_skip {st : TSt} {a : Nat} : ∀ (n : Nat), (∀ j, a ≤ j → j < a + n → st j = none) → used st (a + n) = used st a
  | 0, _ => rfl
  | n + 1, h => by
    rw [show a + (n + 1) = (a + n) + 1 by omega, used_succ, used_skip n (fun j h1 h2 => h j h1 (by omega)), h (a + n) (by omega) (by omega)]
    simp
theorem used_step {st : TSt} {a b : Nat} (hab : a ≤ b) (h : ∀ j, a ≤ j → j < b → st j = none) (hb : (st b).isSome = true) : used st (b + 1) = used st a + 1 := by
  have := used_skip (st := st) (a := a) (b - a) (fun j h1 h2 => h j h1 (by omega))
  rw [show a + (b - a) = b by omega] at this
  rw [used_succ, this, if_pos hb]
theorem used_end {st : TSt} {a b : Nat} (hab : a ≤ b) (h : ∀ j, a ≤ j → j < b → st j = none) : used st b = used st a := by
  have := used_skip (st := st) (a := a) (b - a) (fun j h1 h2 => h j h1 (by omega))
  rwa [show a + (b - a) = b by omega] at this
theorem used_le (st : TSt) (k : Nat) : used st k ≤ k := by
  unfold used
  exact Nat.le_trans (List.length_filter_le _ _) (by simp)

def FreePost (w : World) (st : TSt) (e : Ending) (w' : World) : Prop := e = .returned (.int .i64 ((32 - used st 32 : Nat) : Int)) ∧ Fr (fun _ => False) w w'
structure FreeI (w : World) (t : Nat) (st : TSt) (s : Nat × Nat) (W : World) : Prop where
  le : s.1 ≤ 32
  c : s.2 = used st s.1
  n : W.heap[w.heap.size]? = some (.cells #[.int .i64 ((32 : Int) - (s.2 : Int))] 3 (0, 0))
  b : W.heap[w.heap.size + 1]? = some (.cells #[.pointer (some ⟨t, 0, none⟩)] 58 (0, 0))
  fr : Fr (fun _ => False) w W
theorem FreeI.frame {w W W' : World} {t : Nat} {st : TSt} {s : Nat × Nat} {S : Nat → Prop} (h : FreeI w t st s W) (hf : Fr S W W') (hS : ∀ k, S k → w.heap.size + 2 ≤ k) : FreeI w t st s W' :=
  ⟨h.le, h.c, hf.get h.n (fun e => by have := hS _ e; omega), hf.get h.b (fun e => by have := hS _ e; omega), h.fr.trans' hf (fun i hi e => by have := hS _ e; omega)⟩

set_option maxHeartbeats 1000000 in
theorem free_any (w : World) (t : Nat) (st : TSt) (S : Nat → Prop) (ht : TabAt w t st S) :
    Calls Tryz.prog 53 #[.pointer (some ⟨t, 0, none⟩)] w (FreePost w st) := by
  refine (callsIn_wide (n := 5)).1 ?_
  refine callsIn_of_wp_marks Tryz.func53 rfl trivial ?_ rfl
  simp only [Tryz.ntmps53, List.size_toArray, List.length_cons, List.length_nil, Nat.reduceAdd, Nat.reduceSub, Array.replicate_succ, Array.replicate_zero, List.push_toArray, List.append_toArray, List.nil_append, List.cons_append]
  gi_wp2_with (refine ⟨trivial, ?_⟩; gi_at_call 17; refine (callsIn_wide.2 (all_any _ _)).mono ?_; rintro e w' ⟨rfl, rfl⟩)
  have h0 : FreeI w t st (0, 0) ((w.alloc (.cells #[.int .i64 32] 3 (0, 0))).alloc (.cells #[.pointer (some ⟨t, 0, none⟩)] 58 (0, 0))) :=
    ⟨by simp, rfl, blk_alloc (blk_new _ _) _, blk_new' _ _ _ (by simp), ((Fr.refl _ _).alloc _).alloc _⟩
  refine rf_law (α := Nat × Nat) (σ := Nat × Nat) 38 #[.pointer (some ⟨w.heap.size + 1, 0, none⟩)] rfl (enters_of Tryz.func38 (by kernel_rfl) rfl) tenc (fun _ => rfl)
    (TStep Prod.fst (fun _ => st) (fun s fd => (fd + 1, s.2 + 1))) (TFin Prod.fst (fun _ => st)) (0, 0) (FreeI w t st) (fun _ _ => False)
    (fun s A B h hg => h.frame hg (fun k e => by simp at e; omega)) (fun _ _ _ h _ => h) (fun _ _ _ _ _ h _ _ => h) h0
    (fun l J Jx W hJI _ _ hY h0 => all1_iter _ (by omega) _ (some ⟨t, 0, none⟩) Prod.fst (fun _ => st) (fun s fd => (fd + 1, s.2 + 1)) (fun _ _ => rfl) (FreeI w t st)
      (fun s W h => ⟨.inr ⟨t, S, rfl, ht.frame h.fr (fun _ _ _ e => e)⟩, by rw [blk_cell h.b]; rfl⟩) (0, 0) rfl l J Jx W hJI hY h0)
    (fun x => { tmps := #[.pointer (some ⟨t, 0, none⟩), undef, .int .i64 0, .pointer (some ⟨w.heap.size, 0, none⟩), .pointer (some ⟨t, 0, none⟩), .bool false, .pointer (some ⟨t, 0, none⟩),
      .func (.func 38) #[] #[.pointer (some ⟨w.heap.size + 1, 0, none⟩)], .int .i64 x.1, .pointer (some ⟨x.2, 0, none⟩), undef, undef, undef], defers := [] }) ?assign ?body ?done ?stop
  case assign =>
    intro l x W K hK
    gi_wp2
    simpa [tenc] using hK
  case body =>
    rintro l s x s' W ⟨hp1, hp2, hp3, ⟨m, hp4⟩, rfl⟩ hi _
    have hi' : FreeI w t st (x.1 + 1, s.2 + 1) (W.setCell ⟨w.heap.size, 0, none⟩ (.int .i64 ((32 : Int) - (s.2 : Int) - 1))) := by
      refine ⟨by simp; omega, ?_, ?_, ?_, ?_⟩
      · simp only [hi.c]
        rw [used_step hp1 hp3 (by rw [hp4]; rfl)]
      · rw [blk_set hi.n]; simp; omega
      · exact blk_set_other hi.b _ _ (by simp)
      · exact hi.fr.setCell (.inr (Nat.le_refl _)) _
    have hc : W.cell? ⟨w.heap.size, 0, none⟩ = some (.int .i64 ((32 : Int) - (s.2 : Int))) := by rw [blk_cell hi.n]; rfl
    have hf := blk_frozen hi.n
    have hle : s.2 ≤ 32 := by rw [hi.c]; exact Nat.le_trans (used_le _ _) hi.le
    gi_wp2
    exact ⟨⟨Below.heap_setCell _ _ _ _ (by simp; omega), Below.heap_setCell _ _ _ _ (by simp; omega)⟩, hi'⟩
  case done =>
    rintro s W hfin hi hK
    have hc : W.cell? ⟨w.heap.size, 0, none⟩ = some (.int .i64 ((32 : Int) - (s.2 : Int))) := by rw [blk_cell hi.n]; rfl
    gi_wp2
    refine ⟨by simp, .inl ⟨_, _, rfl, run_takeDeferred hK, ?_⟩⟩
    refine ⟨_, results_tmp rfl _ _ _, ?_, hi.fr.trans' (fr_putObj (S := fun k => w.heap.size ≤ k) _ (by simp; omega)) (fun i h1 h2 => by omega)⟩
    have : used st 32 = used st s.1 := used_end hi.le hfin
    have h2 := hi.c
    have h3 := used_le st 32
    exact ret_int (by omega)
  case stop =>
    rintro c W h _
    exact h.elim
end Go.Proofs.YtffekmjoenppaaaGreatDoor

/- The kernel as plain data: pipes, descriptions, processes, a console, a tree of files; what its calls do. No program in sight; no condition. -/
namespace Go.Proofs.YtffekmjoenppaaaGreatDoor
open Go.RowKit

structure PipeQ where
  data : List UInt8
  r : Nat
  x : Nat
  inn : Bool
structure DescQ where
  kind : Nat
  n : Nat
  pos : Nat
  refs : Int
  flags : Nat
  text : ByteArray
  inn : Bool
structure ProcQ where
  parent : Nat
  ended : Bool
  status : Int
  dir : Nat
  mask : Nat
  fds : TSt
  inn : Bool
/-- A kernel: what a number has counts from 1 to the count. -/
structure KQ where
  σ : FSt
  pn : Nat
  pipe : Nat → PipeQ
  dn : Nat
  desc : Nat → DescQ
  qn : Nat
  proc : Nat → ProcQ
  typed : ByteArray
  closed : Bool
  out : Nat → ByteArray
/-- An answer. -/
structure ResQ where
  n : Int
  m : Int
  s : ByteArray
  list : List ByteArray
  st : StQ
  err : Int
def noBy : ByteArray := ⟨#[]⟩
def noRes : ResQ := ⟨0, 0, noBy, [], noSt, 0⟩
def errR (e : Int) : ResQ := { noRes with err := e }
def KQ.setP (K : KQ) (i : Nat) (x : PipeQ) : KQ := { K with pipe := fun j => if j = i then x else K.pipe j }
def KQ.setD (K : KQ) (i : Nat) (x : DescQ) : KQ := { K with desc := fun j => if j = i then x else K.desc j }
def KQ.setQ (K : KQ) (i : Nat) (x : ProcQ) : KQ := { K with proc := fun j => if j = i then x else K.proc j }
def KQ.fds (K : KQ) (i : Nat) (t : TSt) : KQ := K.setQ i { K.proc i with fds := t }
def DescQ.reads (d : DescQ) : Bool := decide (d.kind = 3) || decide (d.kind = 5) || (decide (d.kind = 1) && decide (d.n = 0)) || (decide (d.kind = 2) && decide (d.flags % 2 = 1))
def DescQ.writes (d : DescQ) : Bool := decide (d.kind = 4) || (decide (d.kind = 1) && !decide (d.n = 0)) || (decide (d.kind = 2) && decide (d.flags / 2 % 2 = 1))
def KQ.addD (K : KQ) (d : DescQ) : KQ := { K with dn := K.dn + 1, desc := fun j => if j = K.dn + 1 then d else K.desc j }
/-- A new description, with a descriptor of a process. -/
def openQ (K : KQ) (i : Nat) (d : DescQ) : Nat × KQ :=
  match firstFree (K.proc i).fds 0 with
  | none => (0, K.addD { d with refs := 1, inn := true })
  | some fd => (fd, (K.addD { d with refs := 1, inn := true }).fds i ((K.proc i).fds.set fd (some (K.dn + 1, false))))
def closeP (p : PipeQ) (w : Bool) : PipeQ := if w = true then { p with x := p.x - 1 } else { p with r := p.r - 1 }
/-- A descriptor less. -/
def dropQ (K : KQ) (j : Nat) : KQ :=
  if 0 < (K.desc j).refs - 1 then K.setD j { K.desc j with refs := (K.desc j).refs - 1 }
  else if (K.desc j).kind = 2 then { K.setD j { K.desc j with refs := (K.desc j).refs - 1, inn := false } with σ := (dropR K.σ (K.desc j).n).2 }
  else if (K.desc j).kind = 3 ∨ (K.desc j).kind = 4 then
    (K.setD j { K.desc j with refs := (K.desc j).refs - 1, inn := false }).setP (K.desc j).n
      (let p := closeP (K.pipe (K.desc j).n) (decide ((K.desc j).kind = 4)); { p with inn := p.inn && !decide (p.r + p.x = 0) })
  else K.setD j { K.desc j with refs := (K.desc j).refs - 1, inn := false }
def cutQ (i : Nat) (K : KQ) (fd : Nat) : KQ :=
  match (K.proc i).fds fd with
  | none => K
  | some (j, _) => dropQ (K.fds i ((K.proc i).fds.set fd none)) j
/-- Those of a process that has ended go to the first. -/
def orphanQ (K : KQ) (i : Nat) : KQ := { K with proc := fun j => if (K.proc j).inn = true ∧ (K.proc j).parent = i ∧ j ≠ 1 then { K.proc j with parent := 1 } else K.proc j }
def cutsQ (i : Nat) (K : KQ) : Nat → KQ
  | 0 => K
  | fd + 1 => cutQ i (cutsQ i K fd) fd
def endedQ (K : KQ) (i : Nat) (st : Int) : KQ := ({ K with σ := (dropR K.σ (K.proc i).dir).2 }).setQ i { K.proc i with ended := true, status := st }
/-- A process ends. -/
def endQ (K : KQ) (i : Nat) (st : Int) : KQ := orphanQ (endedQ (cutsQ i K 32) i st) i
end Go.Proofs.YtffekmjoenppaaaGreatDoor
