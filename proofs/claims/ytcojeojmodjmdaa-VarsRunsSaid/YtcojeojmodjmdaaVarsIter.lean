/- The iterators of vars: ordered.all, Vars.All. Conditions: each contract's own premises. -/
import Derived.Test.YtcojeojmodjmdaaVarsC
import Derived.Test.YtcojeojmodjmdaaRangeFuncC
import Derived.Test.YtcojeojmodjmdaaShelf
import Derived.Shelf.Abstract
import Derived.Shelf.AbstractIn
import Derived.OwnWalkIn
import Derived.TacticsInMore
import Derived.LoopNIn
import Derived.LoopIn
namespace Go.Proofs.Ytcojeojmodjmdaa
open Go.RowKit Go.Shelf Go.Maps

attribute [local go_sem] Oper.semAt_some

theorem yield_wide {P : Program} {m m' l : Nat} {args : Array Value} {W : World} {R : Ending → World → Prop} (h : YieldAt FW m P l args W R) : YieldAt FW m' P l args W R := by
  obtain ⟨fn, tmps, assign, body, h1, h2, h3⟩ := h
  exact ⟨fn, tmps, assign, body, h1, h2, fun c cs _ => h3 c cs (room_wide _)⟩
/-- A step through a list: its next thing. -/
def OStep {σ α : Type} (pos : σ → Nat) (next : σ → σ) (L : List α) (s : σ) (x : α) (s' : σ) : Prop := ∃ h : pos s < L.length, x = L[pos s] ∧ s' = next s
def OFin {σ α : Type} (pos : σ → Nat) (L : List α) (s : σ) : Prop := pos s = L.length
def oenc (x : List UInt8 × Value) : Array Value := #[.string ⟨x.1.toArray⟩, x.2]
theorem oall_any (m : Option Nat) (w : World) : Calls Try.prog 39 #[.map m] w fun e w' =>
    e = .returned (.func (.func 44) #[] #[.pointer (some ⟨w.heap.size, 0, none⟩)]) ∧ w' = w.alloc (.cells #[.map m] 62 (0, 0)) := by
  go_enter Try.func39, Try.ntmps39
  go_wp2
  go_ret
  exact ⟨rfl, rfl⟩
theorem kget_at {α : Type} {L : KA α} (h : KSorted L) {i : Nat} (hi : i < L.length) : kget L[i].1 L = some L[i].2 := by
  cases hg : kget L[i].1 L with
  | none => exact absurd rfl (kget_none hg _ (List.getElem_mem hi))
  | some v =>
    have hm := kget_mem hg
    obtain ⟨j, hj, e⟩ := List.getElem_of_mem hm
    have : i = j := by
      rcases Nat.lt_trichotomy i j with h1 | h1 | h1
      · have := List.pairwise_iff_getElem.1 h i j hi hj h1
        rw [e] at this
        simp [WideAt.bytes_irrefl] at this
      · exact h1
      · have := List.pairwise_iff_getElem.1 h j i hj hi h1
        rw [e] at this
        simp [WideAt.bytes_irrefl] at this
    subst this
    rw [e]
def OItRel {σ : Type} (g : Nat) (pos : σ → Nat) (L : KL) (J : σ → (Nat → Prop) → World → Prop) (ka : Value) (i : Value) (wr : World) : Prop :=
  ∃ (k : Nat) (s : σ) (A : Nat → Prop), i = .int .i64 k ∧ k ≤ L.length ∧ pos s = k ∧ J s A wr ∧ wr.ownsRow g 9 1 ka L.length ((L.map (·.1)).map encStr) ∧ (∀ q, ka.ownBlock = some q → ¬ A q)
set_option maxRecDepth 100000 in
set_option maxHeartbeats 4000000 in
theorem oall1_iter {σ : Type} (n : Nat) (hn : 2 ≤ n) (box mb : Nat) (pos : σ → Nat) (next : σ → σ) (hpos : ∀ s, pos (next s) = pos s + 1) (L : KL) (hL : L.length ≤ 1000000) (I : σ → (Nat → Prop) → World → Prop)
    (hI : ∀ s A W, I s A W → SMapAt Try.prog 9 W mb L ∧ W.cell? ⟨box, 0, none⟩ = some (.map (some mb))) (s0 : σ) (hs0 : pos s0 = 0)
    (l : Nat) (J : σ → (Nat → Prop) → World → Prop) (Jx : (Nat → Prop) → World → Prop) (W : World) (hJI : ∀ s A W, J s A W → I s A W)
    (hJf : ∀ s (A : Nat → Prop) W W', J s A W → Fr (fun k => ¬ A k) W W' → J s A W') (hJA : ∀ s A W, J s A W → ∀ k, A k → k < W.heap.size)
    (hY : ∀ s A x s' W, OStep pos next L s x s' → J s A W → YieldAt FW (n - 1) Try.prog l (oenc x) W fun e W' => Fr A W W' ∧ ((e = .returned (.bool true) ∧ J s' (fun k => A k ∨ (W.heap.size ≤ k ∧ k < W'.heap.size)) W') ∨ (e = .returned (.bool false) ∧ Jx (fun k => A k ∨ (W.heap.size ≤ k ∧ k < W'.heap.size)) W')))
    (h0 : J s0 (fun k => k < W.heap.size) W) :
    CallsIn FW n Try.prog 44 (#[.func (.yield l) #[] #[]] ++ #[.pointer (some ⟨box, 0, none⟩)]) W fun e W' => (∃ v, e = .returned v) ∧ ((∃ s A, OFin pos L s ∧ J s A W') ∨ ∃ A, Jx A W') := by
  simp only [List.append_toArray, List.cons_append, List.nil_append]
  obtain ⟨hm0, hbox0⟩ := hI _ _ _ (hJI _ _ _ h0)
  have hK := hide (callsIn_wide.1 (Try.maps_Keys_46 (some mb) W))
  have hS := hide (callsIn_wide.1 (Try.slices_Sorted_keys_45_46 mb L.length (dOf L) rV W hm0.own (by rw [dOf_size]; unfold maxLen; omega) (by rw [dOf_size]; omega)))
  have hkl := hm0.keys_le Try.underlying9
  have hsrt := hide hm0.sorted
  have HJ0 := hide h0
  have hn1 : 1 ≤ n := by omega
  clear h0 hm0
  refine callsIn_of_wp Try.func44 rfl trivial ?_ rfl
  simp only [Try.ntmps44, List.size_toArray, List.length_cons, List.length_nil, Nat.reduceAdd, Nat.reduceSub, Array.replicate_succ, Array.replicate_zero, List.push_toArray, List.append_toArray, List.nil_append, List.cons_append]
  gi_wp2_with (refine ⟨trivial, ?_⟩; first
    | (gi_at_call 46; refine (callsIn_wide.2 hK.out).mono ?_; rintro e w1 ⟨rfl, rfl⟩)
    | (gi_at_call 45; refine (callsIn_wide.2 hS.out).mono ?_; rintro e w2 ⟨v, ss, rfl, hp, hrow, _, hb2⟩; rw [dOf_keys] at hp; rw [sorted_keys hsrt.out hp, show ss.length = L.length from (by rw [hp.length_eq]; simp)] at hrow; clear hp; obtain ⟨va, vc, rfl⟩ := own_form hrow))
  have hfW : Fr (fun _ => False) W w2 := ((Fr.refl _ _).alloc _).trans (Fr.of_below hb2 _)
  have hJ2 := hJf _ _ _ _ HJ0.out (hfW.mono (fun _ _ e => e.elim))
  have hvb : ∀ q, (Value.slice va L.length vc).ownBlock = some q → W.heap.size < q := fun q e => by have := (hrow.lt q e).1; simp at this; omega
  have h0 : OItRel (W.heap.size + 1) pos L J (.slice va L.length vc) (.int .i64 0) w2 := ⟨0, s0, _, rfl, by omega, hs0, hJ2, by simpa using hrow, fun q e h => by have := hvb q e; omega⟩
  have h0 := hide h0
  clear HJ0 hfW hJ2 hvb hrow hb2 hK hS hbox0
  gi_loopw [9] (fun i wr => OItRel (W.heap.size + 1) pos L J (.slice va L.length vc) i wr) (fun i _ => L.length - (intOf i).toNat)
  case atStart => exact h0.out
  case round =>
    clear h0
    obtain ⟨k, s, A, rfl, hk, hps, hJ, hrow, hnA⟩ := hrel
    by_cases hlt : k < L.length
    · obtain ⟨g, rfl, hg1, hg2, hc⟩ := own_cells hrow (by omega)
      have hck := hc k (.string ⟨L[k].1.toArray⟩) (by simp [encStr, hlt])
      obtain ⟨hm, hbox⟩ := hI s A wr (hJI s A wr hJ)
      have hlk := hm.look (t := 62) (e := 67) false Try.underlying9 Try.underlying62 (zeroVar wr) ⟨L[k].1.toArray⟩ (by
        have := hkl _ (List.getElem_mem hlt)
        simpa [ByteArray.size] using this)
      rw [kget_at hsrt.out hlt] at hlk
      simp only [Option.getD_some, Bool.false_eq_true, if_false] at hlk
      have hstep : OStep pos next L s L[k] (next s) := ⟨by omega, by subst hps; rfl, rfl⟩
      obtain ⟨fn, tmps, assign, body, hy, hR⟩ := hY s A L[k] (next s) wr hstep hJ
      simp only [oenc] at hy hR
      have Hps := hide hps
      have HR := hide hR
      have hJ := hide hJ
      have hnA := hide hnA
      have hrow := hide hrow
      have hl1 : (0 : Int) ≤ (k : Int) := by omega
      have hl2 : (k : Int) < (L.length : Int) := by omega
      clear hps hR hstep hc hm
      generalize hxx : L[k] = x at *
      gi_wp2
      refine HR.out.mono ?_
      rintro e W3 ⟨hf3, (⟨rfl, hJ3⟩ | ⟨rfl, hJx3⟩)⟩
      · have hnext : OItRel (W.heap.size + 1) pos L J (.slice (some ⟨g, 0, none⟩) L.length vc) (.int .i64 ((k : Int) + 1)) W3 :=
          ⟨k + 1, next s, _, by go_num, by omega, by rw [hpos, Hps.out], hJ3, own_frame hrow.out hf3 (fun q e => hnA.out q e), fun q e h => h.elim (hnA.out q e) (fun h => by have := (hrow.out.lt q e).2; omega)⟩
        have hnext := hide hnext
        clear hJ3 HR hf3
        gi_wp2
        go_roundw
        case rel => exact hnext.out
        case measure => simp [intOf]; omega
      · gi_wp2
        refine bodyPost_ret (results_none rfl _ _ _) rfl ?_
        exact ⟨⟨_, rfl⟩, .inr ⟨_, hJx3⟩⟩
    · have hfin : ∃ s A, OFin pos L s ∧ J s A wr := ⟨s, A, by unfold OFin; omega, hJ⟩
      have hfin := hide hfin
      have hkd : decide ((k : Int) < (L.length : Int)) = false := decide_eq_false (by omega)
      clear hrow hnA hJ
      gi_wp2
      go_end0
      exact ⟨⟨_, rfl⟩, .inl hfin.out⟩

theorem kmap_get {α β : Type} (f : List UInt8 → α → β) (L : KA α) (i : Nat) (h : i < (kmap f L).length) : (kmap f L)[i] = (((L[i]'(by simpa [kmap] using h)).1, f (L[i]'(by simpa [kmap] using h)).1 (L[i]'(by simpa [kmap] using h)).2)) := by simp [kmap]
def vactx (l box w0 b mb : Nat) (x : List UInt8 × Value) (xb : Nat) : Act := { tmps := #[.func (.yield l) #[] #[], .pointer (some ⟨box, 0, none⟩), .pointer (some ⟨w0, 0, none⟩), undef, .pointer (some ⟨xb, 0, none⟩), .pointer (some ⟨b, 0, none⟩), .bool false, .pointer (some ⟨b, 0, none⟩), .pointer (some ⟨b, 0, none⟩), .pointer (some ⟨b, 0, none⟩), .map (some mb),
  .func (.func 44) #[] #[.pointer (some ⟨w0 + 1, 0, none⟩)], .string ⟨x.1.toArray⟩, x.2, undef, undef, undef, undef], defers := [] }
def vOuter (w0 D : Nat) {σ : Type} (J : σ → (Nat → Prop) → World → Prop) (yb l bm mb : Nat) (s : σ) (A : Nat → Prop) (W : World) : Prop :=
  ∃ Ao : Nat → Prop, J s Ao W ∧ (∀ k, Ao k → A k) ∧ (∀ k, w0 ≤ k → k < D + 2 → ¬ Ao k) ∧ w0 ≤ yb ∧ yb < D ∧ w0 ≤ bm ∧ bm < D ∧ (∀ k, k < D + 2 → A k) ∧
    W.heap[yb]? = some (.cells #[.func (.yield l) #[] #[]] 73 (0, 0)) ∧ W.heap[bm]? = some (.cells #[.map (some mb)] 62 (0, 0))
def venc2 (x : List UInt8 × VR) : Array Value := #[venc x.1 x.2]
set_option maxRecDepth 100000 in
set_option maxHeartbeats 4000000 in
theorem vall1_iter {σ : Type} (n : Nat) (hn : 4 ≤ n) (box b mb : Nat) (pos : σ → Nat) (next : σ → σ) (hpos : ∀ s, pos (next s) = pos s + 1) (M : KA VR) (hM : M.length ≤ 64) (I : σ → (Nat → Prop) → World → Prop)
    (hI : ∀ s A W, I s A W → SMapAt Try.prog 9 W mb (kmap venc M) ∧ W.cell? ⟨b, 0, none⟩ = some (.map (some mb)) ∧ W.cell? ⟨box, 0, none⟩ = some (.pointer (some ⟨b, 0, none⟩))) (s0 : σ) (hs0 : pos s0 = 0)
    (l : Nat) (J : σ → (Nat → Prop) → World → Prop) (Jx : (Nat → Prop) → World → Prop) (W : World) (hJI : ∀ s A W, J s A W → I s A W)
    (hJf : ∀ s (A : Nat → Prop) W W', J s A W → Fr (fun k => ¬ A k) W W' → J s A W') (hJxf : ∀ (A : Nat → Prop) W W', Jx A W → Fr (fun k => ¬ A k) W W' → Jx A W') (hJA : ∀ s A W, J s A W → ∀ k, A k → k < W.heap.size)
    (hY : ∀ s A x s' W, OStep pos next M s x s' → J s A W → YieldAt FW (n - 1) Try.prog l (venc2 x) W fun e W' => Fr A W W' ∧ ((e = .returned (.bool true) ∧ J s' (fun k => A k ∨ (W.heap.size ≤ k ∧ k < W'.heap.size)) W') ∨ (e = .returned (.bool false) ∧ Jx (fun k => A k ∨ (W.heap.size ≤ k ∧ k < W'.heap.size)) W')))
    (h0 : J s0 (fun k => k < W.heap.size) W) :
    CallsIn FW n Try.prog 38 (#[.func (.yield l) #[] #[]] ++ #[.pointer (some ⟨box, 0, none⟩)]) W fun e W' => (∃ v, e = .returned v) ∧ ((∃ s A, OFin pos M s ∧ J s A W') ∨ ∃ A, Jx A W') := by
  simp only [List.append_toArray, List.cons_append, List.nil_append]
  obtain ⟨hm0, hb0, hbox0⟩ := hI _ _ _ (hJI _ _ _ h0)
  have hn1 : 1 ≤ n := by omega
  have hlb1 : box < W.heap.size := World.block_lt_of_cell? _ _ hbox0
  have hlb2 : b < W.heap.size := World.block_lt_of_cell? _ _ hb0
  have HJ0 := hide h0
  clear h0
  refine callsIn_of_wp_marks Try.func38 rfl trivial ?_ rfl
  simp only [Try.ntmps38, List.size_toArray, List.length_cons, List.length_nil, Nat.reduceAdd, Nat.reduceSub, Array.replicate_succ, Array.replicate_zero, List.push_toArray, List.append_toArray, List.nil_append, List.cons_append]
  gi_wp2_with (refine ⟨trivial, ?_⟩; gi_at_call 39; refine (callsIn_wide.2 (oall_any _ _)).mono ?_; rintro e w1 ⟨rfl, rfl⟩)
  have hJ2 : J s0 (fun k => k < W.heap.size) ((W.alloc (.cells #[.func (.yield l) #[] #[]] 73 (0, 0))).alloc (.cells #[.map (some mb)] 62 (0, 0))) :=
    hJf _ _ _ _ HJ0.out ((((Fr.refl (fun _ => False) W).alloc _).alloc _).mono (fun _ _ h => h.elim))
  have hyb := blk_alloc (blk_new W (.cells #[.func (.yield l) #[] #[]] 73 (0, 0))) (.cells #[.map (some mb)] 62 (0, 0))
  have hbm := blk_new' (W.alloc (.cells #[.func (.yield l) #[] #[]] 73 (0, 0))) (.cells #[.map (some mb)] 62 (0, 0)) (W.heap.size + 1) (by simp)
  have hz : ((W.alloc (.cells #[.func (.yield l) #[] #[]] 73 (0, 0))).alloc (.cells #[.map (some mb)] 62 (0, 0))).heap.size = W.heap.size + 2 := by simp
  generalize ((W.alloc (.cells #[.func (.yield l) #[] #[]] 73 (0, 0))).alloc (.cells #[.map (some mb)] 62 (0, 0))) = w1 at *
  have hI0 : vOuter W.heap.size w1.heap.size J W.heap.size l (W.heap.size + 1) mb s0 (fun k => k < w1.heap.size + 2) w1 :=
    ⟨_, hJ2, fun k hk => by omega, fun k h1 h2 h3 => by omega, by omega, by omega, by omega, by omega, fun k hk => hk, hyb, hbm⟩
  have hkl := kmap_length venc M
  clear hyb hbm hJ2 hm0 hb0 hbox0 HJ0
  refine rf_law3 (α := List UInt8 × Value) (σ := σ) 44 #[.pointer (some ⟨W.heap.size + 1, 0, none⟩)] rfl (enters_of Try.func44 (by kernel_rfl) rfl) oenc (fun _ => rfl)
    (OStep pos next (kmap venc M)) (OFin pos (kmap venc M)) s0 (vOuter W.heap.size w1.heap.size J W.heap.size l (W.heap.size + 1) mb)
    (fun c A W' => c = .ret ∧ ∃ Ao : Nat → Prop, Jx Ao W' ∧ (∀ k, Ao k → A k) ∧ (∀ k, W.heap.size ≤ k → k < w1.heap.size + 2 → ¬ Ao k))
    ?hI ?hImono ?hIx ?hIxmono hI0 ?hiter
    (fun x a' W' => ∃ xb : Nat, a' = vactx l box W.heap.size b mb x xb ∧ w1.heap.size + 2 ≤ xb ∧ ∃ (nm vl : ByteArray) (e r u : Bool), x.2 = .agg #[.string nm, .string vl, .bool e, .bool r, .bool u] ∧ W'.heap[xb]? = some (.cells #[.string nm, .string vl, .bool e, .bool r, .bool u] 67 (0, 0))) ?hAx ?assign ?body ?done ?stop
  case assign =>
    rintro l' s A x s' X K ⟨hlt, rfl, rfl⟩ hI' hsz hK
    have hx : ∃ (nm vl : ByteArray) (e r u : Bool), (kmap venc M)[pos s].2 = .agg #[.string nm, .string vl, .bool e, .bool r, .bool u] := by
      rw [kmap_get]; exact ⟨_, _, _, _, _, rfl⟩
    obtain ⟨nm, vl, e, r, u, hcs⟩ := hx
    generalize hxx : (kmap venc M)[pos s] = x at *
    have hK := hide hK
    have Hcs := hide hcs
    simp only [oenc, hcs]
    clear hI' hxx hcs
    gi_wp2
    rw [← Hcs.out]
    exact hK.out _ _ ((Fr.refl _ _).alloc _) ⟨X.heap.size, rfl, hsz, nm, vl, e, r, u, Hcs.out, blk_new _ _⟩
  case hI =>
    rintro s A X Y ⟨Ao, h1, h2, h3, h4, h5, h6, h7, h8, h9, h10⟩ hf
    have hno : ∀ k, k < w1.heap.size → A k → ¬ (k = w1.heap.size ∨ k = w1.heap.size + 1 ∨ ¬ A k) := fun k hk hA e => by
      rcases e with e | e | e
      · omega
      · omega
      · exact e hA
    refine ⟨Ao, hJf _ _ _ _ h1 (hf.mono fun k _ e hk => ?_), h2, h3, h4, h5, h6, h7, h8, hf.get h9 (hno _ h5 (h8 _ (by omega))), hf.get h10 (hno _ h7 (h8 _ (by omega)))⟩
    rcases e with e | e | e
    · exact h3 k (by omega) (by omega) hk
    · exact h3 k (by omega) (by omega) hk
    · exact e (h2 k hk)
  case hImono =>
    rintro s A A' X ⟨Ao, h1, h2, h3, h4, h5, h6, h7, h8, h9, h10⟩ hA
    exact ⟨Ao, h1, fun k hk => hA _ (h2 k hk), h3, h4, h5, h6, h7, fun k hk => hA _ (h8 k hk), h9, h10⟩
  case hIx =>
    rintro c A X Y ⟨hc, Ao, h1, h2, h3⟩ hf
    refine ⟨hc, Ao, hJxf _ _ _ h1 (hf.mono fun k _ e hk => ?_), h2, h3⟩
    rcases e with e | e | e
    · exact h3 k (by omega) (by omega) hk
    · exact h3 k (by omega) (by omega) hk
    · exact e (h2 k hk)
  case hIxmono =>
    rintro c A A' X ⟨hc, Ao, h1, h2, h3⟩ hA
    exact ⟨hc, Ao, h1, fun k hk => hA _ (h2 k hk), h3⟩
  case hiter =>
    intro l' J' Jx' W' hJI' hJf' _ hJA' hY' h0'
    refine oall1_iter (n - 1) (by omega) (W.heap.size + 1) mb pos next hpos (kmap venc M) (by rw [hkl]; omega) (vOuter W.heap.size w1.heap.size J W.heap.size l (W.heap.size + 1) mb) ?_ s0 hs0 l' J' Jx' W' hJI' hJf' hJA' hY' h0'
    rintro s A X ⟨Ao, h1, h2, h3, h4, h5, h6, h7, h8, h9, h10⟩
    exact ⟨(hI _ _ _ (hJI _ _ _ h1)).1, by rw [blk_cell h10]; rfl⟩
  case hAx =>
    rintro x a' X Y ⟨xb, h1, h2, nm, vl, e, r, u, h4, h5⟩ hf
    exact ⟨xb, h1, h2, nm, vl, e, r, u, h4, hf.get h5 (by omega)⟩
  case body =>
    rintro l' s A x s' a' X ⟨hlt, rfl, rfl⟩ ⟨Ao, g1, g2, g3, g4, g5, g6, g7, g8, g9, g10⟩ ⟨xb, rfl, g11, nm, vl, e, r, u, hx, g12⟩ hsz hA0 hA1
    have hlt' : pos s < M.length := by rw [hkl] at hlt; exact hlt
    have hx2 : venc2 M[pos s] = #[.agg #[.string nm, .string vl, .bool e, .bool r, .bool u]] := by rw [← hx, kmap_get]; rfl
    have hy := hY s Ao M[pos s] (next s) X ⟨hlt', rfl, rfl⟩ g1
    rw [hx2] at hy
    have hy := yield_wide (m' := n - 1 - 1 - 1) hy
    obtain ⟨fn, tmps, assign, body, hyr, hR⟩ := hy
    have c1 : X.cell? ⟨W.heap.size, 0, none⟩ = some (.func (.yield l) #[] #[]) := by rw [blk_cell g9]; rfl
    have c2 : X.cell? ⟨xb, 0, none⟩ = some (.string nm) := by rw [blk_cell g12]; rfl
    have c3 : X.cell? ⟨xb, 1, none⟩ = some (.string vl) := by rw [blk_cell g12]; rfl
    have c4 : X.cell? ⟨xb, 2, none⟩ = some (.bool e) := by rw [blk_cell g12]; rfl
    have c5 : X.cell? ⟨xb, 3, none⟩ = some (.bool r) := by rw [blk_cell g12]; rfl
    have c6 : X.cell? ⟨xb, 4, none⟩ = some (.bool u) := by rw [blk_cell g12]; rfl
    have HR := hide hR
    clear hR hx hx2
    generalize (kmap venc M)[pos s] = x at *
    unfold vactx
    gi_wp2
    refine ⟨fun _ => by omega, ?_⟩
    refine RoundIn.mono HR.out ?_
    rintro e W3 ⟨hf3, hor⟩
    have hsz3 := hf3.size
    have hrec1 : W3.heap[w1.heap.size]? = X.heap[w1.heap.size]? := hf3.block _ (by omega) (g3 _ (by omega) (by omega))
    have hrec2 : W3.heap[w1.heap.size + 1]? = X.heap[w1.heap.size + 1]? := hf3.block _ (by omega) (g3 _ (by omega) (by omega))
    have hfA : Fr A X W3 := hf3.mono (fun k _ hk => g2 k hk)
    have hcov : ∀ k, (Ao k ∨ (X.heap.size ≤ k ∧ k < W3.heap.size)) → (A k ∨ (X.heap.size ≤ k ∧ k < W3.heap.size)) := fun k hk => hk.imp (g2 k) id
    have hout : ∀ k, W.heap.size ≤ k → k < w1.heap.size + 2 → ¬ (Ao k ∨ (X.heap.size ≤ k ∧ k < W3.heap.size)) := fun k h1 h2 h3 => h3.elim (g3 k h1 h2) (fun h3 => by omega)
    have k9 := hf3.get g9 (g3 _ (by omega) (by omega))
    have k10 := hf3.get g10 (g3 _ (by omega) (by omega))
    rcases hor with ⟨rfl, hJ3⟩ | ⟨rfl, hJx3⟩
    · have hfin := hide (show rfPost3 w1.heap.size A (vOuter W.heap.size w1.heap.size J W.heap.size l (W.heap.size + 1) mb) (fun c A W' => c = .ret ∧ ∃ Ao : Nat → Prop, Jx Ao W' ∧ (∀ k, Ao k → A k) ∧ (∀ k, W.heap.size ≤ k → k < w1.heap.size + 2 → ¬ Ao k)) (next s) X .normal ⟨#[], []⟩ W3 from
        ⟨⟨hrec1, hrec2⟩, hfA, _, hJ3, hcov, hout, g4, g5, g6, g7, fun k hk => .inl (g8 k hk), k9, k10⟩)
      clear hJ3 hfA hcov hout k9 k10 hrec1 hrec2
      gi_wp2
      exact hfin.out
    · have hfin := hide (show rfPost3 w1.heap.size A (vOuter W.heap.size w1.heap.size J W.heap.size l (W.heap.size + 1) mb) (fun c A W' => c = .ret ∧ ∃ Ao : Nat → Prop, Jx Ao W' ∧ (∀ k, Ao k → A k) ∧ (∀ k, W.heap.size ≤ k → k < w1.heap.size + 2 → ¬ Ao k)) (next s) X .ret ⟨#[], []⟩ W3 from
        ⟨⟨hrec1, hrec2⟩, hfA, rfl, _, hJx3, hcov, hout⟩)
      clear hJx3 hfA hcov hout k9 k10 hrec1 hrec2
      gi_wp2
      exact hfin.out
  case done =>
    rintro s A X hfin ⟨Ao, g1, g2, g3, g4, g5, g6, g7, g8, g9, g10⟩ hK
    have hput : Fr (fun k => k = w1.heap.size) X (X.putObj w1.heap.size (.deferred none)) := fr_putObj _ rfl
    have hJ := hJf _ _ _ _ g1 (hput.mono (fun k _ e hk => g3 k (by omega) (by omega) hk))
    have hfin' : OFin pos M s := by unfold OFin at hfin ⊢; rw [hfin, hkl]
    gi_wp2
    refine ⟨by simp, .inl ⟨_, _, rfl, run_takeDeferred hK, ?_⟩⟩
    exact ⟨_, results_none rfl _ _ _, ⟨_, rfl⟩, .inl ⟨s, Ao, hfin', hJ⟩⟩
  case stop =>
    rintro c A X ⟨rfl, Ao, h1, h2, h3⟩ hK
    have hput : Fr (fun k => k = w1.heap.size) X (X.putObj w1.heap.size (.deferred none)) := fr_putObj _ rfl
    have hJ := hJxf _ _ _ h1 (hput.mono (fun k _ e hk => h3 k (by omega) (by omega) hk))
    gi_wp2
    refine ⟨by simp, .inl ⟨_, _, rfl, run_takeDeferred hK, ?_⟩⟩
    exact ⟨_, results_none rfl _ _ _, ⟨_, rfl⟩, .inr ⟨Ao, hJ⟩⟩
end Go.Proofs.Ytcojeojmodjmdaa
