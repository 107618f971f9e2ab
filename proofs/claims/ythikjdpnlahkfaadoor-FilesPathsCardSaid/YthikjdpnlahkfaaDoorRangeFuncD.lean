/- A range over a function whose loop variable is boxed, one value a round: the frame of the body in terms of the loop's own. Conditions: the premises. -/
import Derived.Test.YthikjdpnlahkfaaDoorRangeFuncC
namespace Go.Proofs.YthikjdpnlahkfaaDoor
open Go.RowKit

theorem rf_law3b {P : Program} {α σ : Type} {n : Nat} {g : Operand} {q : Tmp} {assign body : Code} {Q : Exit → Act → World → Prop} {a : Act} {w : World}
    (gf : Nat) (lb : Array Value) (hg : a.eval g = .func (.func gf) #[] lb) (eg : ∀ args w, (callFunc gf args).run P w = .ok (.enter gf args) w)
    (val : α → Value) (cls : α → Array Value) (ty : TypeId) (bs : Nat)
    (Step : σ → α → σ → Prop) (Fin : σ → Prop) (s0 : σ) (I : σ → (Nat → Prop) → World → Prop) (Ix : Code → (Nat → Prop) → World → Prop)
    (hI : ∀ s (A : Nat → Prop) W W', I s A W → Fr (fun k => k = w.heap.size ∨ k = w.heap.size + 1 ∨ ¬ A k) W W' → I s A W')
    (hImono : ∀ s (A A' : Nat → Prop) W, I s A W → (∀ k, A k → A' k) → I s A' W)
    (hIx : ∀ c (A : Nat → Prop) W W', Ix c A W → Fr (fun k => k = w.heap.size ∨ k = w.heap.size + 1 ∨ ¬ A k) W W' → Ix c A W')
    (hIxmono : ∀ c (A A' : Nat → Prop) W, Ix c A W → (∀ k, A k → A' k) → Ix c A' W)
    (h0 : I s0 (fun k => k < w.heap.size + 2) w)
    (hiter : ∀ (l : Nat) (J : σ → (Nat → Prop) → World → Prop) (Jx : (Nat → Prop) → World → Prop) (W : World), (∀ s A W, J s A W → I s A W) →
      (∀ s (A : Nat → Prop) W W', J s A W → Fr (fun k => ¬ A k) W W' → J s A W') → (∀ (A : Nat → Prop) W W', Jx A W → Fr (fun k => ¬ A k) W W' → Jx A W') → (∀ s A W, J s A W → ∀ k, A k → k < W.heap.size) →
      (∀ s A x s' W, Step s x s' → J s A W → YieldAt FW (n - 1 - 1) P l #[val x] W fun e W' => Fr A W W' ∧ ((e = .returned (.bool true) ∧ J s' (fun k => A k ∨ (W.heap.size ≤ k ∧ k < W'.heap.size)) W') ∨ (e = .returned (.bool false) ∧ Jx (fun k => A k ∨ (W.heap.size ≤ k ∧ k < W'.heap.size)) W'))) →
      J s0 (fun k => k < W.heap.size) W → CallsIn FW (n - 1) P gf (#[.func (.yield l) #[] #[]] ++ lb) W fun e W' => (∃ v, e = .returned v) ∧ ((∃ s A, Fin s ∧ J s A W') ∨ ∃ A, Jx A W'))
    (hassign : ∀ (l : Nat) (s : σ) (A : Nat → Prop) (x : α) (s' : σ) (W : World) (K : Act → World → Prop), Step s x s' → I s A W → w.heap.size + 2 ≤ W.heap.size → (∀ xb W', Fr (fun _ => False) W W' → w.heap.size + 2 ≤ xb → W'.heap[xb]? = some (.cells (cls x) ty (0, 0)) → K ⟨(a.tmps.setIfInBounds q (val x)).setIfInBounds bs (.pointer (some ⟨xb, 0, none⟩)), []⟩ W') →
      assign.wpIn (FW.inRound l) (n - 1 - 1) P (Exit.then K (fun _ _ _ => False)) { tmps := a.tmps.setIfInBounds q (val x), defers := [] } W)
    (hbody : ∀ (l : Nat) (s : σ) (A : Nat → Prop) (x : α) (s' : σ) (xb : Nat) (W : World), Step s x s' → I s A W → w.heap.size + 2 ≤ xb → W.heap[xb]? = some (.cells (cls x) ty (0, 0)) → w.heap.size + 2 ≤ W.heap.size → (∀ k, k < w.heap.size + 2 → A k) → (∀ k, A k → k < W.heap.size) →
      body.wpIn (FW.inRound l) (n - 1 - 1) P (rfPost3 w.heap.size A I Ix s' W) ⟨(a.tmps.setIfInBounds q (val x)).setIfInBounds bs (.pointer (some ⟨xb, 0, none⟩)), []⟩ W)
    (hdone : ∀ (s : σ) (A : Nat → Prop) (W : World), Fin s → I s A W → W.heap[w.heap.size]? = some (.deferred (some [])) → Q .normal { a with defers := { target := .collected w.heap.size, args := #[] } :: a.defers } W)
    (hstop : ∀ (c : Code) (A : Nat → Prop) (W : World), Ix c A W → W.heap[w.heap.size]? = some (.deferred (some [])) → c.wpIn FW n P Q { a with defers := { target := .collected w.heap.size, args := #[] } :: a.defers } W) :
    (Code.rangeFunc g #[q] assign body).wpIn FW n P Q a w := by
  refine rf_law3 (ps := #[q]) gf lb hg eg (fun x => #[val x]) (fun _ => rfl) Step Fin s0 I Ix hI hImono hIx hIxmono h0 hiter
    (fun x a' W' => ∃ xb : Nat, a' = ⟨(a.tmps.setIfInBounds q (val x)).setIfInBounds bs (.pointer (some ⟨xb, 0, none⟩)), []⟩ ∧ w.heap.size + 2 ≤ xb ∧ W'.heap[xb]? = some (.cells (cls x) ty (0, 0)))
    ?_ ?_ ?_ hdone hstop
  · rintro x a' X Y ⟨xb, h1, h2, h5⟩ hf
    exact ⟨xb, h1, h2, hf.get h5 (by omega)⟩
  · intro l s A x s' W K h1 h2 h3 hK
    have e : (#[q].zip #[val x]).foldl (fun t (p, v) => t.setIfInBounds p v) a.tmps = a.tmps.setIfInBounds q (val x) := by simp
    rw [e]
    exact hassign l s A x s' W K h1 h2 h3 fun xb W' h4 h5 h6 => hK _ _ h4 ⟨xb, rfl, h5, h6⟩
  · rintro l s A x s' a' W h1 h2 ⟨xb, rfl, h3, h4⟩ h5 h6 h7
    exact hbody l s A x s' xb W h1 h2 h3 h4 h5 h6 h7
end Go.Proofs.YthikjdpnlahkfaaDoor
