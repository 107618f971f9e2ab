/- What shyardlaw12.told says of a kernel, as plain data; how long it can be. No program in sight; each law's own premises. -/
import Derived.Test.YtdnbfhcbcdodmaaGreatDoorGTabB
import Derived.Test.YtdnbfhcbcdodmaaGreatDoorKerAllP
import Derived.Test.YtdnbfhcbcdodmaaGreatDoorFilesTreeT
import Derived.Test.YtdnbfhcbcdodmaaGreatDoorFilesTreeT
import Derived.Test.YtdnbfhcbcdodmaaGreatDoorKerMid
import Derived.Test.YtdnbfhcbcdodmaaGreatDoorStrs
import Derived.Test.YtdnbfhcbcdodmaaGreatDoorRegionIn
import Derived.Test.YtdnbfhcbcdodmaaGreatDoorKerF
namespace Go.Proofs.YtdnbfhcbcdodmaaGreatDoor
open Go.RowKit

def bL (l : List UInt8) : ByteArray := ⟨l.toArray⟩
/-- What stands ahead of all. -/
def headS (K : KQ) : ByteArray := bL [111, 117, 116, 32] ++ K.out 1 ++ bL [124] ++ K.out 2 ++ bL [124] ++ numB K.typed.size
/-- Descriptors' descriptions. -/
def idsS (t : TSt) : Nat → ByteArray → ByteArray
  | 0, s => s
  | m + 1, s => idsS t m s ++ (bL [46] ++ numB (tabN t 32 m))
def procS0 (K : KQ) (i : Nat) (s : ByteArray) : ByteArray := s ++ (bL [32, 112] ++ numB i ++ bL [44] ++ numB (K.proc i).parent ++ bL [44] ++ numB (K.proc i).status)
def procS (K : KQ) (i : Nat) (s : ByteArray) : ByteArray := if (K.proc i).ended = true then procS0 K i s ++ bL [33] else idsS (K.proc i).fds 32 (procS0 K i s)
def descS0 (K : KQ) (i : Nat) (s : ByteArray) : ByteArray := s ++ (bL [32, 100] ++ numB i ++ bL [44] ++ numB (K.desc i).kind ++ bL [44] ++ numB (K.desc i).n ++ bL [44] ++ numB (K.desc i).pos ++ bL [44] ++ numB (K.desc i).refs)
def descS (K : KQ) (i : Nat) (s : ByteArray) : ByteArray := descS0 K i s ++ (bL [44] ++ numB (pipeR K (K.desc i).n).1 ++ bL [44] ++ numB (pipeR K (K.desc i).n).2.1 ++ bL [44] ++ numB (pipeR K (K.desc i).n).2.2)
def entT (x : EntQ) (s : ByteArray) : ByteArray := s ++ (bL [32, 102] ++ baL x.path ++ bL [44] ++ numB x.kind ++ bL [44] ++ numB x.mode ++ bL [44] ++ numB (baL x.data).size ++ baL x.data)
/-- As far as some of them. -/
def procsS (K : KQ) : Nat → ByteArray
  | 0 => headS K
  | s + 1 => match (pidsL K)[s]? with | some i => procS K i (procsS K s) | none => procsS K s
def descsS (K : KQ) : Nat → ByteArray
  | 0 => procsS K (pidsL K).length
  | s + 1 => match (didsL K)[s]? with | some i => descS K i (descsS K s) | none => descsS K s
def treeT (K : KQ) : Nat → ByteArray
  | 0 => descsS K (didsL K).length
  | s + 1 => match (treeL K.σ)[s]? with | some x => entT x (treeT K s) | none => treeT K s
def toldS (K : KQ) : ByteArray := treeT K (treeL K.σ).length
theorem procsS_succ (K : KQ) {s : Nat} (h : s < (pidsL K).length) : procsS K (s + 1) = procS K (pidsL K)[s] (procsS K s) := by
  show (match (pidsL K)[s]? with | some i => procS K i (procsS K s) | none => procsS K s) = _
  rw [List.getElem?_eq_getElem h]
theorem descsS_succ (K : KQ) {s : Nat} (h : s < (didsL K).length) : descsS K (s + 1) = descS K (didsL K)[s] (descsS K s) := by
  show (match (didsL K)[s]? with | some i => descS K i (descsS K s) | none => descsS K s) = _
  rw [List.getElem?_eq_getElem h]
theorem treeT_succ (K : KQ) {s : Nat} (h : s < (treeL K.σ).length) : treeT K (s + 1) = entT (treeL K.σ)[s] (treeT K s) := by
  show (match (treeL K.σ)[s]? with | some x => entT x (treeT K s) | none => treeT K s) = _
  rw [List.getElem?_eq_getElem h]
/-- How long: numbers have at most 20 digits. -/
structure Small (K : KQ) : Prop where
  pr : ∀ i, 1 ≤ i → i ≤ K.qn → (K.proc i).parent ≤ 1000000 ∧ (K.proc i).status ≤ 9223372036854775807
  ds : ∀ j, 1 ≤ j → j ≤ K.dn → (K.desc j).kind ≤ 5 ∧ (K.desc j).n ≤ 9223372036854775807 ∧ (K.desc j).pos ≤ 9223372036854775807 ∧ (K.desc j).refs ≤ 9223372036854775807
  pp : ∀ n, 1 ≤ n → n ≤ K.pn → (K.pipe n).r ≤ 1000000 ∧ (K.pipe n).x ≤ 1000000 ∧ (K.pipe n).data.length ≤ 64
  qn : K.qn ≤ 1000000
  dn : K.dn ≤ 1000000
theorem KOk.small {K : KQ} {N : Nat} (h : KOk K N) (hN : N ≤ 1000000) : Small K :=
  ⟨fun i a b => ⟨Nat.le_trans (h.proc i a b).par hN, (h.proc i a b).status.2⟩, fun j a b => ⟨(h.desc j a b).kind.2, (h.desc j a b).num, by
    have := h.desc j a b
    by_cases e : (K.desc j).kind = 5
    · have := this.txt e; have := (h.desc j a b).tsz; omega
    · have := this.pos e; omega, by have := (h.desc j a b).refs.1; omega⟩,
    fun n a b => ⟨Nat.le_trans (h.pipe n a b).2.1 hN, Nat.le_trans (h.pipe n a b).2.2 hN, (h.pipe n a b).1⟩, Nat.le_trans h.qn hN, Nat.le_trans h.dn hN⟩
theorem tabN_le {K : KQ} (hf : FdsOk K) {i : Nat} (h1 : 1 ≤ i) (h2 : i ≤ K.qn) (hd : K.dn ≤ 1000000) (p fd : Nat) : tabN (K.proc i).fds p fd ≤ 9223372036854775807 := by
  unfold tabN
  split
  · split
    · decide
    · rename_i j x e
      have := hf i fd j x h1 h2 e
      omega
  · decide
theorem bL_size (l : List UInt8) : (bL l).size = l.length := by unfold bL; simp [ByteArray.size]
theorem idsS_size {t : TSt} (h : ∀ fd, tabN t 32 fd ≤ 9223372036854775807) : ∀ (m : Nat) (s : ByteArray), (idsS t m s).size ≤ s.size + 21 * m
  | 0, _ => Nat.le_refl _
  | m + 1, s => by
    have := idsS_size h m s
    have := numB_size (h m)
    rw [idsS, ByteArray.size_append, ByteArray.size_append, bL_size]
    simp only [List.length_cons, List.length_nil]
    omega
theorem procS0_size {K : KQ} (h : Small K) {i : Nat} (h1 : 1 ≤ i) (h2 : i ≤ K.qn) (s : ByteArray) : (procS0 K i s).size ≤ s.size + 64 := by
  have a := numB_size (n := i) (by have := h.qn; omega)
  have b := numB_size (n := (K.proc i).parent) (by have := (h.pr i h1 h2).1; omega)
  have c := numB_size (h.pr i h1 h2).2
  unfold procS0
  simp only [ByteArray.size_append, bL_size, List.length_cons, List.length_nil]
  omega
theorem procS_size {K : KQ} (h : Small K) (hf : FdsOk K) {i : Nat} (h1 : 1 ≤ i) (h2 : i ≤ K.qn) (s : ByteArray) : (procS K i s).size ≤ s.size + 1000 := by
  have := procS0_size h h1 h2 s
  unfold procS
  split
  · rw [ByteArray.size_append, bL_size]
    simp only [List.length_cons, List.length_nil]
    omega
  · have := idsS_size (tabN_le hf h1 h2 h.dn 32) 32 (procS0 K i s)
    omega
theorem pipeR_le {K : KQ} (h : Small K) (n : Int) : (pipeR K n).1 ≤ 1000000 ∧ (pipeR K n).2.1 ≤ 1000000 ∧ (pipeR K n).2.2 ≤ 64 := by
  unfold pipeR
  split
  · rename_i c
    exact h.pp n.toNat (by omega) (by omega)
  · exact ⟨Nat.zero_le _, Nat.zero_le _, Nat.zero_le _⟩
theorem descS0_size {K : KQ} (h : Small K) {i : Nat} (h1 : 1 ≤ i) (h2 : i ≤ K.dn) (s : ByteArray) : (descS0 K i s).size ≤ s.size + 120 := by
  have d := h.ds i h1 h2
  have n1 := numB_size (n := i) (by have := h.dn; omega)
  have n2 := numB_size (n := (K.desc i).kind) (by omega)
  have n3 := numB_size (n := (K.desc i).n) (by omega)
  have n4 := numB_size (n := (K.desc i).pos) (by omega)
  have n5 := numB_size (n := (K.desc i).refs) d.2.2.2
  unfold descS0
  simp only [ByteArray.size_append, bL_size, List.length_cons, List.length_nil]
  omega
theorem descS_size {K : KQ} (h : Small K) {i : Nat} (h1 : 1 ≤ i) (h2 : i ≤ K.dn) (s : ByteArray) : (descS K i s).size ≤ s.size + 1000 := by
  have := descS0_size h h1 h2 s
  have p := pipeR_le h (K.desc i).n
  have n1 := numB_size (n := (pipeR K (K.desc i).n).1) (by omega)
  have n2 := numB_size (n := (pipeR K (K.desc i).n).2.1) (by omega)
  have n3 := numB_size (n := (pipeR K (K.desc i).n).2.2) (by omega)
  unfold descS
  simp only [ByteArray.size_append, bL_size, List.length_cons, List.length_nil]
  omega
theorem pids_le {K : KQ} (h : Small K) : (pidsL K).length ≤ 1000000 := by
  have := List.length_filter_le (fun i => (K.proc i).inn) (List.range' 1 K.qn)
  rw [List.length_range'] at this
  exact Nat.le_trans this h.qn
theorem dids_le {K : KQ} (h : Small K) : (didsL K).length ≤ 1000000 := by
  have := List.length_filter_le (fun i => (K.desc i).inn) (List.range' 1 K.dn)
  rw [List.length_range'] at this
  exact Nat.le_trans this h.dn
theorem headS_size {K : KQ} (ht : K.typed.size ≤ 4096) (ho : ∀ n, (K.out n).size ≤ 100000000000000000) : (headS K).size ≤ 200000000000000100 := by
  have a := ho 1
  have b := ho 2
  have n1 := numB_size (n := K.typed.size) (by omega)
  unfold headS
  simp only [ByteArray.size_append, bL_size, List.length_cons, List.length_nil]
  omega
theorem procsS_size {K : KQ} (h : Small K) (hf : FdsOk K) {B : Nat} (hb : (headS K).size ≤ B) : ∀ s, (procsS K s).size ≤ B + 1000 * s
  | 0 => hb
  | s + 1 => by
    have ih := procsS_size h hf hb s
    by_cases hs : s < (pidsL K).length
    · rw [procsS_succ K hs]
      obtain ⟨a, b, _⟩ := numsL_mem.1 (List.getElem_mem hs)
      have := procS_size h hf a b (procsS K s)
      exact Nat.le_trans this (Nat.le_trans (Nat.add_le_add_right ih 1000) (Nat.le_of_eq (by rw [Nat.mul_succ, Nat.add_assoc])))
    · have e : procsS K (s + 1) = procsS K s := by
        show (match (pidsL K)[s]? with | some i => procS K i (procsS K s) | none => procsS K s) = _
        rw [List.getElem?_eq_none (by omega)]
      rw [e]
      exact Nat.le_trans ih (Nat.add_le_add_left (Nat.mul_le_mul_left _ (Nat.le_succ s)) _)
theorem descsS_size {K : KQ} (h : Small K) {B : Nat} (hb : (procsS K (pidsL K).length).size ≤ B) : ∀ s, (descsS K s).size ≤ B + 1000 * s
  | 0 => hb
  | s + 1 => by
    have ih := descsS_size h hb s
    by_cases hs : s < (didsL K).length
    · rw [descsS_succ K hs]
      obtain ⟨a, b, _⟩ := numsL_mem.1 (List.getElem_mem hs)
      have := descS_size h a b (descsS K s)
      exact Nat.le_trans this (Nat.le_trans (Nat.add_le_add_right ih 1000) (Nat.le_of_eq (by rw [Nat.mul_succ, Nat.add_assoc])))
    · have e : descsS K (s + 1) = descsS K s := by
        show (match (didsL K)[s]? with | some i => descS K i (descsS K s) | none => descsS K s) = _
        rw [List.getElem?_eq_none (by omega)]
      rw [e]
      exact Nat.le_trans ih (Nat.add_le_add_left (Nat.mul_le_mul_left _ (Nat.le_succ s)) _)
/-- An entry's parts. -/
def EntOk (x : EntQ) : Prop := x.path.length ≤ 3400 ∧ x.kind ≤ 2 ∧ x.mode ≤ 9223372036854775807 ∧ x.data.length ≤ 65536
theorem entT_size {x : EntQ} (h : EntOk x) (s : ByteArray) : (entT x s).size ≤ s.size + 100000 := by
  have e1 : (baL x.path).size = x.path.length := by unfold baL; simp [ByteArray.size]
  have e2 : (baL x.data).size = x.data.length := by unfold baL; simp [ByteArray.size]
  have n1 := numB_size (n := x.kind) (by have := h.2.1; omega)
  have n2 := numB_size h.2.2.1
  have n3 := numB_size (n := (baL x.data).size) (by have := h.2.2.2; omega)
  have := h.1
  have := h.2.2.2
  unfold entT
  simp only [ByteArray.size_append, bL_size, List.length_cons, List.length_nil]
  omega
theorem treeT_size {K : KQ} (he : ∀ x ∈ treeL K.σ, EntOk x) {B : Nat} (hb : (descsS K (didsL K).length).size ≤ B) : ∀ s, (treeT K s).size ≤ B + 100000 * s
  | 0 => hb
  | s + 1 => by
    have ih := treeT_size he hb s
    by_cases hs : s < (treeL K.σ).length
    · rw [treeT_succ K hs]
      have := entT_size (he _ (List.getElem_mem hs)) (treeT K s)
      exact Nat.le_trans this (Nat.le_trans (Nat.add_le_add_right ih 100000) (Nat.le_of_eq (by rw [Nat.mul_succ, Nat.add_assoc])))
    · have e : treeT K (s + 1) = treeT K s := by
        show (match (treeL K.σ)[s]? with | some x => entT x (treeT K s) | none => treeT K s) = _
        rw [List.getElem?_eq_none (by omega)]
      rw [e]
      exact Nat.le_trans ih (Nat.add_le_add_left (Nat.mul_le_mul_left _ (Nat.le_succ s)) _)
end Go.Proofs.YtdnbfhcbcdodmaaGreatDoor

/- A range over a function whose loop variable is boxed, one value a round: the frame of the body in terms of the loop's own. Conditions: the premises. -/
namespace Go.Proofs.YtdnbfhcbcdodmaaGreatDoor
open Go.RowKit

theorem rf_law3b {P : Program} {α σ : Type} {n : Nat} {g : Operand} {q : Tmp} {assign body : Code} {Q : Exit → Act → World → Prop} {a : Act} {w : World}
    (gf : Nat) (lb : Array Value) (hg : a.eval g = .func (.func gf) #[] lb) (eg : ∀ args w, (callFunc gf args).run P w = .ok (.enter gf args) w)
    (val : α → Value) (cls : α → Array Value) (ty : TypeId) (bs : Nat)
    (Step : σ → α → σ → Prop) (Fin : σ → Prop) (s0 : σ) (I : σ → (Nat → Prop) → World → Prop) (Ix : Code → (Nat → Prop) → World → Prop)
    (hI : ∀ s (A : Nat → Prop) W W', I s A W → Fr (fun k => k = w.heap.size ∨ k = w.heap.size + 1 ∨ ¬ A k) W W' → I s A W')
    (hImono : ∀ s (A A' : Nat → Prop) W, I s A W → (∀ k, A k → A' k) → I s A' W)
    (hIx : ∀ c (A : Nat → Prop) W W', Ix c A W → Fr (fun k => k = w.heap.size ∨ k = w.heap.size + 1 ∨ ¬ A k) W W' → Ix c A W')
    (hIxmono : ∀ c (A A' : Nat → Prop) W, Ix c A W → (∀ k, A k → A' k) → Ix c A' W)
    (h0 : I s0 (fun k => k < w.heap.size + 2) w)
    (hiter : ∀ (l : Nat) (J : σ → (Nat → Prop) → World → Prop) (Jx : (Nat → Prop) → World → Prop) (W : World), (∀ s A W, J s A W → I s A W) →
      (∀ s (A : Nat → Prop) W W', J s A W → Fr (fun k => ¬ A k) W W' → J s A W') → (∀ (A : Nat → Prop) W W', Jx A W → Fr (fun k => ¬ A k) W W' → Jx A W') → (∀ s A W, J s A W → ∀ k, A k → k < W.heap.size) →
      (∀ s A x s' W, Step s x s' → J s A W → YieldAt FW (n - 1 - 1) P l #[val x] W fun e W' => Fr A W W' ∧ ((e = .returned (.bool true) ∧ J s' (fun k => A k ∨ (W.heap.size ≤ k ∧ k < W'.heap.size)) W') ∨ (e = .returned (.bool false) ∧ Jx (fun k => A k ∨ (W.heap.size ≤ k ∧ k < W'.heap.size)) W'))) →
      J s0 (fun k => k < W.heap.size) W → CallsIn FW (n - 1) P gf (#[.func (.yield l) #[] #[]] ++ lb) W fun e W' => (∃ v, e = .returned v) ∧ ((∃ s A, Fin s ∧ J s A W') ∨ ∃ A, Jx A W'))
    (hassign : ∀ (l : Nat) (s : σ) (A : Nat → Prop) (x : α) (s' : σ) (W : World) (K : Act → World → Prop), Step s x s' → I s A W → w.heap.size + 2 ≤ W.heap.size → (∀ xb W', Fr (fun _ => False) W W' → w.heap.size + 2 ≤ xb → W'.heap[xb]? = some (.cells (cls x) ty (0, 0)) → K ⟨(a.tmps.setIfInBounds q (val x)).setIfInBounds bs (.pointer (some ⟨xb, 0, none⟩)), []⟩ W') →
      assign.wpIn (FW.inRound l) (n - 1 - 1) P (Exit.then K (fun _ _ _ => False)) { tmps := a.tmps.setIfInBounds q (val x), defers := [] } W)
    (hbody : ∀ (l : Nat) (s : σ) (A : Nat → Prop) (x : α) (s' : σ) (xb : Nat) (W : World), Step s x s' → I s A W → w.heap.size + 2 ≤ xb → W.heap[xb]? = some (.cells (cls x) ty (0, 0)) → w.heap.size + 2 ≤ W.heap.size → (∀ k, k < w.heap.size + 2 → A k) → (∀ k, A k → k < W.heap.size) →
      body.wpIn (FW.inRound l) (n - 1 - 1) P (rfPost3 w.heap.size A I Ix s' W) ⟨(a.tmps.setIfInBounds q (val x)).setIfInBounds bs (.pointer (some ⟨xb, 0, none⟩)), []⟩ W)
    (hdone : ∀ (s : σ) (A : Nat → Prop) (W : World), Fin s → I s A W → W.heap[w.heap.size]? = some (.deferred (some [])) → Q .normal { a with defers := { target := .collected w.heap.size, args := #[] } :: a.defers } W)
    (hstop : ∀ (c : Code) (A : Nat → Prop) (W : World), Ix c A W → W.heap[w.heap.size]? = some (.deferred (some [])) → c.wpIn FW n P Q { a with defers := { target := .collected w.heap.size, args := #[] } :: a.defers } W) :
    (Code.rangeFunc g #[q] assign body).wpIn FW n P Q a w := by
  refine rf_law3 (ps := #[q]) gf lb hg eg (fun x => #[val x]) (fun _ => rfl) Step Fin s0 I Ix hI hImono hIx hIxmono h0 hiter
    (fun x a' W' => ∃ xb : Nat, a' = ⟨(a.tmps.setIfInBounds q (val x)).setIfInBounds bs (.pointer (some ⟨xb, 0, none⟩)), []⟩ ∧ w.heap.size + 2 ≤ xb ∧ W'.heap[xb]? = some (.cells (cls x) ty (0, 0)))
    ?_ ?_ ?_ hdone hstop
  · rintro x a' X Y ⟨xb, h1, h2, h5⟩ hf
    exact ⟨xb, h1, h2, hf.get h5 (by omega)⟩
  · intro l s A x s' W K h1 h2 h3 hK
    have e : (#[q].zip #[val x]).foldl (fun t (p, v) => t.setIfInBounds p v) a.tmps = a.tmps.setIfInBounds q (val x) := by simp
    rw [e]
    exact hassign l s A x s' W K h1 h2 h3 fun xb W' h4 h5 h6 => hK _ _ h4 ⟨xb, rfl, h5, h6⟩
  · rintro l s A x s' a' W h1 h2 ⟨xb, rfl, h3, h4⟩ h5 h6 h7
    exact hbody l s A x s' xb W h1 h2 h3 h4 h5 h6 h7
end Go.Proofs.YtdnbfhcbcdodmaaGreatDoor

/- turn.Turn.lives: is there such a process? Conditions: each contract's own premises. -/
namespace Go.Proofs.YtdnbfhcbcdodmaaGreatDoor
open Go.RowKit Go.Shelf Go.Maps

attribute [local go_sem] Oper.semAt_some

theorem livesB_mem {K : KQ} {i : Nat} (h : i ∈ pidsL K) : livesB K i = !(K.proc i).ended := by
  obtain ⟨h1, h2, h3⟩ := numsL_mem.1 h
  unfold livesB
  rw [decide_eq_true (by simp only [Int.toNat_natCast]; exact ⟨by omega, by omega, h3⟩)]
  simp
def procA (K : KQ) (i : Nat) : Array Value := #[.int .i64 i, .int .i64 (K.proc i).parent, .bool (K.proc i).ended, .int .i64 (K.proc i).status]
end Go.Proofs.YtdnbfhcbcdodmaaGreatDoor

/- A range over a function with two loop variables: the first plain, the second boxed. Conditions: the premises. -/
namespace Go.Proofs.YtdnbfhcbcdodmaaGreatDoor
open Go.RowKit

theorem rf_law3c {P : Program} {α σ : Type} {n : Nat} {g : Operand} {q q2 : Tmp} {assign body : Code} {Q : Exit → Act → World → Prop} {a : Act} {w : World}
    (gf : Nat) (lb : Array Value) (hg : a.eval g = .func (.func gf) #[] lb) (eg : ∀ args w, (callFunc gf args).run P w = .ok (.enter gf args) w)
    (val val2 : α → Value) (cls : α → Array Value) (ty : TypeId) (s1 bs : Nat)
    (Step : σ → α → σ → Prop) (Fin : σ → Prop) (s0 : σ) (I : σ → (Nat → Prop) → World → Prop) (Ix : Code → (Nat → Prop) → World → Prop)
    (hI : ∀ s (A : Nat → Prop) W W', I s A W → Fr (fun k => k = w.heap.size ∨ k = w.heap.size + 1 ∨ ¬ A k) W W' → I s A W')
    (hImono : ∀ s (A A' : Nat → Prop) W, I s A W → (∀ k, A k → A' k) → I s A' W)
    (hIx : ∀ c (A : Nat → Prop) W W', Ix c A W → Fr (fun k => k = w.heap.size ∨ k = w.heap.size + 1 ∨ ¬ A k) W W' → Ix c A W')
    (hIxmono : ∀ c (A A' : Nat → Prop) W, Ix c A W → (∀ k, A k → A' k) → Ix c A' W)
    (h0 : I s0 (fun k => k < w.heap.size + 2) w)
    (hiter : ∀ (l : Nat) (J : σ → (Nat → Prop) → World → Prop) (Jx : (Nat → Prop) → World → Prop) (W : World), (∀ s A W, J s A W → I s A W) →
      (∀ s (A : Nat → Prop) W W', J s A W → Fr (fun k => ¬ A k) W W' → J s A W') → (∀ (A : Nat → Prop) W W', Jx A W → Fr (fun k => ¬ A k) W W' → Jx A W') → (∀ s A W, J s A W → ∀ k, A k → k < W.heap.size) →
      (∀ s A x s' W, Step s x s' → J s A W → YieldAt FW (n - 1 - 1) P l #[val x, val2 x] W fun e W' => Fr A W W' ∧ ((e = .returned (.bool true) ∧ J s' (fun k => A k ∨ (W.heap.size ≤ k ∧ k < W'.heap.size)) W') ∨ (e = .returned (.bool false) ∧ Jx (fun k => A k ∨ (W.heap.size ≤ k ∧ k < W'.heap.size)) W'))) →
      J s0 (fun k => k < W.heap.size) W → CallsIn FW (n - 1) P gf (#[.func (.yield l) #[] #[]] ++ lb) W fun e W' => (∃ v, e = .returned v) ∧ ((∃ s A, Fin s ∧ J s A W') ∨ ∃ A, Jx A W'))
    (hassign : ∀ (l : Nat) (s : σ) (A : Nat → Prop) (x : α) (s' : σ) (W : World) (K : Act → World → Prop), Step s x s' → I s A W → w.heap.size + 2 ≤ W.heap.size → (∀ xb W', Fr (fun _ => False) W W' → w.heap.size + 2 ≤ xb → W'.heap[xb]? = some (.cells (cls x) ty (0, 0)) → K ⟨(((a.tmps.setIfInBounds q (val x)).setIfInBounds q2 (val2 x)).setIfInBounds s1 (val x)).setIfInBounds bs (.pointer (some ⟨xb, 0, none⟩)), []⟩ W') →
      assign.wpIn (FW.inRound l) (n - 1 - 1) P (Exit.then K (fun _ _ _ => False)) { tmps := (a.tmps.setIfInBounds q (val x)).setIfInBounds q2 (val2 x), defers := [] } W)
    (hbody : ∀ (l : Nat) (s : σ) (A : Nat → Prop) (x : α) (s' : σ) (xb : Nat) (W : World), Step s x s' → I s A W → w.heap.size + 2 ≤ xb → W.heap[xb]? = some (.cells (cls x) ty (0, 0)) → w.heap.size + 2 ≤ W.heap.size → (∀ k, k < w.heap.size + 2 → A k) → (∀ k, A k → k < W.heap.size) →
      body.wpIn (FW.inRound l) (n - 1 - 1) P (rfPost3 w.heap.size A I Ix s' W) ⟨(((a.tmps.setIfInBounds q (val x)).setIfInBounds q2 (val2 x)).setIfInBounds s1 (val x)).setIfInBounds bs (.pointer (some ⟨xb, 0, none⟩)), []⟩ W)
    (hdone : ∀ (s : σ) (A : Nat → Prop) (W : World), Fin s → I s A W → W.heap[w.heap.size]? = some (.deferred (some [])) → Q .normal { a with defers := { target := .collected w.heap.size, args := #[] } :: a.defers } W)
    (hstop : ∀ (c : Code) (A : Nat → Prop) (W : World), Ix c A W → W.heap[w.heap.size]? = some (.deferred (some [])) → c.wpIn FW n P Q { a with defers := { target := .collected w.heap.size, args := #[] } :: a.defers } W) :
    (Code.rangeFunc g #[q, q2] assign body).wpIn FW n P Q a w := by
  refine rf_law3 (ps := #[q, q2]) gf lb hg eg (fun x => #[val x, val2 x]) (fun _ => rfl) Step Fin s0 I Ix hI hImono hIx hIxmono h0 hiter
    (fun x a' W' => ∃ xb : Nat, a' = ⟨(((a.tmps.setIfInBounds q (val x)).setIfInBounds q2 (val2 x)).setIfInBounds s1 (val x)).setIfInBounds bs (.pointer (some ⟨xb, 0, none⟩)), []⟩ ∧ w.heap.size + 2 ≤ xb ∧ W'.heap[xb]? = some (.cells (cls x) ty (0, 0)))
    ?_ ?_ ?_ hdone hstop
  · rintro x a' X Y ⟨xb, h1, h2, h5⟩ hf
    exact ⟨xb, h1, h2, hf.get h5 (by omega)⟩
  · intro l s A x s' W K h1 h2 h3 hK
    have e : (#[q, q2].zip #[val x, val2 x]).foldl (fun t (p, v) => t.setIfInBounds p v) a.tmps = (a.tmps.setIfInBounds q (val x)).setIfInBounds q2 (val2 x) := by simp
    rw [e]
    exact hassign l s A x s' W K h1 h2 h3 fun xb W' h4 h5 h6 => hK _ _ h4 ⟨xb, rfl, h5, h6⟩
  · rintro l s A x s' a' W h1 h2 ⟨xb, rfl, h3, h4⟩ h5 h6 h7
    exact hbody l s A x s' xb W h1 h2 h3 h4 h5 h6 h7
end Go.Proofs.YtdnbfhcbcdodmaaGreatDoor

/- A region that draws its order, in a round of a range over a function: what only reads first, then a tree of the orders that are left. Conditions: closed facts on the region, by the kernel. -/
namespace Go.Proofs.YtdnbfhcbcdodmaaGreatDoor
open Go.RowKit

section
variable {P : Program} {Q : Exit → Act → World → Prop}
theorem region_tree_R {lr nr id : Nat} {a : Act} {w : World} {l : List Oper} (S : World → Prop) (hd : List Nat) (m n : Nat) (hm : P.follows .mixedOrders = true) (hnd : noDefer l.toArray = true) (hlo : ¬ LetsOut Q) (hB : treeB l.toArray hd m n = true)
    (hQ : ∀ c a d v w, Q (.panic c) (Act.put a d v) w → Q (.panic c) a w) (hS : S w.drew)
    (h0 : wpQuiet P l.toArray S (fun a1 => treeS P l.toArray Q S n (l.length - n) (fun a2 w2 => wpList P l.toArray Q (l.drop n) a2 w2) m (listAll hd (Array.replicate l.length false)) a1 w.drew) (hd.map (fun k => l.getD k default)) a) :
    (Code.region id l.toArray true).wpIn (Fence.wide.inRound lr) nr P Q a w := by
  simp only [treeB, Bool.and_eq_true, decide_eq_true_eq, List.all_eq_true] at hB
  obtain ⟨⟨⟨⟨⟨hs, hn⟩, hc⟩, hlen⟩, hhd⟩, hlex⟩ := hB
  have hn2 : n < l.length := by simpa using hn
  have h := h0
  rw [← pickOps_map l hd (fun k hk => by have := (hhd k hk).1.1; omega)] at h
  have inv0 : MixInv l.toArray n (Array.replicate l.toArray.size false) :=
    ⟨by simp, fun j oj _ hl => (by rw [getD_replicate_false] at hl; cases hl), fun t _ ht => getD_in (by simpa using ht) (getD_replicate_false _ _)⟩
  have hg : l.length - n = (l.drop n).length := by simp
  rw [hg] at h
  refine round_any hm hnd hlo ?_
  show wpAny P .any l.toArray Q l.toArray.size _ a w.drew
  have hsz : l.toArray.size = (hd.length + m) + (l.drop n).length := by simp at hn ⊢; omega
  have key : wpAny P .any l.toArray Q ((hd.length + m) + (l.drop n).length) (Array.replicate l.toArray.size false) a w.drew := by
    refine any_of_anyT (S := S) (n := n) (L := fun listed' a' w' => Region.seqB .any l.toArray (l.drop n).length n listed' = true ∧ wpList P l.toArray Q (l.drop n) a' w') ?_ (hd.length + m) _ _ _ ?_
    · intro listed a w hL
      exact wpAny_of_seq (l.drop n) n listed a w (fun j => by simp) hL.1 hL.2
    · exact anyT_heads (d := n) hs hQ hc hn hS (fun listed a w hL => seqB_ready hL.1) hd _ a inv0 (fun k hk => by have := hhd k hk; exact ⟨this.1.1, by simpa using this.1.2, this.2⟩) hlex (fun a1 hA => hA) h
  rw [← hsz] at key
  exact key

end
end Go.Proofs.YtdnbfhcbcdodmaaGreatDoor

/- A region that draws its order, inside the wide fence: what only reads first, then a tree of the orders that are left. Conditions: closed facts on the region, by the kernel. -/
namespace Go.Proofs.YtdnbfhcbcdodmaaGreatDoor
open Go.RowKit

theorem wpInW_of_wp_op {P : Program} {o : Oper} {a : Act} {w : World} {K : Act → World → Prop} {Q : Exit → Act → World → Prop} (n : Nat) (hd : ∀ c, o.op ≠ .defer c) (h : o.wp P a w K Q) :
    o.wpIn FW n P a w K Q := by
  refine ⟨fun _ _ => trivial, ?_⟩
  rw [Oper.semAt_eq _ _ _ hd]
  unfold Oper.wp at h
  generalize (execOp a.eval o).run P w = r at *
  cases r with
  | ok x w' =>
    cases x <;> simp only [Oper.upon] at h <;> simp only [Oper.uponIn] <;>
      first
        | exact h
        | exact h.elim
        | skip
    case enter f args =>
      exact ⟨fun h0 => (by cases h0), (callsIn_wide.2 (h.mono fun e w' he => by cases e <;> exact he))⟩
    case row row args =>
      refine ⟨fun h0 => (by cases h0), fun c cs _ => ?_⟩
      obtain ⟨v, w2, hR, hs⟩ := h c cs
      exact ⟨v, w2, hR, stepsIn_wide.2 hs⟩
  | halt x w' => cases x <;> simp only [Oper.upon] at h <;> simp only [Oper.uponIn] <;> exact h

theorem wpInW_of_wpOp {P : Program} {ops : Array Oper} {i : Nat} {a : Act} {w : World} {K : Act → World → Prop} {Q : Exit → Act → World → Prop} (n : Nat) (hd : ∀ o ∈ ops, ∀ c, o.op ≠ .defer c) (hlo : ¬ LetsOut Q) (h : wpOp P ops Q i K a w) :
    wpOpIn FW n P ops Q i K a w := by
  unfold wpOp at h
  unfold wpOpIn
  split
  · rename_i ho; simpa [ho] using h
  · rename_i o ho
    simp only [ho] at h
    split
    · rename_i hw
      rw [if_pos hw] at h
      rcases h with h | h
      · exact wpInW_of_wp_op n (hd o (Array.mem_of_getElem? ho)) h
      · exact absurd h.2 hlo
    · rename_i hw
      rw [if_neg hw] at h
      exact ⟨fun _ _ => trivial, h⟩
theorem wpInW_of_wpAny {P : Program} {ops : Array Oper} {md : Region.Mode} {Q : Exit → Act → World → Prop} (n : Nat) (hd : ∀ o ∈ ops, ∀ c, o.op ≠ .defer c) (hlo : ¬ LetsOut Q) :
    ∀ (f : Nat) (listed : Array Bool) (a : Act) (w : World), wpAny P md ops Q f listed a w → wpAnyIn FW n P md ops Q f listed a w
  | 0, _, _, _, h => h
  | f + 1, _, _, _, h => ⟨h.1, fun i hi => wpOpIn_mono (fun a' w' h' => wpInW_of_wpAny n hd hlo f _ a' w' h') (wpInW_of_wpOp n hd hlo (h.2 i hi))⟩
/-- A region that draws its order, in the wide fence. -/
theorem wide_any_all {P : Program} {id : Nat} {a : Act} {w : World} {ops : Array Oper} {Q : Exit → Act → World → Prop} {n : Nat} (hm : P.follows .mixedOrders = true) (hd : noDefer ops = true) (hlo : ¬ LetsOut Q)
    (h : wpAny P .any ops Q ops.size (Array.replicate ops.size false) a w.drew) : (Code.region id ops true).wpIn FW n P Q a w :=
  wpIn_region_any hm (wpInW_of_wpAny n (noDefer_spec hd) hlo _ _ _ _ h)
section
variable {P : Program} {Q : Exit → Act → World → Prop}
theorem region_tree_W {nr id : Nat} {a : Act} {w : World} {l : List Oper} (S : World → Prop) (hd : List Nat) (m n : Nat) (hm : P.follows .mixedOrders = true) (hnd : noDefer l.toArray = true) (hlo : ¬ LetsOut Q) (hB : treeB l.toArray hd m n = true)
    (hQ : ∀ c a d v w, Q (.panic c) (Act.put a d v) w → Q (.panic c) a w) (hS : S w.drew)
    (h0 : wpQuiet P l.toArray S (fun a1 => treeS P l.toArray Q S n (l.length - n) (fun a2 w2 => wpList P l.toArray Q (l.drop n) a2 w2) m (listAll hd (Array.replicate l.length false)) a1 w.drew) (hd.map (fun k => l.getD k default)) a) :
    (Code.region id l.toArray true).wpIn FW nr P Q a w := by
  simp only [treeB, Bool.and_eq_true, decide_eq_true_eq, List.all_eq_true] at hB
  obtain ⟨⟨⟨⟨⟨hs, hn⟩, hc⟩, hlen⟩, hhd⟩, hlex⟩ := hB
  have hn2 : n < l.length := by simpa using hn
  have h := h0
  rw [← pickOps_map l hd (fun k hk => by have := (hhd k hk).1.1; omega)] at h
  have inv0 : MixInv l.toArray n (Array.replicate l.toArray.size false) :=
    ⟨by simp, fun j oj _ hl => (by rw [getD_replicate_false] at hl; cases hl), fun t _ ht => getD_in (by simpa using ht) (getD_replicate_false _ _)⟩
  have hg : l.length - n = (l.drop n).length := by simp
  rw [hg] at h
  refine wide_any_all hm hnd hlo ?_
  show wpAny P .any l.toArray Q l.toArray.size _ a w.drew
  have hsz : l.toArray.size = (hd.length + m) + (l.drop n).length := by simp at hn ⊢; omega
  have key : wpAny P .any l.toArray Q ((hd.length + m) + (l.drop n).length) (Array.replicate l.toArray.size false) a w.drew := by
    refine any_of_anyT (S := S) (n := n) (L := fun listed' a' w' => Region.seqB .any l.toArray (l.drop n).length n listed' = true ∧ wpList P l.toArray Q (l.drop n) a' w') ?_ (hd.length + m) _ _ _ ?_
    · intro listed a w hL
      exact wpAny_of_seq (l.drop n) n listed a w (fun j => by simp) hL.1 hL.2
    · exact anyT_heads (d := n) hs hQ hc hn hS (fun listed a w hL => seqB_ready hL.1) hd _ a inv0 (fun k hk => by have := hhd k hk; exact ⟨this.1.1, by simpa using this.1.2, this.2⟩) hlex (fun a1 hA => hA) h
  rw [← hsz] at key
  exact key

end
end Go.Proofs.YtdnbfhcbcdodmaaGreatDoor

/- The memory of shyardlaw12.told between its rounds. Conditions: each law's own premises. -/
namespace Go.Proofs.YtdnbfhcbcdodmaaGreatDoor
open Go.RowKit

def kbT (k : Nat) : Obj := .cells #[.pointer (some ⟨k, 0, none⟩)] 24 (0, 0)
def descT (K : KQ) (i : Nat) : Array Value := #[.int .i64 (K.desc i).kind, .int .i64 (K.desc i).n, .int .i64 (K.desc i).pos, .int .i64 (K.desc i).refs]
theorem lz1 (a : UInt8) : (⟨#[a]⟩ : ByteArray).size = 1 := rfl
theorem lz2 (a b : UInt8) : (⟨#[a, b]⟩ : ByteArray).size = 2 := rfl
theorem lz4 (a b c d : UInt8) : (⟨#[a, b, c, d]⟩ : ByteArray).size = 4 := rfl
/-- kb: the kernel's box; sb: the text's; bx: the iterator's; ds: what has been deferred. -/
structure ToI (w : World) (k sb bx : Nat) (ds : List Nat) (s : ByteArray) (W : World) : Prop where
  kb : W.heap[w.heap.size]? = some (kbT k)
  sc : W.heap[sb]? = some (.cells #[.string s] 9 (0, 0))
  bx : W.heap[bx]? = some (kbT k)
  dd : ∀ b ∈ ds, W.heap[b]? = some (.deferred (some []))
  fr : Fr (fun _ => False) w W
/-- Where these lie. -/
structure ToZ (w : World) (sb bx : Nat) (ds : List Nat) (z : Nat) : Prop where
  k : w.heap.size < z
  s : w.heap.size < sb ∧ sb < z
  b : sb ≠ bx ∧ bx < z
  d : ∀ b ∈ ds, b < z ∧ b ≠ sb
def ToJ {α : Type} (w : World) (k sb bx : Nat) (ds : List Nat) (z : Nat) (l : List α) (f : Nat → ByteArray) (s : Nat) (A : Nat → Prop) (W : World) : Prop := (∀ b, b < z + 2 → A b) ∧ s ≤ l.length ∧ ToI w k sb bx ds (f s) W
section
variable {w W W' : World} {k sb bx z : Nat} {ds : List Nat} {s s' : ByteArray}
theorem ToI.frame {S : Nat → Prop} (h : ToI w k sb bx ds s W) (hz : ToZ w sb bx ds z) (hf : Fr S W W') (hS : ∀ b, b < z → ¬ S b) : ToI w k sb bx ds s W' := by
  have z1 := hz.k
  have z2 := hz.s
  have z3 := hz.b
  exact ⟨hf.get h.kb (hS _ (by omega)), hf.get h.sc (hS _ (by omega)), hf.get h.bx (hS _ (by omega)), fun b hb => hf.get (h.dd b hb) (hS _ (hz.d b hb).1), h.fr.trans' hf fun b hb e => hS b (by omega) e⟩
theorem ToI.put (h : ToI w k sb bx ds s W) (hz : ToZ w sb bx ds z) (s' : ByteArray) : ToI w k sb bx ds s' (W.setCell ⟨sb, 0, none⟩ (.string s')) := by
  have z1 := hz.k
  have z2 := hz.s
  have z3 := hz.b
  have hf := frSet W sb 0 (.string s')
  exact ⟨hf.get h.kb (by omega), by rw [blk_set h.sc]; rfl, hf.get h.bx (by omega), fun b hb => hf.get (h.dd b hb) (hz.d b hb).2, h.fr.trans' hf fun b hb e => by omega⟩
/-- A round ends. -/
theorem ToI.out {α : Type} {l : List α} {f : Nat → ByteArray} {n D : Nat} {A : Nat → Prop} (h : ToI w k sb bx ds s W') (hz : ToZ w sb bx ds z) (hs : s = f n) (hn : n ≤ l.length) (hA : ∀ b, b < z + 2 → A b) (hD : sb < D ∧ D + 2 ≤ W.heap.size) (hf : Fr (fun b => b = sb) W W') (a : Act) :
    rfPost3 D A (ToJ w k sb bx ds z l f) (fun _ _ _ => False) n W .normal a W' :=
  ⟨⟨hf.block _ (by omega) (by omega), hf.block _ (by omega) (by omega)⟩, hf.mono (fun b _ e => e ▸ hA _ (by have := hz.s.2; omega)), fun b hb => .inl (hA b hb), hn, hs ▸ h⟩
theorem ToJ.frame {α : Type} {l : List α} {f : Nat → ByteArray} {n : Nat} {A : Nat → Prop} (h : ToJ w k sb bx ds z l f n A W) (hz : ToZ w sb bx ds z) (hf : Fr (fun b => b = z ∨ b = z + 1 ∨ ¬ A b) W W') : ToJ w k sb bx ds z l f n A W' :=
  ⟨h.1, h.2.1, h.2.2.frame hz hf fun b hb e => by
    rcases e with e | e | e
    · omega
    · omega
    · exact e (h.1 b (by omega))⟩
theorem ToJ.mono {α : Type} {l : List α} {f : Nat → ByteArray} {n : Nat} {A A' : Nat → Prop} (h : ToJ w k sb bx ds z l f n A W) (hA : ∀ b, A b → A' b) : ToJ w k sb bx ds z l f n A' W := ⟨fun b hb => hA b (h.1 b hb), h.2⟩
end
end Go.Proofs.YtdnbfhcbcdodmaaGreatDoor

/- gate.Kernel.Output, Typed, Files; Table and Typed of no kernel. Conditions: each contract's own premises. -/
namespace Go.Proofs.YtdnbfhcbcdodmaaGreatDoor
open Go.RowKit

attribute [local go_sem] Oper.semAt_some

set_option maxRecDepth 100000 in
theorem kout_1 (w : World) (k : Nat) (K : KQ) (L : KLay) (h : KF w k K L) : Calls Tryz.prog 19 #[ptrAt k, .int .i64 1] w fun e w' => e = .returned (.string (K.out 1)) ∧ w' = w := by
  have c : w.cell? ⟨k, 10, none⟩ = some (.string (K.out 1)) := by rw [blk_cell h.hk]; rfl
  generalize K.out 1 = s at *
  clear h
  unfold ptrAt
  go_enter Tryz.func19, Tryz.ntmps19
  go_wp2_with fail
  go_ret
  exact ⟨rfl, rfl⟩
set_option maxRecDepth 100000 in
theorem kout_2 (w : World) (k : Nat) (K : KQ) (L : KLay) (h : KF w k K L) : Calls Tryz.prog 19 #[ptrAt k, .int .i64 2] w fun e w' => e = .returned (.string (K.out 2)) ∧ w' = w := by
  have c : w.cell? ⟨k, 11, none⟩ = some (.string (K.out 2)) := by rw [blk_cell h.hk]; rfl
  generalize K.out 2 = s at *
  clear h
  unfold ptrAt
  go_enter Tryz.func19, Tryz.ntmps19
  go_wp2_with fail
  go_ret
  exact ⟨rfl, rfl⟩
set_option maxRecDepth 100000 in
theorem ktyped_any (w : World) (k : Nat) (K : KQ) (L : KLay) (h : KF w k K L) : Calls Tryz.prog 20 #[ptrAt k] w fun e w' => e = .returned (.int .i64 K.typed.size) ∧ w' = w := by
  have c : w.cell? ⟨k, 7, none⟩ = some (.string K.typed) := by rw [blk_cell h.hk]; rfl
  generalize K.typed = s at *
  clear h
  unfold ptrAt
  go_enter Tryz.func20, Tryz.ntmps20
  go_wp2_with fail
  go_ret
  exact ⟨rfl, rfl⟩
set_option maxRecDepth 100000 in
theorem kfiles_any (w : World) (k : Nat) (K : KQ) (L : KLay) (h : KF w k K L) : Calls Tryz.prog 15 #[ptrAt k] w fun e w' => e = .returned (ptrAt L.f) ∧ w' = w := by
  have c : w.cell? ⟨k, 0, none⟩ = some (.pointer (some ⟨L.f, 0, none⟩)) := by rw [blk_cell h.hk]; rfl
  clear h
  unfold ptrAt
  go_enter Tryz.func15, Tryz.ntmps15
  go_wp2_with fail
  go_ret
  exact ⟨rfl, rfl⟩
theorem typed_nil (w : World) : Calls Tryz.prog 20 #[.pointer none] w fun e w' => e = .returned (.int .i64 0) ∧ w' = w := by
  go_enter Tryz.func20, Tryz.ntmps20
  go_wp2
  go_ret
  exact ⟨rfl, rfl⟩
end Go.Proofs.YtdnbfhcbcdodmaaGreatDoor
