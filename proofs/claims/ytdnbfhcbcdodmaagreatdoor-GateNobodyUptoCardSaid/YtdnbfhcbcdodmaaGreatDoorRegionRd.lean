/- slices.Repeat of one number, as gate.Kernel.Table calls it. Conditions: the contract's own premises. -/
import Derived.Test.YtdnbfhcbcdodmaaGreatDoorKerMid
import Derived.Laws.CopyRow
import Derived.Test.YtdnbfhcbcdodmaaGreatDoorKerF
import Derived.Test.YtdnbfhcbcdodmaaGreatDoorStrs
import Derived.Deep.RegionHeld3
import Derived.Deep.Cut
import Derived.Laws.Rows
import Derived.Laws.PanicsMore
import Derived.Test.YtdnbfhcbcdodmaaGreatDoorRegionIn
namespace Go.Proofs.YtdnbfhcbcdodmaaGreatDoor
open Go.RowKit

attribute [local go_sem] Oper.semAt_some

set_option maxRecDepth 100000 in
set_option maxHeartbeats 1000000 in
theorem mul64_32 (w : World) : Calls Tryz.prog 115 #[.int .u64 1, .int .u64 32] w fun e w' => e = .returned (.tuple #[.int .u64 0, .int .u64 32]) ∧ Fr (fun _ => False) w w' := by
  have g1 : bits .and .u64 1 4294967295 = 1 := by decide +kernel
  have g2 : bits .and .u64 32 4294967295 = 32 := by decide +kernel
  have g3 : bits .and .u64 0 4294967295 = 0 := by decide +kernel
  go_enter Tryz.func115, Tryz.ntmps115
  go_wp2_with fail
  go_returns
  exact ⟨rfl, Fr.refl _ _⟩
set_option maxRecDepth 100000 in
set_option maxHeartbeats 1000000 in
theorem mul_32 (w : World) : Calls Tryz.prog 64 #[.int .u64 1, .int .u64 32] w fun e w' => e = .returned (.tuple #[.int .u64 0, .int .u64 32]) ∧ Fr (fun _ => False) w w' := by
  have hm := hide (mul64_32 w)
  go_enter Tryz.func64, Tryz.ntmps64
  go_wp2_with fail
  refine hm.out.mono ?_
  rintro e w1 ⟨rfl, hf1⟩
  go_wp2_with fail
  go_returns
  exact ⟨rfl, hf1⟩
def neg1 : Value := .int .i64 (-1)
def repC (n : Nat) : Array Value := (List.replicate n neg1 ++ List.replicate (32 - n) (Value.int .i64 0)).toArray
theorem repC_size {n : Nat} (h : n ≤ 32) : (repC n).size = 32 := by unfold repC; simp; omega
theorem repC_get {n j : Nat} (h : j < n) : (repC n)[j]? = some neg1 := by
  unfold repC
  rw [List.getElem?_toArray, List.getElem?_append_left (by simpa using h), List.getElem?_replicate, if_pos h]
theorem repC_more {n m : Nat} (h : n + m ≤ 32) : ((repC n).toList.take n ++ List.replicate m neg1 ++ (repC n).toList.drop (n + m)).toArray = repC (n + m) := by
  unfold repC
  congr 1
  rw [List.toList_toArray, List.take_left' (by simp), List.drop_append, List.drop_of_length_le (by simp), List.length_replicate, List.nil_append, List.drop_replicate, ← List.replicate_append_replicate]
  congr 2
  omega
theorem copy_rep {W : World} {b n m dLen dCap sLen sCap : Nat} {a : Addr} (hb : W.heap[b]? = some (.cells (repC n) 3 (0, 0))) (h : n + m ≤ 32) (hm : m = Nat.min sLen dLen) (hs : ∀ j, j < m → W.cell? (a.add j) = some neg1) (ty : TypeId) :
    (Builtin.copy_ #[41, 41] ty #[.slice (some ⟨b, n, none⟩) dLen dCap, .slice (some a) sLen sCap]).run Tryz.prog W = .ok (.int .i64 m) (W.setRow b (repC (n + m))) := by
  have := run_copy_row (P := Tryz.prog) W 41 41 ty 3 b n dLen dCap a sLen sCap (repC n) 3 (List.replicate m neg1) Tryz.underlying41 (by kernel_rfl) hb (by simpa using hm)
    (fun j v e => by
      rw [List.getElem?_replicate] at e
      split at e
      · cases e; rename_i h1; exact hs j h1
      · cases e) (by rw [repC_size (by omega)]; simp; omega) (fun v e => by rw [List.eq_of_mem_replicate e]; rfl)
  rw [List.length_replicate, repC_more h] at this
  exact this
theorem addr_add (b j : Nat) : (⟨b, 0, none⟩ : Addr).add j = ⟨b, j, none⟩ := by
  unfold Addr.add
  split <;> simp_all
theorem cut_lI {g n cap a : Nat} (ha : a < n) (hn : n ≤ cap) : ∀ w', (Instr.sliceAt 41 (.slice (some ⟨g, 0, none⟩) n cap) (some (.int .i64 a)) none none).run Tryz.prog w' = .ok (.slice (some ⟨g, a, none⟩) (n - a) (cap - a)) w' := by
  intro w'
  have hsz : ∀ w', (sizeOf 3).run Tryz.prog w' = .ok 1 w' := fun w' => by kernel_rfl
  have he : Tryz.prog.elem 41 = 3 := by kernel_rfl
  have ht : Tryz.prog.underlying 41 = some (.slice (Tryz.prog.elem 41)) := by kernel_rfl
  rw [run_sliceAt_slice (h := ht), run_slice_l (ht := ht) (h0 := by omega) (h1 := by omega), he, hsz]
  have e2 : ((a : Int)).toNat = a := by omega
  simp only [Result.andThen_ok, sliced, e2, Nat.mul_one, Option.map_some]
  rw [if_neg (by omega)]
  have hadd : (⟨g, 0, none⟩ : Addr).add a = ⟨g, a, none⟩ := by unfold Addr.add; split <;> simp_all
  rw [hadd]
theorem cut_hI {a : Option Addr} {n cap k : Nat} (hk : k ≤ n) (hn : n ≤ cap) : ∀ w', (Instr.sliceAt 41 (.slice a n cap) none (some (.int .i64 k)) none).run Tryz.prog w' = .ok (.slice a k cap) w' := by
  intro w'
  have hsz : ∀ w', (sizeOf 3).run Tryz.prog w' = .ok 1 w' := fun w' => by kernel_rfl
  have he : Tryz.prog.elem 41 = 3 := by kernel_rfl
  have ht : Tryz.prog.underlying 41 = some (.slice (Tryz.prog.elem 41)) := by rw [he]; exact Tryz.underlying41
  rw [run_sliceAt_slice (h := ht), run_slice_h (ht := ht) (h0 := by omega) (h2 := by omega), he, hsz]
  cases a <;> simp [sliced, Addr.add]
def RepRel (w : World) (b : Nat) (i : Value) (wr : World) : Prop :=
  ∃ n : Nat, i = .int .i64 n ∧ (n = 1 ∨ n = 2 ∨ n = 4 ∨ n = 8 ∨ n = 16 ∨ n = 32) ∧ wr.heap[b]? = some (.cells (repC n) 3 (0, 0)) ∧ Fr (fun _ => False) w wr
set_option maxRecDepth 100000 in
set_option maxHeartbeats 1000000 in
theorem rep_any (w : World) (g : Nat) (hg : w.cell? ⟨g, 0, none⟩ = some neg1) : Calls Tryz.prog 31 #[.slice (some ⟨g, 0, none⟩) 1 1, .int .i64 32] w fun e w' => ∃ b, e = .returned (.slice (some ⟨b, 0, none⟩) 32 32) ∧ w.heap.size ≤ b ∧ w'.heap[b]? = some (.cells (repC 32) 3 (0, 0)) ∧ Fr (fun _ => False) w w' := by
  have hm := hide (mul_32 w)
  have hmk : ∀ w : World, (Instr.makeSlice 41 (.int .i64 32) (.int .i64 32)).run Tryz.prog w = .ok (.slice (some ⟨w.heap.size, 0, none⟩) 32 32) (w.alloc (.cells (madeCells #[.int .i64 0] 32) 3)) := fun w => run_make_row' (P := Tryz.prog) 41 3 (.int .i64 0) 8 Tryz.underlying41 (by kernel_rfl) rfl .i64 .i64 32 (by omega) (by omega) w
  go_enter Tryz.func31, Tryz.ntmps31
  go_wp2_with fail
  refine hm.out.mono ?_
  rintro e w1 ⟨rfl, hf1⟩
  obtain ⟨W2, hW2⟩ : ∃ W2, W2 = w1.alloc (.cells (madeCells #[.int .i64 0] 32) 3) := ⟨_, rfl⟩
  have b2 : W2.heap[w1.heap.size]? = some (.cells (repC 0) 3 (0, 0)) := by
    rw [hW2, show repC 0 = madeCells #[.int .i64 0] 32 by kernel_rfl]
    exact blk_new _ _
  have hg2 : W2.cell? ⟨g, 0, none⟩ = some neg1 := by
    rw [World.cell?_of_block (w := w) ((hf1.trans (show Fr (fun _ => False) w1 W2 by rw [hW2]; exact (Fr.refl _ _).alloc _)).block _ (World.block_lt_of_cell? _ _ hg) (fun h => h))]
    exact hg
  have hc0 : ∀ ty, (Builtin.copy_ #[41, 41] ty #[.slice (some ⟨w1.heap.size, 0, none⟩) 32 32, .slice (some ⟨g, 0, none⟩) 1 1]).run Tryz.prog W2 = .ok (.int .i64 1) (W2.setRow w1.heap.size (repC 1)) := fun ty =>
    copy_rep (n := 0) (m := 1) b2 (by decide) rfl (fun j hj => by rw [addr_add, show j = 0 by omega]; exact hg2) ty
  have hfw := hf1.size
  have h1r : RepRel w w1.heap.size (.int .i64 1) (W2.setRow w1.heap.size (repC 1)) := ⟨1, rfl, .inl rfl, setRow_heap _ _ _ _ _ _ b2, (hf1.trans (show Fr (fun _ => False) w1 W2 by rw [hW2]; exact (Fr.refl _ _).alloc _)).trans' (setRow_fr W2 _ _ _ _ b2 (fun b => w.heap.size ≤ b) hfw) (fun i hi e => by omega)⟩
  have H1r := hide h1r
  have HW2 := hide hW2
  rw [hW2] at hc0
  clear h1r b2 hg2 hf1 hm hW2
  go_wp2_with fail
  rw [← HW2.out]
  go_loopg [8] 32 (fun gk i wr => ∃ n : Nat, gk + n = 33 ∧ i = .int .i64 n ∧ (n = 1 ∨ n = 2 ∨ n = 4 ∨ n = 8 ∨ n = 16 ∨ n = 32) ∧ wr.heap[w1.heap.size]? = some (.cells (repC n) 3 (0, 0)) ∧ Fr (fun _ => False) w wr)
  case atStart =>
    obtain ⟨n, e, r⟩ := H1r.out
    cases e
    exact ⟨1, rfl, rfl, r⟩
  case round =>
    clear hc0 H1r hmk hg HW2
    obtain ⟨n, hgk, rfl, hn, hb, hfr⟩ := hrel
    by_cases hn32 : n = 32
    · subst hn32
      have hl := hide hb
      have hl2 := hide hfr
      clear hb hfr hn hgk
      go_wp2_with fail
      go_returns
      exact ⟨_, rfl, hfw, hl.out, hl2.out⟩
    · have hn16 : n ≤ 16 := by omega
      have hn1 : 1 ≤ n := by omega
      have hcp : ∀ ty, (Builtin.copy_ #[41, 41] ty #[.slice (some ⟨w1.heap.size, n, none⟩) (32 - n) (32 - n), .slice (some ⟨w1.heap.size, 0, none⟩) n 32]).run Tryz.prog wr.drew = .ok (.int .i64 n) (wr.drew.setRow w1.heap.size (repC (n + n))) := fun ty =>
        copy_rep (blk_drew hb) (by omega) (by show n = min n (32 - n); omega) (fun j hj => by rw [addr_add, blk_cell (blk_drew hb)]; exact repC_get hj) ty
      have hfin : ∃ n' : Nat, (33 - (n + n)) + n' = 33 ∧ (.int .i64 ((n : Int) + n) : Value) = .int .i64 n' ∧ (n' = 1 ∨ n' = 2 ∨ n' = 4 ∨ n' = 8 ∨ n' = 16 ∨ n' = 32) ∧ (wr.drew.setRow w1.heap.size (repC (n + n))).heap[w1.heap.size]? = some (.cells (repC n') 3 (0, 0)) ∧ Fr (fun _ => False) w (wr.drew.setRow w1.heap.size (repC (n + n))) :=
        ⟨n + n, by omega, by rw [Int.natCast_add], by omega, setRow_heap _ _ _ _ _ _ (blk_drew hb), hfr.drew.trans' (setRow_fr wr.drew _ _ _ _ (blk_drew hb) (fun b => w.heap.size ≤ b) hfw) (fun i hi e => by omega)⟩
      have Hfin := hide hfin
      have hs1 := cut_lI (g := w1.heap.size) (n := 32) (cap := 32) (a := n) (by omega) (by omega)
      have hs2 := cut_hI (a := some ⟨w1.heap.size, 0, none⟩) (n := 32) (cap := 32) (k := n) (by omega) (by omega)
      have hlt : (n : Int) < 32 := by omega
      clear hb hfr hn hfin
      go_upto_region 9 with (fail)
      refine region_tree (fun _ => True) [0, 1, 2, 3, 4, 5, 6] 1 8 (by kernel_rfl) (by kernel_rfl) (fun _ _ d _ _ h => by cases d <;> exact h) trivial ?_
      simp only [List.map_cons, List.map_nil, List.getD_cons_zero, List.getD_cons_succ, List.drop_succ_cons, List.drop_zero]
      repeat go_big_quiet_step (fail)
      refine wpQuiet_nil ?_
      refine tree_one' 7 (by kernel_rfl) (by decide) (by simp) rfl (fun Kc hK => ?_)
      simp only [List.getD_cons_zero, List.getD_cons_succ]
      go_wp2_with fail
      refine hK _ _ trivial ?_
      refine tree_end (by kernel_rfl) ?_
      go_wp2_with fail
      go_roundg (33 - (n + n))
      case rel => exact Hfin.out
      case measure => omega
end Go.Proofs.YtdnbfhcbcdodmaaGreatDoor

/- Forking, as plain data. No program in sight; no condition. -/
namespace Go.Proofs.YtdnbfhcbcdodmaaGreatDoor
open Go.RowKit

/-- A description is named once more. -/
def refQ (K : KQ) (o : Option (Nat × Bool)) : KQ := match o with | none => K | some (j, _) => K.setD j { K.desc j with refs := (K.desc j).refs + 1 }
def refsQ (K : KQ) (t : TSt) : Nat → KQ
  | 0 => K
  | n + 1 => refQ (refsQ K t n) (t n)
def procsN (K : KQ) : Nat := (regL (fun i => (K.proc i).inn) (fun _ => ()) K.qn).length
/-- What a fork makes. -/
def forkK (K : KQ) (i : Nat) : KQ := ({ refsQ K (K.proc i).fds 32 with σ := (holdR K.σ (K.proc i).dir).2 }).addQ { K.proc i with parent := i, inn := true }
/-- SysFork: the answer, the kernel. -/
def forkQ (K : KQ) (i : Nat) : ResQ × KQ := if 24 ≤ procsN K then (errR 11, K) else ({ noRes with n := (K.qn : Int) + 1 }, forkK K i)
theorem regL_len_any {α β : Type} (inn : Nat → Bool) (v : Nat → α) (u : Nat → β) : ∀ n, (regL inn v n).length = (regL inn u n).length
  | 0 => rfl
  | n + 1 => by
    rw [regL, regL, List.length_append, List.length_append, regL_len_any inn v u n]
    split <;> rfl
theorem refQ_none (K : KQ) : refQ K none = K := rfl
theorem refQ_some (K : KQ) (j : Nat) (x : Bool) : refQ K (some (j, x)) = K.setD j { K.desc j with refs := (K.desc j).refs + 1 } := rfl
structure RefEq (K K' : KQ) (n : Nat) : Prop where
  σ : K'.σ = K.σ
  pn : K'.pn = K.pn
  pipe : K'.pipe = K.pipe
  dn : K'.dn = K.dn
  qn : K'.qn = K.qn
  proc : K'.proc = K.proc
  typed : K'.typed = K.typed
  closed : K'.closed = K.closed
  out : K'.out = K.out
  desc : ∀ j, ∃ r : Int, (K.desc j).refs ≤ r ∧ r ≤ (K.desc j).refs + n ∧ K'.desc j = { K.desc j with refs := r }
theorem RefEq.refl (K : KQ) : RefEq K K 0 := ⟨rfl, rfl, rfl, rfl, rfl, rfl, rfl, rfl, rfl, fun j => ⟨(K.desc j).refs, Int.le_refl _, by omega, rfl⟩⟩
theorem refQ_eq {K K' : KQ} {n : Nat} (h : RefEq K K' n) (o : Option (Nat × Bool)) : RefEq K (refQ K' o) (n + 1) := by
  cases o with
  | none => exact ⟨h.σ, h.pn, h.pipe, h.dn, h.qn, h.proc, h.typed, h.closed, h.out, fun j => by obtain ⟨r, a, b, c⟩ := h.desc j; exact ⟨r, a, by omega, c⟩⟩
  | some p =>
    obtain ⟨d, x⟩ := p
    refine ⟨h.σ, h.pn, h.pipe, h.dn, h.qn, h.proc, h.typed, h.closed, h.out, fun j => ?_⟩
    obtain ⟨r, a, b, c⟩ := h.desc j
    by_cases e : j = d
    · refine ⟨r + 1, by omega, by omega, ?_⟩
      show (if j = d then { K'.desc d with refs := (K'.desc d).refs + 1 } else K'.desc j) = _
      rw [if_pos e, ← e, c]
    · refine ⟨r, a, by omega, ?_⟩
      show (if j = d then { K'.desc d with refs := (K'.desc d).refs + 1 } else K'.desc j) = _
      rw [if_neg e, c]
theorem refsQ_eq (K : KQ) (t : TSt) : ∀ n, RefEq K (refsQ K t n) n
  | 0 => .refl K
  | n + 1 => refQ_eq (refsQ_eq K t n) (t n)
theorem refsQ_skip {K : KQ} {t : TSt} {a : Nat} : ∀ (n : Nat), (∀ j, a ≤ j → j < a + n → t j = none) → refsQ K t (a + n) = refsQ K t a
  | 0, _ => rfl
  | n + 1, h => by
    rw [show a + (n + 1) = (a + n) + 1 by omega, refsQ, h (a + n) (by omega) (by omega), refQ_none, refsQ_skip n fun j h1 h2 => h j h1 (by omega)]
theorem refsQ_end {K : KQ} {t : TSt} {a b : Nat} (hab : a ≤ b) (h : ∀ j, a ≤ j → j < b → t j = none) : refsQ K t b = refsQ K t a := by
  have := refsQ_skip (K := K) (t := t) (a := a) (b - a) (fun j h1 h2 => h j h1 (by omega))
  rwa [show a + (b - a) = b by omega] at this
theorem refsQ_step {K : KQ} {t : TSt} {a b : Nat} (hab : a ≤ b) (h : ∀ j, a ≤ j → j < b → t j = none) : refsQ K t (b + 1) = refQ (refsQ K t a) (t b) := by
  rw [refsQ, refsQ_end hab h]
end Go.Proofs.YtdnbfhcbcdodmaaGreatDoor

/- From a function that answers an error to the answer of the call. Conditions: each law's own premises. -/
namespace Go.Proofs.YtdnbfhcbcdodmaaGreatDoor
open Go.RowKit

def ErrR (w : World) (k : Nat) (K : KQ) (L : KLay) (i a : Nat) (c : SysQ) (R : ResQ × KQ) (x : Int) (w' : World) : Prop :=
  x = R.1.err ∧ ∃ L' r, KIn w k K L i a c w' R.2 L' r ∧ { r with err := R.1.err } = resV R.1
section
variable {w : World} {k : Nat} {K : KQ} {L : KLay} {i a : Nat} {c : SysQ} {R : ResQ × KQ}
theorem KErrPost.errR {e : Ending} {w' : World} (h : KErrPost w k K L i a c R e w') : ∃ x, e = .returned (.int .i64 x) ∧ ErrR w k K L i a c R x w' := ⟨_, h.1, rfl, h.2⟩
theorem ErrR.ask (x : Int) (w' : World) (h : ErrR w k K L i a c R x w') : ∃ r', AskAt w' a k (L.qb i) c r' := by
  obtain ⟨_, _, r, h, _⟩ := h
  exact ⟨r, h.A⟩
theorem ErrR.post {x : Int} {w2 : World} (h : ErrR w k K L i a c R x w2) : KaskPost w k K L i a c (false, R) (.returned (.bool false)) (w2.setCell ⟨a, 17, none⟩ (.int .i64 x)) := by
  obtain ⟨rfl, L', r, h, hr⟩ := h
  exact (h.err _).post rfl fun _ => hr
theorem err_done (h : Calls Tryz.prog 27 #[ptrAt a] w fun e w' => e = .returned (.bool false) ∧ ∃ x w2, ErrR w k K L i a c R x w2 ∧ w' = w2.setCell ⟨a, 17, none⟩ (.int .i64 x)) : Calls Tryz.prog 27 #[ptrAt a] w (KaskPost w k K L i a c (false, R)) :=
  h.mono fun _ _ ⟨e1, x, w2, e2, e3⟩ => by rw [e1, e3]; exact e2.post
end
end Go.Proofs.YtdnbfhcbcdodmaaGreatDoor

/- What a kernel's data keep, part by part. No program in sight; each law's own premises. -/
namespace Go.Proofs.YtdnbfhcbcdodmaaGreatDoor
open Go.RowKit

section
variable {K K' : KQ} {N M : Nat}
theorem DescOk.mono {d : DescQ} (h : DescOk K N d) (hp : K.pn ≤ K'.pn) (hN : N ≤ M) : DescOk K' M d :=
  ⟨h.kind, h.con, h.txt, fun e => ⟨(h.pip e).1, Nat.le_trans (h.pip e).2 hp⟩, h.num, h.pos, h.flg, ⟨by have := h.refs.1; omega, by have := h.refs.2; omega⟩, h.tsz⟩
theorem DescOk.refs' {d : DescQ} (h : DescOk K N d) {r : Int} {b : Bool} (h1 : r ≤ M) (h2 : -(M : Int) ≤ r) (_hN : N ≤ M) : DescOk K M { d with refs := r, inn := b } :=
  ⟨h.kind, h.con, h.txt, h.pip, h.num, h.pos, h.flg, ⟨h1, h2⟩, h.tsz⟩
theorem ProcOk.mono {q : ProcQ} (h : ProcOk N q) (hN : N ≤ M) : ProcOk M q := ⟨h.dir, h.mask, Nat.le_trans h.par hN, h.status⟩
theorem KOk.mono (h : KOk K N) (hN : N ≤ M) : KOk K M :=
  ⟨h.fds, fun j a b => (h.desc j a b).mono (Nat.le_refl _) hN, fun j a b => (h.proc j a b).mono hN, fun j a b => ⟨(h.pipe j a b).1, Nat.le_trans (h.pipe j a b).2.1 hN, Nat.le_trans (h.pipe j a b).2.2 hN⟩, Nat.le_trans h.pn hN, Nat.le_trans h.dn hN, Nat.le_trans h.qn hN, h.good.mono hN, h.typed⟩
theorem KOk.setD (h : KOk K N) {j : Nat} {d : DescQ} (hd : DescOk K N d) : KOk (K.setD j d) N :=
  ⟨h.fds, fun i a b => by
    show DescOk (K.setD j d) N (if i = j then d else K.desc i)
    split
    · exact hd.mono (Nat.le_refl _) (Nat.le_refl _)
    · exact (h.desc i a b).mono (Nat.le_refl _) (Nat.le_refl _), h.proc, h.pipe, h.pn, h.dn, h.qn, h.good, h.typed⟩
theorem KOk.setP (h : KOk K N) {j : Nat} {p : PipeQ} (hp : p.data.length ≤ 64 ∧ p.r ≤ N ∧ p.x ≤ N) : KOk (K.setP j p) N :=
  ⟨h.fds, fun i a b => (h.desc i a b).mono (Nat.le_refl _) (Nat.le_refl _), h.proc, fun i a b => by
    show (if i = j then p else K.pipe i).data.length ≤ 64 ∧ (if i = j then p else K.pipe i).r ≤ N ∧ (if i = j then p else K.pipe i).x ≤ N
    split
    · exact hp
    · exact h.pipe i a b, h.pn, h.dn, h.qn, h.good, h.typed⟩
theorem KOk.setQ (h : KOk K N) {j : Nat} {q : ProcQ} (hq : ProcOk N q) (hf : ∀ fd a x, q.fds fd = some (a, x) → 1 ≤ a ∧ a ≤ K.dn) : KOk (K.setQ j q) N :=
  ⟨fun i fd a x h1 h2 e => by
    have e : (if i = j then q else K.proc i).fds fd = some (a, x) := e
    split at e
    · exact hf fd a x e
    · exact h.fds i fd a x h1 h2 e, fun i a b => (h.desc i a b).mono (Nat.le_refl _) (Nat.le_refl _), fun i a b => by
    show ProcOk N (if i = j then q else K.proc i)
    split
    · exact hq
    · exact h.proc i a b, h.pipe, h.pn, h.dn, h.qn, h.good, h.typed⟩
theorem KOk.fdsU (h : KOk K N) {i : Nat} (h1 : 1 ≤ i) (h2 : i ≤ K.qn) {t : TSt} (hf : ∀ fd a x, t fd = some (a, x) → 1 ≤ a ∧ a ≤ K.dn) : KOk (K.fds i t) N :=
  h.setQ ⟨(h.proc i h1 h2).dir, (h.proc i h1 h2).mask, (h.proc i h1 h2).par, (h.proc i h1 h2).status⟩ hf
theorem KOk.σ (h : KOk K N) {σ : FSt} (hg : Good σ N) : KOk { K with σ := σ } N :=
  ⟨h.fds, fun i a b => (h.desc i a b).mono (Nat.le_refl _) (Nat.le_refl _), h.proc, h.pipe, h.pn, h.dn, h.qn, hg, h.typed⟩
theorem KOk.addD (h : KOk K N) {d : DescQ} (hd : DescOk K (N + 1) d) : KOk (K.addD d) (N + 1) :=
  ⟨fun i fd a x h1 h2 e => by have := h.fds i fd a x h1 h2 e; exact ⟨this.1, Nat.le_succ_of_le this.2⟩, fun i a b => by
    show DescOk (K.addD d) (N + 1) (if i = K.dn + 1 then d else K.desc i)
    have b : i ≤ K.dn + 1 := b
    split
    · exact hd.mono (Nat.le_refl _) (Nat.le_refl _)
    · exact (h.desc i a (by omega)).mono (Nat.le_refl _) (Nat.le_succ _), fun j a b => (h.proc j a b).mono (Nat.le_succ _),
    fun j a b => ⟨(h.pipe j a b).1, Nat.le_succ_of_le (h.pipe j a b).2.1, Nat.le_succ_of_le (h.pipe j a b).2.2⟩, Nat.le_succ_of_le h.pn, Nat.succ_le_succ h.dn, Nat.le_succ_of_le h.qn, h.good.mono (Nat.le_succ _), h.typed⟩
theorem KOk.addP (h : KOk K N) {p : PipeQ} (hp : p.data.length ≤ 64 ∧ p.r ≤ N + 1 ∧ p.x ≤ N + 1) : KOk (K.addP p) (N + 1) :=
  ⟨h.fds, fun i a b => (h.desc i a b).mono (Nat.le_succ _) (Nat.le_succ _), fun j a b => (h.proc j a b).mono (Nat.le_succ _), fun i a b => by
    show (if i = K.pn + 1 then p else K.pipe i).data.length ≤ 64 ∧ (if i = K.pn + 1 then p else K.pipe i).r ≤ N + 1 ∧ (if i = K.pn + 1 then p else K.pipe i).x ≤ N + 1
    have b : i ≤ K.pn + 1 := b
    split
    · exact hp
    · have := h.pipe i a (by omega)
      exact ⟨this.1, by omega, by omega⟩, Nat.succ_le_succ h.pn, Nat.le_succ_of_le h.dn, Nat.le_succ_of_le h.qn, h.good.mono (Nat.le_succ _), h.typed⟩
theorem KOk.addQ (h : KOk K N) {q : ProcQ} (hq : ProcOk (N + 1) q) (hf : ∀ fd a x, q.fds fd = some (a, x) → 1 ≤ a ∧ a ≤ K.dn) : KOk (K.addQ q) (N + 1) :=
  ⟨fun i fd a x h1 h2 e => by
    have e : (if i = K.qn + 1 then q else K.proc i).fds fd = some (a, x) := e
    have h2 : i ≤ K.qn + 1 := h2
    split at e
    · exact hf fd a x e
    · exact h.fds i fd a x h1 (by omega) e, fun i a b => (h.desc i a b).mono (Nat.le_refl _) (Nat.le_succ _), fun i a b => by
    show ProcOk (N + 1) (if i = K.qn + 1 then q else K.proc i)
    have b : i ≤ K.qn + 1 := b
    split
    · exact hq
    · exact (h.proc i a (by omega)).mono (Nat.le_succ _), fun j a b => ⟨(h.pipe j a b).1, Nat.le_succ_of_le (h.pipe j a b).2.1, Nat.le_succ_of_le (h.pipe j a b).2.2⟩, Nat.le_succ_of_le h.pn, Nat.le_succ_of_le h.dn, Nat.succ_le_succ h.qn, h.good.mono (Nat.le_succ _), h.typed⟩
theorem KOk.openQ (h : KOk K N) {i : Nat} (h1 : 1 ≤ i) (h2 : i ≤ K.qn) {d : DescQ} (hd : DescOk K (N + 1) { d with refs := 1, inn := true }) : KOk (openQ K i d).2 (N + 1) := by
  unfold Go.Proofs.YtdnbfhcbcdodmaaGreatDoor.openQ
  split
  · exact h.addD hd
  · rename_i fd _
    refine (h.addD hd).fdsU h1 h2 fun fd' a x e => ?_
    show 1 ≤ a ∧ a ≤ K.dn + 1
    rcases set_some e with e | e
    · cases e; omega
    · have := h.fds i fd' a x h1 h2 e
      omega
theorem KOk.refQ (h : KOk K N) (o : Option (Nat × Bool)) (hN : ∀ j, o = some j → 1 ≤ j.1 ∧ j.1 ≤ K.dn) : KOk (refQ K o) (N + 1) := by
  cases o with
  | none => exact h.mono (Nat.le_succ _)
  | some p =>
    obtain ⟨j, x⟩ := p
    have hj := hN _ rfl
    have hd := h.desc j hj.1 hj.2
    refine (h.mono (Nat.le_succ N)).setD (DescOk.refs' (b := (K.desc j).inn) hd ?_ ?_ (Nat.le_succ _))
    · have := hd.refs; omega
    · have := hd.refs; omega
theorem KOk.refsQ (h : KOk K N) (t : TSt) (ht : ∀ fd j x, t fd = some (j, x) → 1 ≤ j ∧ j ≤ K.dn) : ∀ n, KOk (refsQ K t n) (N + n)
  | 0 => h
  | n + 1 => (KOk.refsQ h t ht n).refQ (t n) fun j e => by rw [(refsQ_eq K t n).dn]; exact ht n j.1 j.2 e
end
end Go.Proofs.YtdnbfhcbcdodmaaGreatDoor

/- gate.Kernel.drop: a descriptor less. Conditions: the contract's own premises. -/
namespace Go.Proofs.YtdnbfhcbcdodmaaGreatDoor
open Go.RowKit

attribute [local go_sem] Oper.semAt_some

section
variable {w w' : World} {k : Nat} {K : KQ} {L : KLay}
theorem KF.dmap (h : KF w k K L) (hn : 1 ≤ K.dn) : ∃ g, L.dm = some g ∧ IMapAt Tryz.prog 3 w g (regL (fun i => (K.desc i).inn) (fun i => ptrAt (L.db i)) K.dn) := by
  have := h.dr
  cases e : L.dm with
  | none => rw [e] at this; have : K.dn = 0 := this; omega
  | some g => rw [e] at this; exact ⟨g, rfl, this⟩
theorem KF.qmap (h : KF w k K L) (hn : 1 ≤ K.qn) : ∃ g, L.qm = some g ∧ IMapAt Tryz.prog 3 w g (regL (fun i => (K.proc i).inn) (fun i => ptrAt (L.qb i)) K.qn) := by
  have := h.qr
  cases e : L.qm with
  | none => rw [e] at this; have : K.qn = 0 := this; omega
  | some g => rw [e] at this; exact ⟨g, rfl, this⟩
end
theorem KMut.same {w w' : World} {k : Nat} {K K' : KQ} {L : KLay} {T : Nat → Prop} (h : KF w' k K' L) (hn : K.pn ≤ K'.pn ∧ K.dn ≤ K'.dn ∧ K.qn ≤ K'.qn) (hf : Fr T w w') (hT : ∀ b, T b → L.o b ≠ none) : KMut k K K' L (fun _ => False) (fun _ => False) w w' :=
  ⟨L, h, .same hn, hf.mono fun b _ e => .inl (hT b e), fun _ e => .inl e⟩
end Go.Proofs.YtdnbfhcbcdodmaaGreatDoor

/- gate.Kernel.drop, of any description; what the data keep. Conditions: each law's own premises. -/
namespace Go.Proofs.YtdnbfhcbcdodmaaGreatDoor
open Go.RowKit

theorem KF.live {w : World} {k : Nat} {K : KQ} {L : KLay} (h : KF w k K L) : Live K.σ := by
  obtain ⟨p, dv, ev, pv, lv, hF⟩ := h.files
  exact hF.live
theorem dropQ_pn (K : KQ) (j : Nat) : (dropQ K j).pn = K.pn ∧ (dropQ K j).dn = K.dn ∧ (dropQ K j).qn = K.qn := by
  unfold dropQ
  split
  · exact ⟨rfl, rfl, rfl⟩
  · split
    · exact ⟨rfl, rfl, rfl⟩
    · split <;> exact ⟨rfl, rfl, rfl⟩
theorem closeP_ok {p : PipeQ} {N : Nat} (h : p.data.length ≤ 64 ∧ p.r ≤ N ∧ p.x ≤ N) (b : Bool) : (closeP p b).data.length ≤ 64 ∧ (closeP p b).r ≤ N ∧ (closeP p b).x ≤ N := by
  unfold closeP
  split
  · exact ⟨h.1, h.2.1, by show p.x - 1 ≤ N; omega⟩
  · exact ⟨h.1, by show p.r - 1 ≤ N; omega, h.2.2⟩
theorem KOk.dropQ {K : KQ} {N : Nat} (h : KOk K N) {j : Nat} (h1 : 1 ≤ j) (h2 : j ≤ K.dn) (hl : Live (dropQ K j).σ) : KOk (dropQ K j) (N + 1) := by
  have hd := h.desc j h1 h2
  have hm := h.mono (Nat.le_succ N)
  have hr1 : (K.desc j).refs - 1 ≤ ((N + 1 : Nat) : Int) := by have := hd.refs; omega
  have hr2 : -((N + 1 : Nat) : Int) ≤ (K.desc j).refs - 1 := by have := hd.refs; omega
  have ho : KOk (K.setD j { K.desc j with refs := (K.desc j).refs - 1, inn := false }) (N + 1) := hm.setD (hd.refs' hr1 hr2 (Nat.le_succ _))
  have ht : KOk (K.setD j { K.desc j with refs := (K.desc j).refs - 1 }) (N + 1) := hm.setD (DescOk.refs' (b := (K.desc j).inn) hd hr1 hr2 (Nat.le_succ _))
  unfold Go.Proofs.YtdnbfhcbcdodmaaGreatDoor.dropQ at hl ⊢
  by_cases c1 : 0 < (K.desc j).refs - 1
  · rw [if_pos c1]
    exact ht
  · rw [if_neg c1] at hl ⊢
    by_cases c2 : (K.desc j).kind = 2
    · rw [if_pos c2] at hl ⊢
      exact ho.σ ((h.good.drop (K.desc j).n).good hl)
    · rw [if_neg c2] at hl ⊢
      by_cases c3 : (K.desc j).kind = 3 ∨ (K.desc j).kind = 4
      · rw [if_pos c3]
        have hp := hd.pip c3
        exact ho.setP (closeP_ok (by have := h.pipe _ hp.1 hp.2; exact ⟨this.1, Nat.le_succ_of_le this.2.1, Nat.le_succ_of_le this.2.2⟩) _)
      · rw [if_neg c3]
        exact ho
end Go.Proofs.YtdnbfhcbcdodmaaGreatDoor

/- Contract of table.Table[*shyard/gate.desc].Copy. Conditions: the contract's own premises. -/
namespace Go.Proofs.YtdnbfhcbcdodmaaGreatDoor
open Go.RowKit

/-- An element of an array by value, one cell an element. -/
theorem run_index_arr {P : Program} (t e : TypeId) (n : Nat) (cs : Array Value) (i : Nat) (v : Value) (w : World) (h : P.underlying t = some (.array n e)) (hs : ∀ w, (sizeOf e).run P w = .ok 1 w) (ha : ∀ w, (isAgg e).run P w = .ok false w)
    (hi : i < n) (hv : cs[i]? = some v) : (Instr.index t (.agg cs) (.int .i64 i)).run P w = .ok v w := by
  have hn : (0 : Int) ≤ (i : Int) ∧ (i : Int) < (n : Int) := by omega
  simp [Instr.index, run_underlying h, asIntOf, hi, hv, hs, ha, go_sem]
def stTo (st : TSt) (k : Nat) : TSt := fun i => if i < k then st i else none
theorem stTo_eq (st : TSt) (k i : Nat) : stTo st k i = if i < k then st i else none := rfl
theorem stTo_same {st : TSt} {k : Nat} (h : st k = none) : stTo st (k + 1) = stTo st k := by
  funext i
  rw [stTo_eq, stTo_eq]
  by_cases h1 : i < k
  · rw [if_pos h1, if_pos (by omega)]
  · by_cases h2 : i < k + 1
    · have : i = k := by omega
      subst this
      rw [if_pos h2, if_neg h1, h]
    · rw [if_neg h1, if_neg h2]
theorem stTo_set (st : TSt) (k : Nat) : stTo st (k + 1) = (stTo st k).set k (st k) := by
  funext i
  rw [stTo_eq, set_eq, stTo_eq]
  by_cases h1 : i < k
  · rw [if_pos h1, if_pos (by omega), if_neg (by omega)]
  · by_cases h2 : i < k + 1
    · have : i = k := by omega
      subst this
      rw [if_pos h2, if_pos rfl]
    · rw [if_neg h1, if_neg h2, if_neg (by omega)]
def CopyPost (w : World) (st : TSt) (e : Ending) (w' : World) : Prop :=
  e = .returned (.pointer (some ⟨w.heap.size, 0, none⟩)) ∧ TabAt w' w.heap.size st (fun k => w.heap.size ≤ k) ∧ Fr (fun _ => False) w w'
def CopyRel (w : World) (st : TSt) (i : Value) (wr : World) : Prop :=
  ∃ k : Nat, k ≤ 32 ∧ i = .int .i64 k ∧ TabAt wr w.heap.size (stTo st k) (fun k => w.heap.size ≤ k) ∧ Fr (fun _ => False) w wr
set_option maxRecDepth 100000 in
set_option maxHeartbeats 2000000 in
theorem copy_any (w : World) (t : Nat) (st : TSt) (S : Nat → Prop) (ht : TabAt w t st S) :
    Calls Tryz.prog 92 #[.pointer (some ⟨t, 0, none⟩)] w (CopyPost w st) := by
  obtain ⟨p, cs, htf⟩ := ht
  go_enter Tryz.func92, Tryz.ntmps92
  go_wp2_with fail
  refine (new_any w).mono ?_
  rintro e w1 ⟨rfl, hw1⟩
  have ht1 := TabF.new w (fun k => w.heap.size ≤ k) (fun _ h => h) w1 hw1
  have hf1 : Fr (fun _ => False) w w1 := by rw [hw1]; exact (Fr.refl _ _).alloc _
  have htf1 := htf.frame hf1 (fun _ _ _ e => e)
  clear hw1
  go_upto_region 4 with fail
  have hi32 : (Tryz.prog.info? 123).map (·.size) = some cs.size := by rw [htf.hcs]; kernel_rfl
  have hi32 := hide hi32
  go_wp2_with (refine wpList_load_row rfl 123 _ rfl t rfl 125 cs (0, 0) _ htf1.hb Tryz.underlying123 rfl hi32.out ?_)
  have hcs := htf.hcs
  have hcc := hide htf.hc
  clear hi32 htf1
  go_loopw [14] (fun i wr => CopyRel w st i wr) (fun i _ => 32 - (intOf i).toNat)
  case atStart => exact ⟨0, by omega, rfl, by obtain ⟨p, cs, h⟩ := ht1; exact ⟨p, cs, h.ext (fun i _ => by rw [stTo_eq, if_neg (by omega)])⟩, hf1⟩
  case round =>
    clear ht1 hf1
    obtain ⟨k, hk, rfl, ⟨pc, cc, htc⟩, hfr⟩ := hrel
    by_cases h1 : k < 32
    · have hck := hcc.out k h1
      have htw := htf.frame hfr (fun _ _ _ e => e)
      have hidx := run_index_arr (P := Tryz.prog) 123 122 32 cs k _ wr Tryz.underlying123 (fun _ => by kernel_rfl) (fun _ => by kernel_rfl) h1 hck
      have hst' := hide (stTo_set st k)
      rcases hst : st k with _ | ⟨x, m⟩
      · rw [hst] at hidx
        simp only [tptrOf] at hidx
        clear hck
        have hrel' : CopyRel w st (.int .i64 ((k : Int) + 1)) wr := ⟨k + 1, by omega, by go_num, by rw [stTo_same hst]; exact ⟨pc, cc, htc⟩, hfr⟩
        have hrel' := hide hrel'
        go_wp2
        go_roundw
        case rel => exact hrel'.out
        case measure => simp [intOf]; omega
      · rw [hst] at hidx
        simp only [tptrOf] at hidx
        clear hck
        have hsl := htw.hs k x m h1 hst
        have c1 : wr.cell? ⟨p k, 0, none⟩ = some (.pointer (some ⟨x, 0, none⟩)) := by rw [blk_cell hsl]; rfl
        have c2 : wr.cell? ⟨p k, 1, none⟩ = some (.bool m) := by rw [blk_cell hsl]; rfl
        have hsz := hfr.size
        have hbt := blk_lt htc.hb
        have c3 : wr.cell? ⟨w.heap.size, k, none⟩ = some (tptrOf (stTo st k k) (pc k)) := by rw [blk_cell htc.hb]; exact htc.hc k h1
        rw [stTo_eq, if_neg (by omega)] at c3
        simp only [tptrOf] at c3
        have hfz := blk_frozen htc.hb
        have hnew := htc.putNew k h1 x m rfl
        rw [← hst, ← stTo_set] at hnew
        rw [World.setCell_alloc_past _ _ _ _ hbt] at hnew
        have hrel' : CopyRel w st (.int .i64 ((k : Int) + 1)) ((wr.setCell ⟨w.heap.size, k, none⟩ (.pointer (some ⟨wr.heap.size, 0, none⟩))).alloc (.cells #[.pointer (some ⟨x, 0, none⟩), .bool m] 149 (0, 0))) :=
          ⟨k + 1, by omega, by go_num, hnew, (hfr.setCell (.inr (Nat.le_refl _)) _).alloc _⟩
        have hrel' := hide hrel'
        clear hnew hst hsl
        go_wp2
        go_roundw
        case rel => exact hrel'.out
        case measure => simp [intOf]; omega
    · have e : k = 32 := by omega
      subst e
      have hfin : CopyPost w st (.returned (.pointer (some ⟨w.heap.size, 0, none⟩))) wr := ⟨rfl, ⟨pc, cc, htc.ext (fun i hi => by rw [stTo_eq, if_pos hi])⟩, hfr⟩
      clear htc
      go_wp2
      go_ret
      exact hfin
end Go.Proofs.YtdnbfhcbcdodmaaGreatDoor

/- A region that draws its order, inside the wide fence: what only reads first, then a tail in a forced order; whatever follows. Conditions: closed facts on the region, by the kernel. -/
namespace Go.Proofs.YtdnbfhcbcdodmaaGreatDoor
open Go.RowKit

section
variable {P : Program} {w : World}
theorem region_rd_in {n id : Nat} {Q : Exit → Act → World → Prop} {a : Act} {l : List Oper} (rd : List Nat) (m : Nat) (hm : P.follows .mixedOrders = true) (hB : mixB l.toArray [] rd m = true) (hV : (List.range m).all (fun i => (l.toArray[i]?.map valueOp).getD false) = true)
    (h0 : wpQuiet P l.toArray (fun w' => w' = w.drew) (fun a2 => wpListIn FW n P l.toArray Q (l.drop m) a2 w.drew) (rd.map (fun i => l.getD i default)) a) :
    (Code.region id l.toArray true).wpIn FW n P Q a w := by
  simp only [mixB, Bool.and_eq_true, decide_eq_true_eq, List.all_eq_true] at hB
  obtain ⟨⟨⟨⟨⟨⟨⟨⟨hs, hn⟩, hc⟩, hlen⟩, hbl⟩, hl1⟩, hrd⟩, hl2⟩, hq⟩ := hB
  have hn2 : m < l.length := by simpa using hn
  have h := h0
  rw [← pickOps_map l rd (fun i hi => by have := (hrd i hi).1; omega)] at h
  have inv0 : MixInv l.toArray m (Array.replicate l.toArray.size false) :=
    ⟨by simp, fun j oj _ hl => (by rw [getD_replicate_false] at hl; cases hl), fun t _ ht => getD_in (by simpa using ht) (getD_replicate_false _ _)⟩
  have hlen : rd.length = m := by simpa using hlen
  have hsz : l.toArray.size = rd.length + (l.drop m).length := by simp at hn ⊢; omega
  have hg : l.toArray.size - m = (l.drop m).length := by simp
  refine wpIn_region_any hm ?_
  have key : wpAnyIn FW n P .any l.toArray Q (rd.length + (l.drop m).length) (Array.replicate l.toArray.size false) a w.drew := by
    refine anyIn_of_head (m := m) (L := fun listed' a' => Region.seqB .any l.toArray (l.drop m).length m listed' = true ∧ wpListIn FW n P l.toArray Q (l.drop m) a' w.drew) ?_ ?_ rd.length _ _ ?_
    · intro i o hi ho
      have h9 := List.all_eq_true.1 hV i (List.mem_range.2 hi)
      rw [ho] at h9
      simpa using h9
    · intro listed a' hL
      exact anyIn_of_seq (l.drop m) m listed a' w.drew (fun j => by simp) hL.1 hL.2
    · exact any_reads hs hc hn rd _ a inv0 (fun i hi => by have := hrd i hi; exact ⟨this.1, by simpa using this.2⟩) hl2 (by rw [← hg]; exact hq) (still_of_quiet _ _ h)
  rw [← hsz] at key
  exact key
end
end Go.Proofs.YtdnbfhcbcdodmaaGreatDoor
