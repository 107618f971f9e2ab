/- gate.Kernel.Call. Conditions: the contract's own premises. -/
import Derived.Test.YtffekmjoenppaaaGreatDoorKerAns
import Derived.Deep.MidRow
import Derived.Laws.Rows
import Derived.Laws.ResultCell
import Derived.Great.BuildSlice
namespace Go.Proofs.YtffekmjoenppaaaGreatDoor
open Go.RowKit

attribute [local go_sem] Oper.semAt_some

def sysV (c : SysQ) : Value := .agg #[.int .i64 c.no, .int .i64 c.a, .int .i64 c.b, .string c.s, .string c.t, c.p]
def resC (r : ResV) : Array Value := #[.int .i64 r.n, .int .i64 r.m, .string r.s, r.list, .int .i64 r.st.ino, .int .i64 r.st.kind, .int .i64 r.st.mode, .int .i64 r.st.links, .int .i64 r.st.size, .int .i64 r.err]
def resVal (r : ResV) : Value := .agg (resC r)
def noResC : Array Value := #[.int .i64 0, .int .i64 0, .string ⟨#[]⟩, .slice none 0 0, .int .i64 0, .int .i64 0, .int .i64 0, .int .i64 0, .int .i64 0, .int .i64 0]
/-- A call of one who lives: what the answer makes, and what it hands back. -/
def KCallPost (w : World) (A : World → Nat → Bool → ResV → World → Prop) (e : Ending) (w' : World) : Prop :=
  ∃ w2 a b r w3, Fr (fun _ => False) w w2 ∧ w.heap.size ≤ a ∧ a < w2.heap.size ∧ A w2 a b r w3 ∧ e = .returned (.tuple #[resVal (if b = true then noResV else r), .bool b]) ∧ Fr (fun x => w.heap.size ≤ x ∧ x < w2.heap.size) w3 w'
theorem setRow_fr (w : World) (g : Nat) (cs old : Array Value) (t : TypeId) (_hg : w.heap[g]? = some (.cells old t (0, 0))) (T : Nat → Prop) (hT : T g) : Fr T w (w.setRow g cs) := by
  refine ⟨rfl, rfl, rfl, by simp [World.setRow], fun k hk hne => ?_⟩
  show (w.heap.modify g _)[k]? = _
  rw [Array.getElem?_modify, if_neg (fun e => hne (by rw [← e]; exact hT))]
theorem results_row_tmp {P : Program} {fn : Func} {p u : Tmp} {ty : TypeId} (h : fn.results = #[.cell p ty, .tmp u]) (tmps : Array Value) (w : World) (g : Nat) (t : TypeId) (cs : Array Value) (fr : Nat × Nat) (d : TypeDesc)
    (hp : tmps.getD p undef = .pointer (some ⟨g, 0, none⟩)) (hg : w.heap[g]? = some (.cells cs t fr))
    (hu : P.underlying ty = some d) (hd : (match d with | .struct _ | .array _ _ => true | _ => false) = true) (hi : (P.info? ty).map (·.size) = some cs.size) (v : Value) (hv : tmps.getD u undef = v) :
    (results fn tmps).run P w = .ok (.tuple #[.agg cs, v]) w := by
  rw [results_cell_tmp h, hp, hv]
  simp [asAddr, run_loadVar_row w g t ty cs fr d hg hu hd hi]
set_option maxRecDepth 100000 in
set_option maxHeartbeats 1000000 in
theorem kcall_gen (w : World) (k : Nat) (K : KQ) (L : KLay) (h : KF w k K L) (hq : 1 ≤ K.qn) (pid : Int) (hp : -9223372036854775808 ≤ pid ∧ pid ≤ 9223372036854775807) (c : SysQ) (hcp : c.p.oneCell' = true) (hl : livesB K pid = true)
    (A : World → Nat → Bool → ResV → World → Prop) (hA : ∀ w2 a b r w3, A w2 a b r w3 → AskAt w3 a k (L.qb pid.toNat) c r ∧ (b = false → r.list.oneCell' = true) ∧ Fr (fun x => L.o x ≠ none ∨ x = a) w2 w3)
    (hans : ∀ w2 a, Fr (fun _ => False) w w2 → w.heap.size ≤ a → KF w2 k K L → AskAt w2 a k (L.qb pid.toNat) c noResV → L.o a = none → Calls Tryz.prog 15 #[ptrAt a] w2 fun e w' => ∃ b r, e = .returned (.bool b) ∧ A w2 a b r w') :
    Calls Tryz.prog 7 #[ptrAt k, .int .i64 pid, sysV c] w (KCallPost w A) := by
  obtain ⟨g, hg⟩ : ∃ g, g = w.heap.size := ⟨_, rfl⟩
  have hw2 : ∀ w2, Fr (fun _ => False) w w2 → Calls Tryz.prog 14 #[ptrAt k, .int .i64 pid] w2 fun e w' => e = .returned (ptrAt (L.qb pid.toNat)) ∧ w' = w2 := fun w2 hf => by
    have := lives_any w2 k K L (h.quiet hf) hq pid hp
    unfold livesV at this
    rw [if_pos hl] at this
    exact this
  obtain ⟨w1, hw1⟩ : ∃ w1, w1 = (w.alloc (.cells #[.int .i64 c.no, .int .i64 c.a, .int .i64 c.b, .string c.s, .string c.t, c.p] 36 (0, 0))).alloc (.cells noResC 31 (0, 0)) := ⟨_, rfl⟩
  have hf1 : Fr (fun _ => False) w w1 := by rw [hw1]; exact ((Fr.refl _ _).alloc _).alloc _
  have hz1 : w1.heap.size = g + 2 := by rw [hw1, hg]; simp
  have b0 : w1.heap[g]? = some (.cells #[.int .i64 c.no, .int .i64 c.a, .int .i64 c.b, .string c.s, .string c.t, c.p] 36 (0, 0)) := by
    rw [hw1, hg]; exact ((Fr.refl (fun _ => False) _).alloc _).get (blk_new w _) (fun e => e)
  have b1 : w1.heap[g + 1]? = some (.cells noResC 31 (0, 0)) := by rw [hw1, hg]; exact heap_alloc2_new w _ _
  obtain ⟨w2, hw2e⟩ : ∃ w2, w2 = w1.alloc (.cells (askC k (L.qb pid.toNat) c noResV) 76 (0, 0)) := ⟨_, rfl⟩
  have hf2 : Fr (fun _ => False) w1 w2 := by rw [hw2e]; exact (Fr.refl _ _).alloc _
  have hz2 : w2.heap.size = g + 3 := by rw [hw2e]; simp [hz1]
  have ha2 : AskAt w2 (g + 2) k (L.qb pid.toNat) c noResV := by unfold AskAt; rw [hw2e, ← hz1]; exact blk_new _ _
  have d0 : w1.cell? ⟨g, 0, none⟩ = some (.int .i64 c.no) := by rw [blk_cell b0]; rfl
  have d1 : w1.cell? ⟨g, 1, none⟩ = some (.int .i64 c.a) := by rw [blk_cell b0]; rfl
  have d2 : w1.cell? ⟨g, 2, none⟩ = some (.int .i64 c.b) := by rw [blk_cell b0]; rfl
  have d3 : w1.cell? ⟨g, 3, none⟩ = some (.string c.s) := by rw [blk_cell b0]; rfl
  have d4 : w1.cell? ⟨g, 4, none⟩ = some (.string c.t) := by rw [blk_cell b0]; rfl
  have d5 : w1.cell? ⟨g, 5, none⟩ = some c.p := by rw [blk_cell b0]; rfl
  have b12 : w2.heap[g + 1]? = some (.cells noResC 31 (0, 0)) := hf2.get b1 (fun e => e)
  have hca := hide (hans w2 (g + 2) (hf1.trans hf2) (by omega) (h.quiet (hf1.trans hf2)) ha2 (h.new _ (by omega)))
  have Hlv := hide (hw2 w1 hf1)
  have Hw1 := hide hw1
  have Hw2 := hide hw2e
  have Hf := hide (hf1.trans hf2)
  have HA := hide (hA w2 (g + 2))
  have Hb0 := hide b0
  have Hb12 := hide b12
  have Hg := hide hg
  have Hz1 := hide hz1
  have Hz2 := hide hz2
  have Hox := hide (h.new (g + 1) (by omega))
  have Hcp := hide hcp
  clear hw2 hf1 b0 b1 hf2 ha2 b12 hans h hq hw1 hw2e hA hz2 hl hp hcp hg hz1
  unfold ptrAt sysV at *
  go_enter Tryz.func7, Tryz.ntmps7
  go_upto_region 1 with (fail)
  rw [show w.heap.size + 1 = g + 1 from by rw [Hg.out]]
  have e1 := Hw1.out
  unfold noResC at e1
  rw [← e1, ← Hg.out]
  clear e1 Hw1
  go_wp2_with fail
  refine Hlv.out.mono ?_
  rintro e w9 ⟨rfl, rfl⟩
  clear Hlv
  go_upto_region 5 with (fail)
  have e2 := Hw2.out
  unfold askC noResV noSt noBy ptrAt at e2
  rw [← e2, Hz1.out]
  clear e2 Hw2 d0 d1 d2 d3 d4 d5
  go_wp2_with fail
  refine hca.out.mono ?_
  rintro e w3 ⟨b, r, rfl, hr⟩
  obtain ⟨ha3, hl3, hf3⟩ := HA.out b r w3 hr
  have q3 := hf3.get Hb12.out (fun e => by
    rcases e with e | e
    · exact e Hox.out
    · omega)
  have fin : ∀ w', Fr (fun x => w.heap.size ≤ x ∧ x < w2.heap.size) w3 w' → KCallPost w A (.returned (.tuple #[resVal (if b = true then noResV else r), .bool b])) w' := fun w' hf' =>
    ⟨w2, g + 2, b, r, w3, Hf.out, by rw [Hg.out]; omega, by rw [Hz2.out]; omega, hr, rfl, hf'⟩
  have Hfin := hide fin
  have Hq3 := hide q3
  have Ha3 := hide ha3
  have Hl3 := hide hl3
  clear hca HA hr hf3 q3 ha3 hl3 fin Hb12 Hox Hf
  cases b with
  | true =>
    obtain ⟨w4, hw4⟩ : ∃ w4, w4 = w3.setRow (g + 1) noResC := ⟨_, rfl⟩
    have q4 : w4.heap[g + 1]? = some (.cells noResC 31 (0, 0)) := by rw [hw4]; exact setRow_heap _ _ _ _ _ _ Hq3.out
    have hf4 : Fr (fun x => w.heap.size ≤ x ∧ x < w2.heap.size) w3 w4 := by rw [hw4]; exact setRow_fr _ _ _ _ _ Hq3.out _ ⟨by rw [← Hg.out]; omega, by rw [Hz2.out]; omega⟩
    have Hw4 := hide hw4
    have Hq4 := hide q4
    have Hf4 := hide hf4
    clear hw4 q4 hf4
    go_upto_region 6 with (fail)
    go_wp2_with (refine wpList_store_rowTo rfl 31 _ _ rfl rfl (g + 1) noResC ?s1 ?s2 31 _ Hq3.out ?s4 rfl ?s5 ?_)
    case s1 => rfl
    case s2 => rfl
    case s4 => kernel_rfl
    case s5 => kernel_rfl
    rw [← Hw4.out]
    exact bodyPost_ret (v := .tuple #[.agg noResC, .bool true]) (results_row_tmp rfl _ w4 (g + 1) 31 noResC _ _ rfl Hq4.out Tryz.underlying31 rfl (by kernel_rfl) _ rfl) rfl (Hfin.out _ Hf4.out)
  | false =>
    obtain ⟨w4, hw4⟩ : ∃ w4, w4 = w3.setRow (g + 1) (resC r) := ⟨_, rfl⟩
    have q4 : w4.heap[g + 1]? = some (.cells (resC r) 31 (0, 0)) := by rw [hw4]; exact setRow_heap _ _ _ _ _ _ Hq3.out
    have hf4 : Fr (fun x => w.heap.size ≤ x ∧ x < w2.heap.size) w3 w4 := by rw [hw4]; exact setRow_fr _ _ _ _ _ Hq3.out _ ⟨by rw [← Hg.out]; omega, by rw [Hz2.out]; omega⟩
    have hone : (resC r).all (·.oneCell') = true := by
      have := Hl3.out rfl
      simp only [resC, Array.all_eq_true_iff_forall_mem]
      intro x hx
      simp only [List.mem_toArray, List.mem_cons, List.not_mem_nil, or_false] at hx
      rcases hx with rfl | rfl | rfl | rfl | rfl | rfl | rfl | rfl | rfl | rfl
      all_goals first | rfl | exact this
    have x8 : w3.cell? ⟨g + 2, 8, none⟩ = some (.int .i64 r.n) := by rw [blk_cell Ha3.out]; rfl
    have x9 : w3.cell? ⟨g + 2, 9, none⟩ = some (.int .i64 r.m) := by rw [blk_cell Ha3.out]; rfl
    have x10 : w3.cell? ⟨g + 2, 10, none⟩ = some (.string r.s) := by rw [blk_cell Ha3.out]; rfl
    have x11 : w3.cell? ⟨g + 2, 11, none⟩ = some r.list := by rw [blk_cell Ha3.out]; rfl
    have x12 : w3.cell? ⟨g + 2, 12, none⟩ = some (.int .i64 r.st.ino) := by rw [blk_cell Ha3.out]; rfl
    have x13 : w3.cell? ⟨g + 2, 13, none⟩ = some (.int .i64 r.st.kind) := by rw [blk_cell Ha3.out]; rfl
    have x14 : w3.cell? ⟨g + 2, 14, none⟩ = some (.int .i64 r.st.mode) := by rw [blk_cell Ha3.out]; rfl
    have x15 : w3.cell? ⟨g + 2, 15, none⟩ = some (.int .i64 r.st.links) := by rw [blk_cell Ha3.out]; rfl
    have x16 : w3.cell? ⟨g + 2, 16, none⟩ = some (.int .i64 r.st.size) := by rw [blk_cell Ha3.out]; rfl
    have x17 : w3.cell? ⟨g + 2, 17, none⟩ = some (.int .i64 r.err) := by rw [blk_cell Ha3.out]; rfl
    have Hw4 := hide hw4
    have Hq4 := hide q4
    have Hf4 := hide hf4
    have Hone := hide hone
    clear hw4 q4 hf4 hone
    go_upto_region 7 with (fail)
    go_wp2_with (refine wpList_store_rowTo rfl 31 _ _ rfl rfl (g + 1) (resC r) ?s1 ?s2 31 _ Hq3.out ?s4 ?s6 ?s5 ?_)
    case s1 => rfl
    case s2 => rfl
    case s4 => kernel_rfl
    case s6 => rfl
    case s5 => exact Hone.out
    rw [← Hw4.out]
    exact bodyPost_ret (v := .tuple #[.agg (resC r), .bool false]) (results_row_tmp rfl _ w4 (g + 1) 31 (resC r) _ _ rfl Hq4.out Tryz.underlying31 rfl (by kernel_rfl) _ rfl) rfl (Hfin.out _ Hf4.out)
/-- A call of one who lives, by its answer. -/
def KAnsPost (w : World) (k : Nat) (K : KQ) (L : KLay) (R : Bool × ResQ × KQ) (e : Ending) (w' : World) : Prop :=
  e = .returned (.tuple #[resVal (if R.1 = true then noResV else resV R.2.1), .bool R.1]) ∧ ∃ L', KF w' k R.2.2 L' ∧ LExt K R.2.2 L L' ∧ Fr (fun b => L.o b ≠ none) w w' ∧ ∀ b, L'.o b ≠ none → L.o b ≠ none ∨ w.heap.size ≤ b
theorem kcall_any (w : World) (k : Nat) (K : KQ) (L : KLay) (h : KF w k K L) (hq : 1 ≤ K.qn) (pid : Int) (hp : -9223372036854775808 ≤ pid ∧ pid ≤ 9223372036854775807) (c : SysQ) (hcp : c.p.oneCell' = true) (hl : livesB K pid = true) (R : Bool × ResQ × KQ)
    (hans : ∀ w2 a, Fr (fun _ => False) w w2 → w.heap.size ≤ a → KF w2 k K L → AskAt w2 a k (L.qb pid.toNat) c noResV → L.o a = none → Calls Tryz.prog 15 #[ptrAt a] w2 (KaskPost w2 k K L pid.toNat a c R)) :
    Calls Tryz.prog 7 #[ptrAt k, .int .i64 pid, sysV c] w (KAnsPost w k K L R) := by
  refine (kcall_gen w k K L h hq pid hp c hcp hl (fun w2 a b r w3 => b = R.1 ∧ (R.1 = false → r = resV R.2.1) ∧ AskAt w3 a k (L.qb pid.toNat) c r ∧ KaskPost w2 k K L pid.toNat a c R (.returned (.bool b)) w3)
    (fun w2 a b r w3 hA => ?_) (fun w2 a f1 f2 h1 h2 h3 => (hans w2 a f1 f2 h1 h2 h3).mono ?_)).mono ?_
  · obtain ⟨h1, h2, h4, _, L', _, _, h5, _⟩ := hA
    exact ⟨h4, fun e => by rw [h2 (h1.symm.trans e)]; rfl, h5⟩
  · rintro e w3 ⟨rfl, L', a1, a2, a3, a4, r, a5, a6⟩
    exact ⟨R.1, r, rfl, rfl, a6, a5, rfl, L', a1, a2, a3, a4, r, a5, a6⟩
  · rintro e w' ⟨w2, a, b, r, w3, f1, f2, f3, ⟨rfl, g2, g4, _, L', a1, a2, a3, a4, r', a5, a6⟩, rfl, f4⟩
    have hS : ∀ x t, L'.o x = some t → ¬ (w.heap.size ≤ x ∧ x < w2.heap.size) := fun x t e e2 => by
      rcases a4 x (by rw [e]; simp) with e3 | e3
      · obtain ⟨t', e4⟩ := Option.ne_none_iff_exists'.1 e3
        have := h.lt e4
        omega
      · omega
    refine ⟨by cases hR : R.1 <;> simp [g2, hR], L', a1.still f4 hS, a2, ((f1.mono fun _ _ e => e.elim).trans' a3 fun x hx e => ?_).trans' f4 fun x hx e => ?_, fun b e => ?_⟩
    · rcases e with e | e
      · exact e
      · omega
    · omega
    · rcases a4 b e with e | e
      · exact .inl e
      · exact .inr (Nat.le_trans f1.size e)
end Go.Proofs.YtffekmjoenppaaaGreatDoor

/- In the midst of a call: where the kernel stands. Conditions: each law's own premises. -/
namespace Go.Proofs.YtffekmjoenppaaaGreatDoor
open Go.RowKit

/-- In the midst of a call of process i: the kernel stands at K1, laid as L1; the answer as r. -/
structure KIn (w : World) (k : Nat) (K : KQ) (L : KLay) (i a : Nat) (c : SysQ) (w1 : World) (K1 : KQ) (L1 : KLay) (r : ResV) : Prop where
  F : KF w1 k K1 L1
  E : LExt K K1 L L1
  R : Fr (fun b => L.o b ≠ none ∨ b = a) w w1
  N : ∀ b, L1.o b ≠ none → L.o b ≠ none ∨ w.heap.size ≤ b
  A : AskAt w1 a k (L.qb i) c r
  al : a < w.heap.size
  ao : L.o a = none
section
variable {w w1 w2 : World} {k : Nat} {K K1 K2 : KQ} {L L1 L2 : KLay} {i a : Nat} {c : SysQ} {r : ResV}
theorem KIn.start (h : KF w k K L) (hA : AskAt w a k (L.qb i) c r) (ha : L.o a = none) : KIn w k K L i a c w K L r :=
  ⟨h, .refl K L, Fr.refl _ _, fun _ e => .inl e, hA, blk_lt hA, ha⟩
theorem KIn.a1 (h : KIn w k K L i a c w1 K1 L1 r) : L1.o a = none := by
  by_cases e : L1.o a = none
  · exact e
  · rcases h.N a e with e2 | e2
    · exact absurd h.ao e2
    · have := h.al; omega
theorem KIn.ne (h : KIn w k K L i a c w1 K1 L1 r) {b : Nat} {t : Nat × Nat} (e : L1.o b = some t) : b ≠ a := fun e2 => by rw [e2, h.a1] at e; cases e
theorem KIn.qb (h : KIn w k K L i a c w1 K1 L1 r) (h1 : 1 ≤ i) (h2 : i ≤ K.qn) : L1.qb i = L.qb i := h.E.qb i h1 h2
theorem KIn.tb (h : KIn w k K L i a c w1 K1 L1 r) (h1 : 1 ≤ i) (h2 : i ≤ K.qn) : L1.tb i = L.tb i := h.E.tb i h1 h2
theorem KIn.hq (h : KIn w k K L i a c w1 K1 L1 r) (h1 : 1 ≤ i) (h2 : i ≤ K.qn) : w1.heap[L.qb i]? = some (.cells (procC L1 i (K1.proc i)) 64 (0, 0)) := by
  rw [← h.qb h1 h2]; exact h.F.hq i h1 (Nat.le_trans h2 h.E.qn)
theorem KIn.ht (h : KIn w k K L i a c w1 K1 L1 r) (h1 : 1 ≤ i) (h2 : i ≤ K.qn) : TabAt w1 (L.tb i) (tabS L1 (K1.proc i).fds) (L1.S (tTab i) w1) := by
  rw [← h.tb h1 h2]; exact h.F.ht i h1 (Nat.le_trans h2 h.E.qn)
/-- Nothing that is the kernel's or the call's has turned. -/
theorem KIn.still {T : Nat → Prop} (h : KIn w k K L i a c w1 K1 L1 r) (hf : Fr T w1 w2) (hT : ∀ b, T b → b < w1.heap.size → w.heap.size ≤ b ∧ L1.o b = none) : KIn w k K L i a c w2 K1 L1 r :=
  ⟨h.F.still (hf.mono (S' := fun b => b < w1.heap.size ∧ T b) fun b hb e => ⟨hb, e⟩) (fun b t e e2 => by rw [(hT b e2.2 e2.1).2] at e; cases e), h.E,
    h.R.trans' hf (fun b hb e => by have := (hT b e (Nat.lt_of_lt_of_le hb h.R.size)).1; omega), h.N, hf.get h.A (fun e => by have := (hT a e (blk_lt h.A)).1; have := h.al; omega), h.al, h.ao⟩
theorem KIn.quiet (h : KIn w k K L i a c w1 K1 L1 r) (hf : Fr (fun _ => False) w1 w2) : KIn w k K L i a c w2 K1 L1 r := h.still hf fun _ e => e.elim
theorem KIn.drew (h : KIn w k K L i a c w1 K1 L1 r) : KIn w k K L i a c w1.drew K1 L1 r := h.quiet (Fr.refl _ _).drew
theorem KIn.alloc (h : KIn w k K L i a c w1 K1 L1 r) (o : Obj) : KIn w k K L i a c (w1.alloc o) K1 L1 r := h.quiet ((Fr.refl _ _).alloc o)
/-- A cell of the answer. -/
theorem KIn.set (h : KIn w k K L i a c w1 K1 L1 r) (j : Nat) (v : Value) {r' : ResV} (e : (askC k (L.qb i) c r).setIfInBounds j v = askC k (L.qb i) c r') : KIn w k K L i a c (w1.setCell ⟨a, j, none⟩ v) K1 L1 r' :=
  ⟨h.F.ask h.a1 j v, h.E, h.R.trans (fr_ask w1 a j v), h.N, by have := blk_set h.A j v; rw [e] at this; exact this, h.al, h.ao⟩
theorem KIn.err (h : KIn w k K L i a c w1 K1 L1 r) (x : Int) : KIn w k K L i a c (w1.setCell ⟨a, 17, none⟩ (.int .i64 x)) K1 L1 { r with err := x } := h.set 17 _ rfl
theorem KIn.n (h : KIn w k K L i a c w1 K1 L1 r) (x : Int) : KIn w k K L i a c (w1.setCell ⟨a, 8, none⟩ (.int .i64 x)) K1 L1 { r with n := x } := h.set 8 _ rfl
theorem KIn.m (h : KIn w k K L i a c w1 K1 L1 r) (x : Int) : KIn w k K L i a c (w1.setCell ⟨a, 9, none⟩ (.int .i64 x)) K1 L1 { r with m := x } := h.set 9 _ rfl
theorem KIn.s (h : KIn w k K L i a c w1 K1 L1 r) (x : ByteArray) : KIn w k K L i a c (w1.setCell ⟨a, 10, none⟩ (.string x)) K1 L1 { r with s := x } := h.set 10 _ rfl
/-- The kernel has turned, and what it got is new. -/
theorem KIn.mut {X Y : Nat → Prop} (h : KIn w k K L i a c w1 K1 L1 r) (hm : KMut k K1 K2 L1 X Y w1 w2) (hX : ∀ b, X b → w.heap.size ≤ b) (hY : ∀ b, Y b → w.heap.size ≤ b) : ∃ L2, KIn w k K L i a c w2 K2 L2 r ∧ LExt K1 K2 L1 L2 := by
  obtain ⟨L2, f, e, g, n⟩ := hm
  refine ⟨L2, ⟨f, h.E.trans e, h.R.trans' g fun b hb x => ?_, fun b x => ?_, g.get h.A fun x => ?_, h.al, h.ao⟩, e⟩
  · rcases x with x | x
    · rcases h.N b x with y | y
      · exact .inl y
      · omega
    · have := hX b x; omega
  · rcases n b x with y | y | y
    · exact h.N b y
    · exact .inr (hY b y)
    · exact .inr (Nat.le_trans h.R.size y)
  · rcases x with x | x
    · exact x h.a1
    · have := hX a x; have := h.al; omega
/-- A part of the kernel has turned that was its own. -/
theorem KIn.own {T : Nat → Prop} (h : KIn w k K L i a c w1 K1 L1 r) (hF : KF w2 k K2 L2) (hE : LExt K1 K2 L1 L2) (hf : Fr T w1 w2) (hT : ∀ b, b < w1.heap.size → T b → L1.o b ≠ none) (hn : ∀ b, L2.o b ≠ none → L1.o b ≠ none ∨ w1.heap.size ≤ b) : KIn w k K L i a c w2 K2 L2 r :=
  ⟨hF, h.E.trans hE, h.R.trans' hf fun b hb x => by
      rcases h.N b (hT b (Nat.lt_of_lt_of_le hb h.R.size) x) with y | y
      · exact .inl y
      · omega, fun b x => by
      rcases hn b x with y | y
      · exact h.N b y
      · exact .inr (Nat.le_trans h.R.size y), hf.get h.A fun x => hT a (blk_lt h.A) x h.a1, h.al, h.ao⟩
theorem LExt.same {K' : KQ} (h : K.pn ≤ K'.pn ∧ K.dn ≤ K'.dn ∧ K.qn ≤ K'.qn) : LExt K K' L L := ⟨rfl, h.1, h.2.1, h.2.2, fun _ _ _ => rfl, fun _ _ _ => rfl, fun _ _ _ => rfl, fun _ _ _ => rfl, fun _ _ e => e⟩
theorem KIn.files {σ : FSt} {p : Nat → Nat} (h : KIn w k K L i a c w1 K1 L1 r) (hf : Fr (L1.S tFil w1) w1 w2) (hA : FilesAt w2 L1.f σ (L1.S tFil w1) p) : KIn w k K L i a c w2 { K1 with σ := σ } (L1.grow tFil w1 w2) r :=
  h.own (h.F.filesU hf hA) (grow_ext h.F hf.size (Nat.le_refl _) (Nat.le_refl _) (Nat.le_refl _)) hf (fun b hb e => by rcases e with e | e; (· rw [e]; simp); (· omega)) fun b e => grow_new e
theorem KIn.tab {t : TSt} (h : KIn w k K L i a c w1 K1 L1 r) {j : Nat} (h1 : 1 ≤ j) (h2 : j ≤ K1.qn) (hf : Fr (L1.S (tTab j) w1) w1 w2) (hA : TabAt w2 (L1.tb j) (tabS L1 t) (L1.S (tTab j) w1)) : KIn w k K L i a c w2 (K1.fds j t) (L1.grow (tTab j) w1 w2) r :=
  h.own (h.F.tabU h1 h2 hf hA) (grow_ext h.F hf.size (Nat.le_refl _) (Nat.le_refl _) (Nat.le_refl _)) hf (fun b hb e => by rcases e with e | e; (· rw [e]; simp); (· omega)) fun b e => grow_new e
theorem KIn.desc (h : KIn w k K L i a c w1 K1 L1 r) {j : Nat} (h1 : 1 ≤ j) (h2 : j ≤ K1.dn) {d : DescQ} (hf : Fr (fun b => b = L1.db j) w1 w2) (hb : w2.heap[L1.db j]? = some (.cells (descC L1 j d) 72 (0, 0))) (hi : d.inn = (K1.desc j).inn) : KIn w k K L i a c w2 (K1.setD j d) L1 r :=
  h.own (h.F.descU h1 h2 hf hb hi) (.same ⟨Nat.le_refl _, Nat.le_refl _, Nat.le_refl _⟩) hf (fun b _ e => by rw [e, h.F.od j h1 h2]; simp) fun b e => .inl e
theorem KIn.proc (h : KIn w k K L i a c w1 K1 L1 r) {j : Nat} (h1 : 1 ≤ j) (h2 : j ≤ K1.qn) {q : ProcQ} (hf : Fr (fun b => b = L1.qb j) w1 w2) (hb : w2.heap[L1.qb j]? = some (.cells (procC L1 j q) 64 (0, 0))) (hi : q.inn = (K1.proc j).inn) (hs : q.fds = (K1.proc j).fds) : KIn w k K L i a c w2 (K1.setQ j q) L1 r :=
  h.own (h.F.procU h1 h2 hf hb hi hs) (.same ⟨Nat.le_refl _, Nat.le_refl _, Nat.le_refl _⟩) hf (fun b _ e => by rw [e, h.F.oq j h1 h2]; simp) fun b e => .inl e
/-- What a function that answers an error leaves. -/
def KErrPost (w : World) (k : Nat) (K : KQ) (L : KLay) (i a : Nat) (c : SysQ) (R : ResQ × KQ) (e : Ending) (w' : World) : Prop :=
  e = .returned (.int .i64 R.1.err) ∧ ∃ L' r, KIn w k K L i a c w' R.2 L' r ∧ { r with err := R.1.err } = resV R.1
theorem KIn.post (h : KIn w k K L i a c w1 K1 L1 r) {R : Bool × ResQ × KQ} (e : R.2.2 = K1) (hr : R.1 = false → r = resV R.2.1) : KaskPost w k K L i a c R (.returned (.bool R.1)) w1 :=
  ⟨rfl, L1, by rw [e]; exact h.F, by rw [e]; exact h.E, h.R, h.N, r, h.A, hr⟩
end
end Go.Proofs.YtffekmjoenppaaaGreatDoor

/- From a function that answers an error to the answer of the call. Conditions: each law's own premises. -/
namespace Go.Proofs.YtffekmjoenppaaaGreatDoor
open Go.RowKit

def ErrR (w : World) (k : Nat) (K : KQ) (L : KLay) (i a : Nat) (c : SysQ) (R : ResQ × KQ) (x : Int) (w' : World) : Prop :=
  x = R.1.err ∧ ∃ L' r, KIn w k K L i a c w' R.2 L' r ∧ { r with err := R.1.err } = resV R.1
section
variable {w : World} {k : Nat} {K : KQ} {L : KLay} {i a : Nat} {c : SysQ} {R : ResQ × KQ}
theorem KErrPost.errR {e : Ending} {w' : World} (h : KErrPost w k K L i a c R e w') : ∃ x, e = .returned (.int .i64 x) ∧ ErrR w k K L i a c R x w' := ⟨_, h.1, rfl, h.2⟩
theorem ErrR.ask (x : Int) (w' : World) (h : ErrR w k K L i a c R x w') : ∃ r', AskAt w' a k (L.qb i) c r' := by
  obtain ⟨_, _, r, h, _⟩ := h
  exact ⟨r, h.A⟩
theorem ErrR.post {x : Int} {w2 : World} (h : ErrR w k K L i a c R x w2) : KaskPost w k K L i a c (false, R) (.returned (.bool false)) (w2.setCell ⟨a, 17, none⟩ (.int .i64 x)) := by
  obtain ⟨rfl, L', r, h, hr⟩ := h
  exact (h.err _).post rfl fun _ => hr
theorem err_done (h : Calls Tryz.prog 15 #[ptrAt a] w fun e w' => e = .returned (.bool false) ∧ ∃ x w2, ErrR w k K L i a c R x w2 ∧ w' = w2.setCell ⟨a, 17, none⟩ (.int .i64 x)) : Calls Tryz.prog 15 #[ptrAt a] w (KaskPost w k K L i a c (false, R)) :=
  h.mono fun _ _ ⟨e1, x, w2, e2, e3⟩ => by rw [e1, e3]; exact e2.post
end
end Go.Proofs.YtffekmjoenppaaaGreatDoor

/- Forking, as plain data. No program in sight; no condition. -/
namespace Go.Proofs.YtffekmjoenppaaaGreatDoor
open Go.RowKit

/-- A description is named once more. -/
def refQ (K : KQ) (o : Option (Nat × Bool)) : KQ := match o with | none => K | some (j, _) => K.setD j { K.desc j with refs := (K.desc j).refs + 1 }
def refsQ (K : KQ) (t : TSt) : Nat → KQ
  | 0 => K
  | n + 1 => refQ (refsQ K t n) (t n)
def procsN (K : KQ) : Nat := (regL (fun i => (K.proc i).inn) (fun _ => ()) K.qn).length
/-- What a fork makes. -/
def forkK (K : KQ) (i : Nat) : KQ := ({ refsQ K (K.proc i).fds 32 with σ := (holdR K.σ (K.proc i).dir).2 }).addQ { K.proc i with parent := i, inn := true }
/-- SysFork: the answer, the kernel. -/
def forkQ (K : KQ) (i : Nat) : ResQ × KQ := if 24 ≤ procsN K then (errR 11, K) else ({ noRes with n := (K.qn : Int) + 1 }, forkK K i)
theorem regL_len_any {α β : Type} (inn : Nat → Bool) (v : Nat → α) (u : Nat → β) : ∀ n, (regL inn v n).length = (regL inn u n).length
  | 0 => rfl
  | n + 1 => by
    rw [regL, regL, List.length_append, List.length_append, regL_len_any inn v u n]
    split <;> rfl
theorem refQ_none (K : KQ) : refQ K none = K := rfl
theorem refQ_some (K : KQ) (j : Nat) (x : Bool) : refQ K (some (j, x)) = K.setD j { K.desc j with refs := (K.desc j).refs + 1 } := rfl
structure RefEq (K K' : KQ) (n : Nat) : Prop where
  σ : K'.σ = K.σ
  pn : K'.pn = K.pn
  pipe : K'.pipe = K.pipe
  dn : K'.dn = K.dn
  qn : K'.qn = K.qn
  proc : K'.proc = K.proc
  typed : K'.typed = K.typed
  closed : K'.closed = K.closed
  out : K'.out = K.out
  desc : ∀ j, ∃ r : Int, (K.desc j).refs ≤ r ∧ r ≤ (K.desc j).refs + n ∧ K'.desc j = { K.desc j with refs := r }
theorem RefEq.refl (K : KQ) : RefEq K K 0 := ⟨rfl, rfl, rfl, rfl, rfl, rfl, rfl, rfl, rfl, fun j => ⟨(K.desc j).refs, Int.le_refl _, by omega, rfl⟩⟩
theorem refQ_eq {K K' : KQ} {n : Nat} (h : RefEq K K' n) (o : Option (Nat × Bool)) : RefEq K (refQ K' o) (n + 1) := by
  cases o with
  | none => exact ⟨h.σ, h.pn, h.pipe, h.dn, h.qn, h.proc, h.typed, h.closed, h.out, fun j => by obtain ⟨r, a, b, c⟩ := h.desc j; exact ⟨r, a, by omega, c⟩⟩
  | some p =>
    obtain ⟨d, x⟩ := p
    refine ⟨h.σ, h.pn, h.pipe, h.dn, h.qn, h.proc, h.typed, h.closed, h.out, fun j => ?_⟩
    obtain ⟨r, a, b, c⟩ := h.desc j
    by_cases e : j = d
    · refine ⟨r + 1, by omega, by omega, ?_⟩
      show (if j = d then { K'.desc d with refs := (K'.desc d).refs + 1 } else K'.desc j) = _
      rw [if_pos e, ← e, c]
    · refine ⟨r, a, by omega, ?_⟩
      show (if j = d then { K'.desc d with refs := (K'.desc d).refs + 1 } else K'.desc j) = _
      rw [if_neg e, c]
theorem refsQ_eq (K : KQ) (t : TSt) : ∀ n, RefEq K (refsQ K t n) n
  | 0 => .refl K
  | n + 1 => refQ_eq (refsQ_eq K t n) (t n)
theorem refsQ_skip {K : KQ} {t : TSt} {a : Nat} : ∀ (n : Nat), (∀ j, a ≤ j → j < a + n → t j = none) → refsQ K t (a + n) = refsQ K t a
  | 0, _ => rfl
  | n + 1, h => by
    rw [show a + (n + 1) = (a + n) + 1 by omega, refsQ, h (a + n) (by omega) (by omega), refQ_none, refsQ_skip n fun j h1 h2 => h j h1 (by omega)]
theorem refsQ_end {K : KQ} {t : TSt} {a b : Nat} (hab : a ≤ b) (h : ∀ j, a ≤ j → j < b → t j = none) : refsQ K t b = refsQ K t a := by
  have := refsQ_skip (K := K) (t := t) (a := a) (b - a) (fun j h1 h2 => h j h1 (by omega))
  rwa [show a + (b - a) = b by omega] at this
theorem refsQ_step {K : KQ} {t : TSt} {a b : Nat} (hab : a ≤ b) (h : ∀ j, a ≤ j → j < b → t j = none) : refsQ K t (b + 1) = refQ (refsQ K t a) (t b) := by
  rw [refsQ, refsQ_end hab h]
end Go.Proofs.YtffekmjoenppaaaGreatDoor

/- What a kernel's data keep, part by part. No program in sight; each law's own premises. -/
namespace Go.Proofs.YtffekmjoenppaaaGreatDoor
open Go.RowKit

section
variable {K K' : KQ} {N M : Nat}
theorem DescOk.mono {d : DescQ} (h : DescOk K N d) (hp : K.pn ≤ K'.pn) (hN : N ≤ M) : DescOk K' M d :=
  ⟨h.kind, h.con, h.txt, fun e => ⟨(h.pip e).1, Nat.le_trans (h.pip e).2 hp⟩, h.num, h.pos, h.flg, ⟨by have := h.refs.1; omega, by have := h.refs.2; omega⟩, h.tsz⟩
theorem DescOk.refs' {d : DescQ} (h : DescOk K N d) {r : Int} {b : Bool} (h1 : r ≤ M) (h2 : -(M : Int) ≤ r) (_hN : N ≤ M) : DescOk K M { d with refs := r, inn := b } :=
  ⟨h.kind, h.con, h.txt, h.pip, h.num, h.pos, h.flg, ⟨h1, h2⟩, h.tsz⟩
theorem ProcOk.mono {q : ProcQ} (h : ProcOk N q) (hN : N ≤ M) : ProcOk M q := ⟨h.dir, h.mask, Nat.le_trans h.par hN, h.status⟩
theorem KOk.mono (h : KOk K N) (hN : N ≤ M) : KOk K M :=
  ⟨h.fds, fun j a b => (h.desc j a b).mono (Nat.le_refl _) hN, fun j a b => (h.proc j a b).mono hN, fun j a b => ⟨(h.pipe j a b).1, Nat.le_trans (h.pipe j a b).2.1 hN, Nat.le_trans (h.pipe j a b).2.2 hN⟩, Nat.le_trans h.pn hN, Nat.le_trans h.dn hN, Nat.le_trans h.qn hN, h.good.mono hN, h.typed⟩
theorem KOk.setD (h : KOk K N) {j : Nat} {d : DescQ} (hd : DescOk K N d) : KOk (K.setD j d) N :=
  ⟨h.fds, fun i a b => by
    show DescOk (K.setD j d) N (if i = j then d else K.desc i)
    split
    · exact hd.mono (Nat.le_refl _) (Nat.le_refl _)
    · exact (h.desc i a b).mono (Nat.le_refl _) (Nat.le_refl _), h.proc, h.pipe, h.pn, h.dn, h.qn, h.good, h.typed⟩
theorem KOk.setP (h : KOk K N) {j : Nat} {p : PipeQ} (hp : p.data.length ≤ 64 ∧ p.r ≤ N ∧ p.x ≤ N) : KOk (K.setP j p) N :=
  ⟨h.fds, fun i a b => (h.desc i a b).mono (Nat.le_refl _) (Nat.le_refl _), h.proc, fun i a b => by
    show (if i = j then p else K.pipe i).data.length ≤ 64 ∧ (if i = j then p else K.pipe i).r ≤ N ∧ (if i = j then p else K.pipe i).x ≤ N
    split
    · exact hp
    · exact h.pipe i a b, h.pn, h.dn, h.qn, h.good, h.typed⟩
theorem KOk.setQ (h : KOk K N) {j : Nat} {q : ProcQ} (hq : ProcOk N q) (hf : ∀ fd a x, q.fds fd = some (a, x) → 1 ≤ a ∧ a ≤ K.dn) : KOk (K.setQ j q) N :=
  ⟨fun i fd a x h1 h2 e => by
    have e : (if i = j then q else K.proc i).fds fd = some (a, x) := e
    split at e
    · exact hf fd a x e
    · exact h.fds i fd a x h1 h2 e, fun i a b => (h.desc i a b).mono (Nat.le_refl _) (Nat.le_refl _), fun i a b => by
    show ProcOk N (if i = j then q else K.proc i)
    split
    · exact hq
    · exact h.proc i a b, h.pipe, h.pn, h.dn, h.qn, h.good, h.typed⟩
theorem KOk.fdsU (h : KOk K N) {i : Nat} (h1 : 1 ≤ i) (h2 : i ≤ K.qn) {t : TSt} (hf : ∀ fd a x, t fd = some (a, x) → 1 ≤ a ∧ a ≤ K.dn) : KOk (K.fds i t) N :=
  h.setQ ⟨(h.proc i h1 h2).dir, (h.proc i h1 h2).mask, (h.proc i h1 h2).par, (h.proc i h1 h2).status⟩ hf
theorem KOk.σ (h : KOk K N) {σ : FSt} (hg : Good σ N) : KOk { K with σ := σ } N :=
  ⟨h.fds, fun i a b => (h.desc i a b).mono (Nat.le_refl _) (Nat.le_refl _), h.proc, h.pipe, h.pn, h.dn, h.qn, hg, h.typed⟩
theorem KOk.addD (h : KOk K N) {d : DescQ} (hd : DescOk K (N + 1) d) : KOk (K.addD d) (N + 1) :=
  ⟨fun i fd a x h1 h2 e => by have := h.fds i fd a x h1 h2 e; exact ⟨this.1, Nat.le_succ_of_le this.2⟩, fun i a b => by
    show DescOk (K.addD d) (N + 1) (if i = K.dn + 1 then d else K.desc i)
    have b : i ≤ K.dn + 1 := b
    split
    · exact hd.mono (Nat.le_refl _) (Nat.le_refl _)
    · exact (h.desc i a (by omega)).mono (Nat.le_refl _) (Nat.le_succ _), fun j a b => (h.proc j a b).mono (Nat.le_succ _),
    fun j a b => ⟨(h.pipe j a b).1, Nat.le_succ_of_le (h.pipe j a b).2.1, Nat.le_succ_of_le (h.pipe j a b).2.2⟩, Nat.le_succ_of_le h.pn, Nat.succ_le_succ h.dn, Nat.le_succ_of_le h.qn, h.good.mono (Nat.le_succ _), h.typed⟩
theorem KOk.addP (h : KOk K N) {p : PipeQ} (hp : p.data.length ≤ 64 ∧ p.r ≤ N + 1 ∧ p.x ≤ N + 1) : KOk (K.addP p) (N + 1) :=
  ⟨h.fds, fun i a b => (h.desc i a b).mono (Nat.le_succ _) (Nat.le_succ _), fun j a b => (h.proc j a b).mono (Nat.le_succ _), fun i a b => by
    show (if i = K.pn + 1 then p else K.pipe i).data.length ≤ 64 ∧ (if i = K.pn + 1 then p else K.pipe i).r ≤ N + 1 ∧ (if i = K.pn + 1 then p else K.pipe i).x ≤ N + 1
    have b : i ≤ K.pn + 1 := b
    split
    · exact hp
    · have := h.pipe i a (by omega)
      exact ⟨this.1, by omega, by omega⟩, Nat.succ_le_succ h.pn, Nat.le_succ_of_le h.dn, Nat.le_succ_of_le h.qn, h.good.mono (Nat.le_succ _), h.typed⟩
theorem KOk.addQ (h : KOk K N) {q : ProcQ} (hq : ProcOk (N + 1) q) (hf : ∀ fd a x, q.fds fd = some (a, x) → 1 ≤ a ∧ a ≤ K.dn) : KOk (K.addQ q) (N + 1) :=
  ⟨fun i fd a x h1 h2 e => by
    have e : (if i = K.qn + 1 then q else K.proc i).fds fd = some (a, x) := e
    have h2 : i ≤ K.qn + 1 := h2
    split at e
    · exact hf fd a x e
    · exact h.fds i fd a x h1 (by omega) e, fun i a b => (h.desc i a b).mono (Nat.le_refl _) (Nat.le_succ _), fun i a b => by
    show ProcOk (N + 1) (if i = K.qn + 1 then q else K.proc i)
    have b : i ≤ K.qn + 1 := b
    split
    · exact hq
    · exact (h.proc i a (by omega)).mono (Nat.le_succ _), fun j a b => ⟨(h.pipe j a b).1, Nat.le_succ_of_le (h.pipe j a b).2.1, Nat.le_succ_of_le (h.pipe j a b).2.2⟩, Nat.le_succ_of_le h.pn, Nat.le_succ_of_le h.dn, Nat.succ_le_succ h.qn, h.good.mono (Nat.le_succ _), h.typed⟩
theorem KOk.openQ (h : KOk K N) {i : Nat} (h1 : 1 ≤ i) (h2 : i ≤ K.qn) {d : DescQ} (hd : DescOk K (N + 1) { d with refs := 1, inn := true }) : KOk (openQ K i d).2 (N + 1) := by
  unfold Go.Proofs.YtffekmjoenppaaaGreatDoor.openQ
  split
  · exact h.addD hd
  · rename_i fd _
    refine (h.addD hd).fdsU h1 h2 fun fd' a x e => ?_
    show 1 ≤ a ∧ a ≤ K.dn + 1
    rcases set_some e with e | e
    · cases e; omega
    · have := h.fds i fd' a x h1 h2 e
      omega
theorem KOk.refQ (h : KOk K N) (o : Option (Nat × Bool)) (hN : ∀ j, o = some j → 1 ≤ j.1 ∧ j.1 ≤ K.dn) : KOk (refQ K o) (N + 1) := by
  cases o with
  | none => exact h.mono (Nat.le_succ _)
  | some p =>
    obtain ⟨j, x⟩ := p
    have hj := hN _ rfl
    have hd := h.desc j hj.1 hj.2
    refine (h.mono (Nat.le_succ N)).setD (DescOk.refs' (b := (K.desc j).inn) hd ?_ ?_ (Nat.le_succ _))
    · have := hd.refs; omega
    · have := hd.refs; omega
theorem KOk.refsQ (h : KOk K N) (t : TSt) (ht : ∀ fd j x, t fd = some (j, x) → 1 ≤ j ∧ j ≤ K.dn) : ∀ n, KOk (refsQ K t n) (N + n)
  | 0 => h
  | n + 1 => (KOk.refsQ h t ht n).refQ (t n) fun j e => by rw [(refsQ_eq K t n).dn]; exact ht n j.1 j.2 e
end
end Go.Proofs.YtffekmjoenppaaaGreatDoor

/- gate.Kernel.drop: a descriptor less. Conditions: the contract's own premises. -/
namespace Go.Proofs.YtffekmjoenppaaaGreatDoor
open Go.RowKit

attribute [local go_sem] Oper.semAt_some

theorem setD_out (K : KQ) (j : Nat) (d : DescQ) : ({ K.setD j d with desc := fun x => { (K.setD j d).desc x with inn := if (x : Int) = (j : Int) then false else ((K.setD j d).desc x).inn } } : KQ) = K.setD j { d with inn := false } := by
  have : (fun x => { (K.setD j d).desc x with inn := if (x : Int) = (j : Int) then false else ((K.setD j d).desc x).inn } : Nat → DescQ) = fun x => if x = j then { d with inn := false } else K.desc x := by
    funext x
    show ({ (if x = j then d else K.desc x : DescQ) with inn := if (x : Int) = (j : Int) then false else (if x = j then d else K.desc x : DescQ).inn } : DescQ) = _
    by_cases e : x = j
    · rw [if_pos e, if_pos e, if_pos (by omega)]
    · rw [if_neg e, if_neg e, if_neg (by omega)]
  rw [this]; rfl
theorem setP_out (K : KQ) (j : Nat) (d : PipeQ) : ({ K.setP j d with pipe := fun x => { (K.setP j d).pipe x with inn := if (x : Int) = (j : Int) then false else ((K.setP j d).pipe x).inn } } : KQ) = K.setP j { d with inn := false } := by
  have : (fun x => { (K.setP j d).pipe x with inn := if (x : Int) = (j : Int) then false else ((K.setP j d).pipe x).inn } : Nat → PipeQ) = fun x => if x = j then { d with inn := false } else K.pipe x := by
    funext x
    show ({ (if x = j then d else K.pipe x : PipeQ) with inn := if (x : Int) = (j : Int) then false else (if x = j then d else K.pipe x : PipeQ).inn } : PipeQ) = _
    by_cases e : x = j
    · rw [if_pos e, if_pos e, if_pos (by omega)]
    · rw [if_neg e, if_neg e, if_neg (by omega)]
  rw [this]; rfl
section
variable {w w' : World} {k : Nat} {K : KQ} {L : KLay}
theorem KF.dmap (h : KF w k K L) (hn : 1 ≤ K.dn) : ∃ g, L.dm = some g ∧ IMapAt Tryz.prog 3 w g (regL (fun i => (K.desc i).inn) (fun i => ptrAt (L.db i)) K.dn) := by
  have := h.dr
  cases e : L.dm with
  | none => rw [e] at this; have : K.dn = 0 := this; omega
  | some g => rw [e] at this; exact ⟨g, rfl, this⟩
theorem KF.pmap (h : KF w k K L) (hn : 1 ≤ K.pn) : ∃ g, L.pm = some g ∧ IMapAt Tryz.prog 3 w g (regL (fun i => (K.pipe i).inn) (fun i => ptrAt (L.pb i)) K.pn) := by
  have := h.pr
  cases e : L.pm with
  | none => rw [e] at this; have : K.pn = 0 := this; omega
  | some g => rw [e] at this; exact ⟨g, rfl, this⟩
theorem KF.qmap (h : KF w k K L) (hn : 1 ≤ K.qn) : ∃ g, L.qm = some g ∧ IMapAt Tryz.prog 3 w g (regL (fun i => (K.proc i).inn) (fun i => ptrAt (L.qb i)) K.qn) := by
  have := h.qr
  cases e : L.qm with
  | none => rw [e] at this; have : K.qn = 0 := this; omega
  | some g => rw [e] at this; exact ⟨g, rfl, this⟩
/-- A description leaves the map. -/
theorem KF.dout {j : Nat} {d : DescQ} {g : Nat} (h : KF w k (K.setD j d) L) (hg : L.dm = some g) (hf : Fr (fun b => b = g) w w') (hm : IMapAt Tryz.prog 3 w' g (idel (j : Int) (regL (fun i => ((K.setD j d).desc i).inn) (fun i => ptrAt (L.db i)) K.dn))) : KF w' k (K.setD j { d with inn := false }) L := by
  rw [regL_del] at hm
  have := h.dmapU (inn := fun x => if (x : Int) = (j : Int) then false else ((K.setD j d).desc x).inn) (hf.mono fun b _ e => by rw [hg, e]) (by rw [hg]; exact hm)
  rw [setD_out] at this
  exact this
theorem KF.pout {j : Nat} {d : PipeQ} {g : Nat} (h : KF w k (K.setP j d) L) (hg : L.pm = some g) (hf : Fr (fun b => b = g) w w') (hm : IMapAt Tryz.prog 3 w' g (idel (j : Int) (regL (fun i => ((K.setP j d).pipe i).inn) (fun i => ptrAt (L.pb i)) K.pn))) : KF w' k (K.setP j { d with inn := false }) L := by
  rw [regL_del] at hm
  have := h.pmapU (inn := fun x => if (x : Int) = (j : Int) then false else ((K.setP j d).pipe x).inn) (hf.mono fun b _ e => by rw [hg, e]) (by rw [hg]; exact hm)
  rw [setP_out] at this
  exact this
end
def dropPost (w : World) (k : Nat) (K K' : KQ) (L : KLay) (e : Ending) (w' : World) : Prop := e = .returned (.tuple #[]) ∧ KMut k K K' L (fun _ => False) (fun _ => False) w w'
theorem KMut.same {w w' : World} {k : Nat} {K K' : KQ} {L : KLay} {T : Nat → Prop} (h : KF w' k K' L) (hn : K.pn ≤ K'.pn ∧ K.dn ≤ K'.dn ∧ K.qn ≤ K'.qn) (hf : Fr T w w') (hT : ∀ b, T b → L.o b ≠ none) : KMut k K K' L (fun _ => False) (fun _ => False) w w' :=
  ⟨L, h, .same hn, hf.mono fun b _ e => .inl (hT b e), fun _ e => .inl e⟩
set_option maxRecDepth 100000 in
set_option maxHeartbeats 1000000 in
theorem kdrop_more (w : World) (k : Nat) (K : KQ) (L : KLay) (h : KF w k K L) (N : Nat) (hok : KOk K N) (hN : N ≤ 1000000) (j : Nat) (h1 : 1 ≤ j) (h2 : j ≤ K.dn) (hr : 0 < (K.desc j).refs - 1) :
    Calls Tryz.prog 59 #[ptrAt k, ptrAt (L.db j)] w (dropPost w k K (dropQ K j) L) := by
  have hb := h.hd j h1 h2
  have hR := (hok.desc j h1 h2).refs
  have hF := h.descU (d := { K.desc j with refs := (K.desc j).refs - 1 }) h1 h2 ((Fr.refl (fun b => b = L.db j) w).setCell (p := ⟨L.db j, 3, none⟩) (.inl rfl) (.int .i64 ((K.desc j).refs - 1))) (by rw [blk_set hb]; rfl) rfl
  have hp : dropPost w k K (dropQ K j) L (.returned (.tuple #[])) (w.setCell ⟨L.db j, 3, none⟩ (.int .i64 ((K.desc j).refs - 1))) := by
    refine ⟨rfl, ?_⟩
    unfold dropQ
    rw [if_pos hr]
    exact .same hF ⟨Nat.le_refl _, Nat.le_refl _, Nat.le_refl _⟩ ((Fr.refl (fun b => b = L.db j) w).setCell (p := ⟨L.db j, 3, none⟩) (.inl rfl) _) fun b e => by rw [e, h.od j h1 h2]; simp
  have Hp := hide hp
  have c3 : w.cell? ⟨L.db j, 3, none⟩ = some (.int .i64 (K.desc j).refs) := by rw [blk_cell hb]; rfl
  have z3 : w.frozen? ⟨L.db j, 3, none⟩ = false := blk_frozen hb _
  have hr1 : (K.desc j).refs ≤ 1000000 := by omega
  have hr2 : -1000000 ≤ (K.desc j).refs := by omega
  generalize (K.desc j).refs = r at *
  clear h hok hb hR hF hp
  unfold ptrAt
  go_enter Tryz.func59, Tryz.ntmps59
  go_wp2_with fail
  go_returns
  exact Hp.out
end Go.Proofs.YtffekmjoenppaaaGreatDoor
