/- gate.asked.fork. Conditions: the contract's own premises. -/
import Derived.Test.YtdnbfhcbcdodmaaGreatDoorRegionRd
import Derived.Test.YtdnbfhcbcdodmaaGreatDoorRegionRd
import Derived.Test.YtdnbfhcbcdodmaaGreatDoorRegionRd
import Derived.Test.YtdnbfhcbcdodmaaGreatDoorRegionRd
import Derived.Test.YtdnbfhcbcdodmaaGreatDoorKerRead
import Derived.Test.YtdnbfhcbcdodmaaGreatDoorKerMid
import Derived.Test.YtdnbfhcbcdodmaaGreatDoorKerF
import Derived.Test.YtdnbfhcbcdodmaaGreatDoorGTabB
import Derived.Test.YtdnbfhcbcdodmaaGreatDoorShelf
import Derived.Shelf.Abstract
import Derived.Shelf.AbstractIn
import Derived.OwnWalkIn
import Derived.TacticsInMore
import Derived.LoopNIn
import Derived.LoopIn
import Derived.Lib.SlKeysI
namespace Go.Proofs.YtdnbfhcbcdodmaaGreatDoor
open Go.RowKit Go.Shelf

attribute [local go_sem] Oper.semAt_some

theorem TabAt.keep {w w' : World} {t : Nat} {st : TSt} {X T : Nat → Prop} (h : TabAt w t st (fun b => X b ∨ w.heap.size ≤ b)) (hf : Fr T w w') (hT : ∀ b, T b → b < w.heap.size → ¬ X b) : TabAt w' t st (fun b => X b ∨ w'.heap.size ≤ b) :=
  (h.aparts hf (fun b hb e e2 => by rcases e with e | e; (· exact hT b e2 hb e); (· omega))).mono fun b e => by
    rcases e.1 with x | x
    · exact .inl x
    · exact .inr (by have := e.2; omega)
open Classical in
theorem addQ_ext {w : World} {k : Nat} {K : KQ} {L : KLay} {xb tb : Nat} {X : Nat → Prop} {m : Option Nat} (h : KF w k K L) (q : ProcQ) (hxo : L.o xb = none) (hXo : ∀ b, X b → L.o b = none) (hm : m = L.qm ∨ ∃ g, m = some g ∧ L.o g = none) : LExt K (K.addQ q) L (L.addQ K.qn xb tb X m) :=
  ⟨rfl, Nat.le_refl _, Nat.le_refl _, Nat.le_succ _, fun _ _ _ => rfl, fun _ _ _ => rfl, fun j a1 a2 => if_neg (by omega), fun j a1 a2 => if_neg (by omega), fun b t e => by
      show (if b = xb then some (tPrc (K.qn + 1)) else if X b then some (tTab (K.qn + 1)) else if m = some b then some (tMap 2) else L.o b) = some t
      rw [if_neg (fun e2 => by rw [e2, hxo] at e; cases e), if_neg (fun e2 => by rw [hXo b e2] at e; cases e)]
      by_cases e2 : m = some b
      · rw [if_pos e2]
        rcases hm with hm | ⟨g, g1, g2⟩
        · rw [h.oqm b (hm ▸ e2)] at e; exact e
        · rw [g1] at e2; cases e2; rw [g2] at e; cases e
      · rw [if_neg e2]; exact e⟩
/-- While the copy's descriptions are counted. -/
structure ForkI (w : World) (k : Nat) (K : KQ) (L : KLay) (i a : Nat) (c : SysQ) (st : TSt) (qc : Array Value) (g t lo hi box : Nat) (s : Nat) (W : World) : Prop where
  le : s ≤ 32
  I : KIn w k K L i a c W (refsQ K st s) L noResV
  q : W.heap[g]? = some (.cells qc 76 (0, 0))
  tt : TabAt W t (tabS L st) (fun b => (lo ≤ b ∧ b < hi) ∨ W.heap.size ≤ b)
  bb : W.heap[box]? = some (.cells #[.pointer (some ⟨t, 0, none⟩)] 72 (0, 0))
section
variable {w W W' : World} {k : Nat} {K : KQ} {L : KLay} {i a : Nat} {c : SysQ} {st : TSt} {qc : Array Value} {g t lo hi box s : Nat}
theorem ForkI.frame {T : Nat → Prop} {z : Nat} (h : ForkI w k K L i a c st qc g t lo hi box s W) (hf : Fr T W W') (hT : ∀ b, T b → z ≤ b) (h1 : g < z) (h2 : box < z) (h3 : hi ≤ z) (h4 : w.heap.size ≤ z) (hn : ∀ b, w.heap.size ≤ b → L.o b = none) : ForkI w k K L i a c st qc g t lo hi box s W' :=
  ⟨h.le, h.I.still hf fun b e _ => ⟨Nat.le_trans h4 (hT b e), hn b (Nat.le_trans h4 (hT b e))⟩, hf.get h.q (fun e => by have := hT _ e; omega), h.tt.keep hf (fun b e _ x => by have := hT b e; omega), hf.get h.bb (fun e => by have := hT _ e; omega)⟩
theorem ForkI.step {fd j : Nat} {m : Bool} (h : ForkI w k K L i a c st qc g t lo hi box s W) (hst : st fd = some (j, m)) (hs : s ≤ fd) (hfd : fd < 32) (hno : ∀ x, s ≤ x → x < fd → st x = none) (h1 : 1 ≤ j) (h2 : j ≤ K.dn) (hg : w.heap.size ≤ g) (hlo : w.heap.size ≤ lo) (hb : w.heap.size ≤ box) (hn : ∀ b, w.heap.size ≤ b → L.o b = none) :
    ForkI w k K L i a c st qc g t lo hi box (fd + 1) (W.setCell ⟨L.db j, 3, none⟩ (.int .i64 (((refsQ K st s).desc j).refs + 1))) := by
  have hj2 : j ≤ (refsQ K st s).dn := by rw [(refsQ_eq K st s).dn]; exact h2
  have ho := h.I.F.od j h1 hj2
  have hne : ∀ b, w.heap.size ≤ b → b ≠ L.db j := fun b e e2 => by rw [← e2, hn b e] at ho; cases ho
  have hf : Fr (fun b => b = L.db j) W (W.setCell ⟨L.db j, 3, none⟩ (.int .i64 (((refsQ K st s).desc j).refs + 1))) := (Fr.refl (fun b => b = L.db j) W).setCell (p := ⟨L.db j, 3, none⟩) (.inl rfl) _
  refine ⟨hfd, ?_, hf.get h.q (hne g hg), h.tt.keep hf (fun b e _ x => hne b (Nat.le_trans hlo x.1) e), hf.get h.bb (hne box hb)⟩
  rw [refsQ_step hs hno, hst, refQ_some]
  exact h.I.desc h1 hj2 hf (by rw [blk_set (h.I.F.hd j h1 hj2)]; rfl) rfl
theorem tabS_none {t : TSt} {fd : Nat} : tabS L t fd = none ↔ t fd = none := by unfold tabS; cases t fd <;> simp
theorem tabS_some {t : TSt} {fd b : Nat} {m : Bool} (h : tabS L t fd = some (b, m)) : ∃ j, t fd = some (j, m) ∧ b = L.db j := by
  unfold tabS at h
  obtain ⟨⟨j, x⟩, e1, e2⟩ := Option.map_eq_some_iff.1 h
  cases e2
  exact ⟨j, e1, rfl⟩
end
theorem lenV {w : World} {k : Nat} {K : KQ} {L : KLay} (h : KF w k K L) (hq : 1 ≤ K.qn) : ∃ g, L.qm = some g ∧ ∀ ty, (Builtin.len_ #[65] ty #[.map (some g)]).run Tryz.prog w = .ok (.int .i64 (procsN K)) w := by
  obtain ⟨g, hg, hm⟩ := h.qmap hq
  refine ⟨g, hg, fun ty => ?_⟩
  have := hm.len (t := 65) (e := 71) Tryz.underlying65 ty
  rw [regL_len_any _ _ (fun _ => ())] at this
  exact this
set_option maxRecDepth 100000 in
set_option maxHeartbeats 1000000 in
theorem afork_full (w : World) (k : Nat) (K : KQ) (L : KLay) (h : KF w k K L) (i : Nat) (h1 : 1 ≤ i) (h2 : i ≤ K.qn) (a : Nat) (c : SysQ) (ha : AskAt w a k (L.qb i) c noResV) (hao : L.o a = none) (hfull : 24 ≤ procsN K) :
    Calls Tryz.prog 50 #[ptrAt a] w (KErrPost w k K L i a c (forkQ K i)) := by
  have I0 := KIn.start h ha hao
  obtain ⟨g, hg, hlen⟩ := lenV h (Nat.le_trans h1 h2)
  have hfin : KErrPost w k K L i a c (forkQ K i) (.returned (.int .i64 11)) w := by
    unfold forkQ
    rw [if_pos hfull]
    exact ⟨rfl, L, _, I0, rfl⟩
  have Hfin := hide hfin
  have c0 : w.cell? ⟨a, 0, none⟩ = some (.pointer (some ⟨k, 0, none⟩)) := by rw [blk_cell ha]; rfl
  have c6 : w.cell? ⟨k, 6, none⟩ = some (.map (some g)) := by rw [blk_cell h.hk, ← hg]; rfl
  have hnn : ¬ ((procsN K : Nat) : Int) < 24 := by omega
  generalize procsN K = pn at *
  clear h ha hao I0 hfin hg h1 h2
  unfold ptrAt
  refine (callsIn_wide (n := 5)).1 ?_
  refine callsIn_of_wp_marks Tryz.func50 rfl trivial ?_ rfl
  simp only [Tryz.ntmps50, List.size_toArray, List.length_cons, List.length_nil, Nat.reduceAdd, Nat.reduceSub, Array.replicate_succ, Array.replicate_zero, List.push_toArray, List.append_toArray, List.nil_append, List.cons_append]
  gi_wp2
  exact ⟨_, results_tmp rfl _ _ _, Eq.subst (motive := fun v => KErrPost w k K L i a c (forkQ K i) (.returned v) w) (show Value.int .i64 11 = _ by first | kernel_rfl | rfl) Hfin.out⟩
set_option maxRecDepth 100000 in
set_option maxHeartbeats 1000000 in
theorem afork_ok (w : World) (k : Nat) (K : KQ) (L : KLay) (h : KF w k K L) (N : Nat) (hok : KOk K N) (hN : N ≤ 1000000) (i : Nat) (h1 : 1 ≤ i) (h2 : i ≤ K.qn) (a : Nat) (c : SysQ) (ha : AskAt w a k (L.qb i) c noResV) (hao : L.o a = none) (hfull : ¬ 24 ≤ procsN K) :
    Calls Tryz.prog 50 #[ptrAt a] w (KErrPost w k K L i a c (forkQ K i)) := by
  have I0 := KIn.start h ha hao
  obtain ⟨g, hg, hlen⟩ := lenV h (Nat.le_trans h1 h2)
  have c0 : w.cell? ⟨a, 0, none⟩ = some (.pointer (some ⟨k, 0, none⟩)) := by rw [blk_cell ha]; rfl
  have c1 : w.cell? ⟨a, 1, none⟩ = some (.pointer (some ⟨L.qb i, 0, none⟩)) := by rw [blk_cell ha]; rfl
  have c6 : w.cell? ⟨k, 6, none⟩ = some (.map (some g)) := by rw [blk_cell h.hk, ← hg]; rfl
  have hqb := h.hq i h1 h2
  have q0 : w.cell? ⟨L.qb i, 0, none⟩ = some (.int .i64 i) := by rw [blk_cell hqb]; rfl
  have q1 : w.cell? ⟨L.qb i, 1, none⟩ = some (.int .i64 (K.proc i).parent) := by rw [blk_cell hqb]; rfl
  have q2 : w.cell? ⟨L.qb i, 2, none⟩ = some (.bool (K.proc i).ended) := by rw [blk_cell hqb]; rfl
  have q3 : w.cell? ⟨L.qb i, 3, none⟩ = some (.int .i64 (K.proc i).status) := by rw [blk_cell hqb]; rfl
  have q4 : w.cell? ⟨L.qb i, 4, none⟩ = some (.int .i64 (K.proc i).dir) := by rw [blk_cell hqb]; rfl
  have q5 : w.cell? ⟨L.qb i, 5, none⟩ = some (.int .i64 (K.proc i).mask) := by rw [blk_cell hqb]; rfl
  have q6 : w.cell? ⟨L.qb i, 6, none⟩ = some (.pointer (some ⟨L.tb i, 0, none⟩)) := by rw [blk_cell hqb]; rfl
  have hnn : ((procsN K : Nat) : Int) < 24 := by omega
  obtain ⟨w1, hw1⟩ : ∃ w1, w1 = w.alloc (.cells #[.int .i64 i, .int .i64 (K.proc i).parent, .bool (K.proc i).ended, .int .i64 (K.proc i).status, .int .i64 (K.proc i).dir, .int .i64 (K.proc i).mask, .pointer (some ⟨L.tb i, 0, none⟩)] 76 (0, 0)) := ⟨_, rfl⟩
  have I1 : KIn w k K L i a c w1 K L noResV := by rw [hw1]; exact I0.alloc _
  have hcopy := hide (copy_any w1 (L.tb i) _ _ (I1.ht h1 h2))
  have bq1 : w1.heap[w.heap.size]? = some (.cells #[.int .i64 i, .int .i64 (K.proc i).parent, .bool (K.proc i).ended, .int .i64 (K.proc i).status, .int .i64 (K.proc i).dir, .int .i64 (K.proc i).mask, .pointer (some ⟨L.tb i, 0, none⟩)] 76 (0, 0)) := by rw [hw1]; exact blk_new _ _
  have z1 : w1.heap.size = w.heap.size + 1 := by rw [hw1]; simp
  have d1 : w1.cell? ⟨a, 1, none⟩ = some (.pointer (some ⟨L.qb i, 0, none⟩)) := by rw [blk_cell I1.A]; rfl
  have d6 : w1.cell? ⟨L.qb i, 6, none⟩ = some (.pointer (some ⟨L.tb i, 0, none⟩)) := by rw [blk_cell (I1.hq h1 h2)]; rfl
  rw [hw1] at d1 d6
  have Hw1 := hide hw1
  have HI1 := hide I1
  have Hnew := hide (fun b (e : w.heap.size ≤ b) => h.new b e)
  have Hok := hide hok
  have Hfq := hide (show forkQ K i = ({ noRes with n := (K.qn : Int) + 1 }, forkK K i) from if_neg hfull)
  have Hbq1 := hide bq1
  have Hz1 := hide z1
  generalize procsN K = pn at *
  clear h hok ha hao I0 hg hqb I1 bq1 z1 hw1
  unfold ptrAt
  refine (callsIn_wide (n := 5)).1 ?_
  refine callsIn_of_wp_marks Tryz.func50 rfl trivial ?_ rfl
  simp only [Tryz.ntmps50, List.size_toArray, List.length_cons, List.length_nil, Nat.reduceAdd, Nat.reduceSub, Array.replicate_succ, Array.replicate_zero, List.push_toArray, List.append_toArray, List.nil_append, List.cons_append]
  gi_wp2_with (refine ⟨trivial, ?_⟩; first
    | (gi_at_call 92; rw [← Hw1.out]; refine (callsIn_wide.2 hcopy.out).mono ?_; rintro e w2 ⟨rfl, ht2, hf2⟩; have b2 := hf2.get Hbq1.out (fun e => e); have e26 := blk_cell b2 6; have z26 := blk_frozen b2 6; simp only [List.getElem?_toArray, List.getElem?_cons_succ, List.getElem?_cons_zero] at e26; have Hb2 := hide b2; have Ht2 := hide ht2; have Hf2 := hide hf2; clear b2 ht2 hf2)
    | (gi_at_call 32; refine (callsIn_wide.2 (all_any _ _)).mono ?_; rintro e w' ⟨rfl, rfl⟩))
  obtain ⟨W0, hW0⟩ : ∃ W0, W0 = (w2.setCell ⟨w.heap.size, 6, none⟩ (.pointer (some ⟨w1.heap.size, 0, none⟩))).alloc (.cells #[.pointer (some ⟨w1.heap.size, 0, none⟩)] 72 (0, 0)) := ⟨_, rfl⟩
  rw [← hW0]
  have z2 : w1.heap.size ≤ w2.heap.size := Hf2.out.size
  have z0 : W0.heap.size = w2.heap.size + 1 := by rw [hW0]; simp
  have hz1 := Hz1.out
  have f20 : Fr (fun b => b = w.heap.size) w2 W0 := by rw [hW0]; exact ((Fr.refl (fun b => b = w.heap.size) w2).setCell (p := ⟨w.heap.size, 6, none⟩) (.inl rfl) _).alloc _
  have h0 : ForkI w k K L i a c (K.proc i).fds #[.int .i64 i, .int .i64 (K.proc i).parent, .bool (K.proc i).ended, .int .i64 (K.proc i).status, .int .i64 (K.proc i).dir, .int .i64 (K.proc i).mask, .pointer (some ⟨w1.heap.size, 0, none⟩)] w.heap.size w1.heap.size w1.heap.size w2.heap.size w2.heap.size 0 W0 := by
    refine ⟨Nat.zero_le _, (HI1.out.quiet Hf2.out).still f20 fun b e _ => by rw [e]; exact ⟨Nat.le_refl _, Hnew.out _ (Nat.le_refl _)⟩, ?_, ?_, ?_⟩
    · rw [hW0]; exact blk_alloc (blk_set Hb2.out 6 _) _
    · exact (Ht2.out.mono fun b e => by by_cases x : b < w2.heap.size; (· exact .inl ⟨e, x⟩); (· exact .inr (by omega))).keep f20 fun b e _ x => by omega
    · rw [hW0]; exact blk_new' _ _ _ (by simp)
  have H0 := hide h0
  have Hz := hide (And.intro hz1 (And.intro z2 z0))
  clear h0 hW0 z2 z0 hz1 f20 Ht2 Hb2 Hf2 HI1 Hbq1 Hz1 Hw1 e26 z26 c0 c1 c6 q0 q1 q2 q3 q4 q5 q6 d1 d6 hcopy hlen
  refine rf_law (α := Nat × Nat) (σ := Nat) 65 #[.pointer (some ⟨w2.heap.size, 0, none⟩)] rfl (enters_of Tryz.func65 (by kernel_rfl) rfl) tenc (fun _ => rfl)
    (TStep id (fun _ => tabS L (K.proc i).fds) (fun _ fd => fd + 1)) (TFin id (fun _ => tabS L (K.proc i).fds)) 0 (ForkI w k K L i a c (K.proc i).fds #[.int .i64 i, .int .i64 (K.proc i).parent, .bool (K.proc i).ended, .int .i64 (K.proc i).status, .int .i64 (K.proc i).dir, .int .i64 (K.proc i).mask, .pointer (some ⟨w1.heap.size, 0, none⟩)] w.heap.size w1.heap.size w1.heap.size w2.heap.size w2.heap.size) (fun _ _ => False)
    (fun s A B h hg => h.frame (z := W0.heap.size) hg (fun b e => by rcases e with e | e <;> omega) (by have := Hz.out; omega) (by have := Hz.out; omega) (by have := Hz.out; omega) (by have := Hz.out; omega) Hnew.out) (fun _ _ _ h _ => h) (fun _ _ _ _ _ h _ _ => h) H0.out
    (fun l J Jx W hJI _ _ hY h0 => all1_iter _ (by omega) _ (some ⟨w1.heap.size, 0, none⟩) id (fun _ => tabS L (K.proc i).fds) (fun _ fd => fd + 1) (fun _ _ => rfl) (ForkI w k K L i a c (K.proc i).fds #[.int .i64 i, .int .i64 (K.proc i).parent, .bool (K.proc i).ended, .int .i64 (K.proc i).status, .int .i64 (K.proc i).dir, .int .i64 (K.proc i).mask, .pointer (some ⟨w1.heap.size, 0, none⟩)] w.heap.size w1.heap.size w1.heap.size w2.heap.size w2.heap.size)
      (fun s W h => ⟨.inr ⟨w1.heap.size, _, rfl, h.tt⟩, by rw [blk_cell h.bb]; rfl⟩) 0 rfl l J Jx W hJI hY h0)
    (fun x => { tmps := #[.pointer (some ⟨a, 0, none⟩), undef, .int .i64 0, .pointer (some ⟨w.heap.size, 0, none⟩), undef, .pointer (some ⟨x.2, 0, none⟩), .pointer (some ⟨a, 0, none⟩), .pointer (some ⟨a, 0, none⟩), .pointer (some ⟨a, 0, none⟩), .pointer (some ⟨k, 0, none⟩), .pointer (some ⟨k, 0, none⟩), .pointer (some ⟨k, 5, none⟩), .pointer (some ⟨k, 6, none⟩), .map (some g), .int .i64 pn, .bool (decide ((24 : Int) ≤ (pn : Int))), .pointer (some ⟨a, 0, none⟩), .pointer (some ⟨a, 0, none⟩), .pointer (some ⟨a, 1, none⟩), .pointer (some ⟨L.qb i, 0, none⟩), .pointer (some ⟨L.qb i, 0, none⟩), .agg #[.int .i64 i, .int .i64 (K.proc i).parent, .bool (K.proc i).ended, .int .i64 (K.proc i).status, .int .i64 (K.proc i).dir, .int .i64 (K.proc i).mask, .pointer (some ⟨L.tb i, 0, none⟩)], .pointer (some ⟨a, 0, none⟩), .pointer (some ⟨a, 0, none⟩), .pointer (some ⟨a, 1, none⟩), .pointer (some ⟨L.qb i, 0, none⟩), .pointer (some ⟨L.qb i, 0, none⟩), .pointer (some ⟨L.qb i, 6, none⟩), .pointer (some ⟨L.tb i, 0, none⟩), .pointer (some ⟨w1.heap.size, 0, none⟩), .pointer (some ⟨w.heap.size, 6, none⟩), .pointer (some ⟨w.heap.size, 6, none⟩), .pointer (some ⟨w1.heap.size, 0, none⟩), .func (.func 65) #[] #[.pointer (some ⟨w2.heap.size, 0, none⟩)], .int .i64 x.1, .pointer (some ⟨x.2, 0, none⟩), undef, undef, undef, undef, undef, undef, undef, undef, undef, undef, undef, undef, undef, undef, undef, undef, undef, undef, undef, undef, undef, undef, undef, undef, undef, undef, undef, undef, undef, undef, undef, undef, undef, undef, undef, undef, undef, undef, undef, undef, undef, undef, undef, undef, undef], defers := [] }) ?assign ?body ?done ?stop
  case assign =>
    intro l x W Kc hK
    gi_wp2
    simpa [tenc] using hK
  case body =>
    rintro l s x s' W ⟨hp1, hp2, hp3, ⟨m, hp4⟩, rfl⟩ hi _
    obtain ⟨j, hj, hxj⟩ := tabS_some hp4
    obtain ⟨hj1, hj2⟩ := Hok.out.fds i x.1 j m h1 h2 hj
    have hst := hi.step hj hp1 hp2 (fun y a1 a2 => tabS_none.1 (hp3 y a1 a2)) hj1 hj2 (Nat.le_refl _) (by have := Hz.out; omega) (by have := Hz.out; omega) Hnew.out
    have hb := hi.I.F.hd j hj1 (by rw [(refsQ_eq K _ s).dn]; exact hj2)
    have hrb : ((refsQ K (K.proc i).fds s).desc j).refs ≤ 2000000 ∧ -2000000 ≤ ((refsQ K (K.proc i).fds s).desc j).refs := by
      obtain ⟨r, a1, a2, a3⟩ := (refsQ_eq K (K.proc i).fds s).desc j
      rw [a3]
      have := (Hok.out.desc j hj1 hj2).refs
      have hp1 : s ≤ x.1 := hp1
      show r ≤ 2000000 ∧ -2000000 ≤ r
      omega
    have hr1 := hrb.1
    have hr2 := hrb.2
    have hlt := blk_lt hb
    have e3 : W.cell? ⟨x.2, 3, none⟩ = some (.int .i64 ((refsQ K (K.proc i).fds s).desc j).refs) := by rw [hxj, blk_cell hb]; rfl
    have z3 : W.frozen? ⟨x.2, 3, none⟩ = false := by rw [hxj]; exact blk_frozen hb 3
    have hlw : L.db j < W0.heap.size := by
      have ho := hi.I.F.od j hj1 (by rw [(refsQ_eq K _ s).dn]; exact hj2)
      by_cases e : L.db j < W0.heap.size
      · exact e
      · rw [Hnew.out _ (by have := Hz.out; omega)] at ho; cases ho
    rw [← hxj] at hst hlt hlw
    have Hst := hide hst
    generalize ((refsQ K (K.proc i).fds s).desc j).refs = rr at *
    clear hst hb hi hrb hj hp3 hp4 hxj
    gi_wp2
    exact ⟨⟨Below.heap_setCell _ _ _ _ (by simp; omega), Below.heap_setCell _ _ _ _ (by simp; omega)⟩, Hst.out⟩
  case done =>
    rintro s W hfin hi hK
    have hend : refsQ K (K.proc i).fds s = refsQ K (K.proc i).fds 32 := (refsQ_end hi.le fun y a1 a2 => tabS_none.1 (hfin y a1 a2)).symm
    have I9 : KIn w k K L i a c W (refsQ K (K.proc i).fds 32) L noResV := by rw [← hend]; exact hi.I
    have hE := refsQ_eq K (K.proc i).fds 32
    obtain ⟨K9, hK9⟩ : ∃ K9, K9 = refsQ K (K.proc i).fds 32 := ⟨_, rfl⟩
    rw [← hK9] at I9 hE
    have I9d := I9.drew
    obtain ⟨p, hA⟩ := I9d.F.files
    rw [hE.σ] at hA
    have hhold := hide (Hold_any W.drew L.f K.σ (L.S tFil W.drew) p hA (Hok.out.good.b hN) ((K.proc i).dir : Int) (by have := (Hok.out.proc i h1 h2).dir; omega))
    have x0 : W.drew.cell? ⟨a, 0, none⟩ = some (.pointer (some ⟨k, 0, none⟩)) := by rw [blk_cell I9d.A]; rfl
    have xk : W.drew.cell? ⟨k, 0, none⟩ = some (.pointer (some ⟨L.f, 0, none⟩)) := by rw [blk_cell I9d.F.hk]; rfl
    have xg : W.drew.cell? ⟨w.heap.size, 4, none⟩ = some (.int .i64 (K.proc i).dir) := by rw [blk_cell (blk_drew hi.q)]; rfl
    have nS : ∀ b, w.heap.size ≤ b → b < W.heap.size → ¬ L.S tFil W.drew b := fun b e1 e2 e3 => by
      rcases e3 with e3 | e3
      · rw [Hnew.out b e1] at e3; cases e3
      · have e4 : W.heap.size ≤ b := e3
        omega
    have Hd9 := hide (blk_drew hK)
    have Hq9 := hide (blk_drew hi.q)
    have Ht9 := hide (hi.tt.keep ((Fr.refl (fun _ => False) W).drew) (fun _ e => e.elim))
    have hzz := Hz.out
    have hDW := blk_lt hK
    have HnS := hide nS
    have HI9d := hide I9d
    have HE := hide hE
    have HK9 := hide hK9
    have HzW := hide (And.intro hDW (show W0.heap.size = w2.heap.size + 1 ∧ w1.heap.size ≤ w2.heap.size ∧ w1.heap.size = w.heap.size + 1 from ⟨hzz.2.2, hzz.2.1, hzz.1⟩))
    generalize (holdR K.σ (K.proc i).dir).1 = he at *
    clear hzz hDW hfin hi hK hend I9 hE hK9 I9d hA nS
    gi_wp2
    refine region_rd_in [0, 1, 2, 3, 4, 5, 6, 7, 8] 9 (by kernel_rfl) (by kernel_rfl) (by kernel_rfl) ?_
    simp only [List.map_cons, List.map_nil, List.getD_cons_zero, List.getD_cons_succ, List.drop_succ_cons, List.drop_zero]
    repeat go_big_quiet_step (fail)
    refine wpQuiet_nil ?_
    gi_wp2
    refine ⟨trivial, (callsIn_wide.2 hhold.out).mono ?_⟩
    rintro e W3 ⟨rfl, hA3, f3⟩
    have I10 := HI9d.out.files f3 hA3
    obtain ⟨L10, hL10⟩ : ∃ L10, L10 = L.grow tFil W.drew W3 := ⟨_, rfl⟩
    obtain ⟨K10, hK10⟩ : ∃ K10 : KQ, K10 = { K9 with σ := (holdR K.σ (K.proc i).dir).2 } := ⟨_, rfl⟩
    rw [← hL10, ← hK10] at I10
    have hzs := HzW.out
    have o10 : ∀ b, w.heap.size ≤ b → b < W.heap.size → L10.o b = none := fun b e1 e2 => by
      rw [hL10]
      show (if W.heap.size ≤ b ∧ b < W3.heap.size then some tFil else L.o b) = none
      rw [if_neg (by omega)]
      exact Hnew.out b e1
    have q3 := f3.get Hq9.out (HnS.out _ (Nat.le_refl _) (by omega))
    have d3 := f3.get Hd9.out (HnS.out _ (by omega) (by omega))
    have t3 := Ht9.out.keep f3 (fun b e1 e2 e3 => HnS.out b (by omega) e2 e1)
    have y1 : W3.cell? ⟨a, 1, none⟩ = some (.pointer (some ⟨L.qb i, 0, none⟩)) := by rw [blk_cell I10.A]; rfl
    have y0 : W3.cell? ⟨L.qb i, 0, none⟩ = some (.int .i64 i) := by rw [blk_cell (I10.hq h1 h2)]; rfl
    have g1 : W3.cell? ⟨w.heap.size, 1, none⟩ = some (.int .i64 (K.proc i).parent) := by rw [blk_cell q3]; rfl
    have u1 : W3.frozen? ⟨w.heap.size, 1, none⟩ = false := blk_frozen q3 1
    obtain ⟨W4, hW4⟩ : ∃ W4, W4 = W3.setCell ⟨w.heap.size, 1, none⟩ (.int .i64 i) := ⟨_, rfl⟩
    have f34 : Fr (fun b => b = w.heap.size) W3 W4 := by rw [hW4]; exact (Fr.refl (fun b => b = w.heap.size) W3).setCell (p := ⟨w.heap.size, 1, none⟩) (.inl rfl) _
    have I11 : KIn w k K L i a c W4 K10 L10 noResV := I10.still f34 fun b e _ => by rw [e]; exact ⟨Nat.le_refl _, o10 _ (Nat.le_refl _) (by omega)⟩
    have q4 : W4.heap[w.heap.size]? = some (.cells #[.int .i64 i, .int .i64 i, .bool (K.proc i).ended, .int .i64 (K.proc i).status, .int .i64 (K.proc i).dir, .int .i64 (K.proc i).mask, .pointer (some ⟨w1.heap.size, 0, none⟩)] 76 (0, 0)) := by rw [hW4, blk_set q3 1]; rfl
    have d4 := f34.get d3 (by omega)
    have t4 := t3.keep f34 (fun b e1 e2 e3 => by omega)
    have hqn : K10.qn = K.qn := by rw [hK10]; exact HE.out.qn
    have hadd := hide (q_add W4 k (kerC L10 K10) L10.qm (fun j => (K10.proc j).inn) L10.qb K10.qn w.heap.size I11.F.hk rfl rfl I11.F.qr (fun e => by have := I11.F.oqm k e; rw [I11.F.ok] at this; cases this) (by have := Hok.out.qn; omega))
    have y40 : W4.cell? ⟨a, 0, none⟩ = some (.pointer (some ⟨k, 0, none⟩)) := by rw [blk_cell I11.A]; rfl
    rw [hW4] at y40
    have HW4 := hide hW4
    have HI11 := hide I11
    have Hq4 := hide q4
    have Hd4 := hide d4
    have Ht4 := hide t4
    have Ho10 := hide o10
    have Hs34 := hide (show W.heap.size ≤ W4.heap.size from Nat.le_trans f3.size f34.size)
    have HK10 := hide hK10
    have Htab := hide (show tabS L10 (K.proc i).fds = tabS L (K.proc i).fds by rw [hL10]; rfl)
    have Hqn := hide hqn
    clear hA3 f3 I10 hL10 hK10 hzs o10 q3 d3 t3 hW4 f34 I11 q4 d4 t4 hqn hhold HI9d Hq9 Hd9 Ht9 HnS
    obtain ⟨pn1, hpn1⟩ : ∃ x : Int, x = (K10.qn : Int) + 1 := ⟨_, rfl⟩
    have Hpn1 := hide hpn1
    unfold ptrAt at hadd
    clear hpn1
    gi_wp2
    rw [← HW4.out]
    refine ⟨trivial, (callsIn_wide.2 hadd.out).mono ?_⟩
    rintro e W5 ⟨rfl, m, hk5, hr5, hm5, f5⟩
    rw [← Hpn1.out]
    have hkc : ((kerC L10 K10).setIfInBounds 5 (.int .i64 ((K10.qn : Int) + 1))).setIfInBounds 6 (.map m) = kerC { L10 with qm := m } { K10 with qn := K10.qn + 1 } := rfl
    rw [hkc] at hk5
    have hzs := HzW.out
    have hs34 := Hs34.out
    have hal := HI11.out.al
    have hxo := Ho10.out _ (Nat.le_refl _) (show w.heap.size < W.heap.size by omega)
    have hgk : w.heap.size ≠ k := fun e => by rw [e, HI11.out.F.ok] at hxo; cases hxo
    have nT : ∀ x, L10.o x = none → ¬ (x = k ∨ L10.qm = some x) := fun x e e2 => by
      rcases e2 with e2 | e2
      · rw [e2, HI11.out.F.ok] at e; cases e
      · rw [HI11.out.F.oqm x e2] at e; cases e
    have q5 := f5.get Hq4.out (nT _ hxo)
    have d5 := f5.get Hd4.out (nT _ (Ho10.out _ (by omega) (by omega)))
    have A5 := f5.get HI11.out.A (nT _ HI11.out.a1)
    have t5 := Ht4.out.keep f5 (fun b e1 e2 e3 => nT b (Ho10.out b (by omega) (by omega)) e1)
    have g0 : W5.cell? ⟨w.heap.size, 0, none⟩ = some (.int .i64 i) := by rw [blk_cell q5]; rfl
    have u0 : W5.frozen? ⟨w.heap.size, 0, none⟩ = false := blk_frozen q5 0
    obtain ⟨W6, hW6⟩ : ∃ W6, W6 = W5.setCell ⟨w.heap.size, 0, none⟩ (.int .i64 pn1) := ⟨_, rfl⟩
    have f56 : Fr (fun b => b = w.heap.size) W5 W6 := by rw [hW6]; exact (Fr.refl (fun b => b = w.heap.size) W5).setCell (p := ⟨w.heap.size, 0, none⟩) (.inl rfl) _
    have q6 : W6.heap[w.heap.size]? = some (.cells #[.int .i64 pn1, .int .i64 i, .bool (K.proc i).ended, .int .i64 (K.proc i).status, .int .i64 (K.proc i).dir, .int .i64 (K.proc i).mask, .pointer (some ⟨w1.heap.size, 0, none⟩)] 76 (0, 0)) := by rw [hW6, blk_set q5 0]; rfl
    have k6 := f56.get hk5 hgk.symm
    have d6 := f56.get d5 (by omega)
    have A6 : AskAt W6 a k (L.qb i) c noResV := f56.get A5 (by omega)
    have t6 := t5.keep f56 (fun b e1 e2 e3 => by omega)
    rw [← Htab.out] at t6
    have hmg : m = L10.qm ∨ ∃ g, m = some g ∧ L10.o g = none ∧ g < W6.heap.size ∧ g ≠ w.heap.size ∧ ¬ (w1.heap.size ≤ g ∧ g < w2.heap.size) := by
      rcases hm5 with ⟨e, _⟩ | ⟨_, e2⟩
      · exact .inl e
      · refine .inr ⟨_, e2, HI11.out.F.new _ (Nat.le_refl _), ?_, by omega, by omega⟩
        rw [e2] at hr5; exact Nat.lt_of_lt_of_le hr5.lt f56.size
    have hr6 := hr5.frame f56 (fun g e e2 => by
      rcases hmg with e3 | ⟨g', e3, e4, _, e5, _⟩
      · exact nT _ hxo (.inr (by rw [← e3, e, e2]))
      · rw [e3] at e; cases e; exact e5 e2)
    have f46 : Fr (fun b => b = k ∨ L10.qm = some b ∨ b = w.heap.size) W4 W6 := (f5.mono fun x _ e => e.elim .inl (fun e => .inr (.inl e))).trans (f56.mono fun _ _ e => .inr (.inr e))
    have F6 := HI11.out.F.addQ (xb := w.heap.size) (tb := w1.heap.size) (X := fun b => w1.heap.size ≤ b ∧ b < w2.heap.size) (q := { K.proc i with parent := i, inn := true }) k6 hr6 rfl (by
      rw [q6, Hpn1.out]
      unfold procC ptrAt
      rw [show (L10.addQ K10.qn w.heap.size w1.heap.size (fun b => w1.heap.size ≤ b ∧ b < w2.heap.size) m).tb (K10.qn + 1) = w1.heap.size from if_pos rfl]
      rfl) t6 hxo (fun b e => ⟨Ho10.out b (by omega) (by omega), by have := f46.size; omega, by omega⟩) hmg f46 (fun b t e e2 => by
      rcases e2 with e2 | e2 | e2
      · exact .inl e2
      · exact .inr e2
      · rw [e2, hxo] at e; cases e)
    have hm2 : m = L10.qm ∨ ∃ g, m = some g ∧ L10.o g = none := hmg.imp id fun ⟨g, a1, a2, _⟩ => ⟨g, a1, a2⟩
    have E6 := addQ_ext (X := fun b => w1.heap.size ≤ b ∧ b < w2.heap.size) (tb := w1.heap.size) HI11.out.F { K.proc i with parent := i, inn := true } hxo (fun b e => Ho10.out b (by omega) (by omega)) hm2
    obtain ⟨L6, hL6⟩ : ∃ L6, L6 = L10.addQ K10.qn w.heap.size w1.heap.size (fun b => w1.heap.size ≤ b ∧ b < w2.heap.size) m := ⟨_, rfl⟩
    rw [← hL6] at F6 E6
    have hN6 : ∀ b, L6.o b ≠ none → L10.o b ≠ none ∨ b = w.heap.size ∨ (w1.heap.size ≤ b ∧ b < w2.heap.size) ∨ (m = some b ∧ (L10.qm = some b ∨ b = W4.heap.size)) := fun b e => by
      rw [hL6] at e
      rcases addQ_new e with e | e | e | e
      · exact .inl e
      · exact .inr (.inl e)
      · exact .inr (.inr (.inl e))
      · refine .inr (.inr (.inr ⟨e, ?_⟩))
        rcases hm5 with ⟨e6, _⟩ | ⟨_, e6⟩
        · exact .inl (by rw [← e6, e])
        · rw [e6] at e; cases e; exact .inr rfl
    have hkN : ∀ b, L10.o b ≠ none → L.o b ≠ none ∨ w.heap.size ≤ b := HI11.out.N
    have I6 : KIn w k K L i a c W6 (K10.addQ { K.proc i with parent := i, inn := true }) L6 noResV := ⟨F6, HI11.out.E.trans E6, HI11.out.R.trans' f46 (fun x hx e => by
        rcases e with e | e | e
        · rcases hkN x (by rw [e, HI11.out.F.ok]; simp) with y | y
          · exact .inl y
          · omega
        · rcases hkN x (by rw [HI11.out.F.oqm x e]; simp) with y | y
          · exact .inl y
          · omega
        · omega), fun b e => by
        rcases hN6 b e with e | e | e | ⟨_, e | e⟩
        · exact hkN b e
        · exact .inr (by omega)
        · exact .inr (by omega)
        · exact hkN b (by rw [HI11.out.F.oqm b e]; simp)
        · exact .inr (by omega), A6, HI11.out.al, HI11.out.ao⟩
    have I7 := I6.n pn1
    have hDo : L6.o W0.heap.size = none := by
      by_cases e : L6.o W0.heap.size = none
      · exact e
      · have ho := Ho10.out W0.heap.size (by omega) (by omega)
        rcases hN6 _ e with e | e | e | ⟨_, e | e⟩
        · exact absurd ho e
        · omega
        · omega
        · rw [HI11.out.F.oqm _ e] at ho; cases ho
        · omega
    have I8 := I7.still (fr_putObj (S := fun b => b = W0.heap.size) (.deferred none) rfl) (fun b e _ => by rw [e]; exact ⟨by omega, hDo⟩)
    have hfin := hide (show KErrPost w k K L i a c (forkQ K i) (.returned (.int .i64 0)) ((W6.setCell ⟨a, 8, none⟩ (.int .i64 pn1)).putObj W0.heap.size (.deferred none)) from by
      rw [Hfq.out]
      unfold forkK
      rw [← HK9.out, ← HK10.out]
      refine ⟨rfl, L6, _, I8, ?_⟩
      rw [Hpn1.out, Hqn.out]
      rfl)
    have Hd7 := hide (blk_set_other d6 ⟨a, 8, none⟩ (.int .i64 pn1) (show W0.heap.size ≠ a by omega))
    have v0 : W6.cell? ⟨w.heap.size, 0, none⟩ = some (.int .i64 pn1) := by rw [blk_cell q6]; rfl
    have v8 : W6.cell? ⟨a, 8, none⟩ = some (.int .i64 0) := by rw [blk_cell A6]; rfl
    have vz : W6.frozen? ⟨a, 8, none⟩ = false := blk_frozen A6 8
    rw [hW6] at v0 v8 vz
    have HW6 := hide hW6
    clear hkc hk5 hr5 hm5 f5 hzs hs34 hal hxo hgk nT q5 d5 A5 t5 hW6 f56 q6 k6 d6 A6 t6 hmg hr6 f46 F6 hm2 E6 hL6 hN6 hkN I6 I7 hDo I8 hadd HI11 Hq4 Hd4 Ht4 Ho10 Htab
    gi_wp2
    rw [← HW6.out]
    refine ⟨by simp, .inl ⟨_, _, rfl, run_takeDeferred Hd7.out, ?_⟩⟩
    exact ⟨_, results_tmp rfl _ _ _, Eq.subst (motive := fun v => KErrPost w k K L i a c (forkQ K i) (.returned v) ((W6.setCell ⟨a, 8, none⟩ (.int .i64 pn1)).putObj W0.heap.size (.deferred none))) (show Value.int .i64 0 = _ by first | kernel_rfl | rfl) hfin.out⟩
  case stop =>
    rintro cc W h _
    exact h.elim
theorem afork_any (w : World) (k : Nat) (K : KQ) (L : KLay) (h : KF w k K L) (N : Nat) (hok : KOk K N) (hN : N ≤ 1000000) (i : Nat) (h1 : 1 ≤ i) (h2 : i ≤ K.qn) (a : Nat) (c : SysQ) (ha : AskAt w a k (L.qb i) c noResV) (hao : L.o a = none) :
    Calls Tryz.prog 50 #[ptrAt a] w (KErrPost w k K L i a c (forkQ K i)) := by
  by_cases e : 24 ≤ procsN K
  · exact afork_full w k K L h i h1 h2 a c ha hao e
  · exact afork_ok w k K L h N hok hN i h1 h2 a c ha hao e
end Go.Proofs.YtdnbfhcbcdodmaaGreatDoor

/- gate.Kernel.Table. Conditions: the contract's own premises. -/
namespace Go.Proofs.YtdnbfhcbcdodmaaGreatDoor
open Go.RowKit Go.Shelf

attribute [local go_sem] Oper.semAt_some

/-- Which descriptions descriptors name, as far as p. -/
def tabN (t : TSt) (p fd : Nat) : Int := if fd < p then (match t fd with | none => -1 | some (j, _) => (j : Int)) else -1
def tabI (t : TSt) (p : Nat) : Array Value := ((List.range 32).map fun fd => Value.int .i64 (tabN t p fd)).toArray
theorem tabI_get (t : TSt) (p fd : Nat) : (tabI t p)[fd]? = if fd < 32 then some (.int .i64 (tabN t p fd)) else none := by
  unfold tabI
  rw [List.getElem?_toArray, List.getElem?_map]
  by_cases e : fd < 32
  · rw [if_pos e, List.getElem?_range e]; rfl
  · rw [if_neg e, List.getElem?_eq_none (by simpa using e)]; rfl
theorem tabI_zero (t : TSt) : tabI t 0 = repC 32 := by
  apply Array.ext_getElem?
  intro fd
  rw [tabI_get]
  unfold tabN
  rw [if_neg (Nat.not_lt_zero _)]
  by_cases e : fd < 32
  · rw [if_pos e, repC_get e]; rfl
  · rw [if_neg e, Array.getElem?_eq_none (by rw [repC_size (Nat.le_refl _)]; omega)]
theorem tabI_step {t : TSt} {p x j : Nat} {m : Bool} (hp : p ≤ x) (hx : x < 32) (hn : ∀ y, p ≤ y → y < x → t y = none) (hj : t x = some (j, m)) : (tabI t p).setIfInBounds x (.int .i64 j) = tabI t (x + 1) := by
  apply Array.ext_getElem?
  intro fd
  have hs : (tabI t p).size = 32 := by unfold tabI; simp
  by_cases e : fd = x
  · rw [e, Array.getElem?_setIfInBounds_self_of_lt (by omega), tabI_get, if_pos hx]
    unfold tabN
    rw [if_pos (Nat.lt_succ_self _), hj]
  · rw [Array.getElem?_setIfInBounds_ne (Ne.symm e), tabI_get, tabI_get]
    by_cases e32 : fd < 32
    · rw [if_pos e32, if_pos e32]
      unfold tabN
      by_cases e1 : fd < p
      · rw [if_pos e1, if_pos (by omega)]
      · rw [if_neg e1]
        by_cases e2 : fd < x + 1
        · rw [if_pos e2, hn fd (by omega) (by omega)]
        · rw [if_neg e2]
    · rw [if_neg e32, if_neg e32]
theorem tabI_end {t : TSt} {p : Nat} (hp : p ≤ 32) (hn : ∀ y, p ≤ y → y < 32 → t y = none) : tabI t p = tabI t 32 := by
  apply Array.ext_getElem?
  intro fd
  rw [tabI_get, tabI_get]
  by_cases e32 : fd < 32
  · rw [if_pos e32, if_pos e32]
    unfold tabN
    rw [if_pos e32]
    by_cases e1 : fd < p
    · rw [if_pos e1]
    · rw [if_neg e1, hn fd (by omega) e32]
  · rw [if_neg e32, if_neg e32]
structure TabRI (w : World) (k : Nat) (K : KQ) (L : KLay) (t : TSt) (tb rb vb box s : Nat) (W : World) : Prop where
  le : s ≤ 32
  F : KF W k K L
  r : W.heap[rb]? = some (.cells (tabI t s) 3 (0, 0))
  v : W.heap[vb]? = some (.cells #[.slice (some ⟨rb, 0, none⟩) 32 32] 41 (0, 0))
  bx : W.heap[box]? = some (.cells #[.pointer (some ⟨tb, 0, none⟩)] 72 (0, 0))
  fr : Fr (fun _ => False) w W
def TablePost (w : World) (t : TSt) (e : Ending) (w' : World) : Prop :=
  ∃ b, e = .returned (.slice (some ⟨b, 0, none⟩) 32 32) ∧ w.heap.size ≤ b ∧ w'.heap[b]? = some (.cells (tabI t 32) 3 (0, 0)) ∧ Fr (fun _ => False) w w'
theorem TabRI.frame {T : Nat → Prop} {w W W' : World} {k : Nat} {K : KQ} {L : KLay} {t : TSt} {tb rb vb box s z : Nat} (h : TabRI w k K L t tb rb vb box s W) (hf : Fr T W W') (hT : ∀ b, T b → z ≤ b) (h1 : rb < z) (h2 : vb < z) (h3 : box < z) (h4 : w.heap.size ≤ z) (hn : ∀ b, w.heap.size ≤ b → L.o b = none) : TabRI w k K L t tb rb vb box s W' :=
  ⟨h.le, h.F.still hf (fun b u e x => by have := hn b (Nat.le_trans h4 (hT b x)); rw [this] at e; cases e), hf.get h.r (fun e => by have := hT _ e; omega), hf.get h.v (fun e => by have := hT _ e; omega), hf.get h.bx (fun e => by have := hT _ e; omega),
    h.fr.trans' hf fun b hb e => by have := hT b e; omega⟩
set_option maxRecDepth 100000 in
set_option maxHeartbeats 2000000 in
theorem ktable_any (w : World) (k : Nat) (K : KQ) (L : KLay) (h : KF w k K L) (hfd : FdsOk K) (pid : Int) (hp : -9223372036854775808 ≤ pid ∧ pid ≤ 9223372036854775807) (hl : livesB K pid = true) (i : Nat) (hi : pid = i) (h1 : 1 ≤ i) (h2 : i ≤ K.qn) :
    Calls Tryz.prog 12 #[ptrAt k, .int .i64 pid] w (TablePost w (K.proc i).fds) := by
  have hlv := lives_any w k K L h (Nat.le_trans h1 h2) pid hp
  unfold livesV at hlv
  rw [if_pos hl, hi, show ((i : Int)).toNat = i from rfl] at hlv
  have Hlv := hide hlv
  have H := hide h
  have Hfd := hide hfd
  clear hlv h hfd
  rw [hi]
  unfold ptrAt at *
  refine (callsIn_wide (n := 5)).1 ?_
  refine callsIn_of_wp_marks Tryz.func12 rfl trivial ?_ rfl
  simp only [Tryz.ntmps12, List.size_toArray, List.length_cons, List.length_nil, Nat.reduceAdd, Nat.reduceSub, Array.replicate_succ, Array.replicate_zero, List.push_toArray, List.append_toArray, List.nil_append, List.cons_append]
  gi_wp2
  refine ⟨trivial, (callsIn_wide.2 Hlv.out).mono ?_⟩
  rintro e w1 ⟨rfl, rfl⟩
  obtain ⟨wa, hwa⟩ : ∃ wa, wa = w1.alloc (.cells #[neg1] 3 (0, 0)) := ⟨_, rfl⟩
  have hga : wa.cell? ⟨w1.heap.size, 0, none⟩ = some neg1 := by rw [hwa, blk_cell (blk_new _ _)]; rfl
  have hrep := hide (rep_any wa w1.heap.size hga)
  have Hwa := hide hwa
  have hfa := hide (show Fr (fun _ => False) w1 wa by rw [hwa]; exact (Fr.refl _ _).alloc _)
  unfold neg1 at Hwa
  clear hwa hga
  gi_wp2
  rw [← Hwa.out]
  refine ⟨trivial, (callsIn_wide.2 hrep.out).mono ?_⟩
  rintro e w2 ⟨rb, rfl, hrb, hr2, hf2⟩
  have hf12 : Fr (fun _ => False) w1 w2 := hfa.out.trans hf2
  obtain ⟨wv, hwv⟩ : ∃ wv, wv = w2.alloc (.cells #[.slice (some ⟨rb, 0, none⟩) 32 32] 41 (0, 0)) := ⟨_, rfl⟩
  have hf1v : Fr (fun _ => False) w1 wv := by rw [hwv]; exact hf12.alloc _
  have q6 : wv.cell? ⟨L.qb i, 6, none⟩ = some (.pointer (some ⟨L.tb i, 0, none⟩)) := by rw [blk_cell ((H.out.quiet hf1v).hq i h1 h2)]; rfl
  rw [hwv] at q6
  have Hv := hide (show wv.heap[w2.heap.size]? = some (.cells #[.slice (some ⟨rb, 0, none⟩) 32 32] 41 (0, 0)) by rw [hwv]; exact blk_new _ _)
  have Hr := hide (show wv.heap[rb]? = some (.cells (repC 32) 3 (0, 0)) by rw [hwv]; exact blk_alloc hr2 _)
  have Hwv := hide hwv
  have Hf1v := hide hf1v
  have Hrb := hide (And.intro (Nat.le_trans hfa.out.size hrb) (blk_lt hr2))
  have Hzv := hide (show wv.heap.size = w2.heap.size + 1 by rw [hwv]; simp)
  clear hrb hr2 hf2 hf12 hwv hf1v hfa hrep Hwa Hlv
  gi_wp2
  rw [← Hwv.out]
  refine ⟨trivial, (callsIn_wide.2 (all_any _ _)).mono ?_⟩
  rintro e w' ⟨rfl, rfl⟩
  obtain ⟨W0, hW0⟩ : ∃ W0, W0 = wv.alloc (.cells #[.pointer (some ⟨L.tb i, 0, none⟩)] 72 (0, 0)) := ⟨_, rfl⟩
  have z0 : W0.heap.size = wv.heap.size + 1 := by rw [hW0]; simp
  have hzv := Hzv.out
  have hrb := Hrb.out
  have hsz1 : w1.heap.size ≤ wv.heap.size := Hf1v.out.size
  have hn : ∀ b, w1.heap.size ≤ b → L.o b = none := H.out.new
  have h0 : TabRI w1 k K L (K.proc i).fds (L.tb i) rb w2.heap.size (w2.heap.size + 1) 0 W0 := by
    have hf : Fr (fun _ => False) wv W0 := by rw [hW0]; exact (Fr.refl _ _).alloc _
    refine ⟨Nat.zero_le _, (H.out.quiet Hf1v.out).quiet hf, hf.get ?_ (fun e => e), hf.get Hv.out (fun e => e), ?_, Hf1v.out.trans hf⟩
    · rw [tabI_zero]; exact Hr.out
    · rw [hW0]; exact blk_new' _ _ _ hzv.symm
  have H0 := hide h0
  have Hfd' := Hfd.out
  have Hn := hide hn
  clear h0 hn Hr Hv Hwv Hfd
  gi_wp2
  try rw [← hW0]
  clear hW0 q6
  have Hz := hide (And.intro z0 (And.intro hzv (And.intro hrb hsz1)))
  clear z0 hzv hrb hsz1
  refine rf_law (α := Nat × Nat) (σ := Nat) 65 #[.pointer (some ⟨(w2.heap.size + 1), 0, none⟩)] rfl (enters_of Tryz.func65 (by kernel_rfl) rfl) tenc (fun _ => rfl)
    (TStep id (fun _ => tabS L (K.proc i).fds) (fun _ fd => fd + 1)) (TFin id (fun _ => tabS L (K.proc i).fds)) 0 (TabRI w1 k K L (K.proc i).fds (L.tb i) rb w2.heap.size (w2.heap.size + 1)) (fun _ _ => False)
    (fun s A B h hg => h.frame (z := W0.heap.size) hg (fun b e => by rcases e with e | e <;> omega) (by have := Hz.out; omega) (by have := Hz.out; omega) (by have := Hz.out; omega) (by have := Hz.out; omega) Hn.out) (fun _ _ _ h _ => h) (fun _ _ _ _ _ h _ _ => h) H0.out
    (fun l J Jx W hJI _ _ hY h0 => all1_iter _ (by omega) _ (some ⟨L.tb i, 0, none⟩) id (fun _ => tabS L (K.proc i).fds) (fun _ fd => fd + 1) (fun _ _ => rfl) (TabRI w1 k K L (K.proc i).fds (L.tb i) rb w2.heap.size (w2.heap.size + 1))
      (fun s W h => ⟨.inr ⟨L.tb i, _, rfl, h.F.ht i h1 h2⟩, by rw [blk_cell h.bx]; rfl⟩) 0 rfl l J Jx W hJI hY h0)
    (fun x => { tmps := #[.pointer (some ⟨k, 0, none⟩), .int .i64 i, undef, undef, .slice none 0 0, .pointer (some ⟨L.qb i, 0, none⟩), .pointer (some ⟨w2.heap.size, 0, none⟩), .int .i64 x.1, .pointer (some ⟨x.2, 0, none⟩), .pointer (some ⟨k, 0, none⟩), .int .i64 i, .pointer (some ⟨L.qb i, 0, none⟩), .pointer (some ⟨L.qb i, 0, none⟩), .bool false, .slice (some ⟨w1.heap.size, 0, none⟩) 1 1, .slice (some ⟨rb, 0, none⟩) 32 32, .pointer (some ⟨L.qb i, 0, none⟩), .pointer (some ⟨L.qb i, 0, none⟩), .pointer (some ⟨L.qb i, 6, none⟩), .pointer (some ⟨L.tb i, 0, none⟩), .func (.func 65) #[] #[.pointer (some ⟨(w2.heap.size + 1), 0, none⟩)], .int .i64 x.1, .pointer (some ⟨x.2, 0, none⟩), undef, undef, undef, undef, undef, undef, undef, undef], defers := [] }) ?assign ?body ?done ?stop
  case assign =>
    intro l x W Kc hK
    gi_wp2
    simpa [tenc] using hK
  case body =>
    rintro l s x s' W ⟨hp1, hp2, hp3, ⟨m, hp4⟩, rfl⟩ hi hsz
    simp only [id] at hp1 hp3
    obtain ⟨j, hj, hxj⟩ := tabS_some hp4
    obtain ⟨hj1, hj2⟩ := Hfd' i x.1 j m h1 h2 hj
    have e7 : W.drew.cell? ⟨x.2, 7, none⟩ = some (.int .i64 j) := by rw [hxj, blk_cell (blk_drew (hi.F.hd j hj1 hj2))]; rfl
    have ev : W.drew.cell? ⟨w2.heap.size, 0, none⟩ = some (.slice (some ⟨rb, 0, none⟩) 32 32) := by rw [blk_cell (blk_drew hi.v)]; rfl
    have er : W.drew.cell? ⟨rb, x.1, none⟩ = some (.int .i64 (tabN (K.proc i).fds s x.1)) := by rw [blk_cell (blk_drew hi.r), tabI_get, if_pos hp2]
    have zr : W.drew.frozen? ⟨rb, x.1, none⟩ = false := blk_frozen (blk_drew hi.r) _
    have hz := Hz.out
    have hnext : TabRI w1 k K L (K.proc i).fds (L.tb i) rb w2.heap.size (w2.heap.size + 1) (x.1 + 1) (W.drew.setCell ⟨rb, x.1, none⟩ (.int .i64 j)) := by
      have hf : Fr (fun b => b = rb) W (W.drew.setCell ⟨rb, x.1, none⟩ (.int .i64 j)) := ((Fr.refl (fun b => b = rb) W).drew).setCell (p := ⟨rb, x.1, none⟩) (.inl rfl) _
      have hr2 := blk_set (blk_drew hi.r) x.1 (.int .i64 (j : Int))
      rw [tabI_step hp1 hp2 (fun y a1 a2 => tabS_none.1 (hp3 y a1 a2)) hj] at hr2
      have hne1 : w2.heap.size ≠ rb := by omega
      have hne2 : (w2.heap.size + 1) ≠ rb := by omega
      exact ⟨by omega, hi.F.still hf (fun b u e1 e2 => by rw [e2, Hn.out rb hz.2.2.1.1] at e1; cases e1), hr2, hf.get hi.v hne1, hf.get hi.bx hne2, hi.fr.trans' hf (fun b hb e => by rw [e] at hb; omega)⟩
    have hk0 : (W.drew.setCell ⟨rb, x.1, none⟩ (.int .i64 j)).heap[W0.heap.size]? = W.heap[W0.heap.size]? := Below.heap_setCell _ _ _ _ (by simp; omega)
    have hk1 : (W.drew.setCell ⟨rb, x.1, none⟩ (.int .i64 j)).heap[W0.heap.size + 1]? = W.heap[W0.heap.size + 1]? := Below.heap_setCell _ _ _ _ (by simp; omega)
    have hlt : ((x.1 : Nat) : Int) < 32 := by omega
    have hlt' : x.1 < 32 := hp2
    have Hnext := hide (And.intro hk0 (And.intro hk1 hnext))
    generalize tabN (K.proc i).fds s x.1 = tn at *
    clear hnext hk0 hk1 hi hj hp3 hp4 hxj hp2
    gi_wp2_with fail
    refine round_any (by kernel_rfl) (by kernel_rfl) ?hlo ?_
    case hlo => exact fun ⟨_, _, h9⟩ => h9
    refine any_mix [] [0, 1, 2, 3, 4, 5, 6] 7 (by kernel_rfl) (fun _ _ d _ _ h => by cases d <;> exact h) ?_
    simp only [List.map_cons, List.map_nil, List.getD_cons_zero, List.getD_cons_succ, List.drop_succ_cons, List.drop_zero]
    refine wpQuiet_nil ?_
    repeat go_big_quiet_step (fail)
    refine wpQuiet_nil ?_
    go_wp2
    have hzz : W0.heap.size = w2.heap.size + 1 + 1 := by omega
    have hn0 := Hnext.out.1
    have hn1 := Hnext.out.2.1
    rw [hzz] at hn0 hn1
    exact ⟨⟨hn0, hn1⟩, Hnext.out.2.2⟩
  case done =>
    rintro s W hfin hi hK
    have ev : W.cell? ⟨w2.heap.size, 0, none⟩ = some (.slice (some ⟨rb, 0, none⟩) 32 32) := by rw [blk_cell hi.v]; rfl
    have hr := hi.r
    rw [tabI_end hi.le (fun y a1 a2 => tabS_none.1 (hfin y a1 a2))] at hr
    have Hr := hide hr
    have Hf := hide hi.fr
    have hz := Hz.out
    clear hi hr hfin
    gi_wp2
    refine ⟨by simp, .inl ⟨_, _, rfl, run_takeDeferred hK, ?_⟩⟩
    refine ⟨_, results_tmp rfl _ _ _, rb, rfl, hz.2.2.1.1, (World.putObj_heap_other (by omega)).trans Hr.out, Hf.out.trans' (fr_putObj (S := fun b => b = W0.heap.size) _ rfl) (fun b hb e => by omega)⟩
  case stop =>
    intro c W h
    exact h.elim
end Go.Proofs.YtdnbfhcbcdodmaaGreatDoor

/- gate.Kernel.Pipe, gate.Kernel.Table of nobody. Conditions: each contract's own premises. -/
namespace Go.Proofs.YtdnbfhcbcdodmaaGreatDoor
open Go.RowKit

attribute [local go_sem] Oper.semAt_some

/-- A pipe's ends, and what it holds. -/
def pipeR (K : KQ) (n : Int) : Nat × Nat × Nat := if 1 ≤ n ∧ n ≤ K.pn ∧ (K.pipe n.toNat).inn = true then ((K.pipe n.toNat).r, (K.pipe n.toNat).x, (K.pipe n.toNat).data.length) else (0, 0, 0)
def pipeT (K : KQ) (n : Int) : Value := .tuple #[.int .i64 (pipeR K n).1, .int .i64 (pipeR K n).2.1, .int .i64 (pipeR K n).2.2]
set_option maxRecDepth 100000 in
set_option maxHeartbeats 1000000 in
theorem kpipe_any (w : World) (k : Nat) (K : KQ) (L : KLay) (h : KF w k K L) (n : Int) (hn : -9223372036854775808 ≤ n ∧ n ≤ 9223372036854775807) :
    Calls Tryz.prog 28 #[ptrAt k, .int .i64 n] w fun e w' => e = .returned (pipeT K n) ∧ Fr (fun _ => False) w w' := by
  have hall : ∀ w', Fr (fun _ => False) w w' → ∃ v, (Instr.lookup 59 (.map L.pm) (.int .i64 n) false).run Tryz.prog w' = .ok v w' ∧ w'.cell? ⟨k, 2, none⟩ = some (.map L.pm) ∧
      v = if 1 ≤ n ∧ n ≤ K.pn ∧ (K.pipe n.toNat).inn = true then .pointer (some ⟨L.pb n.toNat, 0, none⟩) else .pointer none := fun w' hf => by
    have h' := h.quiet hf
    refine ⟨if 1 ≤ n ∧ n ≤ K.pn ∧ (K.pipe n.toNat).inn = true then .pointer (some ⟨L.pb n.toNat, 0, none⟩) else .pointer none, ?_, by rw [blk_cell h'.hk]; rfl, rfl⟩
    cases e : L.pm with
    | none =>
      have := h'.pr
      rw [e] at this
      have h0 : K.pn = 0 := this
      rw [if_neg (by omega)]
      show (Instr.lookup 59 (.map none) (.int .i64 n) false).run Tryz.prog w' = .ok (.pointer none) w'
      first | kernel_rfl | rfl | simp [Instr.lookup, run_underlying Tryz.underlying59]
    | some g =>
      have hM : IMapAt Tryz.prog 3 w' g (regL (fun i => (K.pipe i).inn) (fun i => ptrAt (L.pb i)) K.pn) := by
        have := h'.pr
        rw [e] at this
        exact this
      have hlk := hM.look false (t := 59) (e := 82) Tryz.underlying3 Tryz.underlying59 (z := .pointer none) (by kernel_rfl) n hn
      rw [regL_get] at hlk
      rw [hlk]
      simp only [Bool.false_eq_true, if_false]
      split <;> rfl
  unfold pipeT pipeR
  by_cases hin : 1 ≤ n ∧ n ≤ K.pn ∧ (K.pipe n.toNat).inn = true
  · rw [if_pos hin]
    have hp : ∀ w', Fr (fun _ => False) w w' → PipeAt w' (L.pb n.toNat) (L.lb n.toNat) 64 (K.pipe n.toNat).data (K.pipe n.toNat).r (K.pipe n.toNat).x := fun w' hf => (h.quiet hf).hp n.toNat (by omega) (by omega)
    obtain ⟨v, l1, l2, rfl⟩ := hall w (Fr.refl _ _)
    rw [if_pos hin] at l1
    obtain ⟨v', m1, m2, rfl⟩ := hall w.drew ((Fr.refl _ _).drew)
    rw [if_pos hin] at m1
    have hE := hide (pends_any _ _ _ _ _ _ w (hp w (Fr.refl _ _)))
    have hL := hide (plen_any _ _ _ _ _ _ w.drew (hp w.drew ((Fr.refl _ _).drew)))
    generalize (K.pipe n.toNat).r = pr at *
    generalize (K.pipe n.toNat).x = px at *
    generalize (K.pipe n.toNat).data = pd at *
    generalize L.pb n.toNat = pb at *
    clear h hall hin hp
    unfold ptrAt
    generalize L.pm = pm at *
    go_enter Tryz.func28, Tryz.ntmps28
    go_wp2_with fail
    refine hE.out.mono ?_
    rintro e w2 ⟨rfl, rfl⟩
    go_wp2_with fail
    refine hL.out.mono ?_
    rintro e w3 ⟨rfl, rfl⟩
    go_wp2_with fail
    go_returns
    exact ⟨rfl, (Fr.refl _ _).drew⟩
  · rw [if_neg hin]
    obtain ⟨v, l1, l2, rfl⟩ := hall w (Fr.refl _ _)
    rw [if_neg hin] at l1
    clear h hall hin
    unfold ptrAt
    generalize L.pm = pm at *
    go_enter Tryz.func28, Tryz.ntmps28
    go_wp2_with fail
    go_returns
    exact ⟨rfl, Fr.refl _ _⟩
set_option maxRecDepth 100000 in
theorem ktable_nobody (w : World) (k : Nat) (K : KQ) (L : KLay) (h : KF w k K L) (hq : 1 ≤ K.qn) (pid : Int) (hp : -9223372036854775808 ≤ pid ∧ pid ≤ 9223372036854775807) (hl : livesB K pid = false) :
    Calls Tryz.prog 12 #[ptrAt k, .int .i64 pid] w fun e w' => e = .returned (.slice none 0 0) ∧ w' = w := by
  have hlv := lives_any w k K L h hq pid hp
  unfold livesV at hlv
  rw [if_neg (by rw [hl]; simp)] at hlv
  have Hlv := hide hlv
  clear h hlv hl
  unfold ptrAt at *
  go_enter Tryz.func12, Tryz.ntmps12
  go_wp2_with fail
  refine Hlv.out.mono ?_
  rintro e w2 ⟨rfl, rfl⟩
  go_wp2_with fail
  go_ret
  exact ⟨rfl, rfl⟩
end Go.Proofs.YtdnbfhcbcdodmaaGreatDoor

/- gate.register.all at processes: the iterator goes through the numbers in order. Conditions: each contract's own premises. -/
namespace Go.Proofs.YtdnbfhcbcdodmaaGreatDoor
open Go.RowKit Go.Shelf Go.Maps

attribute [local go_sem] Oper.semAt_some

theorem yield_wideI {P : Program} {m m' l : Nat} {args : Array Value} {W : World} {R : Ending → World → Prop} (h : YieldAt FW m P l args W R) : YieldAt FW m' P l args W R := by
  obtain ⟨fn, tmps, assign, body, h1, h2, h3⟩ := h
  exact ⟨fn, tmps, assign, body, h1, h2, fun c cs _ => h3 c cs (room_wide _)⟩
/-- A step through a list: its next thing. -/
def RStep {σ α : Type} (pos : σ → Nat) (next : σ → σ) (L : List α) (s : σ) (x : α) (s' : σ) : Prop := ∃ h : pos s < L.length, x = L[pos s] ∧ s' = next s
def RFin {σ α : Type} (pos : σ → Nat) (L : List α) (s : σ) : Prop := pos s = L.length
def renc (x : Int × Value) : Array Value := #[.int .i64 x.1, x.2]
theorem iOf_keys (L : IL) : Go.intKeys (iOf L) = L.map (·.1) := by
  simp [iOf, Go.intKeys, Go.intOf, Function.comp_def]
theorem isorted_keys {α : Type} {L : IA α} (h : ISorted L) {ss : List Int} (hp : ss.Perm (L.map (·.1))) : ss.mergeSort (fun x y => decide (x ≤ y)) = L.map (·.1) := by
  have e1 : ss.mergeSort leI = (L.map (·.1)).mergeSort leI := mergeSort_of_perm_i hp
  refine e1.trans (List.mergeSort_of_pairwise ?_)
  rw [List.pairwise_map]
  exact (show L.Pairwise (fun a b => a.1 < b.1) from h).imp fun h1 => by simp only [leI, decide_eq_true_eq]; exact Int.le_of_lt h1
theorem iget_at {α : Type} {L : IA α} (h : ISorted L) {i : Nat} (hi : i < L.length) : iget L[i].1 L = some L[i].2 := by
  cases hg : iget L[i].1 L with
  | none => exact absurd rfl (iget_none hg _ (List.getElem_mem hi))
  | some v =>
    have hm := iget_mem hg
    obtain ⟨j, hj, e⟩ := List.getElem_of_mem hm
    have : i = j := by
      rcases Nat.lt_trichotomy i j with h1 | h1 | h1
      · have : L[i].1 < L[j].1 := List.pairwise_iff_getElem.1 h i j hi hj h1
        rw [e] at this
        simp at this
      · exact h1
      · have : L[j].1 < L[i].1 := List.pairwise_iff_getElem.1 h j i hj hi h1
        rw [e] at this
        simp at this
    subst this
    rw [e]
def RItRel {σ : Type} (g : Nat) (pos : σ → Nat) (L : IL) (J : σ → (Nat → Prop) → World → Prop) (ka : Value) (i : Value) (wr : World) : Prop :=
  ∃ (k : Nat) (s : σ) (A : Nat → Prop), i = .int .i64 k ∧ k ≤ L.length ∧ pos s = k ∧ J s A wr ∧ wr.ownsRow g 3 1 ka L.length ((L.map (·.1)).map encZ) ∧ (∀ q, ka.ownBlock = some q → ¬ A q)
theorem pall_any (p : Option Addr) (w : World) : Calls Tryz.prog 30 #[.pointer p] w fun e w' =>
    e = .returned (.func (.func 61) #[] #[.pointer (some ⟨w.heap.size, 0, none⟩)]) ∧ w' = w.alloc (.cells #[.pointer p] 126 (0, 0)) := by
  go_enter Tryz.func30, Tryz.ntmps30
  go_wp2
  go_ret
  exact ⟨rfl, rfl⟩
set_option maxRecDepth 100000 in
set_option maxHeartbeats 4000000 in
theorem pall1_iter {σ : Type} (n : Nat) (hn : 2 ≤ n) (box mb k o : Nat) (pos : σ → Nat) (next : σ → σ) (hpos : ∀ s, pos (next s) = pos s + 1) (L : IL) (hL : L.length ≤ 1000000) (hk64 : ∀ p ∈ L, -9223372036854775808 ≤ p.1 ∧ p.1 ≤ 9223372036854775807) (I : σ → (Nat → Prop) → World → Prop)
    (hI : ∀ s A W, I s A W → IMapAt Tryz.prog 3 W mb L ∧ W.cell? ⟨k, o + 1, none⟩ = some (.map (some mb)) ∧ W.cell? ⟨box, 0, none⟩ = some (.pointer (some ⟨k, o, none⟩))) (s0 : σ) (hs0 : pos s0 = 0)
    (l : Nat) (J : σ → (Nat → Prop) → World → Prop) (Jx : (Nat → Prop) → World → Prop) (W : World) (hJI : ∀ s A W, J s A W → I s A W)
    (hJf : ∀ s (A : Nat → Prop) W W', J s A W → Fr (fun k => ¬ A k) W W' → J s A W')
    (hY : ∀ s A x s' W, RStep pos next L s x s' → J s A W → YieldAt FW (n - 1) Tryz.prog l (renc x) W fun e W' => Fr A W W' ∧ ((e = .returned (.bool true) ∧ J s' (fun k => A k ∨ (W.heap.size ≤ k ∧ k < W'.heap.size)) W') ∨ (e = .returned (.bool false) ∧ Jx (fun k => A k ∨ (W.heap.size ≤ k ∧ k < W'.heap.size)) W')))
    (h0 : J s0 (fun k => k < W.heap.size) W) :
    CallsIn FW n Tryz.prog 61 (#[.func (.yield l) #[] #[]] ++ #[.pointer (some ⟨box, 0, none⟩)]) W fun e W' => (∃ v, e = .returned v) ∧ ((∃ s A, RFin pos L s ∧ J s A W') ∨ ∃ A, Jx A W') := by
  simp only [List.append_toArray, List.cons_append, List.nil_append]
  obtain ⟨hm0, hk0, hbox0⟩ := hI _ _ _ (hJI _ _ _ h0)
  have hK := hide (callsIn_wide.1 (Tryz.maps_Keys_63 (some mb) W))
  have hS := hide (callsIn_wide.1 (Tryz.slices_Sorted_keys_62_63 mb L.length (iOf L) rV W hm0.own (by rw [iOf_size]; unfold maxLen; omega) (by rw [iOf_size]; omega)))
  have hsrt := hide hm0.sorted
  have HJ0 := hide h0
  have hn1 : 1 ≤ n := by omega
  clear h0 hm0
  refine callsIn_of_wp Tryz.func61 rfl trivial ?_ rfl
  simp only [Tryz.ntmps61, List.size_toArray, List.length_cons, List.length_nil, Nat.reduceAdd, Nat.reduceSub, Array.replicate_succ, Array.replicate_zero, List.push_toArray, List.append_toArray, List.nil_append, List.cons_append]
  gi_wp2_with (refine ⟨trivial, ?_⟩; first
    | (gi_at_call 63; refine (callsIn_wide.2 hK.out).mono ?_; rintro e w1 ⟨rfl, rfl⟩)
    | (gi_at_call 62; refine (callsIn_wide.2 hS.out).mono ?_; rintro e w2 ⟨v, ss, rfl, hp, hrow, _, hb2⟩; rw [iOf_keys] at hp; rw [isorted_keys hsrt.out hp, show ss.length = L.length from (by rw [hp.length_eq]; simp)] at hrow; clear hp; obtain ⟨va, vc, rfl⟩ := own_form hrow))
  have hfW : Fr (fun _ => False) W w2 := ((Fr.refl _ _).alloc _).trans (Fr.of_below hb2 _)
  have hJ2 := hJf _ _ _ _ HJ0.out (hfW.mono (fun _ _ e => e.elim))
  have hvb : ∀ q, (Value.slice va L.length vc).ownBlock = some q → W.heap.size < q := fun q e => by have := (hrow.lt q e).1; simp at this; omega
  have h0 : RItRel (W.heap.size + 1) pos L J (.slice va L.length vc) (.int .i64 0) w2 := ⟨0, s0, _, rfl, by omega, hs0, hJ2, by simpa using hrow, fun q e h => by have := hvb q e; omega⟩
  have h0 := hide h0
  clear HJ0 hfW hJ2 hvb hrow hb2 hK hS hbox0 hk0
  gi_loopw [12] (fun i wr => RItRel (W.heap.size + 1) pos L J (.slice va L.length vc) i wr) (fun i _ => L.length - (Go.RowKit.intOf i).toNat)
  case atStart => exact h0.out
  case round =>
    clear h0
    obtain ⟨j, s, A, rfl, hk, hps, hJ, hrow, hnA⟩ := hrel
    by_cases hlt : j < L.length
    · obtain ⟨g, rfl, hg1, hg2, hc⟩ := own_cells hrow (by omega)
      have hck := hc j (.int .i64 L[j].1) (by simp [encZ, hlt])
      obtain ⟨hm, hkc, hbox⟩ := hI s A wr (hJI s A wr hJ)
      have hlk := hm.look (t := 65) (e := 71) false Tryz.underlying3 Tryz.underlying65 (z := .pointer none) (by kernel_rfl) L[j].1 (hk64 _ (List.getElem_mem hlt))
      rw [iget_at hsrt.out hlt] at hlk
      simp only [Option.getD_some, Bool.false_eq_true, if_false] at hlk
      have hstep : RStep pos next L s L[j] (next s) := ⟨by omega, by subst hps; rfl, rfl⟩
      obtain ⟨fn, tmps, assign, body, hy, hR⟩ := hY s A L[j] (next s) wr hstep hJ
      simp only [renc] at hy hR
      have Hps := hide hps
      have HR := hide hR
      have hJ := hide hJ
      have hnA := hide hnA
      have hrow := hide hrow
      have hl1 : (0 : Int) ≤ (j : Int) := by omega
      have hl2 : (j : Int) < (L.length : Int) := by omega
      clear hps hR hstep hc hm hk64
      generalize hxx : L[j] = x at *
      gi_wp2
      refine HR.out.mono ?_
      rintro e W3 ⟨hf3, (⟨rfl, hJ3⟩ | ⟨rfl, hJx3⟩)⟩
      · have hnext : RItRel (W.heap.size + 1) pos L J (.slice (some ⟨g, 0, none⟩) L.length vc) (.int .i64 ((j : Int) + 1)) W3 :=
          ⟨j + 1, next s, _, by go_num, by omega, by rw [hpos, Hps.out], hJ3, own_frame hrow.out hf3 (fun q e => hnA.out q e), fun q e h => h.elim (hnA.out q e) (fun h => by have := (hrow.out.lt q e).2; omega)⟩
        have hnext := hide hnext
        clear hJ3 HR hf3
        gi_wp2
        go_roundw
        case rel => exact hnext.out
        case measure => simp [Go.RowKit.intOf]; omega
      · gi_wp2
        refine bodyPost_ret (results_none rfl _ _ _) rfl ?_
        exact ⟨⟨_, rfl⟩, .inr ⟨_, hJx3⟩⟩
    · have hfin : ∃ s A, RFin pos L s ∧ J s A wr := ⟨s, A, by unfold RFin; omega, hJ⟩
      have hfin := hide hfin
      have hkd : decide ((j : Int) < (L.length : Int)) = false := decide_eq_false (by omega)
      clear hrow hnA hJ
      gi_wp2
      go_end0
      exact ⟨⟨_, rfl⟩, .inl hfin.out⟩
end Go.Proofs.YtdnbfhcbcdodmaaGreatDoor
