/- gate.asked.pipe. Conditions: the contract's own premises. -/
import Derived.Test.YtdnbfhcbcdodmaaGreatDoorKerMid
import Derived.Test.YtdnbfhcbcdodmaaGreatDoorKerF
import Derived.Test.YtdnbfhcbcdodmaaGreatDoorKerF
import Derived.Test.YtdnbfhcbcdodmaaGreatDoorStrs
import Derived.OwnWalk
import Derived.Laws.AppendOwn
import Derived.OwnWalkIn
import Derived.Test.YtdnbfhcbcdodmaaGreatDoorRegionRd
import Derived.Test.YtdnbfhcbcdodmaaGreatDoorRegionRd
import Derived.Test.YtdnbfhcbcdodmaaGreatDoorRegionIn
import Derived.Test.YtdnbfhcbcdodmaaGreatDoorRegionIn
import Derived.Test.YtdnbfhcbcdodmaaGreatDoorFilesJ
import Derived.Maps.RangeWalk
import Derived.StringKeys
import Derived.Deep.LoopGhost
import Derived.LaidEqlPtr
import Derived.Lib.Builder
import Derived.Laws.Closers25b
import Derived.Test.YtdnbfhcbcdodmaaGreatDoorKerAllP
import Derived.Test.YtdnbfhcbcdodmaaGreatDoorFilesTreeT
namespace Go.Proofs.YtdnbfhcbcdodmaaGreatDoor
open Go.RowKit

attribute [local go_sem] Oper.semAt_some

def pipe0 : PipeQ := ⟨[], 1, 1, true⟩
def pipeD (n kd : Nat) : DescQ := ⟨kd, n, 0, 0, 0, noBy, true⟩
/-- SysPipe: the answer, the kernel. -/
def pipeQ (K : KQ) (i : Nat) : ResQ × KQ :=
  if 32 - used (K.proc i).fds 32 < 2 then (errR 24, K)
  else ({ noRes with n := (openQ (K.addP pipe0) i (pipeD (K.pn + 1) 3)).1, m := (openQ (openQ (K.addP pipe0) i (pipeD (K.pn + 1) 3)).2 i (pipeD (K.pn + 1) 4)).1 }, (openQ (openQ (K.addP pipe0) i (pipeD (K.pn + 1) 3)).2 i (pipeD (K.pn + 1) 4)).2)
theorem used_tabS (L : KLay) (t : TSt) (n : Nat) : used (tabS L t) n = used t n := by
  unfold used
  congr 1
  exact List.filter_congr fun i _ => by unfold tabS; cases t i <;> rfl
theorem KF.new' {w1 w2 : World} {k : Nat} {K : KQ} {L : KLay} (_ : KF w2 k K L) (h : KF w1 k K L) {b : Nat} (hb : w1.heap.size ≤ b) : L.o b = none := h.new b hb
theorem addP_ext {w w' : World} {k : Nat} {K : KQ} {L : KLay} {xb lb : Nat} {m : Option Nat} (h : KF w k K L) (p : PipeQ) (hxo : L.o xb = none) (hlo : L.o lb = none) (hm : m = L.pm ∨ ∃ g, m = some g ∧ L.o g = none ∧ g < w'.heap.size ∧ g ≠ xb ∧ g ≠ lb) : LExt K (K.addP p) L (L.addP K.pn xb lb m) :=
  ⟨rfl, Nat.le_succ _, Nat.le_refl _, Nat.le_refl _, fun j a1 a2 => if_neg (by omega), fun _ _ _ => rfl, fun _ _ _ => rfl, fun _ _ _ => rfl, fun b t e => by
      show (if b = xb ∨ b = lb then some (tPip (K.pn + 1)) else if m = some b then some (tMap 0) else L.o b) = some t
      rw [if_neg (fun e2 => by rcases e2 with e2 | e2; (· rw [e2, hxo] at e; cases e); (· rw [e2, hlo] at e; cases e))]
      by_cases e2 : m = some b
      · rw [if_pos e2]
        rcases hm with hm | ⟨g, g1, g2, _⟩
        · rw [h.opm b (hm ▸ e2)] at e; exact e
        · rw [g1] at e2; cases e2; rw [g2] at e; cases e
      · rw [if_neg e2]; exact e⟩
theorem addP_new {K : KQ} {L : KLay} {xb lb : Nat} {m : Option Nat} {b : Nat} (e : (L.addP K.pn xb lb m).o b ≠ none) : L.o b ≠ none ∨ b = xb ∨ b = lb ∨ m = some b := by
  by_cases e1 : b = xb ∨ b = lb
  · rcases e1 with e1 | e1
    · exact .inr (.inl e1)
    · exact .inr (.inr (.inl e1))
  by_cases e2 : m = some b
  · exact .inr (.inr (.inr e2))
  · refine .inl fun e3 => e ?_
    show (if b = xb ∨ b = lb then some (tPip (K.pn + 1)) else if m = some b then some (tMap 0) else L.o b) = none
    rw [if_neg e1, if_neg e2, e3]
set_option maxRecDepth 100000 in
set_option maxHeartbeats 1000000 in
theorem apipe_any (w : World) (k : Nat) (K : KQ) (L : KLay) (h : KF w k K L) (N : Nat) (hok : KOk K N) (hN : N ≤ 1000000) (i : Nat) (h1 : 1 ≤ i) (h2 : i ≤ K.qn) (a : Nat) (c : SysQ) (ha : AskAt w a k (L.qb i) c noResV) (hao : L.o a = none) :
    Calls Tryz.prog 49 #[ptrAt a] w (KErrPost w k K L i a c (pipeQ K i)) := by
  have I0 := KIn.start h ha hao
  have hfree := hide (free_any w (L.tb i) _ _ (h.ht i h1 h2))
  have c1 : w.cell? ⟨a, 1, none⟩ = some (.pointer (some ⟨L.qb i, 0, none⟩)) := by rw [blk_cell ha]; rfl
  have c6 : w.cell? ⟨L.qb i, 6, none⟩ = some (.pointer (some ⟨L.tb i, 0, none⟩)) := by rw [blk_cell (h.hq i h1 h2)]; rfl
  have HI0 := hide I0
  obtain ⟨Rr, hR⟩ : ∃ Rr, Rr = pipeQ K i := ⟨_, rfl⟩
  rw [← hR]
  have HR := hide hR
  have Hok := hide hok
  clear h ha hao I0 hok hR
  unfold ptrAt at *
  go_enter Tryz.func49, Tryz.ntmps49
  go_wp2_with fail
  refine hfree.out.mono ?_
  rintro e w1 ⟨rfl, hf1⟩
  rw [used_tabS]
  have HI1 := hide (HI0.out.quiet hf1)
  clear hf1 HI0 hfree c1 c6
  by_cases hu : 32 - used (K.proc i).fds 32 < 2
  · have hq : pipeQ K i = (errR 24, K) := if_pos hu
    have hui : ((32 - used (K.proc i).fds 32 : Nat) : Int) < 2 := by omega
    generalize ((32 - used (K.proc i).fds 32 : Nat) : Int) = fr at *
    have Hq := hide (HR.out.trans hq)
    clear hu hq
    go_wp2_with fail
    go_ret
    rw [Hq.out]
    exact ⟨rfl, L, _, HI1.out, rfl⟩
  have hui : ¬ ((32 - used (K.proc i).fds 32 : Nat) : Int) < 2 := by omega
  have hq : pipeQ K i = ({ noRes with n := (openQ (K.addP pipe0) i (pipeD (K.pn + 1) 3)).1, m := (openQ (openQ (K.addP pipe0) i (pipeD (K.pn + 1) 3)).2 i (pipeD (K.pn + 1) 4)).1 }, (openQ (openQ (K.addP pipe0) i (pipeD (K.pn + 1) 3)).2 i (pipeD (K.pn + 1) 4)).2) := if_neg hu
  have Hq := hide (HR.out.trans hq)
  generalize ((32 - used (K.proc i).fds 32 : Nat) : Int) = fr at *
  clear hu hq
  have hpw := hide (pnew_any 64 w1)
  go_wp2_with fail
  refine hpw.out.mono ?_
  rintro e w2 ⟨hf2, hp⟩
  rcases hp with ⟨hp, _⟩ | ⟨-, b, lb, hb, hlb, rfl, hP2⟩
  · omega
  have h64 : (64 : Int).toNat = 64 := rfl
  rw [h64] at hP2
  have F2 := (HI1.out.quiet hf2).F
  have I2 := HI1.out.quiet hf2
  have hs1 := HI1.out.R.size
  have hbo : L.o b = none := F2.new' HI1.out.F hb
  have hlo : L.o lb = none := F2.new' HI1.out.F hlb
  have hadd := hide (p_add w2 k (kerC L K) L.pm (fun j => (K.pipe j).inn) L.pb K.pn b F2.hk rfl rfl F2.pr (fun e => by have := F2.opm k e; rw [F2.ok] at this; cases this) (by have := Hok.out.pn; omega))
  have c0 : w2.cell? ⟨a, 0, none⟩ = some (.pointer (some ⟨k, 0, none⟩)) := by rw [blk_cell I2.A]; rfl
  have HI2 := hide I2
  have HP2 := hide hP2
  have Hbo := hide hbo
  have Hlo := hide hlo
  have Hb := hide hb
  have Hlb := hide hlb
  have Hs1 := hide hs1
  obtain ⟨pn, hpn⟩ : ∃ pn : Int, pn = (K.pn : Int) + 1 := ⟨_, rfl⟩
  have Hpn := hide hpn
  clear hf2 F2 hs1 hpn hP2 hb hlb I2
  unfold ptrAt at *
  go_wp2_with fail
  refine hadd.out.mono ?_
  rintro e w3 ⟨rfl, m, hk3, hr3, hm3, hf3⟩
  rw [← Hpn.out]
  have hkc : ((kerC L K).setIfInBounds 1 (.int .i64 ((K.pn : Int) + 1))).setIfInBounds 2 (.map m) = kerC { L with pm := m } { K with pn := K.pn + 1 } := rfl
  rw [hkc] at hk3
  have nT : ∀ x, L.o x = none → ¬ (x = k ∨ L.pm = some x) := fun x e e2 => by
    rcases e2 with e2 | e2
    · rw [e2, HI2.out.F.ok] at e; cases e
    · rw [HI2.out.F.opm x e2] at e; cases e
  have hP3 := HP2.out.frame hf3 (nT b hbo) (nT lb hlo)
  have ho1 := hide (popen_r b lb 64 [] 0 0 w3 hP3 (by decide))
  clear hkc
  have Hk3 := hide hk3
  have Hr3 := hide hr3
  have Hm3 := hide hm3
  have Hf3 := hide hf3
  have HnT := hide nT
  clear hk3 hr3 hm3 hf3 nT hP3 hadd hbo hlo c0
  go_wp2_with fail
  refine ho1.out.mono ?_
  rintro e w4 ⟨rfl, hP4, hf4⟩
  have ho2 := hide (popen_w b lb 64 [] 1 0 w4 hP4 (by decide))
  have Hf4 := hide hf4
  clear hP4 hf4 ho1
  go_wp2_with fail
  refine ho2.out.mono ?_
  rintro e w5 ⟨rfl, hP5, hf5⟩
  have hf35 : Fr (fun x => x = b) w3 w5 := Hf4.out.trans hf5
  have hbk : b ≠ k := fun e => HnT.out b Hbo.out (.inl e)
  have hw12 := HI2.out.R.size
  have hlt : b < w2.heap.size ∧ lb < w2.heap.size := by
    obtain ⟨fm, cs, hp⟩ := HP2.out
    exact ⟨blk_lt hp.hb, blk_lt hp.hl⟩
  have hmg : m = L.pm ∨ ∃ g, m = some g ∧ L.o g = none ∧ g < w5.heap.size ∧ g ≠ b ∧ g ≠ lb := by
    rcases Hm3.out with ⟨e, _⟩ | ⟨_, e2⟩
    · exact .inl e
    · refine .inr ⟨_, e2, HI2.out.F.new _ (Nat.le_refl _), ?_, by omega, by omega⟩
      have := Hr3.out; rw [e2] at this; exact Nat.lt_of_lt_of_le this.lt hf35.size
  have hr5 := Hr3.out.frame hf35 (fun g e e2 => by
    rcases hmg with e3 | ⟨g', e3, e4, _, e5, _⟩
    · exact HnT.out b Hbo.out (.inr (by rw [← e3, e, e2]))
    · rw [e3] at e; cases e; exact e5 e2)
  have hf25 : Fr (fun x => x = k ∨ L.pm = some x ∨ x = b) w2 w5 := (Hf3.out.mono fun x _ e => e.elim .inl (fun e => .inr (.inl e))).trans (hf35.mono fun _ _ e => .inr (.inr e))
  obtain ⟨fm, cs, hP5⟩ := hP5
  have F5 := HI2.out.F.addP (p := pipe0) (hf35.get Hk3.out (fun e => hbk e.symm)) hr5 rfl hP5 Hbo.out Hlo.out hmg hf25 (fun x t e e2 => by
    rcases e2 with e2 | e2 | e2
    · exact .inl e2
    · exact .inr e2
    · rw [e2, Hbo.out] at e; cases e) (fun j a1 a2 a3 => ((Hok.out.desc j a1 a2).pip a3).2)
  have I5 : KIn w k K L i a c w5 (K.addP pipe0) (L.addP K.pn b lb m) noResV := ⟨F5, addP_ext HI2.out.F pipe0 Hbo.out Hlo.out hmg, HI2.out.R.trans' hf25 (fun x hx e => by
      rcases e with e | e | e
      · exact .inl (by rw [e, HI2.out.F.ok]; simp)
      · exact .inl (by rw [HI2.out.F.opm x e]; simp)
      · have := Hb.out; have := Hs1.out; omega), fun x e => by
      rcases addP_new e with e | e | e | e
      · exact .inl e
      · have := Hb.out; have := Hs1.out; exact .inr (by omega)
      · have := Hlb.out; have := Hs1.out; exact .inr (by omega)
      · rcases hmg with e3 | ⟨g', e3, e4, e5, _⟩
        · exact .inl (by rw [HI2.out.F.opm x (by rw [← e3, e])]; simp)
        · rcases Hm3.out with ⟨e6, _⟩ | ⟨_, e6⟩
          · exact .inl (by rw [HI2.out.F.opm x (by rw [← e6, e])]; simp)
          · rw [e6] at e; cases e; exact .inr hw12, hf25.get HI2.out.A (fun e => by
      rcases e with e | e | e
      · exact HI2.out.ne HI2.out.F.ok e.symm
      · have := HI2.out.F.opm a e; rw [HI2.out.ao] at this; cases this
      · have := Hb.out; have := Hs1.out; have := HI2.out.al; omega), HI2.out.al, HI2.out.ao⟩
  have hpb : (L.addP K.pn b lb m).pb (K.pn + 1) = b := if_pos rfl
  obtain ⟨ux, hux⟩ : ∃ x, x = w5.drew.heap.size := ⟨_, rfl⟩
  obtain ⟨w6, uw⟩ : ∃ w', w' = w5.drew.alloc (.cells #[.int .i64 3, .int .i64 pn, .int .i64 0, .int .i64 0, .int .i64 0, .pointer (some ⟨b, 0, none⟩), .string ⟨#[]⟩, .int .i64 0] 84 (0, 0)) := ⟨_, rfl⟩
  have uI : KIn w k K L i a c w6 (K.addP pipe0) (L.addP K.pn b lb m) noResV := by rw [uw]; exact I5.drew.alloc _
  have uraw : w6.heap[ux]? = some (.cells (rawD (L.addP K.pn b lb m) (pipeD (K.pn + 1) 3) 0 0) 84 (0, 0)) := by
    rw [uw, hux]
    unfold rawD pipeV pipeD ptrAt
    rw [if_pos (.inl rfl), hpb, Hpn.out]
    exact blk_new _ _
  have uX : ∀ b, b = ux → w.heap.size ≤ b := fun b e => by rw [e, hux]; exact I5.drew.R.size
  have up := kopen_any w6 k (K.addP pipe0) (L.addP K.pn b lb m) uI.F i h1 (Nat.le_trans h2 uI.E.qn) ux (pipeD (K.pn + 1) 3) uraw (I5.drew.F.new _ (by rw [hux]; exact Nat.le_refl _)) Hok.out.fds (by have := Hok.out.dn; show K.dn ≤ _; omega)
  rw [uI.qb h1 h2] at up
  have ua := I5.drew.A
  have ub := uI.A
  obtain ⟨uf, K6, hoq⟩ : ∃ x y, openQ (K.addP pipe0) i (pipeD (K.pn + 1) 3) = (x, y) := ⟨_, _, rfl⟩
  rw [hoq] at Hq up
  have hd6 : K6.dn = K.dn + 1 := by have := openQ_dn (K.addP pipe0) i (pipeD (K.pn + 1) 3); rw [hoq] at this; exact this
  have hp6 : (K.addP pipe0).pn = K.pn + 1 := rfl
  have hfd6 : FdsOk K6 := by
    have : FdsOk (K.addP pipe0) := Hok.out.fds
    have := this.openQ i (pipeD (K.pn + 1) 3)
    rw [hoq] at this
    exact this
  have Hhd6 := hide hd6
  have Hfd6 := hide hfd6
  have uz := hide hux
  have ew := hide uw
  clear uw
  have uw := ew
  have eI := hide uI
  clear uI
  have uI := eI
  have eX := hide uX
  clear uX
  have uX := eX
  have uop := hide up
  have Hpb := hide hpb
  clear ew eI eX hoq hd6 hfd6 hux uraw up hpb I5 F5 hf25 hr5 hmg hlt hw12 hbk hf35 hP5 hf5 HnT Hf3 Hm3 Hr3 Hk3 Hf4 ho2
  unfold ptrAt at *
  go_upto_region 7 with (fail)
  refine region_tree (fun w' => AskAt w' a k (L.qb i) c noResV) [0, 1, 2, 3, 4, 5, 6, 7, 8, 9, 10, 11, 12] 2 15 (by kernel_rfl) (by kernel_rfl) (fun _ _ d _ _ h => by cases d <;> exact h) ua ?_
  simp only [List.map_cons, List.map_nil, List.getD_cons_zero, List.getD_cons_succ, List.drop_succ_cons, List.drop_zero]
  generalize w5.drew = wd at *
  go_big_quiet_step (fail)
  go_big_quiet_step (fail)
  refine wpQuiet_val (.pointer (some ⟨a, 0, none⟩)) rfl (fun w' hS => by (go_simp)) ?_
  simp only [Act.put, List.setIfInBounds_toArray, List.set_cons_succ, List.set_cons_zero]
  refine wpQuiet_val (.pointer (some ⟨a, 0, none⟩)) rfl (fun w' hS => by (go_simp)) ?_
  simp only [Act.put, List.setIfInBounds_toArray, List.set_cons_succ, List.set_cons_zero]
  refine wpQuiet_val (.pointer (some ⟨k, 0, none⟩)) rfl (fun w' hS => by
      have e : w'.cell? ⟨a, 0, none⟩ = some (.pointer (some ⟨k, 0, none⟩)) := by rw [blk_cell (hS)]; rfl
      go_simp) ?_
  simp only [Act.put, List.setIfInBounds_toArray, List.set_cons_succ, List.set_cons_zero]
  go_big_quiet_step (fail)
  refine wpQuiet_val (.pointer (some ⟨a, 0, none⟩)) rfl (fun w' hS => by (go_simp)) ?_
  simp only [Act.put, List.setIfInBounds_toArray, List.set_cons_succ, List.set_cons_zero]
  refine wpQuiet_val (.pointer (some ⟨a, 1, none⟩)) rfl (fun w' hS => by (go_simp)) ?_
  simp only [Act.put, List.setIfInBounds_toArray, List.set_cons_succ, List.set_cons_zero]
  refine wpQuiet_val (.pointer (some ⟨L.qb i, 0, none⟩)) rfl (fun w' hS => by
      have e : w'.cell? ⟨a, 1, none⟩ = some (.pointer (some ⟨L.qb i, 0, none⟩)) := by rw [blk_cell (hS)]; rfl
      go_simp) ?_
  simp only [Act.put, List.setIfInBounds_toArray, List.set_cons_succ, List.set_cons_zero]
  go_big_quiet_step (fail)
  refine wpQuiet_val (.agg #[.int .i64 3, .int .i64 pn, .int .i64 0, .int .i64 0]) rfl (fun w' hS => by (go_simp)) ?_
  simp only [Act.put, List.setIfInBounds_toArray, List.set_cons_succ, List.set_cons_zero]
  go_big_quiet_step (fail)
  refine wpQuiet_val (.agg #[.int .i64 3, .int .i64 pn, .int .i64 0, .int .i64 0, .int .i64 0, .pointer (some ⟨b, 0, none⟩), .string ⟨#[]⟩, .int .i64 0]) rfl (fun w' hS => by (go_simp)) ?_
  simp only [Act.put, List.setIfInBounds_toArray, List.set_cons_succ, List.set_cons_zero]
  refine wpQuiet_nil ?_
  refine tree_one' 13 (by kernel_rfl) (by decide) (by simp) rfl (fun Kc hK => ?_)
  simp only [List.getD_cons_zero, List.getD_cons_succ]
  go_wp2_with fail
  rw [← uw.out, ← uz.out]
  refine hK _ _ ub ?_
  clear hK Kc
  refine tree_one' 14 (by kernel_rfl) (by decide) (by simp) rfl (fun Kc hK => ?_)
  simp only [List.getD_cons_zero, List.getD_cons_succ]
  go_wp2_with fail
  refine uop.out.mono ?_
  rintro e w7 ⟨rfl, hm⟩
  obtain ⟨Lw7, hiw7, hew7⟩ := uI.out.mut hm uX.out uX.out
  have uc := hiw7.A
  have Hiw7 := hide hiw7
  have Hew7 := hide hew7
  refine hK _ _ uc ?_
  clear hK Kc hm hiw7 hew7
  refine tree_end (by kernel_rfl) ?_
  try (simp only [List.map_cons, List.map_nil, List.getD_cons_zero, List.getD_cons_succ, List.drop_succ_cons, List.drop_zero])
  have q8 : w7.cell? ⟨a, 8, none⟩ = some (.int .i64 0) := by rw [blk_cell uc]; rfl
  have z8 : w7.frozen? ⟨a, 8, none⟩ = false := blk_frozen uc _
  obtain ⟨w8, hw8⟩ : ∃ w8, w8 = w7.setCell ⟨a, 8, none⟩ (.int .i64 uf) := ⟨_, rfl⟩
  have I8 : KIn w k K L i a c w8 K6 Lw7 { noResV with n := uf } := by rw [hw8]; exact Hiw7.out.n _
  have Hw8 := hide hw8
  have hq6 : K.qn ≤ K6.qn := I8.E.qn
  have hp67 : K.pn + 1 ≤ K6.pn := Hew7.out.pn
  have hpb8 : Lw7.pb (K.pn + 1) = b := by rw [Hew7.out.pb (K.pn + 1) (by omega) (Nat.le_refl _)]; exact Hpb.out
  obtain ⟨vx, hvx⟩ : ∃ x, x = w8.drew.heap.size := ⟨_, rfl⟩
  obtain ⟨w9, vw⟩ : ∃ w', w' = w8.drew.alloc (.cells #[.int .i64 4, .int .i64 pn, .int .i64 0, .int .i64 0, .int .i64 0, .pointer (some ⟨b, 0, none⟩), .string ⟨#[]⟩, .int .i64 0] 84 (0, 0)) := ⟨_, rfl⟩
  have vI : KIn w k K L i a c w9 K6 Lw7 { noResV with n := uf } := by rw [vw]; exact I8.drew.alloc _
  have vraw : w9.heap[vx]? = some (.cells (rawD Lw7 (pipeD (K.pn + 1) 4) 0 0) 84 (0, 0)) := by
    rw [vw, hvx]
    unfold rawD pipeV pipeD ptrAt
    rw [if_pos (.inr rfl), hpb8, Hpn.out]
    exact blk_new _ _
  have vX : ∀ b, b = vx → w.heap.size ≤ b := fun b e => by rw [e, hvx]; exact I8.drew.R.size
  have vp := kopen_any w9 k K6 Lw7 vI.F i h1 (Nat.le_trans h2 hq6) vx (pipeD (K.pn + 1) 4) vraw (I8.drew.F.new _ (by rw [hvx]; exact Nat.le_refl _)) Hfd6.out (by have := Hok.out.dn; have := Hhd6.out; omega)
  rw [vI.qb h1 h2] at vp
  have va := I8.drew.A
  have vb := vI.A
  obtain ⟨vf, K8, hoq⟩ : ∃ x y, openQ K6 i (pipeD (K.pn + 1) 4) = (x, y) := ⟨_, _, rfl⟩
  have hq9 := Hq.out
  rw [hoq] at hq9 vp
  have Hq9 := hide hq9
  have vz := hide hvx
  have ew := hide vw
  clear vw
  have vw := ew
  have eI := hide vI
  clear vI
  have vI := eI
  have eX := hide vX
  clear vX
  have vX := eX
  have vop := hide vp
  clear ew eI eX hq9 Hq hoq hw8 hq6 hp67 hpb8 hvx vraw vp I8 uc Hiw7 Hew7 uw uI uX uop Hpb Hhd6 Hfd6
  unfold ptrAt at *
  go_upto_region 8 with (fail)
  rw [← Hw8.out]
  refine region_tree (fun w' => AskAt w' a k (L.qb i) c { noResV with n := uf }) [0, 1, 2, 3, 4, 5, 6, 7, 8, 9, 10, 11, 12] 2 15 (by kernel_rfl) (by kernel_rfl) (fun _ _ d _ _ h => by cases d <;> exact h) va ?_
  simp only [List.map_cons, List.map_nil, List.getD_cons_zero, List.getD_cons_succ, List.drop_succ_cons, List.drop_zero]
  generalize w8.drew = wd at *
  go_big_quiet_step (fail)
  go_big_quiet_step (fail)
  refine wpQuiet_val (.pointer (some ⟨a, 0, none⟩)) rfl (fun w' hS => by (go_simp)) ?_
  simp only [Act.put, List.setIfInBounds_toArray, List.set_cons_succ, List.set_cons_zero]
  refine wpQuiet_val (.pointer (some ⟨a, 0, none⟩)) rfl (fun w' hS => by (go_simp)) ?_
  simp only [Act.put, List.setIfInBounds_toArray, List.set_cons_succ, List.set_cons_zero]
  refine wpQuiet_val (.pointer (some ⟨k, 0, none⟩)) rfl (fun w' hS => by
      have e : w'.cell? ⟨a, 0, none⟩ = some (.pointer (some ⟨k, 0, none⟩)) := by rw [blk_cell (hS)]; rfl
      go_simp) ?_
  simp only [Act.put, List.setIfInBounds_toArray, List.set_cons_succ, List.set_cons_zero]
  go_big_quiet_step (fail)
  refine wpQuiet_val (.pointer (some ⟨a, 0, none⟩)) rfl (fun w' hS => by (go_simp)) ?_
  simp only [Act.put, List.setIfInBounds_toArray, List.set_cons_succ, List.set_cons_zero]
  refine wpQuiet_val (.pointer (some ⟨a, 1, none⟩)) rfl (fun w' hS => by (go_simp)) ?_
  simp only [Act.put, List.setIfInBounds_toArray, List.set_cons_succ, List.set_cons_zero]
  refine wpQuiet_val (.pointer (some ⟨L.qb i, 0, none⟩)) rfl (fun w' hS => by
      have e : w'.cell? ⟨a, 1, none⟩ = some (.pointer (some ⟨L.qb i, 0, none⟩)) := by rw [blk_cell (hS)]; rfl
      go_simp) ?_
  simp only [Act.put, List.setIfInBounds_toArray, List.set_cons_succ, List.set_cons_zero]
  go_big_quiet_step (fail)
  refine wpQuiet_val (.agg #[.int .i64 4, .int .i64 pn, .int .i64 0, .int .i64 0]) rfl (fun w' hS => by (go_simp)) ?_
  simp only [Act.put, List.setIfInBounds_toArray, List.set_cons_succ, List.set_cons_zero]
  go_big_quiet_step (fail)
  refine wpQuiet_val (.agg #[.int .i64 4, .int .i64 pn, .int .i64 0, .int .i64 0, .int .i64 0, .pointer (some ⟨b, 0, none⟩), .string ⟨#[]⟩, .int .i64 0]) rfl (fun w' hS => by (go_simp)) ?_
  simp only [Act.put, List.setIfInBounds_toArray, List.set_cons_succ, List.set_cons_zero]
  refine wpQuiet_nil ?_
  refine tree_one' 13 (by kernel_rfl) (by decide) (by simp) rfl (fun Kc hK => ?_)
  simp only [List.getD_cons_zero, List.getD_cons_succ]
  go_wp2_with fail
  rw [← vw.out, ← vz.out]
  refine hK _ _ vb ?_
  clear hK Kc
  refine tree_one' 14 (by kernel_rfl) (by decide) (by simp) rfl (fun Kc hK => ?_)
  simp only [List.getD_cons_zero, List.getD_cons_succ]
  go_wp2_with fail
  refine vop.out.mono ?_
  rintro e w10 ⟨rfl, hm⟩
  obtain ⟨Lw10, hiw10, hew10⟩ := vI.out.mut hm vX.out vX.out
  have vc := hiw10.A
  have Hiw10 := hide hiw10
  have Hew10 := hide hew10
  refine hK _ _ vc ?_
  clear hK Kc hm hiw10 hew10
  refine tree_end (by kernel_rfl) ?_
  try (simp only [List.map_cons, List.map_nil, List.getD_cons_zero, List.getD_cons_succ, List.drop_succ_cons, List.drop_zero])
  have q9 : w10.cell? ⟨a, 9, none⟩ = some (.int .i64 0) := by rw [blk_cell vc]; rfl
  have z9 : w10.frozen? ⟨a, 9, none⟩ = false := blk_frozen vc _
  have I10 := Hiw10.out.m vf
  have hfin := hide (show KErrPost w k K L i a c Rr (.returned (.int .i64 0)) (w10.setCell ⟨a, 9, none⟩ (.int .i64 vf)) from by
    rw [Hq9.out]
    exact ⟨rfl, Lw10, _, I10, rfl⟩)
  clear I10 Hiw10 vc Hq9
  go_wp2_with fail
  go_ret
  exact hfin.out
end Go.Proofs.YtdnbfhcbcdodmaaGreatDoor

/- Contract of table.Table[*shyard/gate.desc].Exec. Conditions: the contract's own premises. -/
namespace Go.Proofs.YtdnbfhcbcdodmaaGreatDoor
open Go.RowKit Go.Shelf

attribute [local go_sem] Oper.semAt_some

theorem TabF.frame2 {w w' : World} {t : Nat} {p : Nat → Nat} {st : TSt} {S S' : Nat → Prop} {cs : Array Value} (h : TabF w t p st S cs) (hf : Fr S' w w') (ht : ¬ S' t) (hp : ∀ i, i < 32 → (st i).isSome = true → ¬ S' (p i)) : TabF w' t p st S cs where
  hb := hf.get h.hb ht
  hcs := h.hcs
  hc := h.hc
  hs i x m hi e := hf.get (h.hs i x m hi e) (hp i hi (by simp [e]))
  inj := h.inj
  hne := h.hne
  own := h.own
  owns := h.owns
  up k hk := h.up k (Nat.le_trans hf.size hk)
structure ExecI (w : World) (t : Nat) (st : TSt) (S : Nat → Prop) (s : Nat) (W : World) : Prop where
  le : s ≤ 32
  bt : W.heap[w.heap.size]? = some (.cells #[.pointer (some ⟨t, 0, none⟩)] 72 (0, 0))
  bl : ∃ v, W.heap[w.heap.size + 1]? = some (.cells #[v] 193 (0, 0)) ∧ W.ownsRow (w.heap.size + 5) 74 1 v (exL st s).length (ptrs (exL st s))
  bi : W.heap[w.heap.size + 2]? = some (.cells #[.pointer (some ⟨t, 0, none⟩)] 72 (0, 0))
  tab : ∃ p cs, TabF W t p (exSt st s) S cs ∧ t < w.heap.size ∧ ∀ i, i < 32 → (exSt st s i).isSome = true → p i < w.heap.size
  fr : Fr S w W
theorem ExecI.frame {w W W' : World} {t : Nat} {st : TSt} {S S' : Nat → Prop} {s : Nat} (h : ExecI w t st S s W) (hf : Fr S' W W') (hS : ∀ k, S' k → k = w.heap.size + 3 ∨ k = w.heap.size + 4) : ExecI w t st S s W' := by
  obtain ⟨v, h1, h2⟩ := h.bl
  obtain ⟨p, cs, ht, h3, h4⟩ := h.tab
  refine ⟨h.le, hf.get h.bt (fun e => by have := hS _ e; omega), ⟨v, hf.get h1 (fun e => by have := hS _ e; omega), own_frame h2 hf (fun g e1 e2 => by have := (h2.lt _ e1).1; have := hS _ e2; omega)⟩, hf.get h.bi (fun e => by have := hS _ e; omega),
    ⟨p, cs, ht.frame2 hf (fun e => by have := hS _ e; omega) (fun i hi e1 e2 => by have := hS _ e2; have := h4 i hi e1; omega), h3, h4⟩, h.fr.trans' hf (fun i hi e => by have := hS _ e; omega)⟩
end Go.Proofs.YtdnbfhcbcdodmaaGreatDoor

/- gate.asked.own, exec: what is marked goes. Conditions: the contract's own premises. -/
namespace Go.Proofs.YtdnbfhcbcdodmaaGreatDoor
open Go.RowKit

attribute [local go_sem] Oper.semAt_some

section
variable {w w1 w2 : World} {k : Nat} {K K1 : KQ} {L L1 : KLay} {i a : Nat} {c : SysQ} {r : ResV}
/-- A block of another kind is none of a table's. -/
theorem TabAt.but {t : Nat} {st : TSt} {S : Nat → Prop} {g : Nat} {cs : Array Value} (h : TabAt w t st S) (hg : w.heap[g]? = some (.cells cs 74 (0, 0))) : TabAt w t st (fun b => S b ∧ b ≠ g) := by
  obtain ⟨p, cs', h⟩ := h
  refine ⟨p, cs', ⟨h.hb, h.hcs, h.hc, h.hs, h.inj, h.hne, ⟨h.own, fun e => ?_⟩, fun i hi e => ⟨h.owns i hi e, fun e2 => ?_⟩, fun b hb => ⟨h.up b hb, fun e => ?_⟩⟩⟩
  · have := h.hb
    rw [e, hg] at this
    simp at this
  · obtain ⟨⟨x, m⟩, hx⟩ := Option.isSome_iff_exists.1 e
    have := h.hs i x m hi hx
    rw [e2, hg] at this
    simp at this
  · have := blk_lt hg
    omega
/-- A block is nobody's. -/
def KLay.but (L : KLay) (g : Nat) : KLay := { L with o := fun b => if b = g then none else L.o b }
theorem KF.but (h : KF w k K L) {g j : Nat} (hg : L.o g = some (tTab j)) (hj1 : 1 ≤ j) (hj2 : j ≤ K.qn) (hA : TabAt w (L.tb j) (tabS L (K.proc j).fds) (fun b => L.S (tTab j) w b ∧ b ≠ g)) : KF w k K (L.but g) := by
  have off : ∀ {b : Nat} {t : Nat × Nat}, t ≠ tTab j → L.o b = some t → (L.but g).o b = some t := fun ht e => by
    show (if _ = g then none else L.o _) = _
    rw [if_neg (fun e2 => by rw [e2, hg] at e; exact ht (Option.some.inj e).symm)]
    exact e
  have sub : ∀ {t : Nat × Nat} {b : Nat}, t ≠ tTab j → L.S t w b → (L.but g).S t w b := fun ht e => e.imp (off ht) id
  exact
    { hk := h.hk
      files := by obtain ⟨p, hp⟩ := h.files; exact ⟨p, hp.mono fun b e => sub (by simp) e⟩
      pr := h.pr, dr := h.dr, qr := h.qr, hd := h.hd, hq := h.hq
      ht := fun x g1 g2 => by
        by_cases e : x = j
        · rw [e]
          refine hA.mono fun b e2 => ?_
          rcases e2.1 with e3 | e3
          · exact .inl (by show (if b = g then none else L.o b) = _; rw [if_neg e2.2]; exact e3)
          · exact .inr e3
        · exact (h.ht x g1 g2).mono fun b e2 => sub (by simp [e]) e2
      hp := h.hp
      ok := off (by simp) h.ok
      opm := fun g e => off (by simp) (h.opm g e)
      odm := fun g e => off (by simp) (h.odm g e)
      oqm := fun g e => off (by simp) (h.oqm g e)
      od := fun x g1 g2 => off (by simp) (h.od x g1 g2)
      oq := fun x g1 g2 => off (by simp) (h.oq x g1 g2)
      op := fun x g1 g2 => ⟨off (by simp) (h.op x g1 g2).1, off (by simp) (h.op x g1 g2).2⟩
      new := fun b hb => by
        show (if b = g then none else L.o b) = none
        split
        · rfl
        · exact h.new b hb }
end
end Go.Proofs.YtdnbfhcbcdodmaaGreatDoor

/- gate.asked.open. Conditions: the contracts' own premises. -/
namespace Go.Proofs.YtdnbfhcbcdodmaaGreatDoor
open Go.RowKit

attribute [local go_sem] Oper.semAt_some

abbrev glB : Nat := Tryz.laysSplit_ren.g 1
end Go.Proofs.YtdnbfhcbcdodmaaGreatDoor

/- What a kernel's data keep, call by call. No program in sight; each law's own premises. -/
namespace Go.Proofs.YtdnbfhcbcdodmaaGreatDoor
open Go.RowKit

section
variable {σ : FSt}
theorem Live.hold (h : Live σ) (i : Int) : Live (holdR σ i).2 := by
  unfold holdR
  cases hn : σ.ndI i with
  | none => exact h
  | some n =>
    obtain ⟨k, rfl, hk⟩ := ndI_some hn
    exact h.meta (n := n) (i := (k : Int).toNat) (by simpa using hk) rfl rfl rfl rfl rfl
theorem Live.make (h : Live σ) (dir : Int) (s : List UInt8) (d : Bool) (m : Int) : Live (makeR σ dir s d m).2 := by
  unfold makeR
  by_cases hE : addE σ dir s d ≠ 0
  · rw [if_pos hE]; exact h
  rw [if_neg hE]
  have hE : addE σ dir s d = 0 := by simpa using hE
  unfold addE at hE
  by_cases h1 : (aheadE σ dir s).1 ≠ 0
  · rw [if_pos h1] at hE; exact absurd hE h1
  rw [if_neg h1] at hE
  obtain ⟨n, hn, hnd, hln⟩ := ahead_ok (by simpa using h1)
  by_cases h2 : slashS s = true ∧ d = false
  · rw [if_pos h2] at hE; exact absurd hE (by simp)
  rw [if_neg h2] at hE
  by_cases h3 : openS σ (aheadE σ dir s).2.1 (aheadE σ dir s).2.2 ≠ 0
  · rw [if_pos h3] at hE; exact absurd hE h3
  rw [if_neg h3] at hE
  by_cases h4 : 100 ≤ σ.cnt
  · rw [if_pos h4] at hE; exact absurd hE (by simp)
  unfold addS
  generalize (aheadE σ dir s).2.1 = a at *
  generalize (aheadE σ dir s).2.2 = nm at *
  have hna : (σ.add (newNd d m a)).nd a = some n := (FSt.add_other (by rw [hn]; rfl) _).trans hn
  exact (h.add (n := newNd d m a) rfl rfl (by show (σ.nd a).isSome = true; rw [hn]; rfl) (by omega)).link hna hln (by rw [FSt.add_same]; rfl)
end
section
variable {K : KQ} {N : Nat}
theorem KOk.σ' (h : KOk K N) {σ : FSt} {M : Nat} (hk : Kept σ M) (hl : Live σ) (hM : N ≤ M) : KOk { K with σ := σ } M := (h.mono hM).σ (hk.good hl)
theorem KOk.forkQ (h : KOk K N) {i : Nat} (h1 : 1 ≤ i) (h2 : i ≤ K.qn) : KOk (forkQ K i).2 (N + 33) := by
  unfold Go.Proofs.YtdnbfhcbcdodmaaGreatDoor.forkQ
  split
  · exact h.mono (by omega)
  · have hr := h.refsQ (K.proc i).fds (fun fd j x e => h.fds i fd j x h1 h2 e) 32
    have hE := refsQ_eq K (K.proc i).fds 32
    have hs := hr.σ (σ := (holdR K.σ (K.proc i).dir).2) (((h.good.hold (K.proc i).dir).mono (by omega)).good (h.good.live.hold _))
    have hp := h.proc i h1 h2
    refine hs.addQ (q := { K.proc i with parent := i, inn := true }) ⟨hp.dir, hp.mask, by have := h.qn; show i ≤ _; omega, hp.status⟩ (fun fd j x e => ?_)
    show 1 ≤ j ∧ j ≤ (Go.Proofs.YtdnbfhcbcdodmaaGreatDoor.refsQ K (K.proc i).fds 32).dn
    rw [hE.dn]
    exact h.fds i fd j x h1 h2 e
theorem pipeD_ok {N n kd : Nat} {K : KQ} (hk : kd = 3 ∨ kd = 4) (hn : 1 ≤ n ∧ n ≤ K.pn) (hpn : K.pn ≤ N) (hN : N ≤ 1000000) : DescOk K (N + 1) { pipeD n kd with refs := 1, inn := true } :=
  ⟨by show 1 ≤ kd ∧ kd ≤ 5; omega, fun e => by have e : kd = 1 := e; omega, fun e => by have e : kd = 5 := e; omega, fun _ => hn, by show n ≤ _; omega, fun _ => Nat.zero_le _, by show 0 < 64; decide, ⟨by show (1 : Int) ≤ _; omega, by show -_ ≤ (1 : Int); omega⟩, Nat.zero_le _⟩
theorem KOk.pipeQ (h : KOk K N) (hN : N + 3 ≤ 1000000) {i : Nat} (h1 : 1 ≤ i) (h2 : i ≤ K.qn) : KOk (pipeQ K i).2 (N + 3) := by
  unfold Go.Proofs.YtdnbfhcbcdodmaaGreatDoor.pipeQ
  split
  · exact h.mono (by omega)
  · have hp := h.addP (p := pipe0) ⟨by show 0 ≤ 64; decide, by show 1 ≤ N + 1; omega, by show 1 ≤ N + 1; omega⟩
    have ho1 := hp.openQ h1 h2 (d := pipeD (K.pn + 1) 3) (pipeD_ok (.inl rfl) ⟨by omega, Nat.le_refl _⟩ hp.pn (by omega))
    have hq := openQ_qn (K.addP pipe0) i (pipeD (K.pn + 1) 3)
    have hpn := openQ_pn (K.addP pipe0) i (pipeD (K.pn + 1) 3)
    exact ho1.openQ h1 (by rw [hq]; exact h2) (d := pipeD (K.pn + 1) 4) (pipeD_ok (.inr rfl) ⟨by omega, by rw [hpn]; exact Nat.le_refl _⟩ ho1.pn (by omega))
end
end Go.Proofs.YtdnbfhcbcdodmaaGreatDoor

/- A kernel beside its caller's own blocks, and each call of it. Conditions: each law's own premises. -/
namespace Go.Proofs.YtdnbfhcbcdodmaaGreatDoor
open Go.RowKit

/-- A kernel in memory; A: what its caller has. -/
def KAt (A : Nat → Prop) (w : World) (k : Nat) (K : KQ) (N : Nat) : Prop :=
  ∃ L, KF w k K L ∧ KOk K N ∧ Ml w ∧ A glB ∧ ∀ b, A b → L.o b = none ∧ b < w.heap.size
section
variable {A : Nat → Prop} {w w' : World} {k : Nat} {K : KQ} {N M : Nat}
theorem KAt.mono (h : KAt A w k K N) (hN : N ≤ M) : KAt A w k K M := by
  obtain ⟨L, h1, h2, h3⟩ := h
  exact ⟨L, h1, h2.mono hN, h3⟩
theorem KAt.ok (h : KAt A w k K N) : KOk K N := by obtain ⟨_, _, h, _⟩ := h; exact h
/-- The caller has done something of its own. -/
theorem KAt.still {T : Nat → Prop} (h : KAt A w k K N) (hf : Fr T w w') (hT : ∀ b, b < w.heap.size → T b → A b ∧ b ≠ glB) : KAt A w' k K N := by
  obtain ⟨L, h1, h2, h3, h4, h5⟩ := h
  have hf' : Fr (fun b => A b ∧ b ≠ glB) w w' := hf.mono fun b hb e => hT b hb e
  refine ⟨L, h1.still hf' (fun b t e x => by rw [(h5 b x.1).1] at e; cases e), h2, h3.frame hf' (fun e => e.2 rfl), h4, fun b hb => ⟨(h5 b hb).1, Nat.lt_of_lt_of_le (h5 b hb).2 hf.size⟩⟩
theorem KAt.quiet (h : KAt A w k K N) (hf : Fr (fun _ => False) w w') : KAt A w' k K N := h.still hf fun _ _ e => e.elim
/-- The caller has more blocks. -/
theorem KAt.more {B : Nat → Prop} (h : KAt A w k K N) (hf : Fr (fun _ => False) w w') (hB : ∀ b, B b → A b ∨ (w.heap.size ≤ b ∧ b < w'.heap.size)) (hg : B glB) : KAt B w' k K N := by
  obtain ⟨L, h1, h2, h3, h4, h5⟩ := h
  refine ⟨L, h1.quiet hf, h2, h3.frame hf (fun e => e), hg, fun b hb => ?_⟩
  rcases hB b hb with x | x
  · exact ⟨(h5 b x).1, Nat.lt_of_lt_of_le (h5 b x).2 hf.size⟩
  · exact ⟨h1.new b x.1, x.2⟩
theorem KAt.lt (h : KAt A w k K N) {b : Nat} (hb : A b) : b < w.heap.size := by obtain ⟨_, _, _, _, _, h⟩ := h; exact (h b hb).2
end
def CallPost (A : Nat → Prop) (w : World) (k : Nat) (R : Bool × ResQ × KQ) (M : Nat) (e : Ending) (w' : World) : Prop :=
  e = .returned (.tuple #[resVal (if R.1 = true then noResV else resV R.2.1), .bool R.1]) ∧ KAt A w' k R.2.2 M ∧ Fr (fun b => ¬ A b) w w'
section
variable {A : Nat → Prop} {w : World} {k : Nat} {K : KQ} {N : Nat}
theorem call_at (h : KAt A w k K N) (hq : 1 ≤ K.qn) (pid : Int) (hp : -9223372036854775808 ≤ pid ∧ pid ≤ 9223372036854775807) (c : SysQ) (hcp : c.p.oneCell' = true) (hl : livesB K pid = true) (R : Bool × ResQ × KQ) (M : Nat) (hM : Live R.2.2.σ → KOk R.2.2 M)
    (hans : ∀ L w2 a, KF w2 k K L → Ml w2 → L.o glB = none → glB ≠ a → AskAt w2 a k (L.qb pid.toNat) c noResV → L.o a = none → Calls Tryz.prog 27 #[ptrAt a] w2 (KaskPost w2 k K L pid.toNat a c R)) :
    Calls Tryz.prog 9 #[ptrAt k, .int .i64 pid, sysV c] w (CallPost A w k R M) := by
  obtain ⟨L, h1, h2, h3, h4, h5⟩ := h
  refine (kcall_any w k K L h1 hq pid hp c hcp hl R fun w2 a f1 f2 f3 f4 f5 => hans L w2 a f3 (h3.frame f1 (fun e => e)) (h5 _ h4).1 (fun e => by have := (h5 _ h4).2; omega) f4 f5).mono ?_
  rintro e w' ⟨rfl, L', g1, g2, g3, g4⟩
  refine ⟨rfl, ⟨L', g1, hM g1.live, h3.frame g3 (fun e => e (h5 _ h4).1), h4, fun b hb => ⟨?_, Nat.lt_of_lt_of_le (h5 b hb).2 g3.size⟩⟩, g3.mono fun b _ e x => e (h5 b x).1⟩
  by_cases e : L'.o b = none
  · exact e
  · rcases g4 b e with x | x
    · exact absurd (h5 b hb).1 x
    · have := (h5 b hb).2; omega
theorem lives_pid {pid : Int} (hl : livesB K pid = true) : 1 ≤ pid.toNat ∧ pid.toNat ≤ K.qn ∧ (pid.toNat : Int) = pid := by
  unfold livesB at hl
  simp at hl
  omega
end
theorem pipe_at {A : Nat → Prop} {w : World} {k : Nat} {K : KQ} {N : Nat} (h : KAt A w k K N) (hN : N + 4 ≤ 1000000) (pid : Int) (hp : -9223372036854775808 ≤ pid ∧ pid ≤ 9223372036854775807) (c : SysQ) (hcp : c.p.oneCell' = true) (hno : c.no = 7) (hl : livesB K pid = true) :
    Calls Tryz.prog 9 #[ptrAt k, .int .i64 pid, sysV c] w (CallPost A w k (false, pipeQ K pid.toNat) (N + 3)) := by
  obtain ⟨p1, p2, _⟩ := lives_pid hl
  have hok := h.ok
  refine call_at h (Nat.le_trans p1 p2) pid hp c hcp hl (false, pipeQ K pid.toNat) (N + 3) (fun hv => hok.pipeQ (by omega) p1 p2) fun L w2 a f1 f2 f3 f4 f5 f6 => ?_
  exact err_done (ans_pipe w2 k K L f1 (L.qb pid.toNat) a c noResV f5 hno (ErrR w2 k K L pid.toNat a c (pipeQ K pid.toNat)) ErrR.ask ((apipe_any w2 k K L f1 N hok (by omega) pid.toNat p1 p2 a c f5 f6).mono fun e w' hx => hx.errR))
theorem fork_at {A : Nat → Prop} {w : World} {k : Nat} {K : KQ} {N : Nat} (h : KAt A w k K N) (hN : N + 4 ≤ 1000000) (pid : Int) (hp : -9223372036854775808 ≤ pid ∧ pid ≤ 9223372036854775807) (c : SysQ) (hcp : c.p.oneCell' = true) (hno : c.no = 8) (hl : livesB K pid = true) :
    Calls Tryz.prog 9 #[ptrAt k, .int .i64 pid, sysV c] w (CallPost A w k (false, forkQ K pid.toNat) (N + 33)) := by
  obtain ⟨p1, p2, _⟩ := lives_pid hl
  have hok := h.ok
  refine call_at h (Nat.le_trans p1 p2) pid hp c hcp hl (false, forkQ K pid.toNat) (N + 33) (fun hv => hok.forkQ p1 p2) fun L w2 a f1 f2 f3 f4 f5 f6 => ?_
  exact err_done (ans_fork w2 k K L f1 (L.qb pid.toNat) a c noResV f5 hno (ErrR w2 k K L pid.toNat a c (forkQ K pid.toNat)) ErrR.ask ((afork_any w2 k K L f1 N hok (by omega) pid.toNat p1 p2 a c f5 f6).mono fun e w' hx => hx.errR))
theorem read_pip_at {A : Nat → Prop} {w : World} {k : Nat} {K : KQ} {N M : Nat} (h : KAt A w k K N) (hN : N + 4 ≤ 1000000) (pid : Int) (hp : -9223372036854775808 ≤ pid ∧ pid ≤ 9223372036854775807) (c : SysQ) (hcp : c.p.oneCell' = true) (hno : c.no = 1) (hl : livesB K pid = true) (hM : Live (readQ K pid.toNat c.a c.b).2.2.σ → KOk (readQ K pid.toNat c.a c.b).2.2 M) (j : Nat) (hf : fdQ K pid.toNat c.a = some j) (hb64 : -9223372036854775808 ≤ c.b ∧ c.b ≤ 9223372036854775807) (hr : (K.desc j).reads = true) (hb : 0 ≤ c.b) (hk : (K.desc j).kind = 3) :
    Calls Tryz.prog 9 #[ptrAt k, .int .i64 pid, sysV c] w (CallPost A w k (readQ K pid.toNat c.a c.b) M) := by
  obtain ⟨p1, p2, _⟩ := lives_pid hl
  have hok := h.ok
  refine call_at h (Nat.le_trans p1 p2) pid hp c hcp hl (readQ K pid.toNat c.a c.b) M hM fun L w2 a f1 f2 f3 f4 f5 f6 => ?_
  refine (ans_read w2 k K L f1 (L.qb pid.toNat) a c noResV f5 hno (fun b w' => KaskPost w2 k K L pid.toNat a c (readQ K pid.toNat c.a c.b) (.returned (.bool b)) w') ((aread_pip w2 k K L f1 N hok (by omega) pid.toNat p1 p2 a c hb64 f5 f6 j hf hr hb hk).mono fun e w' hx => ⟨(readQ K pid.toNat c.a c.b).1, hx.1, by have := hx; rw [hx.1] at this; exact this⟩)).mono ?_
  rintro e w' ⟨b, rfl, hx⟩
  exact hx
theorem write_pip_at {A : Nat → Prop} {w : World} {k : Nat} {K : KQ} {N M : Nat} (h : KAt A w k K N) (hN : N + 4 ≤ 1000000) (pid : Int) (hp : -9223372036854775808 ≤ pid ∧ pid ≤ 9223372036854775807) (c : SysQ) (hcp : c.p.oneCell' = true) (hno : c.no = 2) (hl : livesB K pid = true) (hM : Live (writeQ K pid.toNat c.a c.s).2.2.σ → KOk (writeQ K pid.toNat c.a c.s).2.2 M) (j : Nat) (hf : fdQ K pid.toNat c.a = some j) (hs : c.s.size ≤ 9223372036854775807) (hr : (K.desc j).writes = true) (hk : (K.desc j).kind = 4) (hr0 : (K.pipe (K.desc j).n).r ≠ 0) :
    Calls Tryz.prog 9 #[ptrAt k, .int .i64 pid, sysV c] w (CallPost A w k (writeQ K pid.toNat c.a c.s) M) := by
  obtain ⟨p1, p2, _⟩ := lives_pid hl
  have hok := h.ok
  refine call_at h (Nat.le_trans p1 p2) pid hp c hcp hl (writeQ K pid.toNat c.a c.s) M hM fun L w2 a f1 f2 f3 f4 f5 f6 => ?_
  refine (ans_write w2 k K L f1 (L.qb pid.toNat) a c noResV f5 hno (fun b w' => KaskPost w2 k K L pid.toNat a c (writeQ K pid.toNat c.a c.s) (.returned (.bool b)) w') ((awrite_pip w2 k K L f1 N hok (by omega) pid.toNat p1 p2 a c hs f5 f6 j hf hr hk hr0).mono fun e w' hx => ⟨(writeQ K pid.toNat c.a c.s).1, hx.1, by have := hx; rw [hx.1] at this; exact this⟩)).mono ?_
  rintro e w' ⟨b, rfl, hx⟩
  exact hx
end Go.Proofs.YtdnbfhcbcdodmaaGreatDoor

/- What a process's own calls leave of the others. No program in sight; no condition. -/
namespace Go.Proofs.YtdnbfhcbcdodmaaGreatDoor
open Go.RowKit

/-- The others' processes are as they were. -/
structure Keeps (i : Nat) (K K' : KQ) : Prop where
  qn : K'.qn = K.qn
  proc : ∀ j, j ≠ i → K'.proc j = K.proc j
  inn : (K'.proc i).inn = (K.proc i).inn
  ended : (K'.proc i).ended = (K.proc i).ended
section
variable {i : Nat} {K K1 K2 : KQ}
theorem Keeps.refl (i : Nat) (K : KQ) : Keeps i K K := ⟨rfl, fun _ _ => rfl, rfl, rfl⟩
theorem Keeps.trans (h : Keeps i K K1) (h2 : Keeps i K1 K2) : Keeps i K K2 := ⟨h2.qn.trans h.qn, fun j e => (h2.proc j e).trans (h.proc j e), h2.inn.trans h.inn, h2.ended.trans h.ended⟩
theorem Keeps.of (h1 : K1.qn = K.qn) (h2 : K1.proc = K.proc) : Keeps i K K1 := ⟨h1, fun j _ => by rw [h2], by rw [h2], by rw [h2]⟩
theorem keeps_σ (σ : FSt) : Keeps i K { K with σ := σ } := .of rfl rfl
theorem Keeps.lives (h : Keeps i K K1) (j : Nat) : livesB K1 j = livesB K j := by
  unfold livesB
  rw [h.qn]
  by_cases e : j = i
  · subst e
    simp only [Int.toNat_natCast]
    simp only [h.inn, h.ended]
  · simp only [Int.toNat_natCast]
    simp only [h.proc j e]
end
end Go.Proofs.YtdnbfhcbcdodmaaGreatDoor

/- What a kernel's data keep where it is read and written. No program in sight; each law's own premises. -/
namespace Go.Proofs.YtdnbfhcbcdodmaaGreatDoor
open Go.RowKit

theorem writeR_end {σ : FSt} {i a : Int} {s : List UInt8} (h : (writeR σ i a s).2.1 = 0) : 0 ≤ a + (writeR σ i a s).1 ∧ a + (writeR σ i a s).1 ≤ 65536 := by
  unfold writeR at h ⊢
  cases hn : σ.ndI i with
  | none => rw [hn] at h; exact absurd h (by simp)
  | some nd =>
    rw [hn] at h
    obtain ⟨k, rfl, hk⟩ := ndI_some hn
    simp only at h ⊢
    by_cases e1 : nd.d = true
    · rw [if_pos e1] at h; exact absurd h (by simp)
    rw [if_neg e1] at h ⊢
    by_cases e2 : a < 0
    · rw [if_pos e2] at h; exact absurd h (by simp)
    rw [if_neg e2] at h ⊢
    by_cases e3 : 65536 < a ∨ 65536 < s.length
    · rw [if_pos e3] at h; exact absurd h (by simp)
    rw [if_neg e3] at h ⊢
    by_cases e4 : s = []
    · rw [if_pos e4]
      show 0 ≤ a + 0 ∧ a + 0 ≤ 65536
      omega
    rw [if_neg e4] at h ⊢
    by_cases e5 : fits σ nd (max nd.data.length (a.toNat + s.length))
    · rw [if_pos e5]
      have := byts_nd hk
      unfold fits at e5
      show 0 ≤ a + (s.length : Int) ∧ a + (s.length : Int) ≤ 65536
      omega
    · rw [if_neg e5] at h; exact absurd h (by simp)
section
variable {K : KQ} {N : Nat}
theorem KOk.readP (h : KOk K N) {i : Nat} {a b : Int} {j : Nat} (hf : fdQ K i a = some j) (hk : (K.desc j).kind = 3) (hj : 1 ≤ j ∧ j ≤ K.dn) : KOk (readQ K i a b).2.2 N := by
  unfold readQ
  rw [hf]
  simp only
  by_cases e1 : (K.desc j).reads = false
  · rw [if_pos e1]; exact h
  rw [if_neg e1]
  by_cases e2 : b < 0
  · rw [if_pos e2]; exact h
  rw [if_neg e2, if_neg (by omega), if_neg (by omega), if_neg (by omega)]
  split
  · exact h
  · have hp := (h.desc j hj.1 hj.2).pip (.inl hk)
    have := h.pipe _ hp.1 hp.2
    refine h.setP ⟨?_, this.2.1, this.2.2⟩
    show ((K.pipe (K.desc j).n).data.drop b.toNat).length ≤ 64
    rw [List.length_drop]
    omega
theorem KOk.readF (h : KOk K N) {i : Nat} {a b : Int} {j : Nat} (hf : fdQ K i a = some j) (hk : (K.desc j).kind = 2) (hj : 1 ≤ j ∧ j ≤ K.dn) : KOk (readQ K i a b).2.2 N := by
  unfold readQ
  rw [hf]
  simp only
  by_cases e1 : (K.desc j).reads = false
  · rw [if_pos e1]; exact h
  rw [if_neg e1]
  by_cases e2 : b < 0
  · rw [if_pos e2]; exact h
  rw [if_neg e2, if_neg (by omega), if_pos hk]
  have hd := h.desc j hj.1 hj.2
  have hl : (readB K.σ (K.desc j).n (K.desc j).pos b).length = 0 ∨ (K.desc j).pos + (readB K.σ (K.desc j).n (K.desc j).pos b).length ≤ 65536 := by
    unfold readB
    split
    · exact .inl rfl
    · have hx : (dataI K.σ (K.desc j).n).length ≤ 65536 := by
        unfold dataI
        cases hn : K.σ.ndI (K.desc j).n with
        | none => exact Nat.zero_le _
        | some n =>
          obtain ⟨k, e, hk⟩ := ndI_some hn
          have := byts_nd hk
          have := h.good.live.byts
          show n.data.length ≤ 65536
          omega
      rw [List.length_take, List.length_drop]
      omega
  exact h.setD ⟨hd.kind, hd.con, fun e => by have e : (K.desc j).kind = 5 := e; omega, hd.pip, hd.num, fun e => by
    have := hd.pos e
    show (K.desc j).pos + (readB K.σ (K.desc j).n (K.desc j).pos b).length ≤ 65536
    omega, hd.flg, hd.refs, hd.tsz⟩
theorem KOk.writeP (h : KOk K N) {i : Nat} {a : Int} {s : ByteArray} {j : Nat} (hf : fdQ K i a = some j) (hk : (K.desc j).kind = 4) (hr : (K.pipe (K.desc j).n).r ≠ 0) (hj : 1 ≤ j ∧ j ≤ K.dn) : KOk (writeQ K i a s).2.2 N := by
  unfold writeQ
  rw [hf]
  simp only
  by_cases e1 : (K.desc j).writes = false
  · rw [if_pos e1]; exact h
  rw [if_neg e1, if_neg (by omega), if_neg (by omega), if_neg hr]
  split
  · exact h
  · have hp := (h.desc j hj.1 hj.2).pip (.inr hk)
    have := h.pipe _ hp.1 hp.2
    refine h.setP ⟨?_, this.2.1, this.2.2⟩
    show ((K.pipe (K.desc j).n).data ++ s.data.toList.take (64 - (K.pipe (K.desc j).n).data.length)).length ≤ 64
    rw [List.length_append, List.length_take]
    omega
theorem KOk.writeF (h : KOk K N) {i : Nat} {a : Int} {s : ByteArray} {j : Nat} (hf : fdQ K i a = some j) (hk : (K.desc j).kind = 2) (hj : 1 ≤ j ∧ j ≤ K.dn) (hl : Live (writeQ K i a s).2.2.σ) : KOk (writeQ K i a s).2.2 (N + 1) := by
  unfold writeQ at hl ⊢
  rw [hf] at hl ⊢
  simp only at hl ⊢
  by_cases e1 : (K.desc j).writes = false
  · rw [if_pos e1]; exact h.mono (Nat.le_succ _)
  rw [if_neg e1, if_neg (by omega), if_pos hk] at hl ⊢
  have hd := h.desc j hj.1 hj.2
  have hg := h.σ' (h.good.write (K.desc j).n (atQ K (K.desc j)) s.data.toList) hl (Nat.le_succ N)
  have hp : (if (writeR K.σ (K.desc j).n (atQ K (K.desc j)) s.data.toList).2.1 = 0 then (atQ K (K.desc j) + (writeR K.σ (K.desc j).n (atQ K (K.desc j)) s.data.toList).1).toNat else (K.desc j).pos) ≤ 65536 := by
    split
    · rename_i e
      have := writeR_end e
      omega
    · exact hd.pos (by omega)
  exact hg.setD ⟨hd.kind, hd.con, fun e => by have e : (K.desc j).kind = 5 := e; omega, hd.pip, hd.num, fun _ => hp, hd.flg, ⟨by have := hd.refs.1; show (K.desc j).refs ≤ _; omega, by have := hd.refs.2; show -_ ≤ (K.desc j).refs; omega⟩, hd.tsz⟩
end
end Go.Proofs.YtdnbfhcbcdodmaaGreatDoor

/- More calls of a kernel beside its caller's own blocks. Conditions: each law's own premises. -/
namespace Go.Proofs.YtdnbfhcbcdodmaaGreatDoor
open Go.RowKit

section
variable {K : KQ} {N : Nat}
theorem Good.dropLive {σ : FSt} {N : Nat} (h : Good σ N) (i : Int) : Live (dropR σ i).2 := by
  unfold dropR
  cases hn : σ.ndI i with
  | none => exact h.live
  | some n =>
    obtain ⟨k, rfl, hk⟩ := ndI_some hn
    simp only
    by_cases e0 : n.holds = 0
    · rw [if_pos e0]; exact h.live
    · rw [if_neg e0, show ((k : Int)).toNat = k from rfl]
      show Live (letS (σ.put k (some { n with holds := n.holds - 1 })) k)
      have hm : Live (σ.put k (some { n with holds := n.holds - 1 })) := h.live.meta (n := n) hk rfl rfl rfl rfl rfl
      unfold letS
      rw [put_nd hk, if_pos rfl]
      simp only
      by_cases e1 : n.links = 0 ∧ n.holds - 1 = 0
      · rw [if_pos e1]
        have e : (σ.put k (some { n with holds := n.holds - 1 })).put k none = σ.put k none := by unfold FSt.put; rw [List.set_set]
        rw [e]
        exact (h.inv.free h.live hk e1.1).2
      · rw [if_neg e1]; exact hm
theorem KOk.dropQ' {K : KQ} {N : Nat} (h : KOk K N) {j : Nat} (h1 : 1 ≤ j) (h2 : j ≤ K.dn) : KOk (Go.Proofs.YtdnbfhcbcdodmaaGreatDoor.dropQ K j) (N + 1) := by
  refine h.dropQ h1 h2 ?_
  unfold Go.Proofs.YtdnbfhcbcdodmaaGreatDoor.dropQ
  split
  · exact h.good.live
  · split
    · exact h.good.dropLive _
    · split <;> exact h.good.live
end
end Go.Proofs.YtdnbfhcbcdodmaaGreatDoor

/- A process ends, as plain data: its descriptors one by one, its children. No program in sight; each law's own premises. -/
namespace Go.Proofs.YtdnbfhcbcdodmaaGreatDoor
open Go.RowKit

section
variable {K K1 : KQ} {i s fd j N : Nat}
theorem cutQ_none (h : (K.proc i).fds fd = none) : cutQ i K fd = K := by unfold cutQ; rw [h]
theorem cutQ_some {m : Bool} (h : (K.proc i).fds fd = some (j, m)) : cutQ i K fd = dropQ (K.fds i ((K.proc i).fds.set fd none)) j := by unfold cutQ; rw [h]
theorem cutQ_pn : (cutQ i K fd).pn = K.pn ∧ (cutQ i K fd).dn = K.dn ∧ (cutQ i K fd).qn = K.qn := by
  cases h : (K.proc i).fds fd with
  | none => rw [cutQ_none h]; exact ⟨rfl, rfl, rfl⟩
  | some p =>
    obtain ⟨j, m⟩ := p
    rw [cutQ_some h]
    exact dropQ_pn _ j
theorem cutsQ_pn : ∀ s, (cutsQ i K s).pn = K.pn ∧ (cutsQ i K s).dn = K.dn ∧ (cutsQ i K s).qn = K.qn
  | 0 => ⟨rfl, rfl, rfl⟩
  | s + 1 => by
    have h1 := cutsQ_pn s
    have h2 := cutQ_pn (i := i) (K := cutsQ i K s) (fd := s)
    exact ⟨h2.1.trans h1.1, h2.2.1.trans h1.2.1, h2.2.2.trans h1.2.2⟩
theorem KOk.cutQ (h : KOk K N) (h1 : 1 ≤ i) (h2 : i ≤ K.qn) : KOk (Go.Proofs.YtdnbfhcbcdodmaaGreatDoor.cutQ i K fd) (N + 1) := by
  cases hf : (K.proc i).fds fd with
  | none => rw [cutQ_none hf]; exact h.mono (Nat.le_succ N)
  | some p =>
    obtain ⟨j, m⟩ := p
    rw [cutQ_some hf]
    have hj := h.fds i fd j m h1 h2 hf
    exact KOk.dropQ' (h.fdsU h1 h2 (fun y a x e => by
      rcases set_some e with e | e
      · cases e
      · exact h.fds i y a x h1 h2 e)) hj.1 hj.2
theorem KOk.cutsQ (h : KOk K N) (h1 : 1 ≤ i) (h2 : i ≤ K.qn) : ∀ s, KOk (Go.Proofs.YtdnbfhcbcdodmaaGreatDoor.cutsQ i K s) (N + s)
  | 0 => h
  | s + 1 => (KOk.cutsQ h h1 h2 s).cutQ h1 (by rw [(cutsQ_pn s).2.2]; exact h2)
/-- Two kernels that no memory tells apart. -/
structure KEq (K K1 : KQ) : Prop where
  σ : K1.σ = K.σ
  pn : K1.pn = K.pn
  dn : K1.dn = K.dn
  qn : K1.qn = K.qn
  typed : K1.typed = K.typed
  closed : K1.closed = K.closed
  out : K1.out = K.out
  pipe : ∀ x, 1 ≤ x → x ≤ K.pn → K1.pipe x = K.pipe x
  desc : ∀ x, 1 ≤ x → x ≤ K.dn → K1.desc x = K.desc x
  proc : ∀ x, 1 ≤ x → x ≤ K.qn → K1.proc x = K.proc x
theorem KF.congr {w : World} {k : Nat} {L : KLay} (h : KF w k K L) (e : KEq K K1) : KF w k K1 L where
  hk := by
    have : kerC L K1 = kerC L K := by unfold kerC; rw [e.pn, e.dn, e.qn, e.typed, e.closed, e.out]
    rw [this]; exact h.hk
  files := by rw [e.σ]; exact h.files
  pr := by rw [e.pn]; exact h.pr.congr fun x a b => ⟨by rw [e.pipe x a b], rfl⟩
  dr := by rw [e.dn]; exact h.dr.congr fun x a b => ⟨by rw [e.desc x a b], rfl⟩
  qr := by rw [e.qn]; exact h.qr.congr fun x a b => ⟨by rw [e.proc x a b], rfl⟩
  hd x a b := by rw [e.dn] at b; rw [e.desc x a b]; exact h.hd x a b
  hq x a b := by rw [e.qn] at b; rw [e.proc x a b]; exact h.hq x a b
  ht x a b := by rw [e.qn] at b; rw [e.proc x a b]; exact h.ht x a b
  hp x a b := by rw [e.pn] at b; rw [e.pipe x a b]; exact h.hp x a b
  ok := h.ok
  opm := h.opm
  odm := h.odm
  oqm := h.oqm
  od x a b := by rw [e.dn] at b; exact h.od x a b
  oq x a b := by rw [e.qn] at b; exact h.oq x a b
  op x a b := by rw [e.pn] at b; exact h.op x a b
  new := h.new
theorem KOk.orphanQ (h : KOk K N) (hN : 1 ≤ N) (i : Nat) : KOk (Go.Proofs.YtdnbfhcbcdodmaaGreatDoor.orphanQ K i) N := by
  refine ⟨fun x fd a b h1 h2 e => ?_, fun x h1 h2 => (h.desc x h1 h2).mono (Nat.le_refl _) (Nat.le_refl _), fun x h1 h2 => ?_, h.pipe, h.pn, h.dn, h.qn, h.good, h.typed⟩
  · have e : (if (K.proc x).inn = true ∧ (K.proc x).parent = i ∧ x ≠ 1 then ({ K.proc x with parent := 1 } : ProcQ) else K.proc x).fds fd = some (a, b) := e
    refine h.fds x fd a b h1 h2 ?_
    split at e <;> exact e
  · have hp := h.proc x h1 h2
    show ProcOk N (if (K.proc x).inn = true ∧ (K.proc x).parent = i ∧ x ≠ 1 then { K.proc x with parent := 1 } else K.proc x)
    split
    · exact ⟨hp.dir, hp.mask, hN, hp.status⟩
    · exact hp
theorem KOk.endQ (h : KOk K N) (h1 : 1 ≤ i) (h2 : i ≤ K.qn) {st : Int} (hst : -9223372036854775808 ≤ st ∧ st ≤ 9223372036854775807) : KOk (Go.Proofs.YtdnbfhcbcdodmaaGreatDoor.endQ K i st) (N + 33) := by
  have hc := KOk.cutsQ h h1 h2 32
  have hq := (cutsQ_pn (i := i) (K := K) 32).2.2
  have hp := hc.proc i h1 (by rw [hq]; exact h2)
  have hd := (hc.good.drop ((Go.Proofs.YtdnbfhcbcdodmaaGreatDoor.cutsQ i K 32).proc i).dir).good (hc.good.dropLive _)
  have hs : KOk { Go.Proofs.YtdnbfhcbcdodmaaGreatDoor.cutsQ i K 32 with σ := (dropR (Go.Proofs.YtdnbfhcbcdodmaaGreatDoor.cutsQ i K 32).σ ((Go.Proofs.YtdnbfhcbcdodmaaGreatDoor.cutsQ i K 32).proc i).dir).2 } (N + 33) := (hc.mono (Nat.le_succ _)).σ hd
  refine KOk.orphanQ ?_ (by omega) i
  exact hs.setQ ⟨hp.dir, hp.mask, by have := hp.par; show ((Go.Proofs.YtdnbfhcbcdodmaaGreatDoor.cutsQ i K 32).proc i).parent ≤ N + 33; omega, hst⟩ (fun fd a x e => hs.fds i fd a x h1 (by show i ≤ (Go.Proofs.YtdnbfhcbcdodmaaGreatDoor.cutsQ i K 32).qn; rw [hq]; exact h2) e)
end
end Go.Proofs.YtdnbfhcbcdodmaaGreatDoor

/- gate.Kernel.end: a process ends. Conditions: the contract's own premises. -/
namespace Go.Proofs.YtdnbfhcbcdodmaaGreatDoor
open Go.RowKit Go.Shelf

attribute [local go_sem] Oper.semAt_some

section
variable {w w' w2 : World} {k : Nat} {K K1 K2 : KQ} {L L1 : KLay}
end
/-- While a process ends; z: how many blocks behind W0 are the caller's. -/
structure EndJ (z : Nat) (W0 : World) (k : Nat) (K0 Ks : KQ) (L : KLay) (W : World) (L1 : KLay) : Prop where
  F : KF W k Ks L1
  E : LExt K0 Ks L L1
  R : Fr (fun b => L.o b ≠ none) W0 W
  N : ∀ b, L1.o b ≠ none → L.o b ≠ none ∨ W0.heap.size + z ≤ b
def EndI (z : Nat) (W0 : World) (k : Nat) (K0 Ks : KQ) (L : KLay) (W : World) : Prop := ∃ L1, EndJ z W0 k K0 Ks L W L1
section
variable {z : Nat} {W0 W W' : World} {k : Nat} {K0 K1 K2 : KQ} {L L1 : KLay}
theorem EndJ.less {y : Nat} (h : EndJ z W0 k K0 K1 L W L1) (hy : y ≤ z) : EndJ y W0 k K0 K1 L W L1 := ⟨h.F, h.E, h.R, fun b e => (h.N b e).imp id fun x => by omega⟩
theorem EndJ.still {T : Nat → Prop} (h : EndJ z W0 k K0 K1 L W L1) (hf : Fr T W W') (h1 : ∀ b, T b → L1.o b = none) (h2 : ∀ b, T b → W0.heap.size ≤ b) : EndJ z W0 k K0 K1 L W' L1 :=
  ⟨h.F.still hf (fun b t e x => by rw [h1 b x] at e; cases e), h.E, h.R.trans' hf (fun b hb e => by have := h2 b e; omega), h.N⟩
theorem EndJ.free (h : EndJ z W0 k K0 K1 L W L1) {b : Nat} (h1 : L.o b = none) (h2 : b < W0.heap.size + z) : L1.o b = none := by
  by_cases e : L1.o b = none
  · exact e
  · rcases h.N b e with y | y
    · exact absurd h1 y
    · omega
theorem EndI.frame (h : EndI 2 W0 k K0 K1 L W) (hn : ∀ b, W0.heap.size ≤ b → L.o b = none) (hf : Fr (fun b => b = W0.heap.size ∨ b = W0.heap.size + 1) W W') : EndI 2 W0 k K0 K1 L W' := by
  obtain ⟨L1, h⟩ := h
  exact ⟨L1, h.still hf (fun b x => h.free (hn b (by omega)) (by omega)) fun b x => by omega⟩
theorem EndJ.mut (h : EndJ z W0 k K0 K1 L W L1) (hs : W0.heap.size + z ≤ W.heap.size) (g : KMut k K1 K2 L1 (fun _ => False) (fun _ => False) W W') : EndI z W0 k K0 K2 L W' := by
  obtain ⟨L2, b1, b2, b3, b4⟩ := g
  refine ⟨L2, b1, h.E.trans b2, h.R.trans' b3 fun b hb e => ?_, fun b e => ?_⟩
  · rcases e with e | e
    · rcases h.N b e with x | x
      · exact x
      · omega
    · exact e.elim
  · rcases b4 b e with x | x | x
    · exact h.N b x
    · exact x.elim
    · exact .inr (by omega)
/-- What is nobody's is kept. -/
theorem EndJ.get (h : EndJ z W0 k K0 K1 L W L1) {b : Nat} {o : Obj} (hb : W0.heap[b]? = some o) (hn : L.o b = none) : W.heap[b]? = some o := h.R.get hb fun e => e hn
end
end Go.Proofs.YtdnbfhcbcdodmaaGreatDoor

/- Each read of a kernel. Conditions: each law's own premises. -/
namespace Go.Proofs.YtdnbfhcbcdodmaaGreatDoor
open Go.RowKit

theorem reads_kind {d : DescQ} (hk : 1 ≤ d.kind ∧ d.kind ≤ 5) (hr : d.reads = true) : d.kind = 1 ∨ d.kind = 2 ∨ d.kind = 3 ∨ d.kind = 5 := by
  by_cases e : d.kind = 4
  · unfold DescQ.reads at hr
    rw [e] at hr
    simp at hr
  · omega
theorem KOk.typedU {K : KQ} {N : Nat} (h : KOk K N) {t : ByteArray} (ht : t.size ≤ 4096) : KOk { K with typed := t } N :=
  ⟨h.fds, fun x a b => (h.desc x a b).mono (Nat.le_refl _) (Nat.le_refl _), h.proc, h.pipe, h.pn, h.dn, h.qn, h.good, ht⟩
theorem KOk.readQ {K : KQ} {N : Nat} (h : KOk K N) {i : Nat} (h1 : 1 ≤ i) (h2 : i ≤ K.qn) (a b : Int) : KOk (Go.Proofs.YtdnbfhcbcdodmaaGreatDoor.readQ K i a b).2.2 N := by
  cases hf : fdQ K i a with
  | none => unfold Go.Proofs.YtdnbfhcbcdodmaaGreatDoor.readQ; rw [hf]; exact h
  | some j =>
    obtain ⟨j1, j2⟩ := fdQ_ok h.fds h1 h2 hf
    have hd := h.desc j j1 j2
    by_cases e2 : (K.desc j).kind = 2
    · exact h.readF hf e2 ⟨j1, j2⟩
    by_cases e3 : (K.desc j).kind = 3
    · exact h.readP hf e3 ⟨j1, j2⟩
    unfold Go.Proofs.YtdnbfhcbcdodmaaGreatDoor.readQ
    rw [hf]
    simp only
    by_cases hr : (K.desc j).reads = false
    · rw [if_pos hr]; exact h
    rw [if_neg hr]
    by_cases hb : b < 0
    · rw [if_pos hb]; exact h
    rw [if_neg hb]
    by_cases e1 : (K.desc j).kind = 1
    · rw [if_pos e1]
      split
      · exact h
      · refine h.typedU ?_
        have := h.typed
        rw [ByteArray.size_extract]
        omega
    rw [if_neg e1, if_neg e2]
    rcases reads_kind hd.kind (by simpa using hr) with e | e | e | e
    · exact absurd e e1
    · exact absurd e e2
    · exact absurd e e3
    · rw [if_pos e]
      refine h.setD ⟨hd.kind, hd.con, fun _ => ?_, hd.pip, hd.num, fun x => absurd e x, hd.flg, hd.refs, hd.tsz⟩
      have := hd.txt e
      show (K.desc j).pos + min b.toNat ((K.desc j).text.size - (K.desc j).pos) ≤ (K.desc j).text.size
      omega
end Go.Proofs.YtdnbfhcbcdodmaaGreatDoor

/- Each write of a kernel. Conditions: each law's own premises. -/
namespace Go.Proofs.YtdnbfhcbcdodmaaGreatDoor
open Go.RowKit

theorem writes_kind {d : DescQ} (hk : 1 ≤ d.kind ∧ d.kind ≤ 5) (hr : d.writes = true) : d.kind = 1 ∨ d.kind = 2 ∨ d.kind = 4 := by
  by_cases e : d.kind = 3
  · unfold DescQ.writes at hr
    rw [e] at hr
    simp at hr
  by_cases e5 : d.kind = 5
  · unfold DescQ.writes at hr
    rw [e5] at hr
    simp at hr
  omega
theorem KOk.outU {K : KQ} {N : Nat} (h : KOk K N) (o : Nat → ByteArray) : KOk { K with out := o } N :=
  ⟨h.fds, fun x a b => (h.desc x a b).mono (Nat.le_refl _) (Nat.le_refl _), h.proc, h.pipe, h.pn, h.dn, h.qn, h.good, h.typed⟩
theorem KOk.writeQ {K : KQ} {N : Nat} (h : KOk K N) {i : Nat} (h1 : 1 ≤ i) (h2 : i ≤ K.qn) (a : Int) (s : ByteArray) (hl : Live (Go.Proofs.YtdnbfhcbcdodmaaGreatDoor.writeQ K i a s).2.2.σ) : KOk (Go.Proofs.YtdnbfhcbcdodmaaGreatDoor.writeQ K i a s).2.2 (N + 33) := by
  cases hf : fdQ K i a with
  | none => unfold Go.Proofs.YtdnbfhcbcdodmaaGreatDoor.writeQ; rw [hf]; exact h.mono (by omega)
  | some j =>
    obtain ⟨j1, j2⟩ := fdQ_ok h.fds h1 h2 hf
    have hd := h.desc j j1 j2
    by_cases e2 : (K.desc j).kind = 2
    · exact (h.writeF hf e2 ⟨j1, j2⟩ hl).mono (by omega)
    by_cases e4 : (K.desc j).kind = 4 ∧ (K.pipe (K.desc j).n).r ≠ 0
    · exact (h.writeP hf e4.1 e4.2 ⟨j1, j2⟩).mono (by omega)
    unfold Go.Proofs.YtdnbfhcbcdodmaaGreatDoor.writeQ
    rw [hf]
    simp only
    by_cases hr : (K.desc j).writes = false
    · rw [if_pos hr]; exact h.mono (by omega)
    rw [if_neg hr]
    by_cases e1 : (K.desc j).kind = 1
    · rw [if_pos e1]; exact (h.outU _).mono (by omega)
    rw [if_neg e1, if_neg e2]
    have hk : (K.desc j).kind = 4 := by
      rcases writes_kind hd.kind (by simpa using hr) with e | e | e
      · exact absurd e e1
      · exact absurd e e2
      · exact e
    have hr0 : (K.pipe (K.desc j).n).r = 0 := Classical.not_not.1 fun x => e4 ⟨hk, x⟩
    rw [if_pos hr0]
    show KOk (if i = 1 then K else Go.Proofs.YtdnbfhcbcdodmaaGreatDoor.endQ K i 141) (N + 33)
    split
    · exact h.mono (by omega)
    · exact h.endQ h1 h2 (by decide)
end Go.Proofs.YtdnbfhcbcdodmaaGreatDoor
