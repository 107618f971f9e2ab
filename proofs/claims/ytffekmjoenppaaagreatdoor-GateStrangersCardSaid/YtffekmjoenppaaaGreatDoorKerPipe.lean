/- gate.asked.pipe. Conditions: the contract's own premises. -/
import Derived.Test.YtffekmjoenppaaaGreatDoorKerDrop
namespace Go.Proofs.YtffekmjoenppaaaGreatDoor
open Go.RowKit

attribute [local go_sem] Oper.semAt_some

def pipe0 : PipeQ := ⟨[], 1, 1, true⟩
def pipeD (n kd : Nat) : DescQ := ⟨kd, n, 0, 0, 0, noBy, true⟩
/-- SysPipe: the answer, the kernel. -/
def pipeQ (K : KQ) (i : Nat) : ResQ × KQ :=
  if 32 - used (K.proc i).fds 32 < 2 then (errR 24, K)
  else ({ noRes with n := (openQ (K.addP pipe0) i (pipeD (K.pn + 1) 3)).1, m := (openQ (openQ (K.addP pipe0) i (pipeD (K.pn + 1) 3)).2 i (pipeD (K.pn + 1) 4)).1 }, (openQ (openQ (K.addP pipe0) i (pipeD (K.pn + 1) 3)).2 i (pipeD (K.pn + 1) 4)).2)
theorem used_tabS (L : KLay) (t : TSt) (n : Nat) : used (tabS L t) n = used t n := by
  unfold used
  congr 1
  exact List.filter_congr fun i _ => by unfold tabS; cases t i <;> rfl
theorem KF.new' {w1 w2 : World} {k : Nat} {K : KQ} {L : KLay} (_ : KF w2 k K L) (h : KF w1 k K L) {b : Nat} (hb : w1.heap.size ≤ b) : L.o b = none := h.new b hb
theorem addP_ext {w w' : World} {k : Nat} {K : KQ} {L : KLay} {xb lb : Nat} {m : Option Nat} (h : KF w k K L) (p : PipeQ) (hxo : L.o xb = none) (hlo : L.o lb = none) (hm : m = L.pm ∨ ∃ g, m = some g ∧ L.o g = none ∧ g < w'.heap.size ∧ g ≠ xb ∧ g ≠ lb) : LExt K (K.addP p) L (L.addP K.pn xb lb m) :=
  ⟨rfl, Nat.le_succ _, Nat.le_refl _, Nat.le_refl _, fun j a1 a2 => if_neg (by omega), fun _ _ _ => rfl, fun _ _ _ => rfl, fun _ _ _ => rfl, fun b t e => by
      show (if b = xb ∨ b = lb then some (tPip (K.pn + 1)) else if m = some b then some (tMap 0) else L.o b) = some t
      rw [if_neg (fun e2 => by rcases e2 with e2 | e2; (· rw [e2, hxo] at e; cases e); (· rw [e2, hlo] at e; cases e))]
      by_cases e2 : m = some b
      · rw [if_pos e2]
        rcases hm with hm | ⟨g, g1, g2, _⟩
        · rw [h.opm b (hm ▸ e2)] at e; exact e
        · rw [g1] at e2; cases e2; rw [g2] at e; cases e
      · rw [if_neg e2]; exact e⟩
theorem addP_new {K : KQ} {L : KLay} {xb lb : Nat} {m : Option Nat} {b : Nat} (e : (L.addP K.pn xb lb m).o b ≠ none) : L.o b ≠ none ∨ b = xb ∨ b = lb ∨ m = some b := by
  by_cases e1 : b = xb ∨ b = lb
  · rcases e1 with e1 | e1
    · exact .inr (.inl e1)
    · exact .inr (.inr (.inl e1))
  by_cases e2 : m = some b
  · exact .inr (.inr (.inr e2))
  · refine .inl fun e3 => e ?_
    show (if b = xb ∨ b = lb then some (tPip (K.pn + 1)) else if m = some b then some (tMap 0) else L.o b) = none
    rw [if_neg e1, if_neg e2, e3]
set_option maxRecDepth 100000 in
set_option maxHeartbeats 1000000 in
theorem apipe_any (w : World) (k : Nat) (K : KQ) (L : KLay) (h : KF w k K L) (N : Nat) (hok : KOk K N) (hN : N ≤ 1000000) (i : Nat) (h1 : 1 ≤ i) (h2 : i ≤ K.qn) (a : Nat) (c : SysQ) (ha : AskAt w a k (L.qb i) c noResV) (hao : L.o a = none) :
    Calls Tryz.prog 27 #[ptrAt a] w (KErrPost w k K L i a c (pipeQ K i)) := by
  have I0 := KIn.start h ha hao
  have hfree := hide (free_any w (L.tb i) _ _ (h.ht i h1 h2))
  have c1 : w.cell? ⟨a, 1, none⟩ = some (.pointer (some ⟨L.qb i, 0, none⟩)) := by rw [blk_cell ha]; rfl
  have c6 : w.cell? ⟨L.qb i, 6, none⟩ = some (.pointer (some ⟨L.tb i, 0, none⟩)) := by rw [blk_cell (h.hq i h1 h2)]; rfl
  have HI0 := hide I0
  obtain ⟨Rr, hR⟩ : ∃ Rr, Rr = pipeQ K i := ⟨_, rfl⟩
  rw [← hR]
  have HR := hide hR
  have Hok := hide hok
  clear h ha hao I0 hok hR
  unfold ptrAt at *
  go_enter Tryz.func27, Tryz.ntmps27
  go_wp2_with fail
  refine hfree.out.mono ?_
  rintro e w1 ⟨rfl, hf1⟩
  rw [used_tabS]
  have HI1 := hide (HI0.out.quiet hf1)
  clear hf1 HI0 hfree c1 c6
  by_cases hu : 32 - used (K.proc i).fds 32 < 2
  · have hq : pipeQ K i = (errR 24, K) := if_pos hu
    have hui : ((32 - used (K.proc i).fds 32 : Nat) : Int) < 2 := by omega
    generalize ((32 - used (K.proc i).fds 32 : Nat) : Int) = fr at *
    have Hq := hide (HR.out.trans hq)
    clear hu hq
    go_wp2_with fail
    go_ret
    rw [Hq.out]
    exact ⟨rfl, L, _, HI1.out, rfl⟩
  have hui : ¬ ((32 - used (K.proc i).fds 32 : Nat) : Int) < 2 := by omega
  have hq : pipeQ K i = ({ noRes with n := (openQ (K.addP pipe0) i (pipeD (K.pn + 1) 3)).1, m := (openQ (openQ (K.addP pipe0) i (pipeD (K.pn + 1) 3)).2 i (pipeD (K.pn + 1) 4)).1 }, (openQ (openQ (K.addP pipe0) i (pipeD (K.pn + 1) 3)).2 i (pipeD (K.pn + 1) 4)).2) := if_neg hu
  have Hq := hide (HR.out.trans hq)
  generalize ((32 - used (K.proc i).fds 32 : Nat) : Int) = fr at *
  clear hu hq
  have hpw := hide (pnew_any 64 w1)
  go_wp2_with fail
  refine hpw.out.mono ?_
  rintro e w2 ⟨hf2, hp⟩
  rcases hp with ⟨hp, _⟩ | ⟨-, b, lb, hb, hlb, rfl, hP2⟩
  · omega
  have h64 : (64 : Int).toNat = 64 := rfl
  rw [h64] at hP2
  have F2 := (HI1.out.quiet hf2).F
  have I2 := HI1.out.quiet hf2
  have hs1 := HI1.out.R.size
  have hbo : L.o b = none := F2.new' HI1.out.F hb
  have hlo : L.o lb = none := F2.new' HI1.out.F hlb
  have hadd := hide (p_add w2 k (kerC L K) L.pm (fun j => (K.pipe j).inn) L.pb K.pn b F2.hk rfl rfl F2.pr (fun e => by have := F2.opm k e; rw [F2.ok] at this; cases this) (by have := Hok.out.pn; omega))
  have c0 : w2.cell? ⟨a, 0, none⟩ = some (.pointer (some ⟨k, 0, none⟩)) := by rw [blk_cell I2.A]; rfl
  have HI2 := hide I2
  have HP2 := hide hP2
  have Hbo := hide hbo
  have Hlo := hide hlo
  have Hb := hide hb
  have Hlb := hide hlb
  have Hs1 := hide hs1
  obtain ⟨pn, hpn⟩ : ∃ pn : Int, pn = (K.pn : Int) + 1 := ⟨_, rfl⟩
  have Hpn := hide hpn
  clear hf2 F2 hs1 hpn hP2 hb hlb I2
  unfold ptrAt at *
  go_wp2_with fail
  refine hadd.out.mono ?_
  rintro e w3 ⟨rfl, m, hk3, hr3, hm3, hf3⟩
  rw [← Hpn.out]
  have hkc : ((kerC L K).setIfInBounds 1 (.int .i64 ((K.pn : Int) + 1))).setIfInBounds 2 (.map m) = kerC { L with pm := m } { K with pn := K.pn + 1 } := rfl
  rw [hkc] at hk3
  have nT : ∀ x, L.o x = none → ¬ (x = k ∨ L.pm = some x) := fun x e e2 => by
    rcases e2 with e2 | e2
    · rw [e2, HI2.out.F.ok] at e; cases e
    · rw [HI2.out.F.opm x e2] at e; cases e
  have hP3 := HP2.out.frame hf3 (nT b hbo) (nT lb hlo)
  have ho1 := hide (popen_r b lb 64 [] 0 0 w3 hP3 (by decide))
  clear hkc
  have Hk3 := hide hk3
  have Hr3 := hide hr3
  have Hm3 := hide hm3
  have Hf3 := hide hf3
  have HnT := hide nT
  clear hk3 hr3 hm3 hf3 nT hP3 hadd hbo hlo c0
  go_wp2_with fail
  refine ho1.out.mono ?_
  rintro e w4 ⟨rfl, hP4, hf4⟩
  have ho2 := hide (popen_w b lb 64 [] 1 0 w4 hP4 (by decide))
  have Hf4 := hide hf4
  clear hP4 hf4 ho1
  go_wp2_with fail
  refine ho2.out.mono ?_
  rintro e w5 ⟨rfl, hP5, hf5⟩
  have hf35 : Fr (fun x => x = b) w3 w5 := Hf4.out.trans hf5
  have hbk : b ≠ k := fun e => HnT.out b Hbo.out (.inl e)
  have hw12 := HI2.out.R.size
  have hlt : b < w2.heap.size ∧ lb < w2.heap.size := by
    obtain ⟨fm, cs, hp⟩ := HP2.out
    exact ⟨blk_lt hp.hb, blk_lt hp.hl⟩
  have hmg : m = L.pm ∨ ∃ g, m = some g ∧ L.o g = none ∧ g < w5.heap.size ∧ g ≠ b ∧ g ≠ lb := by
    rcases Hm3.out with ⟨e, _⟩ | ⟨_, e2⟩
    · exact .inl e
    · refine .inr ⟨_, e2, HI2.out.F.new _ (Nat.le_refl _), ?_, by omega, by omega⟩
      have := Hr3.out; rw [e2] at this; exact Nat.lt_of_lt_of_le this.lt hf35.size
  have hr5 := Hr3.out.frame hf35 (fun g e e2 => by
    rcases hmg with e3 | ⟨g', e3, e4, _, e5, _⟩
    · exact HnT.out b Hbo.out (.inr (by rw [← e3, e, e2]))
    · rw [e3] at e; cases e; exact e5 e2)
  have hf25 : Fr (fun x => x = k ∨ L.pm = some x ∨ x = b) w2 w5 := (Hf3.out.mono fun x _ e => e.elim .inl (fun e => .inr (.inl e))).trans (hf35.mono fun _ _ e => .inr (.inr e))
  obtain ⟨fm, cs, hP5⟩ := hP5
  have F5 := HI2.out.F.addP (p := pipe0) (hf35.get Hk3.out (fun e => hbk e.symm)) hr5 rfl hP5 Hbo.out Hlo.out hmg hf25 (fun x t e e2 => by
    rcases e2 with e2 | e2 | e2
    · exact .inl e2
    · exact .inr e2
    · rw [e2, Hbo.out] at e; cases e) (fun j a1 a2 a3 => ((Hok.out.desc j a1 a2).pip a3).2)
  have I5 : KIn w k K L i a c w5 (K.addP pipe0) (L.addP K.pn b lb m) noResV := ⟨F5, addP_ext HI2.out.F pipe0 Hbo.out Hlo.out hmg, HI2.out.R.trans' hf25 (fun x hx e => by
      rcases e with e | e | e
      · exact .inl (by rw [e, HI2.out.F.ok]; simp)
      · exact .inl (by rw [HI2.out.F.opm x e]; simp)
      · have := Hb.out; have := Hs1.out; omega), fun x e => by
      rcases addP_new e with e | e | e | e
      · exact .inl e
      · have := Hb.out; have := Hs1.out; exact .inr (by omega)
      · have := Hlb.out; have := Hs1.out; exact .inr (by omega)
      · rcases hmg with e3 | ⟨g', e3, e4, e5, _⟩
        · exact .inl (by rw [HI2.out.F.opm x (by rw [← e3, e])]; simp)
        · rcases Hm3.out with ⟨e6, _⟩ | ⟨_, e6⟩
          · exact .inl (by rw [HI2.out.F.opm x (by rw [← e6, e])]; simp)
          · rw [e6] at e; cases e; exact .inr hw12, hf25.get HI2.out.A (fun e => by
      rcases e with e | e | e
      · exact HI2.out.ne HI2.out.F.ok e.symm
      · have := HI2.out.F.opm a e; rw [HI2.out.ao] at this; cases this
      · have := Hb.out; have := Hs1.out; have := HI2.out.al; omega), HI2.out.al, HI2.out.ao⟩
  have hpb : (L.addP K.pn b lb m).pb (K.pn + 1) = b := if_pos rfl
  obtain ⟨ux, hux⟩ : ∃ x, x = w5.drew.heap.size := ⟨_, rfl⟩
  obtain ⟨w6, uw⟩ : ∃ w', w' = w5.drew.alloc (.cells #[.int .i64 3, .int .i64 pn, .int .i64 0, .int .i64 0, .int .i64 0, .pointer (some ⟨b, 0, none⟩), .string ⟨#[]⟩, .int .i64 0] 72 (0, 0)) := ⟨_, rfl⟩
  have uI : KIn w k K L i a c w6 (K.addP pipe0) (L.addP K.pn b lb m) noResV := by rw [uw]; exact I5.drew.alloc _
  have uraw : w6.heap[ux]? = some (.cells (rawD (L.addP K.pn b lb m) (pipeD (K.pn + 1) 3) 0 0) 72 (0, 0)) := by
    rw [uw, hux]
    unfold rawD pipeV pipeD ptrAt
    rw [if_pos (.inl rfl), hpb, Hpn.out]
    exact blk_new _ _
  have uX : ∀ b, b = ux → w.heap.size ≤ b := fun b e => by rw [e, hux]; exact I5.drew.R.size
  have up := kopen_any w6 k (K.addP pipe0) (L.addP K.pn b lb m) uI.F i h1 (Nat.le_trans h2 uI.E.qn) ux (pipeD (K.pn + 1) 3) uraw (I5.drew.F.new _ (by rw [hux]; exact Nat.le_refl _)) Hok.out.fds (by have := Hok.out.dn; show K.dn ≤ _; omega)
  rw [uI.qb h1 h2] at up
  have ua := I5.drew.A
  have ub := uI.A
  obtain ⟨uf, K6, hoq⟩ : ∃ x y, openQ (K.addP pipe0) i (pipeD (K.pn + 1) 3) = (x, y) := ⟨_, _, rfl⟩
  rw [hoq] at Hq up
  have hd6 : K6.dn = K.dn + 1 := by have := openQ_dn (K.addP pipe0) i (pipeD (K.pn + 1) 3); rw [hoq] at this; exact this
  have hp6 : (K.addP pipe0).pn = K.pn + 1 := rfl
  have hfd6 : FdsOk K6 := by
    have : FdsOk (K.addP pipe0) := Hok.out.fds
    have := this.openQ i (pipeD (K.pn + 1) 3)
    rw [hoq] at this
    exact this
  have Hhd6 := hide hd6
  have Hfd6 := hide hfd6
  have uz := hide hux
  have ew := hide uw
  clear uw
  have uw := ew
  have eI := hide uI
  clear uI
  have uI := eI
  have eX := hide uX
  clear uX
  have uX := eX
  have uop := hide up
  have Hpb := hide hpb
  clear ew eI eX hoq hd6 hfd6 hux uraw up hpb I5 F5 hf25 hr5 hmg hlt hw12 hbk hf35 hP5 hf5 HnT Hf3 Hm3 Hr3 Hk3 Hf4 ho2
  unfold ptrAt at *
  go_upto_region 7 with (fail)
  refine region_tree (fun w' => AskAt w' a k (L.qb i) c noResV) [0, 1, 2, 3, 4, 5, 6, 7, 8, 9, 10, 11, 12] 2 15 (by kernel_rfl) (by kernel_rfl) (fun _ _ d _ _ h => by cases d <;> exact h) ua ?_
  simp only [List.map_cons, List.map_nil, List.getD_cons_zero, List.getD_cons_succ, List.drop_succ_cons, List.drop_zero]
  generalize w5.drew = wd at *
  go_big_quiet_step (fail)
  go_big_quiet_step (fail)
  refine wpQuiet_val (.pointer (some ⟨a, 0, none⟩)) rfl (fun w' hS => by (go_simp)) ?_
  simp only [Act.put, List.setIfInBounds_toArray, List.set_cons_succ, List.set_cons_zero]
  refine wpQuiet_val (.pointer (some ⟨a, 0, none⟩)) rfl (fun w' hS => by (go_simp)) ?_
  simp only [Act.put, List.setIfInBounds_toArray, List.set_cons_succ, List.set_cons_zero]
  refine wpQuiet_val (.pointer (some ⟨k, 0, none⟩)) rfl (fun w' hS => by
      have e : w'.cell? ⟨a, 0, none⟩ = some (.pointer (some ⟨k, 0, none⟩)) := by rw [blk_cell (hS)]; rfl
      go_simp) ?_
  simp only [Act.put, List.setIfInBounds_toArray, List.set_cons_succ, List.set_cons_zero]
  go_big_quiet_step (fail)
  refine wpQuiet_val (.pointer (some ⟨a, 0, none⟩)) rfl (fun w' hS => by (go_simp)) ?_
  simp only [Act.put, List.setIfInBounds_toArray, List.set_cons_succ, List.set_cons_zero]
  refine wpQuiet_val (.pointer (some ⟨a, 1, none⟩)) rfl (fun w' hS => by (go_simp)) ?_
  simp only [Act.put, List.setIfInBounds_toArray, List.set_cons_succ, List.set_cons_zero]
  refine wpQuiet_val (.pointer (some ⟨L.qb i, 0, none⟩)) rfl (fun w' hS => by
      have e : w'.cell? ⟨a, 1, none⟩ = some (.pointer (some ⟨L.qb i, 0, none⟩)) := by rw [blk_cell (hS)]; rfl
      go_simp) ?_
  simp only [Act.put, List.setIfInBounds_toArray, List.set_cons_succ, List.set_cons_zero]
  go_big_quiet_step (fail)
  refine wpQuiet_val (.agg #[.int .i64 3, .int .i64 pn, .int .i64 0, .int .i64 0]) rfl (fun w' hS => by (go_simp)) ?_
  simp only [Act.put, List.setIfInBounds_toArray, List.set_cons_succ, List.set_cons_zero]
  go_big_quiet_step (fail)
  refine wpQuiet_val (.agg #[.int .i64 3, .int .i64 pn, .int .i64 0, .int .i64 0, .int .i64 0, .pointer (some ⟨b, 0, none⟩), .string ⟨#[]⟩, .int .i64 0]) rfl (fun w' hS => by (go_simp)) ?_
  simp only [Act.put, List.setIfInBounds_toArray, List.set_cons_succ, List.set_cons_zero]
  refine wpQuiet_nil ?_
  refine tree_one' 13 (by kernel_rfl) (by decide) (by simp) rfl (fun Kc hK => ?_)
  simp only [List.getD_cons_zero, List.getD_cons_succ]
  go_wp2_with fail
  rw [← uw.out, ← uz.out]
  refine hK _ _ ub ?_
  clear hK Kc
  refine tree_one' 14 (by kernel_rfl) (by decide) (by simp) rfl (fun Kc hK => ?_)
  simp only [List.getD_cons_zero, List.getD_cons_succ]
  go_wp2_with fail
  refine uop.out.mono ?_
  rintro e w7 ⟨rfl, hm⟩
  obtain ⟨Lw7, hiw7, hew7⟩ := uI.out.mut hm uX.out uX.out
  have uc := hiw7.A
  have Hiw7 := hide hiw7
  have Hew7 := hide hew7
  refine hK _ _ uc ?_
  clear hK Kc hm hiw7 hew7
  refine tree_end (by kernel_rfl) ?_
  try (simp only [List.map_cons, List.map_nil, List.getD_cons_zero, List.getD_cons_succ, List.drop_succ_cons, List.drop_zero])
  have q8 : w7.cell? ⟨a, 8, none⟩ = some (.int .i64 0) := by rw [blk_cell uc]; rfl
  have z8 : w7.frozen? ⟨a, 8, none⟩ = false := blk_frozen uc _
  obtain ⟨w8, hw8⟩ : ∃ w8, w8 = w7.setCell ⟨a, 8, none⟩ (.int .i64 uf) := ⟨_, rfl⟩
  have I8 : KIn w k K L i a c w8 K6 Lw7 { noResV with n := uf } := by rw [hw8]; exact Hiw7.out.n _
  have Hw8 := hide hw8
  have hq6 : K.qn ≤ K6.qn := I8.E.qn
  have hp67 : K.pn + 1 ≤ K6.pn := Hew7.out.pn
  have hpb8 : Lw7.pb (K.pn + 1) = b := by rw [Hew7.out.pb (K.pn + 1) (by omega) (Nat.le_refl _)]; exact Hpb.out
  obtain ⟨vx, hvx⟩ : ∃ x, x = w8.drew.heap.size := ⟨_, rfl⟩
  obtain ⟨w9, vw⟩ : ∃ w', w' = w8.drew.alloc (.cells #[.int .i64 4, .int .i64 pn, .int .i64 0, .int .i64 0, .int .i64 0, .pointer (some ⟨b, 0, none⟩), .string ⟨#[]⟩, .int .i64 0] 72 (0, 0)) := ⟨_, rfl⟩
  have vI : KIn w k K L i a c w9 K6 Lw7 { noResV with n := uf } := by rw [vw]; exact I8.drew.alloc _
  have vraw : w9.heap[vx]? = some (.cells (rawD Lw7 (pipeD (K.pn + 1) 4) 0 0) 72 (0, 0)) := by
    rw [vw, hvx]
    unfold rawD pipeV pipeD ptrAt
    rw [if_pos (.inr rfl), hpb8, Hpn.out]
    exact blk_new _ _
  have vX : ∀ b, b = vx → w.heap.size ≤ b := fun b e => by rw [e, hvx]; exact I8.drew.R.size
  have vp := kopen_any w9 k K6 Lw7 vI.F i h1 (Nat.le_trans h2 hq6) vx (pipeD (K.pn + 1) 4) vraw (I8.drew.F.new _ (by rw [hvx]; exact Nat.le_refl _)) Hfd6.out (by have := Hok.out.dn; have := Hhd6.out; omega)
  rw [vI.qb h1 h2] at vp
  have va := I8.drew.A
  have vb := vI.A
  obtain ⟨vf, K8, hoq⟩ : ∃ x y, openQ K6 i (pipeD (K.pn + 1) 4) = (x, y) := ⟨_, _, rfl⟩
  have hq9 := Hq.out
  rw [hoq] at hq9 vp
  have Hq9 := hide hq9
  have vz := hide hvx
  have ew := hide vw
  clear vw
  have vw := ew
  have eI := hide vI
  clear vI
  have vI := eI
  have eX := hide vX
  clear vX
  have vX := eX
  have vop := hide vp
  clear ew eI eX hq9 Hq hoq hw8 hq6 hp67 hpb8 hvx vraw vp I8 uc Hiw7 Hew7 uw uI uX uop Hpb Hhd6 Hfd6
  unfold ptrAt at *
  go_upto_region 8 with (fail)
  rw [← Hw8.out]
  refine region_tree (fun w' => AskAt w' a k (L.qb i) c { noResV with n := uf }) [0, 1, 2, 3, 4, 5, 6, 7, 8, 9, 10, 11, 12] 2 15 (by kernel_rfl) (by kernel_rfl) (fun _ _ d _ _ h => by cases d <;> exact h) va ?_
  simp only [List.map_cons, List.map_nil, List.getD_cons_zero, List.getD_cons_succ, List.drop_succ_cons, List.drop_zero]
  generalize w8.drew = wd at *
  go_big_quiet_step (fail)
  go_big_quiet_step (fail)
  refine wpQuiet_val (.pointer (some ⟨a, 0, none⟩)) rfl (fun w' hS => by (go_simp)) ?_
  simp only [Act.put, List.setIfInBounds_toArray, List.set_cons_succ, List.set_cons_zero]
  refine wpQuiet_val (.pointer (some ⟨a, 0, none⟩)) rfl (fun w' hS => by (go_simp)) ?_
  simp only [Act.put, List.setIfInBounds_toArray, List.set_cons_succ, List.set_cons_zero]
  refine wpQuiet_val (.pointer (some ⟨k, 0, none⟩)) rfl (fun w' hS => by
      have e : w'.cell? ⟨a, 0, none⟩ = some (.pointer (some ⟨k, 0, none⟩)) := by rw [blk_cell (hS)]; rfl
      go_simp) ?_
  simp only [Act.put, List.setIfInBounds_toArray, List.set_cons_succ, List.set_cons_zero]
  go_big_quiet_step (fail)
  refine wpQuiet_val (.pointer (some ⟨a, 0, none⟩)) rfl (fun w' hS => by (go_simp)) ?_
  simp only [Act.put, List.setIfInBounds_toArray, List.set_cons_succ, List.set_cons_zero]
  refine wpQuiet_val (.pointer (some ⟨a, 1, none⟩)) rfl (fun w' hS => by (go_simp)) ?_
  simp only [Act.put, List.setIfInBounds_toArray, List.set_cons_succ, List.set_cons_zero]
  refine wpQuiet_val (.pointer (some ⟨L.qb i, 0, none⟩)) rfl (fun w' hS => by
      have e : w'.cell? ⟨a, 1, none⟩ = some (.pointer (some ⟨L.qb i, 0, none⟩)) := by rw [blk_cell (hS)]; rfl
      go_simp) ?_
  simp only [Act.put, List.setIfInBounds_toArray, List.set_cons_succ, List.set_cons_zero]
  go_big_quiet_step (fail)
  refine wpQuiet_val (.agg #[.int .i64 4, .int .i64 pn, .int .i64 0, .int .i64 0]) rfl (fun w' hS => by (go_simp)) ?_
  simp only [Act.put, List.setIfInBounds_toArray, List.set_cons_succ, List.set_cons_zero]
  go_big_quiet_step (fail)
  refine wpQuiet_val (.agg #[.int .i64 4, .int .i64 pn, .int .i64 0, .int .i64 0, .int .i64 0, .pointer (some ⟨b, 0, none⟩), .string ⟨#[]⟩, .int .i64 0]) rfl (fun w' hS => by (go_simp)) ?_
  simp only [Act.put, List.setIfInBounds_toArray, List.set_cons_succ, List.set_cons_zero]
  refine wpQuiet_nil ?_
  refine tree_one' 13 (by kernel_rfl) (by decide) (by simp) rfl (fun Kc hK => ?_)
  simp only [List.getD_cons_zero, List.getD_cons_succ]
  go_wp2_with fail
  rw [← vw.out, ← vz.out]
  refine hK _ _ vb ?_
  clear hK Kc
  refine tree_one' 14 (by kernel_rfl) (by decide) (by simp) rfl (fun Kc hK => ?_)
  simp only [List.getD_cons_zero, List.getD_cons_succ]
  go_wp2_with fail
  refine vop.out.mono ?_
  rintro e w10 ⟨rfl, hm⟩
  obtain ⟨Lw10, hiw10, hew10⟩ := vI.out.mut hm vX.out vX.out
  have vc := hiw10.A
  have Hiw10 := hide hiw10
  have Hew10 := hide hew10
  refine hK _ _ vc ?_
  clear hK Kc hm hiw10 hew10
  refine tree_end (by kernel_rfl) ?_
  try (simp only [List.map_cons, List.map_nil, List.getD_cons_zero, List.getD_cons_succ, List.drop_succ_cons, List.drop_zero])
  have q9 : w10.cell? ⟨a, 9, none⟩ = some (.int .i64 0) := by rw [blk_cell vc]; rfl
  have z9 : w10.frozen? ⟨a, 9, none⟩ = false := blk_frozen vc _
  have I10 := Hiw10.out.m vf
  have hfin := hide (show KErrPost w k K L i a c Rr (.returned (.int .i64 0)) (w10.setCell ⟨a, 9, none⟩ (.int .i64 vf)) from by
    rw [Hq9.out]
    exact ⟨rfl, Lw10, _, I10, rfl⟩)
  clear I10 Hiw10 vc Hq9
  go_wp2_with fail
  go_ret
  exact hfin.out
end Go.Proofs.YtffekmjoenppaaaGreatDoor
