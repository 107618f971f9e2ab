/- The tree of files as plain data: what is renamed, written, held, let go leaves a tree. No program in sight; no condition. -/
import Derived.Test.YtffekmjoenppaaaGreatDoorFilesKeep
import Derived.Test.YtffekmjoenppaaaGreatDoorKerOpen
import Derived.Test.YtffekmjoenppaaaGreatDoorFilesInvB
namespace Go.Proofs.YtffekmjoenppaaaGreatDoor
open Go.RowKit

/-- An inode changed in what the tree doesn't look at. -/
theorem Good.soft {σ : FSt} {k l : Nat} (h : Good σ k) (hkl : k ≤ l) {i : Nat} {n n' : Nd} (hn : σ.nd i = some n) (hd : n'.d = n.d) (hl : n'.links = n.links) (he : n'.ents = n.ents) (hp : n'.par = n.par) (ha : n'.links ≠ 0 ∨ n'.holds ≠ 0) (hh : n'.holds ≤ l) : Kept (σ.put i (some n')) l := by
  have := h.caps i n hn
  exact ⟨h.inv.soft hn hd hl he hp ha, h.caps.put hkl hn (by omega) hh (by rw [he]; omega)⟩
theorem Good.hold {σ : FSt} {k : Nat} (h : Good σ k) (i : Int) : Kept (holdR σ i).2 (k + 1) := by
  unfold holdR
  cases hn : σ.ndI i with
  | none => exact h.kept
  | some n =>
    obtain ⟨j, rfl, hj⟩ := ndI_some hn
    simp only [Int.toNat_natCast]
    have := h.caps j n hj
    exact h.soft (Nat.le_succ _) hj rfl rfl rfl rfl (.inr (Nat.succ_ne_zero _)) (by show n.holds + 1 ≤ _; omega)
theorem Good.write {σ : FSt} {k : Nat} (h : Good σ k) (i m : Int) (s : List UInt8) : Kept (writeR σ i m s).2.2 (k + 1) := by
  unfold writeR
  cases hn : σ.ndI i with
  | none => exact h.kept
  | some n =>
    obtain ⟨j, rfl, hj⟩ := ndI_some hn
    simp only [Int.toNat_natCast]
    have := h.caps j n hj
    split
    · exact h.kept
    split
    · exact h.kept
    split
    · exact h.kept
    split
    · exact h.kept
    split
    · have h1 := put_nd hj (some { n with data := resize n.data (max n.data.length (m.toNat + s.length)) })
      have h2 := h.soft (Nat.le_succ k) hj (n' := { n with data := resize n.data (max n.data.length (m.toNat + s.length)) }) rfl rfl rfl rfl (h.inv.alive j n hj) (by show n.holds ≤ _; omega)
      unfold overS' sizeS
      have h3 : (σ.put j (some { n with data := resize n.data (max n.data.length (m.toNat + s.length)) })).nd j = some { n with data := resize n.data (max n.data.length (m.toNat + s.length)) } := by rw [h1, if_pos rfl]
      exact ⟨h2.inv.soft h3 rfl rfl rfl rfl (h.inv.alive j n hj), h2.caps.put (Nat.le_refl _) h3 (by show n.links ≤ _; omega) (by show n.holds ≤ _; omega) (by show n.ents.length ≤ _; omega)⟩
    · exact h.kept
theorem Good.drop {σ : FSt} {k : Nat} (h : Good σ k) (i : Int) : Kept (dropR σ i).2 (k + 1) := by
  unfold dropR
  cases hn : σ.ndI i with
  | none => exact h.kept
  | some n =>
    obtain ⟨j, rfl, hj⟩ := ndI_some hn
    simp only [Int.toNat_natCast]
    have hc := h.caps j n hj
    split
    · exact h.kept
    · rename_i h0
      have h3 : (σ.put j (some { n with holds := n.holds - 1 })).nd j = some { n with holds := n.holds - 1 } := by rw [put_nd hj, if_pos rfl]
      have hcp : Caps (σ.put j (some { n with holds := n.holds - 1 })) (k + 1) := h.caps.put (Nat.le_succ _) hj (by show n.links ≤ _; omega) (by show n.holds - 1 ≤ _; omega) (by show n.ents.length ≤ _; omega)
      refine ⟨?_, hcp.letS j⟩
      unfold letS
      rw [h3]
      simp only
      split
      · rename_i hz
        have e : ∀ x : Option Nd, (σ.put j x).put j none = σ.put j none := fun x => by unfold FSt.put; rw [List.set_set]
        rw [e]
        exact (h.inv.free h.live hj hz.1).1
      · rename_i hz
        refine h.inv.soft hj rfl rfl rfl rfl ?_
        by_cases hl : n.links = 0
        · exact .inr (fun e => hz ⟨hl, e⟩)
        · exact .inl hl
end Go.Proofs.YtffekmjoenppaaaGreatDoor

/- gate.New: process 1 and the console. Conditions: the contract's own premises. -/
namespace Go.Proofs.YtffekmjoenppaaaGreatDoor
open Go.RowKit

attribute [local go_sem] Oper.semAt_some

def noPipe : PipeQ := ⟨[], 0, 0, false⟩
def noDesc : DescQ := ⟨0, 0, 0, 0, 0, noBy, false⟩
def noProc : ProcQ := ⟨0, false, 0, 0, 0, fun _ => none, false⟩
def zeroK : KQ := ⟨newT, 0, fun _ => noPipe, 0, fun _ => noDesc, 0, fun _ => noProc, noBy, false, fun _ => noBy⟩
def proc1 : ProcQ := ⟨1, false, 0, 1, 18, fun _ => none, true⟩
def heldK : KQ := { zeroK.addQ proc1 with σ := (holdR newT 1).2 }
def conD (n : Nat) : DescQ := ⟨1, n, 0, 0, 0, noBy, false⟩
def conK : Nat → KQ
  | 0 => heldK
  | n + 1 => (openQ (conK n) 1 (conD n)).2
/-- A new kernel. -/
def newK : KQ := conK 3
theorem openQ_qn (K : KQ) (i : Nat) (d : DescQ) : (openQ K i d).2.qn = K.qn := by unfold openQ; split <;> rfl
theorem openQ_dn (K : KQ) (i : Nat) (d : DescQ) : (openQ K i d).2.dn = K.dn + 1 := by unfold openQ; split <;> rfl
theorem openQ_pn (K : KQ) (i : Nat) (d : DescQ) : (openQ K i d).2.pn = K.pn := by unfold openQ; split <;> rfl
theorem set_some {t : TSt} {a fd : Nat} {o : Option (Nat × Bool)} {x : Nat × Bool} (h : t.set a o fd = some x) : o = some x ∨ t fd = some x := by
  unfold TSt.set at h
  by_cases e : fd = a
  · rw [if_pos e] at h; exact .inl h
  · rw [if_neg e] at h; exact .inr h
theorem FdsOk.openQ {K : KQ} (h : FdsOk K) (i : Nat) (d : DescQ) : FdsOk (openQ K i d).2 := fun j fd a x h1 h2 h3 => by
  rw [openQ_qn] at h2
  rw [openQ_dn]
  have key : (K.proc j).fds fd = some (a, x) ∨ (a, x) = (K.dn + 1, false) := by
    unfold Go.Proofs.YtffekmjoenppaaaGreatDoor.openQ at h3
    split at h3
    · exact .inl h3
    · rename_i b _
      have h3 : (if j = i then { K.proc i with fds := (K.proc i).fds.set b (some (K.dn + 1, false)) } else K.proc j : ProcQ).fds fd = some (a, x) := h3
      by_cases e : j = i
      · rw [if_pos e] at h3
        rcases set_some h3 with h3 | h3
        · exact .inr (Option.some.inj h3).symm
        · exact .inl (by rw [e]; exact h3)
      · rw [if_neg e] at h3
        exact .inl h3
  rcases key with e | e
  · have := h j fd a x h1 h2 e
    omega
  · cases e
    omega
theorem conK_qn : ∀ n, (conK n).qn = 1
  | 0 => rfl
  | n + 1 => by rw [conK, openQ_qn, conK_qn n]
theorem conK_dn : ∀ n, (conK n).dn = n
  | 0 => rfl
  | n + 1 => by rw [conK, openQ_dn, conK_dn n]
theorem conK_fds : ∀ n, FdsOk (conK n)
  | 0 => fun j fd a x h1 h2 h3 => by
    have h2 : j ≤ 1 := h2
    have e : j = 1 := by omega
    subst e
    cases h3
  | n + 1 => (conK_fds n).openQ 1 (conD n)
/-- While the console's descriptions are made. -/
def NewI (w : World) (k qb j : Nat) (wr : World) : Prop := ∃ L, KF wr k (conK j) L ∧ L.qb 1 = qb ∧ Fr (fun _ => False) w wr ∧ ∀ b, L.o b ≠ none → w.heap.size ≤ b
def KNewPost (w : World) (e : Ending) (w' : World) : Prop := ∃ k L, e = .returned (ptrAt k) ∧ KF w' k newK L ∧ Fr (fun _ => False) w w' ∧ ∀ b, L.o b ≠ none → w.heap.size ≤ b
set_option maxRecDepth 100000 in
set_option maxHeartbeats 1000000 in
theorem knew_any (w : World) : Calls Tryz.prog 6 #[] w (KNewPost w) := by
  go_enter Tryz.func6, Tryz.ntmps6
  go_wp2_with fail
  refine (New_any w).mono ?_
  rintro e w1 ⟨f, p, rfl, hA1, hf1⟩
  obtain ⟨k, hk⟩ : ∃ k, k = w1.heap.size := ⟨_, rfl⟩
  obtain ⟨w2, hw2⟩ : ∃ w2, w2 = w1.alloc (.cells #[.pointer (some ⟨f, 0, none⟩), .int .i64 0, .map none, .int .i64 0, .map none, .int .i64 0, .map none, .string ⟨#[]⟩, .bool false, .string ⟨#[]⟩, .string ⟨#[]⟩, .string ⟨#[]⟩] 56 (0, 0)) := ⟨_, rfl⟩
  have z2 : w2.heap.size = k + 1 := by rw [hw2, hk]; simp
  have hf12 : Fr (fun _ => False) w1 w2 := by rw [hw2]; exact (Fr.refl _ _).alloc _
  have hF2 : KF w2 k zeroK ⟨f, none, none, none, fun _ => 0, fun _ => 0, fun _ => 0, fun _ => 0, fun _ => 0, fun b => if b = k then some tKer else if w.heap.size ≤ b ∧ b < k then some tFil else none⟩ :=
    { hk := by rw [hw2, hk]; exact blk_new _ _
      files := ⟨p, (hA1.apartsK hf12 (fun _ _ _ e => e)).mono fun b e => by
        show (if b = k then some tKer else if w.heap.size ≤ b ∧ b < k then some tFil else none) = some tFil ∨ w2.heap.size ≤ b
        by_cases e2 : w2.heap.size ≤ b
        · exact .inr e2
        · refine .inl ?_
          have := e.1
          have := e.2
          rw [if_neg (by omega), if_pos (by omega)]⟩
      pr := rfl, dr := rfl, qr := rfl
      hd := fun i a b => (by have b : i ≤ 0 := b; omega)
      hq := fun i a b => (by have b : i ≤ 0 := b; omega)
      ht := fun i a b => (by have b : i ≤ 0 := b; omega)
      hp := fun i a b => (by have b : i ≤ 0 := b; omega)
      ok := if_pos rfl
      opm := fun g e => (by cases e)
      odm := fun g e => (by cases e)
      oqm := fun g e => (by cases e)
      od := fun i a b => (by have b : i ≤ 0 := b; omega)
      oq := fun i a b => (by have b : i ≤ 0 := b; omega)
      op := fun i a b => (by have b : i ≤ 0 := b; omega)
      new := fun b hb => by
        show (if b = k then some tKer else if w.heap.size ≤ b ∧ b < k then some tFil else none) = none
        rw [if_neg (by omega), if_neg (by omega)] }
  have Hw2 := hide hw2
  have HF2 := hide hF2
  have Hf2 := hide (hf1.trans hf12)
  have Hz2 := hide z2
  have Hk := hide hk
  have hkw := hf1.size
  have Hkw := hide (show w.heap.size ≤ k by omega)
  clear hA1 hf1 hf12 hw2 hF2 z2 hkw
  go_upto_region 2 with (fail)
  rw [← Hw2.out, ← Hk.out]
  clear Hw2 Hk hk
  go_wp2_with fail
  refine (new_any w2).mono ?_
  rintro e w3 ⟨rfl, hw3⟩
  obtain ⟨qb, hqb⟩ : ∃ qb, qb = w3.heap.size := ⟨_, rfl⟩
  obtain ⟨w4, hw4⟩ : ∃ w4, w4 = w3.alloc (.cells #[.int .i64 0, .int .i64 0, .bool false, .int .i64 0, .int .i64 1, .int .i64 18, .pointer (some ⟨w2.heap.size, 0, none⟩)] 64 (0, 0)) := ⟨_, rfl⟩
  have z3 : w3.heap.size = w2.heap.size + 1 := by rw [hw3]; simp
  have z4 : w4.heap.size = w3.heap.size + 1 := by rw [hw4]; simp
  have hf23 : Fr (fun _ => False) w2 w3 := by rw [hw3]; exact (Fr.refl _ _).alloc _
  have hf34 : Fr (fun _ => False) w3 w4 := by rw [hw4]; exact (Fr.refl _ _).alloc _
  have hT3 := TabF.new w2 (fun b => w2.heap.size ≤ b) (fun _ e => e) w3 hw3
  have q4 : w4.heap[qb]? = some (.cells #[.int .i64 0, .int .i64 0, .bool false, .int .i64 0, .int .i64 1, .int .i64 18, .pointer (some ⟨w2.heap.size, 0, none⟩)] 64 (0, 0)) := by rw [hw4, hqb]; exact blk_new _ _
  have hF4 := HF2.out.quiet (hf23.trans hf34)
  have hT4 := hT3.aparts hf34 (fun _ _ _ e => e)
  have hqk : qb ≠ k := by have := Hz2.out; omega
  have hadd := hide (q_add w4 k _ none (fun _ => false) (fun _ => 0) 0 qb hF4.hk rfl rfl rfl (by simp) (by decide))
  have HF4 := hide hF4
  have HT4 := hide hT4
  have Hq4 := hide q4
  have Hw4 := hide hw4
  have Hqb := hide hqb
  have Hf4 := hide (hf23.trans hf34)
  have Hz3 := hide z3
  have Hz4 := hide z4
  clear hf23 hf34 hT3 hF4 hT4 hw3 hw4 q4 z3 z4
  unfold ptrAt at *
  go_upto_region 3 with (fail)
  rw [← Hw4.out, ← Hqb.out]
  clear Hw4 hqb
  go_wp2_with fail
  refine hadd.out.mono ?_
  rintro e w5 ⟨rfl, m, hk5, hr5, hm5, hf5⟩
  have q5 : w5.heap[qb]? = _ := hf5.get Hq4.out (fun e => by rcases e with e | e; (· exact hqk e); (· cases e))
  have f5 : w5.frozen? ⟨qb, 0, none⟩ = false := blk_frozen q5 _
  have g5 : w5.cell? ⟨qb, 0, none⟩ = some (.int .i64 0) := by rw [blk_cell q5]; rfl
  obtain ⟨w6, hw6⟩ : ∃ w6, w6 = w5.setCell ⟨qb, 0, none⟩ (.int .i64 1) := ⟨_, rfl⟩
  have q6 : w6.heap[qb]? = some (.cells #[.int .i64 1, .int .i64 0, .bool false, .int .i64 0, .int .i64 1, .int .i64 18, .pointer (some ⟨w2.heap.size, 0, none⟩)] 64 (0, 0)) := by rw [hw6]; exact blk_set q5 _ _
  have c6 : w6.cell? ⟨qb, 0, none⟩ = some (.int .i64 1) := by rw [blk_cell q6]; rfl
  have f6 : w6.frozen? ⟨qb, 1, none⟩ = false := blk_frozen q6 _
  have g6 : w6.cell? ⟨qb, 1, none⟩ = some (.int .i64 0) := by rw [blk_cell q6]; rfl
  obtain ⟨w7, hw7⟩ : ∃ w7, w7 = w6.setCell ⟨qb, 1, none⟩ (.int .i64 1) := ⟨_, rfl⟩
  have q7 : w7.heap[qb]? = some (.cells #[.int .i64 1, .int .i64 1, .bool false, .int .i64 0, .int .i64 1, .int .i64 18, .pointer (some ⟨w2.heap.size, 0, none⟩)] 64 (0, 0)) := by rw [hw7]; exact blk_set q6 _ _
  have hf57 : Fr (fun b => b = qb) w5 w7 := by
    rw [hw7, hw6]
    exact ((Fr.refl (fun b => b = qb) w5).setCell (p := ⟨qb, 0, none⟩) (.inl rfl) _).setCell (p := ⟨qb, 1, none⟩) (.inl rfl) _
  have hmg : m = some w4.heap.size := by
    rcases hm5 with ⟨_, e⟩ | ⟨_, e⟩
    · exact absurd rfl e
    · exact e
  have hs4 := Hz4.out
  have hq3 := Hqb.out
  have hs3 := Hz3.out
  have hs2 := Hz2.out
  have hml : w4.heap.size < w5.heap.size := by rw [hmg] at hr5; exact hr5.lt
  have hqlt := blk_lt Hq4.out
  have hr7 := hr5.frame hf57 (fun g e e2 => by rw [hmg] at e; cases e; omega)
  have hf47 : Fr (fun b => b = k ∨ b = qb) w4 w7 := (hf5.mono fun b _ e => e.imp id fun e => (by cases e)).trans (hf57.mono fun b _ e => .inr e)
  have hT7 := HT4.out.aparts hf47 (fun b hb e e2 => by have := e.1; have := e.2; omega)
  have hk7 : w7.heap[k]? = some _ := hf57.get hk5 (fun e => hqk e.symm)
  have hF7 := HF4.out.addQ (q := proc1) (X := fun b => w2.heap.size ≤ b ∧ b < w3.heap.size) (xb := qb) (tb := w2.heap.size) (m := m) (T := fun b => b = k ∨ b = qb) hk7 hr7 rfl (by
      rw [q7]
      unfold procC KLay.addQ
      simp [proc1, ptrAt, zeroK]) (hT7.mono fun b e => by
      have h1 := e.1.1
      have h2 := e.1.2
      have h3 := e.2
      by_cases hb : b < w3.heap.size
      · exact .inl ⟨h1, hb⟩
      · exact .inr (by omega))
    (HF2.out.new qb (by omega)) (fun b e => ⟨HF2.out.new b e.1, by have := hf47.size; have := e.2; omega, by have := e.2; omega⟩) (.inr ⟨_, hmg, HF2.out.new _ (by omega), Nat.lt_of_lt_of_le hml hf57.size, by omega, by omega⟩)
    hf47 (fun b t e e2 => by
      rcases e2 with e2 | e2
      · exact .inl e2
      · rw [e2, HF2.out.new qb (by omega)] at e; cases e)
  have hA7 := hF7.files
  obtain ⟨p7, hA7⟩ := hA7
  have hho := hide (Hold_any w7 f newT _ p7 hA7 (Good.new.b (by decide)) 1 (by decide))
  have cf7 : w7.cell? ⟨k, 0, none⟩ = some (.pointer (some ⟨f, 0, none⟩)) := by rw [blk_cell hF7.hk]; rfl
  have hnew7 : ∀ b, (KLay.addQ ⟨f, none, none, none, fun _ => 0, fun _ => 0, fun _ => 0, fun _ => 0, fun _ => 0, fun b => if b = k then some tKer else if w.heap.size ≤ b ∧ b < k then some tFil else none⟩ 0 qb w2.heap.size (fun b => w2.heap.size ≤ b ∧ b < w3.heap.size) m).o b ≠ none → w.heap.size ≤ b := fun b e => by
    have := Hkw.out
    rcases addQ_new e with e | e | e | e
    · by_cases hb : w.heap.size ≤ b
      · exact hb
      · refine absurd ?_ e
        show (if b = k then some tKer else if w.heap.size ≤ b ∧ b < k then some tFil else none) = none
        rw [if_neg (by omega), if_neg (by omega)]
    · omega
    · omega
    · rw [hmg] at e; cases e; omega
  have HF7 := hide hF7
  have Hnew7 := hide hnew7
  have Hf7 := hide ((Hf2.out.trans Hf4.out).trans' hf47 fun b hb e => by have := Hkw.out; have := Hf4.out.size; omega)
  have HA7 := hide hA7
  have Hw6 := hide hw6
  have Hw7 := hide hw7
  have hqd : (KLay.addQ ⟨f, none, none, none, fun _ => 0, fun _ => 0, fun _ => 0, fun _ => 0, fun _ => 0, fun b => if b = k then some tKer else if w.heap.size ≤ b ∧ b < k then some tFil else none⟩ 0 qb w2.heap.size (fun b => w2.heap.size ≤ b ∧ b < w3.heap.size) m).qb 1 = qb := by
    show (if (1 : Nat) = 0 + 1 then qb else 0) = qb
    rw [if_pos rfl]
  have Hqd := hide hqd
  clear hadd hk5 hr5 hm5 hf5 q5 q6 q7 hf57 hr7 hf47 hT7 hk7 hF7 hA7 hnew7 hw6 hw7 hqd HT4 HF4 Hq4 hs2 hs3 hs4 hq3 hmg hml hqlt
  go_upto_region 4 with (fail)
  rw [← Hw6.out]
  clear f5 g5
  go_upto_region 5 with (fail)
  rw [← Hw7.out]
  clear f6 g6 c6 Hw6 Hw7
  go_wp2_with fail
  refine hho.out.mono ?_
  rintro e w8 hpost
  obtain ⟨rfl, hA8, hf8⟩ := hpost
  have hF8 := HF7.out.filesU hf8 hA8
  have hext8 := grow_ext (t := tFil) (w' := w8) (K' := heldK) HF7.out hf8.size (Nat.le_refl _) (Nat.le_refl _) (Nat.le_refl _)
  have H0 := hide (show NewI w k qb 0 w8 from ⟨_, hF8, (hext8.qb 1 (by decide) (by decide)).trans Hqd.out, Hf7.out.trans' hf8 (fun b hb e => by
      rcases e with e | e
      · have := Hnew7.out b (fun e2 => by have := e.symm.trans e2; cases this); omega
      · have := Hf7.out.size; omega), fun b e => by
      rcases grow_new e with e | e
      · exact Hnew7.out b e
      · have := Hf7.out.size; omega⟩)
  clear hF8 hext8 hA8 hf8 hho HF7 Hnew7 Hf7 HA7 Hqd
  go_wp2_with fail
  go_loopg [33] 3 (fun gk i wr => ∃ j, gk + j = 3 ∧ i = .int .i64 j ∧ NewI w k qb j wr)
  case atStart => exact ⟨0, rfl, rfl, H0.out⟩
  case round =>
    clear H0
    obtain ⟨j, hgk, rfl, L, hF, hq, hfr, hnw⟩ := hrel
    by_cases hj : j < 3
    · have hji : (j : Int) < 3 := by omega
      obtain ⟨xb, hxb⟩ : ∃ xb, xb = wr.heap.size := ⟨_, rfl⟩
      obtain ⟨wa, hwa⟩ : ∃ wa, wa = wr.alloc (.cells #[.int .i64 1, .int .i64 j, .int .i64 0, .int .i64 0, .int .i64 0, .pointer none, .string ⟨#[]⟩, .int .i64 0] 72 (0, 0)) := ⟨_, rfl⟩
      have hfa : Fr (fun _ => False) wr wa := by rw [hwa]; exact (Fr.refl _ _).alloc _
      have xa : wa.heap[xb]? = some (.cells (rawD L (conD j) 0 0) 72 (0, 0)) := by rw [hwa, hxb]; exact blk_new _ _
      have hqn := conK_qn j
      have hko := hide (kopen_any wa k (conK j) L (hF.quiet hfa) 1 (by decide) (by omega) xb (conD j) xa (hF.new xb (by omega)) (conK_fds j) (by rw [conK_dn]; omega))
      rw [hq] at hko
      have Hwa := hide hwa
      have Hxb := hide hxb
      have Hgk := hide hgk
      have Hfa := hide (hfr.trans hfa)
      have Hnw := hide hnw
      have Hq := hide hq
      have Hza := hide hfr.size
      have hqlt : 1 ≤ (conK j).qn := by omega
      have Hql := hide hqlt
      unfold ptrAt at *
      clear hF hq hfr hnw hgk hfa xa hwa hxb hqn hqlt
      go_wp2_with fail
      rw [← Hwa.out, ← Hxb.out]
      refine hko.out.mono ?_
      rintro e wb ⟨rfl, L', hF', hext, hfb, hnb⟩
      have hn := hide (show NewI w k qb (j + 1) wb from ⟨L', hF', (hext.qb 1 (by decide) Hql.out).trans Hq.out, Hfa.out.trans' hfb (fun b hb e => by
          rcases e with e | e
          · have := Hnw.out b e; omega
          · have := Hxb.out; have := Hza.out; omega), fun b e => by
          rcases hnb b e with e | e | e
          · exact Hnw.out b e
          · have := Hxb.out; have := Hza.out; omega
          · have := Hfa.out.size; omega⟩)
      clear hko hF' hext hfb hnb
      go_wp2_with fail
      go_roundg (gk - 1)
      case measure => have := Hgk.out; omega
      case rel => exact ⟨j + 1, by have := Hgk.out; omega, by go_num, hn.out⟩
    · have hj3 : j = 3 := by omega
      subst hj3
      have hfin := hide (show KNewPost w (.returned (ptrAt k)) wr from ⟨k, L, rfl, hF, hfr, hnw⟩)
      clear hF hq hfr hnw hgk
      unfold ptrAt at hfin
      go_wp2_with fail
      go_ret
      exact hfin.out
end Go.Proofs.YtffekmjoenppaaaGreatDoor

/- What a kernel's data keep; reading, as plain data. No program in sight; no condition. -/
namespace Go.Proofs.YtffekmjoenppaaaGreatDoor
open Go.RowKit

structure DescOk (K : KQ) (N : Nat) (d : DescQ) : Prop where
  kind : 1 ≤ d.kind ∧ d.kind ≤ 5
  con : d.kind = 1 → d.n ≤ 2
  txt : d.kind = 5 → d.pos ≤ d.text.size
  pip : d.kind = 3 ∨ d.kind = 4 → 1 ≤ d.n ∧ d.n ≤ K.pn
  num : d.n ≤ 9223372036854775807
  pos : d.kind ≠ 5 → d.pos ≤ 65536
  flg : d.flags < 64
  refs : d.refs ≤ N ∧ -(N : Int) ≤ d.refs
  tsz : d.text.size ≤ 9223372036854775807
structure ProcOk (N : Nat) (q : ProcQ) : Prop where
  dir : q.dir ≤ 9223372036854775807
  mask : q.mask ≤ 511
  par : q.parent ≤ N
  status : -9223372036854775808 ≤ q.status ∧ q.status ≤ 9223372036854775807
/-- What a kernel's data keep: N bounds what has been asked. -/
structure KOk (K : KQ) (N : Nat) : Prop where
  fds : FdsOk K
  desc : ∀ j, 1 ≤ j → j ≤ K.dn → DescOk K N (K.desc j)
  proc : ∀ i, 1 ≤ i → i ≤ K.qn → ProcOk N (K.proc i)
  pipe : ∀ i, 1 ≤ i → i ≤ K.pn → (K.pipe i).data.length ≤ 64 ∧ (K.pipe i).r ≤ N ∧ (K.pipe i).x ≤ N
  pn : K.pn ≤ N
  dn : K.dn ≤ N
  qn : K.qn ≤ N
  good : Good K.σ N
  typed : K.typed.size ≤ 4096
/-- Which description a descriptor names. -/
def fdQ (K : KQ) (i : Nat) (fd : Int) : Option Nat := ((K.proc i).fds.at fd).map (·.1)
/-- A pipe's bytes are taken. -/
def takeP (p : PipeQ) (n : Nat) : PipeQ := { p with data := p.data.drop n }
/-- SysRead: does it wait, the answer, the kernel. -/
def readQ (K : KQ) (i : Nat) (a b : Int) : Bool × ResQ × KQ :=
  match fdQ K i a with
  | none => (false, errR 9, K)
  | some j =>
    if (K.desc j).reads = false then (false, errR 9, K)
    else if b < 0 then (false, errR 22, K)
    else if (K.desc j).kind = 1 then
      if 0 < b ∧ K.typed.size = 0 ∧ K.closed = false then (true, noRes, K)
      else (false, { noRes with s := K.typed.extract 0 (min b.toNat K.typed.size) }, { K with typed := K.typed.extract (min b.toNat K.typed.size) K.typed.size })
    else if (K.desc j).kind = 2 then
      (false, { noRes with s := ⟨(readB K.σ (K.desc j).n (K.desc j).pos b).toArray⟩, err := readE K.σ (K.desc j).n (K.desc j).pos b }, K.setD j { K.desc j with pos := (K.desc j).pos + (readB K.σ (K.desc j).n (K.desc j).pos b).length })
    else if (K.desc j).kind = 5 then
      (false, { noRes with s := (K.desc j).text.extract (K.desc j).pos ((K.desc j).pos + min b.toNat ((K.desc j).text.size - (K.desc j).pos)) }, K.setD j { K.desc j with pos := (K.desc j).pos + min b.toNat ((K.desc j).text.size - (K.desc j).pos) })
    else if 0 < b ∧ (K.pipe (K.desc j).n).data = [] ∧ 0 < (K.pipe (K.desc j).n).x then (true, noRes, K)
    else (false, { noRes with s := ⟨((K.pipe (K.desc j).n).data.take b.toNat).toArray⟩ }, K.setP (K.desc j).n (takeP (K.pipe (K.desc j).n) b.toNat))
end Go.Proofs.YtffekmjoenppaaaGreatDoor
