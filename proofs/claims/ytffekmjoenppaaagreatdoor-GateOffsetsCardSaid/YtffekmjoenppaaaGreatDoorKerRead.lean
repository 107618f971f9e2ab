/- gate.asked.read. Conditions: the contract's own premises. -/
import Derived.Test.YtffekmjoenppaaaGreatDoorKerAsk
import Derived.Test.YtffekmjoenppaaaGreatDoorFilesA
import Derived.Test.YtffekmjoenppaaaGreatDoorPipeD
namespace Go.Proofs.YtffekmjoenppaaaGreatDoor
open Go.RowKit

attribute [local go_sem] Oper.semAt_some

def resV (q : ResQ) : ResV := ⟨q.n, q.m, q.s, .slice none 0 0, q.st, q.err⟩
/-- Behind a call of a process: does it wait, the answer, the kernel. -/
def KaskPost (w : World) (k : Nat) (K : KQ) (L : KLay) (i a : Nat) (c : SysQ) (R : Bool × ResQ × KQ) (e : Ending) (w' : World) : Prop :=
  e = .returned (.bool R.1) ∧ ∃ L', KF w' k R.2.2 L' ∧ LExt K R.2.2 L L' ∧ Fr (fun b => L.o b ≠ none ∨ b = a) w w' ∧ (∀ b, L'.o b ≠ none → L.o b ≠ none ∨ w.heap.size ≤ b) ∧ ∃ r, AskAt w' a k (L.qb i) c r ∧ (R.1 = false → r = resV R.2.1)
theorem ask_err {w : World} {a k q : Nat} {c : SysQ} {r : ResV} (h : AskAt w a k q c r) (x : Int) : AskAt (w.setCell ⟨a, 17, none⟩ (.int .i64 x)) a k q c { r with err := x } := by
  unfold AskAt at h ⊢
  rw [blk_set h]
  rfl
theorem ask_s {w : World} {a k q : Nat} {c : SysQ} {r : ResV} (h : AskAt w a k q c r) (x : ByteArray) : AskAt (w.setCell ⟨a, 10, none⟩ (.string x)) a k q c { r with s := x } := by
  unfold AskAt at h ⊢
  rw [blk_set h]
  rfl
theorem KF.ask {w : World} {k : Nat} {K : KQ} {L : KLay} (h : KF w k K L) {a : Nat} (ha : L.o a = none) (j : Nat) (v : Value) : KF (w.setCell ⟨a, j, none⟩ v) k K L :=
  h.still ((Fr.refl (fun b => b = a) w).setCell (p := ⟨a, j, none⟩) (.inl rfl) v) fun b t e e2 => by rw [e2, ha] at e; cases e
theorem fr_ask {L : KLay} (w : World) (a j : Nat) (v : Value) : Fr (fun b => L.o b ≠ none ∨ b = a) w (w.setCell ⟨a, j, none⟩ v) := (Fr.refl (fun b => L.o b ≠ none ∨ b = a) w).setCell (p := ⟨a, j, none⟩) (.inl (.inr rfl)) v
theorem setP_same (K : KQ) (n : Nat) : K.setP n { K.pipe n with data := (K.pipe n).data.drop ([] : List UInt8).length } = K := by
  unfold KQ.setP
  have : (fun j => if j = n then { K.pipe n with data := (K.pipe n).data.drop ([] : List UInt8).length } else K.pipe j) = K.pipe := by
    funext j
    by_cases e : j = n
    · rw [if_pos e, e]; rfl
    · rw [if_neg e]
  rw [this]
theorem drop_take (d : List UInt8) (n : Nat) : d.drop (d.take n).length = d.drop n := by
  rw [List.length_take]
  by_cases h : n ≤ d.length
  · rw [Nat.min_eq_left h]
  · rw [Nat.min_eq_right (by omega), List.drop_length, List.drop_of_length_le (by omega)]
theorem ask_ne {L : KLay} {a b : Nat} {t : Nat × Nat} (ha : L.o a = none) (e : L.o b = some t) : b ≠ a := fun e2 => by rw [e2, ha] at e; cases e
set_option maxRecDepth 100000 in
set_option maxHeartbeats 1000000 in
theorem aread_none (w : World) (k : Nat) (K : KQ) (L : KLay) (h : KF w k K L) (N : Nat) (_hok : KOk K N) (_hN : N ≤ 1000000) (i : Nat) (h1 : 1 ≤ i) (h2 : i ≤ K.qn) (a : Nat) (c : SysQ) (_hc : -9223372036854775808 ≤ c.b ∧ c.b ≤ 9223372036854775807) (ha : AskAt w a k (L.qb i) c noResV) (hao : L.o a = none) (hf : fdQ K i c.a = none) : Calls Tryz.prog 22 #[ptrAt a] w (KaskPost w k K L i a c (readQ K i c.a c.b)) := by
  have hq : readQ K i c.a c.b = (false, errR 9, K) := by unfold readQ; rw [hf]
  rw [hq]
  have c3 : w.cell? ⟨a, 3, none⟩ = some (.int .i64 c.a) := by rw [blk_cell ha]; rfl
  have c4 : w.cell? ⟨a, 4, none⟩ = some (.int .i64 c.b) := by rw [blk_cell ha]; rfl
  have hds := hide (adesc_any w k K L h i h1 h2 a c noResV ha c.a)
  rw [hf] at hds
  have c4' : (w.setCell ⟨a, 17, none⟩ (.int .i64 9)).cell? ⟨a, 4, none⟩ = some (.int .i64 c.b) := by rw [blk_cell (ask_err ha 9)]; rfl
  have hfin := hide (show KaskPost w k K L i a c (false, errR 9, K) (.returned (.bool false)) (w.setCell ⟨a, 17, none⟩ (.int .i64 9)) from ⟨rfl, L, h.ask hao 17 _, .refl K L, fr_ask w a 17 _, fun _ e => .inl e, _, ask_err ha 9, fun _ => rfl⟩)
  clear h ha hq
  unfold ptrAt at *
  unfold descV fdE at hds
  go_enter Tryz.func22, Tryz.ntmps22
  go_wp2_with fail
  refine hds.out.mono ?_
  rintro e w1 ⟨rfl, rfl⟩
  go_wp2_with fail
  go_ret
  exact hfin.out
set_option maxRecDepth 100000 in
set_option maxHeartbeats 1000000 in
theorem aread_bad (w : World) (k : Nat) (K : KQ) (L : KLay) (h : KF w k K L) (N : Nat) (hok : KOk K N) (_hN : N ≤ 1000000) (i : Nat) (h1 : 1 ≤ i) (h2 : i ≤ K.qn) (a : Nat) (c : SysQ) (_hc : -9223372036854775808 ≤ c.b ∧ c.b ≤ 9223372036854775807) (ha : AskAt w a k (L.qb i) c noResV) (hao : L.o a = none) (j : Nat) (hf : fdQ K i c.a = some j) (hr : (K.desc j).reads = false) : Calls Tryz.prog 22 #[ptrAt a] w (KaskPost w k K L i a c (readQ K i c.a c.b)) := by
  obtain ⟨j1, j2⟩ := fdQ_ok hok.fds h1 h2 hf
  have hdo := hok.desc j j1 j2
  have c3 : w.cell? ⟨a, 3, none⟩ = some (.int .i64 c.a) := by rw [blk_cell ha]; rfl
  have c4 : w.cell? ⟨a, 4, none⟩ = some (.int .i64 c.b) := by rw [blk_cell ha]; rfl
  have hds := hide (adesc_any w k K L h i h1 h2 a c noResV ha c.a)
  rw [hf] at hds
  have A1 := ask_err ha 0
  have F1 := h.ask hao 17 (.int .i64 0)
  have hfr1 := fr_ask (L := L) w a 17 (.int .i64 0)
  obtain ⟨w1, hw1⟩ : ∃ w1, w1 = w.setCell ⟨a, 17, none⟩ (.int .i64 0) := ⟨_, rfl⟩
  have hds' : Calls Tryz.prog 43 #[ptrAt a, .int .i64 c.a] w fun e w' => e = .returned (.pointer (some ⟨L.db j, 0, none⟩)) ∧ w' = w1 := by rw [hw1]; exact hds.out
  have hds := hide hds'
  rw [← hw1] at A1 F1 hfr1
  have hD1 := F1.hd j j1 j2
  have hrd := hide (dreads_any w1 (L.db j) L j (K.desc j) hD1 hdo.kind hdo.flg)
  have a4 : w1.cell? ⟨a, 4, none⟩ = some (.int .i64 c.b) := by rw [blk_cell A1]; rfl
  have a0 : w1.cell? ⟨a, 0, none⟩ = some (.pointer (some ⟨k, 0, none⟩)) := by rw [blk_cell A1]; rfl
  have a17 : w1.cell? ⟨a, 17, none⟩ = some (.int .i64 0) := by rw [blk_cell A1]; rfl
  have z17 : w1.frozen? ⟨a, 17, none⟩ = false := blk_frozen A1 _
  have d0 : w1.cell? ⟨L.db j, 0, none⟩ = some (.int .i64 (K.desc j).kind) := by rw [blk_cell hD1]; rfl
  clear hw1 hds'
  have hq : readQ K i c.a c.b = (false, errR 9, K) := by unfold readQ; rw [hf]; simp only; rw [if_pos hr]
  rw [hq]
  rw [hr] at hrd
  have hfin := hide (show KaskPost w k K L i a c (false, errR 9, K) (.returned (.bool false)) (w1.setCell ⟨a, 17, none⟩ (.int .i64 9)) from ⟨rfl, L, F1.ask hao 17 _, .refl K L, hfr1.trans (fr_ask w1 a 17 _), fun _ e => .inl e, _, ask_err A1 9, fun _ => rfl⟩)
  clear h ha hq A1 F1 hfr1 hD1 hdo hok hf
  unfold ptrAt at *
  go_enter Tryz.func22, Tryz.ntmps22
  go_wp2_with fail
  refine hds.out.mono ?_
  rintro e w2 ⟨rfl, rfl⟩
  go_wp2_with fail
  refine hrd.out.mono ?_
  rintro e w2 ⟨rfl, rfl⟩
  go_wp2_with fail
  go_ret
  exact hfin.out
set_option maxRecDepth 100000 in
set_option maxHeartbeats 1000000 in
theorem aread_neg (w : World) (k : Nat) (K : KQ) (L : KLay) (h : KF w k K L) (N : Nat) (hok : KOk K N) (_hN : N ≤ 1000000) (i : Nat) (h1 : 1 ≤ i) (h2 : i ≤ K.qn) (a : Nat) (c : SysQ) (_hc : -9223372036854775808 ≤ c.b ∧ c.b ≤ 9223372036854775807) (ha : AskAt w a k (L.qb i) c noResV) (hao : L.o a = none) (j : Nat) (hf : fdQ K i c.a = some j) (hr : (K.desc j).reads = true) (hb : c.b < 0) : Calls Tryz.prog 22 #[ptrAt a] w (KaskPost w k K L i a c (readQ K i c.a c.b)) := by
  obtain ⟨j1, j2⟩ := fdQ_ok hok.fds h1 h2 hf
  have hdo := hok.desc j j1 j2
  have c3 : w.cell? ⟨a, 3, none⟩ = some (.int .i64 c.a) := by rw [blk_cell ha]; rfl
  have c4 : w.cell? ⟨a, 4, none⟩ = some (.int .i64 c.b) := by rw [blk_cell ha]; rfl
  have hds := hide (adesc_any w k K L h i h1 h2 a c noResV ha c.a)
  rw [hf] at hds
  have A1 := ask_err ha 0
  have F1 := h.ask hao 17 (.int .i64 0)
  have hfr1 := fr_ask (L := L) w a 17 (.int .i64 0)
  obtain ⟨w1, hw1⟩ : ∃ w1, w1 = w.setCell ⟨a, 17, none⟩ (.int .i64 0) := ⟨_, rfl⟩
  have hds' : Calls Tryz.prog 43 #[ptrAt a, .int .i64 c.a] w fun e w' => e = .returned (.pointer (some ⟨L.db j, 0, none⟩)) ∧ w' = w1 := by rw [hw1]; exact hds.out
  have hds := hide hds'
  rw [← hw1] at A1 F1 hfr1
  have hD1 := F1.hd j j1 j2
  have hrd := hide (dreads_any w1 (L.db j) L j (K.desc j) hD1 hdo.kind hdo.flg)
  have a4 : w1.cell? ⟨a, 4, none⟩ = some (.int .i64 c.b) := by rw [blk_cell A1]; rfl
  have a0 : w1.cell? ⟨a, 0, none⟩ = some (.pointer (some ⟨k, 0, none⟩)) := by rw [blk_cell A1]; rfl
  have a17 : w1.cell? ⟨a, 17, none⟩ = some (.int .i64 0) := by rw [blk_cell A1]; rfl
  have z17 : w1.frozen? ⟨a, 17, none⟩ = false := blk_frozen A1 _
  have d0 : w1.cell? ⟨L.db j, 0, none⟩ = some (.int .i64 (K.desc j).kind) := by rw [blk_cell hD1]; rfl
  clear hw1 hds'
  have hq : readQ K i c.a c.b = (false, errR 22, K) := by unfold readQ; rw [hf]; simp only; rw [if_neg (by rw [hr]; simp), if_pos hb]
  rw [hq]
  rw [hr] at hrd
  have hfin := hide (show KaskPost w k K L i a c (false, errR 22, K) (.returned (.bool false)) (w1.setCell ⟨a, 17, none⟩ (.int .i64 22)) from ⟨rfl, L, F1.ask hao 17 _, .refl K L, hfr1.trans (fr_ask w1 a 17 _), fun _ e => .inl e, _, ask_err A1 22, fun _ => rfl⟩)
  clear h ha hq A1 F1 hfr1 hD1 hdo hok hf
  unfold ptrAt at *
  go_enter Tryz.func22, Tryz.ntmps22
  go_wp2_with fail
  refine hds.out.mono ?_
  rintro e w2 ⟨rfl, rfl⟩
  go_wp2_with fail
  refine hrd.out.mono ?_
  rintro e w2 ⟨rfl, rfl⟩
  go_wp2_with fail
  go_ret
  exact hfin.out
set_option maxRecDepth 100000 in
set_option maxHeartbeats 1000000 in
theorem aread_con (w : World) (k : Nat) (K : KQ) (L : KLay) (h : KF w k K L) (N : Nat) (hok : KOk K N) (_hN : N ≤ 1000000) (i : Nat) (h1 : 1 ≤ i) (h2 : i ≤ K.qn) (a : Nat) (c : SysQ) (hc : -9223372036854775808 ≤ c.b ∧ c.b ≤ 9223372036854775807) (ha : AskAt w a k (L.qb i) c noResV) (hao : L.o a = none) (j : Nat) (hf : fdQ K i c.a = some j) (hr : (K.desc j).reads = true) (hb : 0 ≤ c.b) (hk : (K.desc j).kind = 1) : Calls Tryz.prog 22 #[ptrAt a] w (KaskPost w k K L i a c (readQ K i c.a c.b)) := by
  obtain ⟨j1, j2⟩ := fdQ_ok hok.fds h1 h2 hf
  have hdo := hok.desc j j1 j2
  have c3 : w.cell? ⟨a, 3, none⟩ = some (.int .i64 c.a) := by rw [blk_cell ha]; rfl
  have c4 : w.cell? ⟨a, 4, none⟩ = some (.int .i64 c.b) := by rw [blk_cell ha]; rfl
  have hds := hide (adesc_any w k K L h i h1 h2 a c noResV ha c.a)
  rw [hf] at hds
  have A1 := ask_err ha 0
  have F1 := h.ask hao 17 (.int .i64 0)
  have hfr1 := fr_ask (L := L) w a 17 (.int .i64 0)
  obtain ⟨w1, hw1⟩ : ∃ w1, w1 = w.setCell ⟨a, 17, none⟩ (.int .i64 0) := ⟨_, rfl⟩
  have hds' : Calls Tryz.prog 43 #[ptrAt a, .int .i64 c.a] w fun e w' => e = .returned (.pointer (some ⟨L.db j, 0, none⟩)) ∧ w' = w1 := by rw [hw1]; exact hds.out
  have hds := hide hds'
  rw [← hw1] at A1 F1 hfr1
  have hD1 := F1.hd j j1 j2
  have hrd := hide (dreads_any w1 (L.db j) L j (K.desc j) hD1 hdo.kind hdo.flg)
  have a4 : w1.cell? ⟨a, 4, none⟩ = some (.int .i64 c.b) := by rw [blk_cell A1]; rfl
  have a0 : w1.cell? ⟨a, 0, none⟩ = some (.pointer (some ⟨k, 0, none⟩)) := by rw [blk_cell A1]; rfl
  have a17 : w1.cell? ⟨a, 17, none⟩ = some (.int .i64 0) := by rw [blk_cell A1]; rfl
  have z17 : w1.frozen? ⟨a, 17, none⟩ = false := blk_frozen A1 _
  have d0 : w1.cell? ⟨L.db j, 0, none⟩ = some (.int .i64 (K.desc j).kind) := by rw [blk_cell hD1]; rfl
  clear hw1 hds'
  rw [hr] at hrd
  have t7 : w1.cell? ⟨k, 7, none⟩ = some (.string K.typed) := by rw [blk_cell F1.hk]; rfl
  have t8 : w1.cell? ⟨k, 8, none⟩ = some (.bool K.closed) := by rw [blk_cell F1.hk]; rfl
  rw [hk] at d0
  have hb' : ¬ c.b < 0 := by omega
  by_cases hw : 0 < c.b ∧ K.typed.size = 0 ∧ K.closed = false
  · have hq : readQ K i c.a c.b = (true, noRes, K) := by unfold readQ; rw [hf]; simp only; rw [if_neg (by rw [hr]; simp), if_neg hb', if_pos hk, if_pos hw]
    rw [hq]
    obtain ⟨b0, b1, b2⟩ := hw
    rw [b2] at t8
    have e1 := ba_empty (s := K.typed) (List.eq_nil_of_length_eq_zero (by rw [ba_len]; exact b1))
    have hfin := hide (show KaskPost w k K L i a c (true, noRes, K) (.returned (.bool true)) w1 from ⟨rfl, L, F1, .refl K L, hfr1, fun _ e => .inl e, _, A1, fun e => (by cases e)⟩)
    clear h ha hq A1 F1 hfr1 hD1 hdo hok hf b1
    unfold ptrAt at *
    go_enter Tryz.func22, Tryz.ntmps22
    go_wp2_with fail
    refine hds.out.mono ?_
    rintro e w2 ⟨rfl, rfl⟩
    go_wp2_with fail
    refine hrd.out.mono ?_
    rintro e w2 ⟨rfl, rfl⟩
    go_wp2_with fail
    go_ret
    exact hfin.out
  · have hq : readQ K i c.a c.b = (false, { noRes with s := K.typed.extract 0 (min c.b.toNat K.typed.size) }, { K with typed := K.typed.extract (min c.b.toNat K.typed.size) K.typed.size }) := by unfold readQ; rw [hf]; simp only; rw [if_neg (by rw [hr]; simp), if_neg hb', if_pos hk, if_neg hw]
    rw [hq]
    obtain ⟨b, hbn⟩ : ∃ b : Nat, c.b = b := ⟨c.b.toNat, by omega⟩
    obtain ⟨m, hm⟩ : ∃ m, m = min c.b.toNat K.typed.size := ⟨_, rfl⟩
    rw [← hm]
    rw [hbn] at hm a4 hw hc
    rw [Int.toNat_natCast] at hm
    have A1d : AskAt w1.drew a k (L.qb i) c { noResV with err := 0 } := A1
    have F1d : KF w1.drew k K L := F1.quiet (Fr.refl _ _).drew
    have k1 : w1.drew.heap[k]? = some (.cells (kerC L K) 56 (0, 0)) := F1.hk
    have hak : k ≠ a := ask_ne hao h.ok
    obtain ⟨w3, hw3⟩ : ∃ w3, w3 = w1.drew.setCell ⟨a, 10, none⟩ (.string (K.typed.extract 0 m)) := ⟨_, rfl⟩
    have A3 : AskAt w3 a k (L.qb i) c { noResV with err := 0, s := K.typed.extract 0 m } := by rw [hw3]; exact ask_s A1d _
    have F3 : KF w3 k K L := by rw [hw3]; exact F1d.ask hao 10 _
    have k3 : w3.heap[k]? = some (.cells (kerC L K) 56 (0, 0)) := F3.hk
    have t10 : w1.drew.cell? ⟨a, 10, none⟩ = some (.string noBy) := by rw [blk_cell A1d]; rfl
    have z10 : w1.drew.frozen? ⟨a, 10, none⟩ = false := blk_frozen A1d _
    have t3 : w3.cell? ⟨k, 7, none⟩ = some (.string K.typed) := by rw [blk_cell k3]; rfl
    have z3 : w3.frozen? ⟨k, 7, none⟩ = false := blk_frozen k3 _
    have A4 : AskAt (w3.setCell ⟨k, 7, none⟩ (.string (K.typed.extract m K.typed.size))) a k (L.qb i) c { noResV with err := 0, s := K.typed.extract 0 m } := blk_set_other A3 _ _ (Ne.symm hak)
    have e4 : (w3.setCell ⟨k, 7, none⟩ (.string (K.typed.extract m K.typed.size))).cell? ⟨a, 17, none⟩ = some (.int .i64 0) := by rw [blk_cell A4]; rfl
    have F4 : KF (w3.setCell ⟨k, 7, none⟩ (.string (K.typed.extract m K.typed.size))) k { K with typed := K.typed.extract m K.typed.size } L :=
      F3.ker ((Fr.refl (fun b => b = k) w3).setCell (p := ⟨k, 7, none⟩) (.inl rfl) _) (by rw [blk_set k3]; rfl) rfl
    have hfr3 : Fr (fun b => L.o b ≠ none ∨ b = a) w w3 := by rw [hw3]; exact hfr1.drew.trans (fr_ask (L := L) w1.drew a 10 _)
    have hfr4 : Fr (fun b => L.o b ≠ none ∨ b = a) w (w3.setCell ⟨k, 7, none⟩ (.string (K.typed.extract m K.typed.size))) := hfr3.setCell (p := ⟨k, 7, none⟩) (.inl (.inl (by rw [h.ok]; simp))) _
    have hfin := hide (show KaskPost w k K L i a c (false, { noRes with s := K.typed.extract 0 m }, { K with typed := K.typed.extract m K.typed.size }) (.returned (.bool false)) (w3.setCell ⟨k, 7, none⟩ (.string (K.typed.extract m K.typed.size))) from ⟨rfl, L, F4, ⟨rfl, Nat.le_refl _, Nat.le_refl _, Nat.le_refl _, fun _ _ _ => rfl, fun _ _ _ => rfl, fun _ _ _ => rfl, fun _ _ _ => rfl, fun _ _ e => e⟩, hfr4, fun _ e => .inl e, _, A4, fun _ => rfl⟩)
    have Hw3 := hide hw3
    have hm0 : (0 : Int) ≤ (m : Int) := by omega
    have hm1 : (m : Int) ≤ (K.typed.size : Int) := by omega
    have hm2 : m ≤ K.typed.size := by omega
    have hts := hok.typed
    clear h ha hq A1 F1 hfr1 hD1 hdo hok hf A1d F1d A3 F3 A4 F4 hfr3 hfr4 hw3 hak
    unfold ptrAt at *
    have hmin : min (b : Int) (K.typed.size : Int) = (m : Int) := by omega
    clear hm
    by_cases hb0 : b = 0
    · have hbi : ¬ ((0 : Int) < (b : Int)) := by omega
      clear hb0 hw
      go_enter Tryz.func22, Tryz.ntmps22
      go_wp2_with fail
      refine hds.out.mono ?_
      rintro e w2 ⟨rfl, rfl⟩
      go_wp2_with fail
      refine hrd.out.mono ?_
      rintro e w2 ⟨rfl, rfl⟩
      go_upto_region 18 with (fail)
      refine region_tree (fun w' => w'.heap[k]? = some (.cells (kerC L K) 56 (0, 0))) [0, 1, 2, 3, 4, 5, 6, 7, 8, 9, 10, 11, 12, 13, 14, 15, 16] 1 18 (by kernel_rfl) (by kernel_rfl) (fun _ _ d _ _ h => by cases d <;> exact h) k1 ?_
      simp only [List.map_cons, List.map_nil, List.getD_cons_zero, List.getD_cons_succ, List.drop_succ_cons, List.drop_zero]
      generalize w2.drew = wd at *
      go_big_quiet_step (fail)
      go_big_quiet_step (fail)
      go_big_quiet_step (fail)
      refine wpQuiet_val (.pointer (some ⟨k, 0, none⟩)) rfl (fun w' hS => by (go_simp)) ?_
      simp only [Act.put, List.setIfInBounds_toArray, List.set_cons_succ, List.set_cons_zero]
      refine wpQuiet_val (.pointer (some ⟨k, 7, none⟩)) rfl (fun w' hS => by (go_simp)) ?_
      simp only [Act.put, List.setIfInBounds_toArray, List.set_cons_succ, List.set_cons_zero]
      refine wpQuiet_val (.string K.typed) rfl (fun w' hS => by
          have e : w'.cell? ⟨k, 7, none⟩ = some (.string K.typed) := by rw [blk_cell (hS)]; rfl
          go_simp) ?_
      simp only [Act.put, List.setIfInBounds_toArray, List.set_cons_succ, List.set_cons_zero]
      go_big_quiet_step (fail)
      refine wpQuiet_val (.string (K.typed.extract 0 m)) rfl (fun w' hS => by (go_simp)) ?_
      simp only [Act.put, List.setIfInBounds_toArray, List.set_cons_succ, List.set_cons_zero]
      go_big_quiet_step (fail)
      refine wpQuiet_val (.pointer (some ⟨k, 0, none⟩)) rfl (fun w' hS => by (go_simp)) ?_
      simp only [Act.put, List.setIfInBounds_toArray, List.set_cons_succ, List.set_cons_zero]
      refine wpQuiet_val (.pointer (some ⟨k, 7, none⟩)) rfl (fun w' hS => by (go_simp)) ?_
      simp only [Act.put, List.setIfInBounds_toArray, List.set_cons_succ, List.set_cons_zero]
      refine wpQuiet_val (.string K.typed) rfl (fun w' hS => by
          have e : w'.cell? ⟨k, 7, none⟩ = some (.string K.typed) := by rw [blk_cell (hS)]; rfl
          go_simp) ?_
      simp only [Act.put, List.setIfInBounds_toArray, List.set_cons_succ, List.set_cons_zero]
      go_big_quiet_step (fail)
      refine wpQuiet_val (.string (K.typed.extract m K.typed.size)) rfl (fun w' hS => by (go_simp)) ?_
      simp only [Act.put, List.setIfInBounds_toArray, List.set_cons_succ, List.set_cons_zero]
      refine wpQuiet_val (.pointer (some ⟨a, 0, none⟩)) rfl (fun w' hS => by (go_simp)) ?_
      simp only [Act.put, List.setIfInBounds_toArray, List.set_cons_succ, List.set_cons_zero]
      refine wpQuiet_val (.pointer (some ⟨a, 8, none⟩)) rfl (fun w' hS => by (go_simp)) ?_
      simp only [Act.put, List.setIfInBounds_toArray, List.set_cons_succ, List.set_cons_zero]
      refine wpQuiet_val (.pointer (some ⟨a, 10, none⟩)) rfl (fun w' hS => by (go_simp)) ?_
      simp only [Act.put, List.setIfInBounds_toArray, List.set_cons_succ, List.set_cons_zero]
      refine wpQuiet_nil ?_
      refine tree_one' 17 (by kernel_rfl) (by decide) (by simp) rfl (fun Kc hK => ?_)
      simp only [List.getD_cons_zero, List.getD_cons_succ]
      go_wp2_with fail
      rw [← Hw3.out]
      refine hK _ _ k3 ?_
      clear hK Kc
      refine tree_end (by kernel_rfl) ?_
      try (simp only [List.map_cons, List.map_nil, List.getD_cons_zero, List.getD_cons_succ, List.drop_succ_cons, List.drop_zero])
      go_wp2_with fail
      go_ret
      exact hfin.out
    · have hbi : (0 : Int) < (b : Int) := by omega
      by_cases hz : K.typed.size = 0
      · have hcl : K.closed = true := by
          cases e : K.closed with
          | true => rfl
          | false => exact absurd ⟨hbi, hz, e⟩ hw
        rw [hcl] at t8
        have e1 := ba_empty (s := K.typed) (List.eq_nil_of_length_eq_zero (by rw [ba_len]; exact hz))
        clear hz hw
        go_enter Tryz.func22, Tryz.ntmps22
        go_wp2_with fail
        refine hds.out.mono ?_
        rintro e w2 ⟨rfl, rfl⟩
        go_wp2_with fail
        refine hrd.out.mono ?_
        rintro e w2 ⟨rfl, rfl⟩
        go_upto_region 18 with (fail)
        refine region_tree (fun w' => w'.heap[k]? = some (.cells (kerC L K) 56 (0, 0))) [0, 1, 2, 3, 4, 5, 6, 7, 8, 9, 10, 11, 12, 13, 14, 15, 16] 1 18 (by kernel_rfl) (by kernel_rfl) (fun _ _ d _ _ h => by cases d <;> exact h) k1 ?_
        simp only [List.map_cons, List.map_nil, List.getD_cons_zero, List.getD_cons_succ, List.drop_succ_cons, List.drop_zero]
        generalize w2.drew = wd at *
        go_big_quiet_step (fail)
        go_big_quiet_step (fail)
        go_big_quiet_step (fail)
        refine wpQuiet_val (.pointer (some ⟨k, 0, none⟩)) rfl (fun w' hS => by (go_simp)) ?_
        simp only [Act.put, List.setIfInBounds_toArray, List.set_cons_succ, List.set_cons_zero]
        refine wpQuiet_val (.pointer (some ⟨k, 7, none⟩)) rfl (fun w' hS => by (go_simp)) ?_
        simp only [Act.put, List.setIfInBounds_toArray, List.set_cons_succ, List.set_cons_zero]
        refine wpQuiet_val (.string K.typed) rfl (fun w' hS => by
            have e : w'.cell? ⟨k, 7, none⟩ = some (.string K.typed) := by rw [blk_cell (hS)]; rfl
            go_simp) ?_
        simp only [Act.put, List.setIfInBounds_toArray, List.set_cons_succ, List.set_cons_zero]
        go_big_quiet_step (fail)
        refine wpQuiet_val (.string (K.typed.extract 0 m)) rfl (fun w' hS => by (go_simp)) ?_
        simp only [Act.put, List.setIfInBounds_toArray, List.set_cons_succ, List.set_cons_zero]
        go_big_quiet_step (fail)
        refine wpQuiet_val (.pointer (some ⟨k, 0, none⟩)) rfl (fun w' hS => by (go_simp)) ?_
        simp only [Act.put, List.setIfInBounds_toArray, List.set_cons_succ, List.set_cons_zero]
        refine wpQuiet_val (.pointer (some ⟨k, 7, none⟩)) rfl (fun w' hS => by (go_simp)) ?_
        simp only [Act.put, List.setIfInBounds_toArray, List.set_cons_succ, List.set_cons_zero]
        refine wpQuiet_val (.string K.typed) rfl (fun w' hS => by
            have e : w'.cell? ⟨k, 7, none⟩ = some (.string K.typed) := by rw [blk_cell (hS)]; rfl
            go_simp) ?_
        simp only [Act.put, List.setIfInBounds_toArray, List.set_cons_succ, List.set_cons_zero]
        go_big_quiet_step (fail)
        refine wpQuiet_val (.string (K.typed.extract m K.typed.size)) rfl (fun w' hS => by (go_simp)) ?_
        simp only [Act.put, List.setIfInBounds_toArray, List.set_cons_succ, List.set_cons_zero]
        refine wpQuiet_val (.pointer (some ⟨a, 0, none⟩)) rfl (fun w' hS => by (go_simp)) ?_
        simp only [Act.put, List.setIfInBounds_toArray, List.set_cons_succ, List.set_cons_zero]
        refine wpQuiet_val (.pointer (some ⟨a, 8, none⟩)) rfl (fun w' hS => by (go_simp)) ?_
        simp only [Act.put, List.setIfInBounds_toArray, List.set_cons_succ, List.set_cons_zero]
        refine wpQuiet_val (.pointer (some ⟨a, 10, none⟩)) rfl (fun w' hS => by (go_simp)) ?_
        simp only [Act.put, List.setIfInBounds_toArray, List.set_cons_succ, List.set_cons_zero]
        refine wpQuiet_nil ?_
        refine tree_one' 17 (by kernel_rfl) (by decide) (by simp) rfl (fun Kc hK => ?_)
        simp only [List.getD_cons_zero, List.getD_cons_succ]
        go_wp2_with fail
        rw [← Hw3.out]
        refine hK _ _ k3 ?_
        clear hK Kc
        refine tree_end (by kernel_rfl) ?_
        try (simp only [List.map_cons, List.map_nil, List.getD_cons_zero, List.getD_cons_succ, List.drop_succ_cons, List.drop_zero])
        go_wp2_with fail
        go_ret
        exact hfin.out
      · have e1 := ba_nonempty (s := K.typed) (fun e => hz (by rw [← ba_len, e]; rfl))
        go_enter Tryz.func22, Tryz.ntmps22
        go_wp2_with fail
        refine hds.out.mono ?_
        rintro e w2 ⟨rfl, rfl⟩
        go_wp2_with fail
        refine hrd.out.mono ?_
        rintro e w2 ⟨rfl, rfl⟩
        go_upto_region 18 with (fail)
        refine region_tree (fun w' => w'.heap[k]? = some (.cells (kerC L K) 56 (0, 0))) [0, 1, 2, 3, 4, 5, 6, 7, 8, 9, 10, 11, 12, 13, 14, 15, 16] 1 18 (by kernel_rfl) (by kernel_rfl) (fun _ _ d _ _ h => by cases d <;> exact h) k1 ?_
        simp only [List.map_cons, List.map_nil, List.getD_cons_zero, List.getD_cons_succ, List.drop_succ_cons, List.drop_zero]
        generalize w2.drew = wd at *
        go_big_quiet_step (fail)
        go_big_quiet_step (fail)
        go_big_quiet_step (fail)
        refine wpQuiet_val (.pointer (some ⟨k, 0, none⟩)) rfl (fun w' hS => by (go_simp)) ?_
        simp only [Act.put, List.setIfInBounds_toArray, List.set_cons_succ, List.set_cons_zero]
        refine wpQuiet_val (.pointer (some ⟨k, 7, none⟩)) rfl (fun w' hS => by (go_simp)) ?_
        simp only [Act.put, List.setIfInBounds_toArray, List.set_cons_succ, List.set_cons_zero]
        refine wpQuiet_val (.string K.typed) rfl (fun w' hS => by
            have e : w'.cell? ⟨k, 7, none⟩ = some (.string K.typed) := by rw [blk_cell (hS)]; rfl
            go_simp) ?_
        simp only [Act.put, List.setIfInBounds_toArray, List.set_cons_succ, List.set_cons_zero]
        go_big_quiet_step (fail)
        refine wpQuiet_val (.string (K.typed.extract 0 m)) rfl (fun w' hS => by (go_simp)) ?_
        simp only [Act.put, List.setIfInBounds_toArray, List.set_cons_succ, List.set_cons_zero]
        go_big_quiet_step (fail)
        refine wpQuiet_val (.pointer (some ⟨k, 0, none⟩)) rfl (fun w' hS => by (go_simp)) ?_
        simp only [Act.put, List.setIfInBounds_toArray, List.set_cons_succ, List.set_cons_zero]
        refine wpQuiet_val (.pointer (some ⟨k, 7, none⟩)) rfl (fun w' hS => by (go_simp)) ?_
        simp only [Act.put, List.setIfInBounds_toArray, List.set_cons_succ, List.set_cons_zero]
        refine wpQuiet_val (.string K.typed) rfl (fun w' hS => by
            have e : w'.cell? ⟨k, 7, none⟩ = some (.string K.typed) := by rw [blk_cell (hS)]; rfl
            go_simp) ?_
        simp only [Act.put, List.setIfInBounds_toArray, List.set_cons_succ, List.set_cons_zero]
        go_big_quiet_step (fail)
        refine wpQuiet_val (.string (K.typed.extract m K.typed.size)) rfl (fun w' hS => by (go_simp)) ?_
        simp only [Act.put, List.setIfInBounds_toArray, List.set_cons_succ, List.set_cons_zero]
        refine wpQuiet_val (.pointer (some ⟨a, 0, none⟩)) rfl (fun w' hS => by (go_simp)) ?_
        simp only [Act.put, List.setIfInBounds_toArray, List.set_cons_succ, List.set_cons_zero]
        refine wpQuiet_val (.pointer (some ⟨a, 8, none⟩)) rfl (fun w' hS => by (go_simp)) ?_
        simp only [Act.put, List.setIfInBounds_toArray, List.set_cons_succ, List.set_cons_zero]
        refine wpQuiet_val (.pointer (some ⟨a, 10, none⟩)) rfl (fun w' hS => by (go_simp)) ?_
        simp only [Act.put, List.setIfInBounds_toArray, List.set_cons_succ, List.set_cons_zero]
        refine wpQuiet_nil ?_
        refine tree_one' 17 (by kernel_rfl) (by decide) (by simp) rfl (fun Kc hK => ?_)
        simp only [List.getD_cons_zero, List.getD_cons_succ]
        go_wp2_with fail
        rw [← Hw3.out]
        refine hK _ _ k3 ?_
        clear hK Kc
        refine tree_end (by kernel_rfl) ?_
        try (simp only [List.map_cons, List.map_nil, List.getD_cons_zero, List.getD_cons_succ, List.drop_succ_cons, List.drop_zero])
        go_wp2_with fail
        go_ret
        exact hfin.out
set_option maxRecDepth 100000 in
set_option maxHeartbeats 1000000 in
theorem aread_fil (w : World) (k : Nat) (K : KQ) (L : KLay) (h : KF w k K L) (N : Nat) (hok : KOk K N) (_hN : N ≤ 1000000) (i : Nat) (h1 : 1 ≤ i) (h2 : i ≤ K.qn) (a : Nat) (c : SysQ) (hc : -9223372036854775808 ≤ c.b ∧ c.b ≤ 9223372036854775807) (ha : AskAt w a k (L.qb i) c noResV) (hao : L.o a = none) (j : Nat) (hf : fdQ K i c.a = some j) (hr : (K.desc j).reads = true) (hb : 0 ≤ c.b) (hk : (K.desc j).kind = 2) : Calls Tryz.prog 22 #[ptrAt a] w (KaskPost w k K L i a c (readQ K i c.a c.b)) := by
  obtain ⟨j1, j2⟩ := fdQ_ok hok.fds h1 h2 hf
  have hdo := hok.desc j j1 j2
  have c3 : w.cell? ⟨a, 3, none⟩ = some (.int .i64 c.a) := by rw [blk_cell ha]; rfl
  have c4 : w.cell? ⟨a, 4, none⟩ = some (.int .i64 c.b) := by rw [blk_cell ha]; rfl
  have hds := hide (adesc_any w k K L h i h1 h2 a c noResV ha c.a)
  rw [hf] at hds
  have A1 := ask_err ha 0
  have F1 := h.ask hao 17 (.int .i64 0)
  have hfr1 := fr_ask (L := L) w a 17 (.int .i64 0)
  obtain ⟨w1, hw1⟩ : ∃ w1, w1 = w.setCell ⟨a, 17, none⟩ (.int .i64 0) := ⟨_, rfl⟩
  have hds' : Calls Tryz.prog 43 #[ptrAt a, .int .i64 c.a] w fun e w' => e = .returned (.pointer (some ⟨L.db j, 0, none⟩)) ∧ w' = w1 := by rw [hw1]; exact hds.out
  have hds := hide hds'
  rw [← hw1] at A1 F1 hfr1
  have hD1 := F1.hd j j1 j2
  have hrd := hide (dreads_any w1 (L.db j) L j (K.desc j) hD1 hdo.kind hdo.flg)
  have a4 : w1.cell? ⟨a, 4, none⟩ = some (.int .i64 c.b) := by rw [blk_cell A1]; rfl
  have a0 : w1.cell? ⟨a, 0, none⟩ = some (.pointer (some ⟨k, 0, none⟩)) := by rw [blk_cell A1]; rfl
  have a17 : w1.cell? ⟨a, 17, none⟩ = some (.int .i64 0) := by rw [blk_cell A1]; rfl
  have z17 : w1.frozen? ⟨a, 17, none⟩ = false := blk_frozen A1 _
  have d0 : w1.cell? ⟨L.db j, 0, none⟩ = some (.int .i64 (K.desc j).kind) := by rw [blk_cell hD1]; rfl
  clear hw1 hds'
  rw [hr] at hrd
  have hb' : ¬ c.b < 0 := by omega
  have hq : readQ K i c.a c.b = (false, { noRes with s := ⟨(readB K.σ (K.desc j).n (K.desc j).pos c.b).toArray⟩, err := readE K.σ (K.desc j).n (K.desc j).pos c.b }, K.setD j { K.desc j with pos := (K.desc j).pos + (readB K.σ (K.desc j).n (K.desc j).pos c.b).length }) := by
    unfold readQ
    rw [hf]
    simp only
    rw [if_neg (by rw [hr]; simp), if_neg hb', if_neg (by rw [hk]; decide), if_pos hk]
  rw [hq]
  obtain ⟨pf, hpf⟩ := F1.files
  have hnum := hdo.num
  have hpos := hdo.pos (by rw [hk]; decide)
  have hread := Read_any w1.drew L.f K.σ _ pf (hpf.frame (Fr.refl (fun _ => False) w1).drew (fun _ _ _ e => e)) (K.desc j).n (K.desc j).pos c.b (by omega) (by omega) hc
  have hre11 : (readE K.σ (K.desc j).n (K.desc j).pos c.b == 11) = false := by
    unfold readE fileE
    cases K.σ.ndI (K.desc j).n with
    | none => rfl
    | some nd =>
      simp only
      cases nd.d <;> simp <;> split <;> decide
  have hlen : (readB K.σ (K.desc j).n (K.desc j).pos c.b).length ≤ 65536 := by
    unfold readB
    split
    · exact Nat.zero_le _
    · refine Nat.le_trans (List.length_take_le' _ _) (Nat.le_trans (by rw [List.length_drop]; exact Nat.sub_le _ _) ?_)
      unfold dataI
      cases hn : K.σ.ndI (K.desc j).n with
      | none => exact Nat.zero_le _
      | some nd =>
        obtain ⟨x, _, hx⟩ := ndI_some hn
        exact Nat.le_trans (byts_nd hx) hok.good.live.byts
  obtain ⟨rs, hrs⟩ : ∃ rs : ByteArray, rs = ⟨(readB K.σ (K.desc j).n (K.desc j).pos c.b).toArray⟩ := ⟨_, rfl⟩
  have hsz : rs.size = (readB K.σ (K.desc j).n (K.desc j).pos c.b).length := by rw [hrs]; simp [ByteArray.size]
  rw [← hrs] at hread
  rw [← hrs, ← hsz]
  rw [← hsz] at hlen
  generalize readE K.σ (K.desc j).n (K.desc j).pos c.b = re at *
  have A1d : AskAt w1.drew a k (L.qb i) c { noResV with err := 0 } := A1
  have F1d : KF w1.drew k K L := F1.quiet (Fr.refl _ _).drew
  have hak : k ≠ a := ask_ne hao h.ok
  have hda : L.db j ≠ a := ask_ne hao (h.od j j1 j2)
  have s1 : w1.drew.cell? ⟨a, 0, none⟩ = some (.pointer (some ⟨k, 0, none⟩)) ∧ w1.drew.heap[k]? = some (.cells (kerC L K) 56 (0, 0)) ∧ w1.drew.heap[L.db j]? = some (.cells (descC L j (K.desc j)) 72 (0, 0)) := ⟨a0, F1.hk, hD1⟩
  have HA2 := hide (show ∀ w2, Fr (fun _ => False) w1.drew w2 → AskAt w2 a k (L.qb i) c { noResV with err := 0 } from fun w2 hf => hf.get A1d (fun e => e))
  have HF2 := hide (show ∀ w2, Fr (fun _ => False) w1.drew w2 → KF w2 k K L from fun w2 hf => F1d.quiet hf)
  have hS2 := hide (show ∀ w2, Fr (fun _ => False) w1.drew w2 → w2.cell? ⟨a, 0, none⟩ = some (.pointer (some ⟨k, 0, none⟩)) ∧ w2.heap[k]? = some (.cells (kerC L K) 56 (0, 0)) ∧ w2.heap[L.db j]? = some (.cells (descC L j (K.desc j)) 72 (0, 0)) from fun w2 hf =>
    ⟨by rw [blk_cell (HA2.out w2 hf)]; rfl, (HF2.out w2 hf).hk, (HF2.out w2 hf).hd j j1 j2⟩)
  have HA3 := hide (show ∀ w2 w3, Fr (fun _ => False) w1.drew w2 → w3 = w2.setCell ⟨a, 10, none⟩ (.string rs) → AskAt w3 a k (L.qb i) c { noResV with err := 0, s := rs } from fun w2 w3 hf e => by rw [e]; exact ask_s (HA2.out w2 hf) rs)
  have HF3 := hide (show ∀ w2 w3, Fr (fun _ => False) w1.drew w2 → w3 = w2.setCell ⟨a, 10, none⟩ (.string rs) → KF w3 k K L from fun w2 w3 hf e => by rw [e]; exact (HF2.out w2 hf).ask hao 10 _)
  have hS3 := hide (show ∀ w2 w3, Fr (fun _ => False) w1.drew w2 → w3 = w2.setCell ⟨a, 10, none⟩ (.string rs) → w3.cell? ⟨a, 0, none⟩ = some (.pointer (some ⟨k, 0, none⟩)) ∧ w3.heap[k]? = some (.cells (kerC L K) 56 (0, 0)) ∧ w3.heap[L.db j]? = some (.cells (descC L j (K.desc j)) 72 (0, 0)) from fun w2 w3 hf e =>
    ⟨by rw [blk_cell (HA3.out w2 w3 hf e)]; rfl, (HF3.out w2 w3 hf e).hk, (HF3.out w2 w3 hf e).hd j j1 j2⟩)
  have Hfr1 := hide (show Fr (fun b => L.o b ≠ none ∨ b = a) w w1.drew from hfr1.drew)
  have hread := hide hread
  have Hold := hide (show L.o (L.db j) ≠ none by rw [h.od j j1 j2]; simp)
  rw [hk] at d0
  have hov : ¬ (9223372036854775807 < ((K.desc j).pos : Int) + (rs.size : Int)) := by omega
  clear h ha hq A1 F1 hfr1 hD1 hdo hok A1d F1d hpf hnum hpos hrs hsz hlen hf a17 z17
  unfold ptrAt at *
  go_enter Tryz.func22, Tryz.ntmps22
  go_wp2_with fail
  refine hds.out.mono ?_
  rintro e w2 ⟨rfl, rfl⟩
  go_wp2_with fail
  refine hrd.out.mono ?_
  rintro e w2 ⟨rfl, rfl⟩
  go_upto_region 20 with (fail)
  refine region_tree (fun w' => w'.cell? ⟨a, 0, none⟩ = some (.pointer (some ⟨k, 0, none⟩)) ∧ w'.heap[k]? = some (.cells (kerC L K) 56 (0, 0)) ∧ w'.heap[L.db j]? = some (.cells (descC L j (K.desc j)) 72 (0, 0))) [0, 1, 2, 3, 4, 5, 6, 7, 8, 9, 10, 11, 12, 13, 14, 15, 16, 17, 18, 19] 8 28 (by kernel_rfl) (by kernel_rfl) (fun _ _ d _ _ h => by cases d <;> exact h) s1 ?_
  simp only [List.map_cons, List.map_nil, List.getD_cons_zero, List.getD_cons_succ, List.drop_succ_cons, List.drop_zero]
  generalize w2.drew = wd at *
  go_big_quiet_step (fail)
  go_big_quiet_step (fail)
  go_big_quiet_step (fail)
  refine wpQuiet_val (.pointer (some ⟨a, 0, none⟩)) rfl (fun w' hS => by (go_simp)) ?_
  simp only [Act.put, List.setIfInBounds_toArray, List.set_cons_succ, List.set_cons_zero]
  refine wpQuiet_val (.pointer (some ⟨a, 0, none⟩)) rfl (fun w' hS => by (go_simp)) ?_
  simp only [Act.put, List.setIfInBounds_toArray, List.set_cons_succ, List.set_cons_zero]
  refine wpQuiet_val (.pointer (some ⟨k, 0, none⟩)) rfl (fun w' hS => by
      have e : w'.cell? ⟨a, 0, none⟩ = some (.pointer (some ⟨k, 0, none⟩)) := hS.1
      go_simp) ?_
  simp only [Act.put, List.setIfInBounds_toArray, List.set_cons_succ, List.set_cons_zero]
  refine wpQuiet_val (.pointer (some ⟨k, 0, none⟩)) rfl (fun w' hS => by (go_simp)) ?_
  simp only [Act.put, List.setIfInBounds_toArray, List.set_cons_succ, List.set_cons_zero]
  refine wpQuiet_val (.pointer (some ⟨k, 0, none⟩)) rfl (fun w' hS => by (go_simp)) ?_
  simp only [Act.put, List.setIfInBounds_toArray, List.set_cons_succ, List.set_cons_zero]
  refine wpQuiet_val (.pointer (some ⟨L.f, 0, none⟩)) rfl (fun w' hS => by
      have e : w'.cell? ⟨k, 0, none⟩ = some (.pointer (some ⟨L.f, 0, none⟩)) := by rw [blk_cell (hS.2.1)]; rfl
      go_simp) ?_
  simp only [Act.put, List.setIfInBounds_toArray, List.set_cons_succ, List.set_cons_zero]
  go_big_quiet_step (fail)
  refine wpQuiet_val (.pointer (some ⟨L.db j, 0, none⟩)) rfl (fun w' hS => by (go_simp)) ?_
  simp only [Act.put, List.setIfInBounds_toArray, List.set_cons_succ, List.set_cons_zero]
  refine wpQuiet_val (.pointer (some ⟨L.db j, 0, none⟩)) rfl (fun w' hS => by (go_simp)) ?_
  simp only [Act.put, List.setIfInBounds_toArray, List.set_cons_succ, List.set_cons_zero]
  refine wpQuiet_val (.pointer (some ⟨L.db j, 1, none⟩)) rfl (fun w' hS => by (go_simp)) ?_
  simp only [Act.put, List.setIfInBounds_toArray, List.set_cons_succ, List.set_cons_zero]
  refine wpQuiet_val (.int .i64 (K.desc j).n) rfl (fun w' hS => by
      have e : w'.cell? ⟨L.db j, 1, none⟩ = some (.int .i64 (K.desc j).n) := by rw [blk_cell (hS.2.2)]; rfl
      go_simp) ?_
  simp only [Act.put, List.setIfInBounds_toArray, List.set_cons_succ, List.set_cons_zero]
  go_big_quiet_step (fail)
  refine wpQuiet_val (.pointer (some ⟨L.db j, 0, none⟩)) rfl (fun w' hS => by (go_simp)) ?_
  simp only [Act.put, List.setIfInBounds_toArray, List.set_cons_succ, List.set_cons_zero]
  refine wpQuiet_val (.pointer (some ⟨L.db j, 0, none⟩)) rfl (fun w' hS => by (go_simp)) ?_
  simp only [Act.put, List.setIfInBounds_toArray, List.set_cons_succ, List.set_cons_zero]
  refine wpQuiet_val (.pointer (some ⟨L.db j, 2, none⟩)) rfl (fun w' hS => by (go_simp)) ?_
  simp only [Act.put, List.setIfInBounds_toArray, List.set_cons_succ, List.set_cons_zero]
  refine wpQuiet_val (.int .i64 (K.desc j).pos) rfl (fun w' hS => by
      have e : w'.cell? ⟨L.db j, 2, none⟩ = some (.int .i64 (K.desc j).pos) := by rw [blk_cell (hS.2.2)]; rfl
      go_simp) ?_
  simp only [Act.put, List.setIfInBounds_toArray, List.set_cons_succ, List.set_cons_zero]
  go_big_quiet_step (fail)
  refine wpQuiet_nil ?_
  refine tree_one' 20 (by kernel_rfl) (by decide) (by simp) rfl (fun Kc hK => ?_)
  simp only [List.getD_cons_zero, List.getD_cons_succ]
  go_wp2_with fail
  refine hread.out.mono ?_
  rintro e w2 ⟨rfl, hf2⟩
  have s2 := hS2.out w2 hf2
  have Hf2 := hide hf2
  refine hK _ _ s2 ?_
  clear hK Kc hf2
  refine tree_heads (f := 1) [21, 22, 23, 24, 25, 26] (by kernel_rfl) (fun _ _ d _ _ h => by cases d <;> exact h) s2 ?_
  simp only [List.map_cons, List.map_nil, List.getD_cons_zero, List.getD_cons_succ]
  go_big_quiet_step (fail)
  refine wpQuiet_val (.string rs) rfl (fun w' hS => by (go_simp)) ?_
  simp only [Act.put, List.setIfInBounds_toArray, List.set_cons_succ, List.set_cons_zero]
  refine wpQuiet_val (.int .i64 re) rfl (fun w' hS => by (go_simp)) ?_
  simp only [Act.put, List.setIfInBounds_toArray, List.set_cons_succ, List.set_cons_zero]
  refine wpQuiet_val (.pointer (some ⟨a, 0, none⟩)) rfl (fun w' hS => by (go_simp)) ?_
  simp only [Act.put, List.setIfInBounds_toArray, List.set_cons_succ, List.set_cons_zero]
  refine wpQuiet_val (.pointer (some ⟨a, 8, none⟩)) rfl (fun w' hS => by (go_simp)) ?_
  simp only [Act.put, List.setIfInBounds_toArray, List.set_cons_succ, List.set_cons_zero]
  refine wpQuiet_val (.pointer (some ⟨a, 10, none⟩)) rfl (fun w' hS => by (go_simp)) ?_
  simp only [Act.put, List.setIfInBounds_toArray, List.set_cons_succ, List.set_cons_zero]
  refine wpQuiet_nil ?_
  refine tree_one' 27 (by kernel_rfl) (by decide) (by simp) rfl (fun Kc hK => ?_)
  simp only [List.getD_cons_zero, List.getD_cons_succ]
  have t10 : w2.cell? ⟨a, 10, none⟩ = some (.string noBy) := by rw [blk_cell (HA2.out w2 Hf2.out)]; rfl
  have z10 : w2.frozen? ⟨a, 10, none⟩ = false := blk_frozen (HA2.out w2 Hf2.out) _
  go_wp2_with fail
  obtain ⟨w3, hw3⟩ : ∃ w3, w3 = w2.setCell ⟨a, 10, none⟩ (.string rs) := ⟨_, rfl⟩
  rw [← hw3]
  have s3 := hS3.out w2 w3 Hf2.out hw3
  have Hw3 := hide hw3
  refine hK _ _ s3 ?_
  clear hK Kc hw3 t10 z10 s2
  refine tree_end (by kernel_rfl) ?_
  try (simp only [List.map_cons, List.map_nil, List.getD_cons_zero, List.getD_cons_succ, List.drop_succ_cons, List.drop_zero])
  have A3 := HA3.out _ _ Hf2.out Hw3.out
  have F3 := HF3.out _ _ Hf2.out Hw3.out
  have t17 : w3.cell? ⟨a, 17, none⟩ = some (.int .i64 0) := by rw [blk_cell A3]; rfl
  have z17 : w3.frozen? ⟨a, 17, none⟩ = false := blk_frozen A3 _
  obtain ⟨w4, hw4⟩ : ∃ w4, w4 = w3.setCell ⟨a, 17, none⟩ (.int .i64 re) := ⟨_, rfl⟩
  have A4 : AskAt w4.drew a k (L.qb i) c { noResV with err := re, s := rs } := by rw [hw4]; exact ask_err A3 re
  have F4 : KF w4.drew k K L := by rw [hw4]; exact (F3.ask hao 17 _).quiet (Fr.refl _ _).drew
  have hD4 := F4.hd j j1 j2
  have s4 : w4.drew.cell? ⟨a, 10, none⟩ = some (.string rs) ∧ w4.drew.heap[L.db j]? = some (.cells (descC L j (K.desc j)) 72 (0, 0)) := ⟨by rw [blk_cell A4]; rfl, hD4⟩
  have t2 : w4.drew.cell? ⟨L.db j, 2, none⟩ = some (.int .i64 (K.desc j).pos) := by rw [blk_cell hD4]; rfl
  have z2 : w4.drew.frozen? ⟨L.db j, 2, none⟩ = false := blk_frozen hD4 _
  have hD5 : (w4.drew.setCell ⟨L.db j, 2, none⟩ (.int .i64 ((K.desc j).pos + rs.size))).heap[L.db j]? = some (.cells (descC L j { K.desc j with pos := (K.desc j).pos + rs.size }) 72 (0, 0)) := by rw [blk_set hD4]; rfl
  have F5 := F4.descU j1 j2 ((Fr.refl (fun b => b = L.db j) w4.drew).setCell (p := ⟨L.db j, 2, none⟩) (.inl rfl) (.int .i64 ((K.desc j).pos + rs.size))) hD5 rfl
  have A5 : AskAt (w4.drew.setCell ⟨L.db j, 2, none⟩ (.int .i64 ((K.desc j).pos + rs.size))) a k (L.qb i) c { noResV with err := re, s := rs } := blk_set_other A4 _ _ (Ne.symm hda)
  have e5 : (w4.drew.setCell ⟨L.db j, 2, none⟩ (.int .i64 ((K.desc j).pos + rs.size))).cell? ⟨a, 17, none⟩ = some (.int .i64 re) := by rw [blk_cell A5]; rfl
  have hfr3 : Fr (fun b => L.o b ≠ none ∨ b = a) w w3 := by rw [Hw3.out]; exact (Hfr1.out.trans (Hf2.out.mono fun _ _ e => e.elim)).trans (fr_ask (L := L) _ a 10 _)
  have hfr4 : Fr (fun b => L.o b ≠ none ∨ b = a) w w4.drew := by rw [hw4]; exact (hfr3.trans (fr_ask (L := L) w3 a 17 _)).drew
  have hfr5 := hfr4.setCell (p := ⟨L.db j, 2, none⟩) (.inl (.inl Hold.out)) (.int .i64 ((K.desc j).pos + rs.size))
  have hfin := hide (show KaskPost w k K L i a c (false, { noRes with s := rs, err := re }, K.setD j { K.desc j with pos := (K.desc j).pos + rs.size }) (.returned (.bool false)) (w4.drew.setCell ⟨L.db j, 2, none⟩ (.int .i64 ((K.desc j).pos + rs.size))) from ⟨rfl, L, F5, ⟨rfl, Nat.le_refl _, Nat.le_refl _, Nat.le_refl _, fun _ _ _ => rfl, fun _ _ _ => rfl, fun _ _ _ => rfl, fun _ _ _ => rfl, fun _ _ e => e⟩, hfr5, fun _ e => .inl e, _, A5, fun _ => rfl⟩)
  have Hw4 := hide hw4
  clear A3 F3 A4 F4 hD4 hD5 F5 A5 hfr3 hfr4 hfr5 hw4 Hf2 Hw3 s3 HA2 HA3 HF2 HF3 hS2 hS3 Hfr1 hak hda
  go_upto_region 21 with (fail)
  rw [← Hw4.out]
  clear Hw4 t17 z17
  refine region_tree (fun w' => w'.cell? ⟨a, 10, none⟩ = some (.string rs) ∧ w'.heap[L.db j]? = some (.cells (descC L j (K.desc j)) 72 (0, 0))) [0, 1, 2, 3, 4, 5, 6, 7, 8, 9] 1 11 (by kernel_rfl) (by kernel_rfl) (fun _ _ d _ _ h => by cases d <;> exact h) s4 ?_
  simp only [List.map_cons, List.map_nil, List.getD_cons_zero, List.getD_cons_succ, List.drop_succ_cons, List.drop_zero]
  generalize w4.drew = wd at *
  go_big_quiet_step (fail)
  refine wpQuiet_val (.pointer (some ⟨L.db j, 0, none⟩)) rfl (fun w' hS => by (go_simp)) ?_
  simp only [Act.put, List.setIfInBounds_toArray, List.set_cons_succ, List.set_cons_zero]
  refine wpQuiet_val (.pointer (some ⟨L.db j, 0, none⟩)) rfl (fun w' hS => by (go_simp)) ?_
  simp only [Act.put, List.setIfInBounds_toArray, List.set_cons_succ, List.set_cons_zero]
  refine wpQuiet_val (.pointer (some ⟨L.db j, 2, none⟩)) rfl (fun w' hS => by (go_simp)) ?_
  simp only [Act.put, List.setIfInBounds_toArray, List.set_cons_succ, List.set_cons_zero]
  refine wpQuiet_val (.int .i64 (K.desc j).pos) rfl (fun w' hS => by
      have e : w'.cell? ⟨L.db j, 2, none⟩ = some (.int .i64 (K.desc j).pos) := by rw [blk_cell (hS.2)]; rfl
      go_simp) ?_
  simp only [Act.put, List.setIfInBounds_toArray, List.set_cons_succ, List.set_cons_zero]
  go_big_quiet_step (fail)
  refine wpQuiet_val (.pointer (some ⟨a, 0, none⟩)) rfl (fun w' hS => by (go_simp)) ?_
  simp only [Act.put, List.setIfInBounds_toArray, List.set_cons_succ, List.set_cons_zero]
  refine wpQuiet_val (.pointer (some ⟨a, 8, none⟩)) rfl (fun w' hS => by (go_simp)) ?_
  simp only [Act.put, List.setIfInBounds_toArray, List.set_cons_succ, List.set_cons_zero]
  refine wpQuiet_val (.pointer (some ⟨a, 10, none⟩)) rfl (fun w' hS => by (go_simp)) ?_
  simp only [Act.put, List.setIfInBounds_toArray, List.set_cons_succ, List.set_cons_zero]
  refine wpQuiet_val (.string rs) rfl (fun w' hS => by
      have e : w'.cell? ⟨a, 10, none⟩ = some (.string rs) := hS.1
      go_simp) ?_
  simp only [Act.put, List.setIfInBounds_toArray, List.set_cons_succ, List.set_cons_zero]
  refine wpQuiet_nil ?_
  refine tree_one' 10 (by kernel_rfl) (by decide) (by simp) rfl (fun Kc hK => ?_)
  simp only [List.getD_cons_zero, List.getD_cons_succ]
  go_wp2_with fail
  refine hK _ _ s4 ?_
  clear hK Kc
  refine tree_end (by kernel_rfl) ?_
  try (simp only [List.map_cons, List.map_nil, List.getD_cons_zero, List.getD_cons_succ, List.drop_succ_cons, List.drop_zero])
  go_wp2_with fail
  go_ret
  exact hfin.out
set_option maxRecDepth 100000 in
set_option maxHeartbeats 1000000 in
theorem aread_pip (w : World) (k : Nat) (K : KQ) (L : KLay) (h : KF w k K L) (N : Nat) (hok : KOk K N) (_hN : N ≤ 1000000) (i : Nat) (h1 : 1 ≤ i) (h2 : i ≤ K.qn) (a : Nat) (c : SysQ) (hc : -9223372036854775808 ≤ c.b ∧ c.b ≤ 9223372036854775807) (ha : AskAt w a k (L.qb i) c noResV) (hao : L.o a = none) (j : Nat) (hf : fdQ K i c.a = some j) (hr : (K.desc j).reads = true) (hb : 0 ≤ c.b) (hk : (K.desc j).kind = 3) : Calls Tryz.prog 22 #[ptrAt a] w (KaskPost w k K L i a c (readQ K i c.a c.b)) := by
  obtain ⟨j1, j2⟩ := fdQ_ok hok.fds h1 h2 hf
  have hdo := hok.desc j j1 j2
  have c3 : w.cell? ⟨a, 3, none⟩ = some (.int .i64 c.a) := by rw [blk_cell ha]; rfl
  have c4 : w.cell? ⟨a, 4, none⟩ = some (.int .i64 c.b) := by rw [blk_cell ha]; rfl
  have hds := hide (adesc_any w k K L h i h1 h2 a c noResV ha c.a)
  rw [hf] at hds
  have A1 := ask_err ha 0
  have F1 := h.ask hao 17 (.int .i64 0)
  have hfr1 := fr_ask (L := L) w a 17 (.int .i64 0)
  obtain ⟨w1, hw1⟩ : ∃ w1, w1 = w.setCell ⟨a, 17, none⟩ (.int .i64 0) := ⟨_, rfl⟩
  have hds' : Calls Tryz.prog 43 #[ptrAt a, .int .i64 c.a] w fun e w' => e = .returned (.pointer (some ⟨L.db j, 0, none⟩)) ∧ w' = w1 := by rw [hw1]; exact hds.out
  have hds := hide hds'
  rw [← hw1] at A1 F1 hfr1
  have hD1 := F1.hd j j1 j2
  have hrd := hide (dreads_any w1 (L.db j) L j (K.desc j) hD1 hdo.kind hdo.flg)
  have a4 : w1.cell? ⟨a, 4, none⟩ = some (.int .i64 c.b) := by rw [blk_cell A1]; rfl
  have a0 : w1.cell? ⟨a, 0, none⟩ = some (.pointer (some ⟨k, 0, none⟩)) := by rw [blk_cell A1]; rfl
  have a17 : w1.cell? ⟨a, 17, none⟩ = some (.int .i64 0) := by rw [blk_cell A1]; rfl
  have z17 : w1.frozen? ⟨a, 17, none⟩ = false := blk_frozen A1 _
  have d0 : w1.cell? ⟨L.db j, 0, none⟩ = some (.int .i64 (K.desc j).kind) := by rw [blk_cell hD1]; rfl
  clear hw1 hds'
  rw [hr] at hrd
  have hb' : ¬ c.b < 0 := by omega
  obtain ⟨p1, p2⟩ := hdo.pip (.inl hk)
  obtain ⟨fm, cs, hP⟩ := F1.hp _ p1 p2
  have hread := pread_any (L.pb (K.desc j).n) (L.lb (K.desc j).n) 64 _ _ _ w1 ⟨fm, cs, hP⟩ c.b hc.2
  unfold ReadPost at hread
  have hpa : L.pb (K.desc j).n ≠ a := ask_ne hao (h.op _ p1 p2).1
  have d5 : w1.cell? ⟨L.db j, 5, none⟩ = some (.pointer (some ⟨L.pb (K.desc j).n, 0, none⟩)) := by
    rw [blk_cell hD1]
    show some (pipeV L (K.desc j)) = _
    unfold pipeV
    rw [if_pos (.inl hk)]
    rfl
  rw [hk] at d0
  by_cases hw : 0 < c.b ∧ (K.pipe (K.desc j).n).data = [] ∧ 0 < (K.pipe (K.desc j).n).x
  · have hq : readQ K i c.a c.b = (true, noRes, K) := by
      unfold readQ
      rw [hf]
      simp only
      rw [if_neg (by rw [hr]; simp), if_neg hb', if_neg (by rw [hk]; decide), if_neg (by rw [hk]; decide), if_neg (by rw [hk]; decide), if_pos hw]
    rw [hq]
    have hre : rdE (K.pipe (K.desc j).n).data (K.pipe (K.desc j).n).x c.b = 11 := by unfold rdE; rw [if_neg hb', if_pos hw]
    have hrs : rdS (K.pipe (K.desc j).n).data (K.pipe (K.desc j).n).x c.b = [] := by unfold rdS; rw [if_neg hb', if_pos hw]
    rw [hre, hrs] at hread
    have hread := hide hread
    obtain ⟨rs, hrse⟩ : ∃ rs : ByteArray, rs = ⟨(([] : List UInt8)).toArray⟩ := ⟨_, rfl⟩
    rw [← hrse] at hread
    have Hpost := hide (show ∀ w2, Fr (fun q => q = L.pb (K.desc j).n) w1 w2 → PipeAt w2 (L.pb (K.desc j).n) (L.lb (K.desc j).n) 64 ((K.pipe (K.desc j).n).data.drop (([] : List UInt8)).length) (K.pipe (K.desc j).n).r (K.pipe (K.desc j).n).x →
        (AskAt w2 a k (L.qb i) c { noResV with err := 0 } ∧ KaskPost w k K L i a c (true, noRes, K) (.returned (.bool true)) ((w2.setCell ⟨a, 10, none⟩ (.string rs)).setCell ⟨a, 17, none⟩ (.int .i64 11))) from fun w2 hf hA => by
      obtain ⟨fm2, cs2, hA⟩ := hA
      have A2 : AskAt w2 a k (L.qb i) c { noResV with err := 0 } := hf.get A1 (Ne.symm hpa)
      have F2 := F1.pipeU p1 p2 (p := { K.pipe (K.desc j).n with data := (K.pipe (K.desc j).n).data.drop (([] : List UInt8)).length }) (hf.mono fun b _ e => .inl e) hA rfl
      have F4 := (F2.ask hao 10 (.string rs)).ask hao 17 (.int .i64 11)
      refine ⟨A2, rfl, L, ?_, ⟨rfl, Nat.le_refl _, Nat.le_refl _, Nat.le_refl _, fun _ _ _ => rfl, fun _ _ _ => rfl, fun _ _ _ => rfl, fun _ _ _ => rfl, fun _ _ e => e⟩, ((hfr1.trans (hf.mono fun b _ e => .inl (by rw [e, (h.op _ p1 p2).1]; simp))).trans (fr_ask (L := L) w2 a 10 _)).trans (fr_ask (L := L) _ a 17 _), fun _ e => .inl e, _, ask_err (ask_s A2 rs) 11, ?_⟩
      · rw [show K = K.setP (K.desc j).n { K.pipe (K.desc j).n with data := (K.pipe (K.desc j).n).data.drop ([] : List UInt8).length } from (setP_same K _).symm]; exact F4
      · exact fun e => (by cases e))
    clear h ha hq A1 F1 hfr1 hD1 hdo hok hf hP p1 p2 hre hrs hw hrse
    unfold ptrAt at *
    go_enter Tryz.func22, Tryz.ntmps22
    go_wp2_with fail
    refine hds.out.mono ?_
    rintro e w2 ⟨rfl, rfl⟩
    go_wp2_with fail
    refine hrd.out.mono ?_
    rintro e w2 ⟨rfl, rfl⟩
    go_wp2_with fail
    refine hread.out.mono ?_
    rintro e w3 ⟨rfl, hA, hf3⟩
    obtain ⟨A3, hp⟩ := Hpost.out w3 hf3 hA
    have t10 : w3.cell? ⟨a, 10, none⟩ = some (.string noBy) := by rw [blk_cell A3]; rfl
    have z10 : w3.frozen? ⟨a, 10, none⟩ = false := blk_frozen A3 _
    have t17 : (w3.setCell ⟨a, 10, none⟩ (.string rs)).cell? ⟨a, 17, none⟩ = some (.int .i64 0) := by rw [blk_cell (ask_s A3 rs)]; rfl
    have z17 : (w3.setCell ⟨a, 10, none⟩ (.string rs)).frozen? ⟨a, 17, none⟩ = false := blk_frozen (ask_s A3 rs) _
    have e17 : ((w3.setCell ⟨a, 10, none⟩ (.string rs)).setCell ⟨a, 17, none⟩ (.int .i64 11)).cell? ⟨a, 17, none⟩ = some (.int .i64 11) := by rw [blk_cell (ask_err (ask_s A3 rs) 11)]; rfl
    have hfin := hide hp
    clear hA hf3 A3 hp Hpost a17
    go_wp2_with fail
    go_ret
    exact hfin.out
  · have hq : readQ K i c.a c.b = (false, { noRes with s := ⟨((K.pipe (K.desc j).n).data.take c.b.toNat).toArray⟩ }, K.setP (K.desc j).n (takeP (K.pipe (K.desc j).n) c.b.toNat)) := by
      unfold readQ
      rw [hf]
      simp only
      rw [if_neg (by rw [hr]; simp), if_neg hb', if_neg (by rw [hk]; decide), if_neg (by rw [hk]; decide), if_neg (by rw [hk]; decide), if_neg hw]
    rw [hq]
    have hre : rdE (K.pipe (K.desc j).n).data (K.pipe (K.desc j).n).x c.b = 0 := by unfold rdE; rw [if_neg hb', if_neg hw]
    have hrs : rdS (K.pipe (K.desc j).n).data (K.pipe (K.desc j).n).x c.b = (K.pipe (K.desc j).n).data.take c.b.toNat := by unfold rdS; rw [if_neg hb', if_neg hw]
    rw [hre, hrs] at hread
    have hread := hide hread
    obtain ⟨rs, hrse⟩ : ∃ rs : ByteArray, rs = ⟨((K.pipe (K.desc j).n).data.take c.b.toNat).toArray⟩ := ⟨_, rfl⟩
    rw [← hrse] at hread
    have Hpost := hide (show ∀ w2, Fr (fun q => q = L.pb (K.desc j).n) w1 w2 → PipeAt w2 (L.pb (K.desc j).n) (L.lb (K.desc j).n) 64 ((K.pipe (K.desc j).n).data.drop ((K.pipe (K.desc j).n).data.take c.b.toNat).length) (K.pipe (K.desc j).n).r (K.pipe (K.desc j).n).x →
        (AskAt w2 a k (L.qb i) c { noResV with err := 0 } ∧ KaskPost w k K L i a c (false, { noRes with s := ⟨((K.pipe (K.desc j).n).data.take c.b.toNat).toArray⟩ }, K.setP (K.desc j).n (takeP (K.pipe (K.desc j).n) c.b.toNat)) (.returned (.bool false)) ((w2.setCell ⟨a, 10, none⟩ (.string rs)).setCell ⟨a, 17, none⟩ (.int .i64 0))) from fun w2 hf hA => by
      obtain ⟨fm2, cs2, hA⟩ := hA
      have A2 : AskAt w2 a k (L.qb i) c { noResV with err := 0 } := hf.get A1 (Ne.symm hpa)
      have F2 := F1.pipeU p1 p2 (p := { K.pipe (K.desc j).n with data := (K.pipe (K.desc j).n).data.drop ((K.pipe (K.desc j).n).data.take c.b.toNat).length }) (hf.mono fun b _ e => .inl e) hA rfl
      have F4 := (F2.ask hao 10 (.string rs)).ask hao 17 (.int .i64 0)
      refine ⟨A2, rfl, L, ?_, ⟨rfl, Nat.le_refl _, Nat.le_refl _, Nat.le_refl _, fun _ _ _ => rfl, fun _ _ _ => rfl, fun _ _ _ => rfl, fun _ _ _ => rfl, fun _ _ e => e⟩, ((hfr1.trans (hf.mono fun b _ e => .inl (by rw [e, (h.op _ p1 p2).1]; simp))).trans (fr_ask (L := L) w2 a 10 _)).trans (fr_ask (L := L) _ a 17 _), fun _ e => .inl e, _, ask_err (ask_s A2 rs) 0, ?_⟩
      · rw [drop_take] at F4; exact F4
      · exact fun _ => by rw [hrse]; rfl)
    clear h ha hq A1 F1 hfr1 hD1 hdo hok hf hP p1 p2 hre hrs hw hrse
    unfold ptrAt at *
    go_enter Tryz.func22, Tryz.ntmps22
    go_wp2_with fail
    refine hds.out.mono ?_
    rintro e w2 ⟨rfl, rfl⟩
    go_wp2_with fail
    refine hrd.out.mono ?_
    rintro e w2 ⟨rfl, rfl⟩
    go_wp2_with fail
    refine hread.out.mono ?_
    rintro e w3 ⟨rfl, hA, hf3⟩
    obtain ⟨A3, hp⟩ := Hpost.out w3 hf3 hA
    have t10 : w3.cell? ⟨a, 10, none⟩ = some (.string noBy) := by rw [blk_cell A3]; rfl
    have z10 : w3.frozen? ⟨a, 10, none⟩ = false := blk_frozen A3 _
    have t17 : (w3.setCell ⟨a, 10, none⟩ (.string rs)).cell? ⟨a, 17, none⟩ = some (.int .i64 0) := by rw [blk_cell (ask_s A3 rs)]; rfl
    have z17 : (w3.setCell ⟨a, 10, none⟩ (.string rs)).frozen? ⟨a, 17, none⟩ = false := blk_frozen (ask_s A3 rs) _
    have e17 : ((w3.setCell ⟨a, 10, none⟩ (.string rs)).setCell ⟨a, 17, none⟩ (.int .i64 0)).cell? ⟨a, 17, none⟩ = some (.int .i64 0) := by rw [blk_cell (ask_err (ask_s A3 rs) 0)]; rfl
    have hfin := hide hp
    clear hA hf3 A3 hp Hpost a17
    go_wp2_with fail
    go_ret
    exact hfin.out
end Go.Proofs.YtffekmjoenppaaaGreatDoor
