/- gate.asked.read. Conditions: the contract's own premises. -/
import Derived.Test.YtffekmjoenppaaaGreatDoorKerAsk
import Derived.Test.YtffekmjoenppaaaGreatDoorFilesA
import Derived.Test.YtffekmjoenppaaaGreatDoorPipeD
namespace Go.Proofs.YtffekmjoenppaaaGreatDoor
open Go.RowKit

attribute [local go_sem] Oper.semAt_some

def resV (q : ResQ) : ResV := ⟨q.n, q.m, q.s, .slice none 0 0, q.st, q.err⟩
/-- Behind a call of a process: does it wait, the answer, the kernel. -/
def KaskPost (w : World) (k : Nat) (K : KQ) (L : KLay) (i a : Nat) (c : SysQ) (R : Bool × ResQ × KQ) (e : Ending) (w' : World) : Prop :=
  e = .returned (.bool R.1) ∧ ∃ L', KF w' k R.2.2 L' ∧ LExt K R.2.2 L L' ∧ Fr (fun b => L.o b ≠ none ∨ b = a) w w' ∧ (∀ b, L'.o b ≠ none → L.o b ≠ none ∨ w.heap.size ≤ b) ∧ ∃ r, AskAt w' a k (L.qb i) c r ∧ (R.1 = false → r = resV R.2.1)
theorem ask_err {w : World} {a k q : Nat} {c : SysQ} {r : ResV} (h : AskAt w a k q c r) (x : Int) : AskAt (w.setCell ⟨a, 17, none⟩ (.int .i64 x)) a k q c { r with err := x } := by
  unfold AskAt at h ⊢
  rw [blk_set h]
  rfl
theorem ask_s {w : World} {a k q : Nat} {c : SysQ} {r : ResV} (h : AskAt w a k q c r) (x : ByteArray) : AskAt (w.setCell ⟨a, 10, none⟩ (.string x)) a k q c { r with s := x } := by
  unfold AskAt at h ⊢
  rw [blk_set h]
  rfl
theorem KF.ask {w : World} {k : Nat} {K : KQ} {L : KLay} (h : KF w k K L) {a : Nat} (ha : L.o a = none) (j : Nat) (v : Value) : KF (w.setCell ⟨a, j, none⟩ v) k K L :=
  h.still ((Fr.refl (fun b => b = a) w).setCell (p := ⟨a, j, none⟩) (.inl rfl) v) fun b t e e2 => by rw [e2, ha] at e; cases e
theorem fr_ask {L : KLay} (w : World) (a j : Nat) (v : Value) : Fr (fun b => L.o b ≠ none ∨ b = a) w (w.setCell ⟨a, j, none⟩ v) := (Fr.refl (fun b => L.o b ≠ none ∨ b = a) w).setCell (p := ⟨a, j, none⟩) (.inl (.inr rfl)) v
theorem setP_same (K : KQ) (n : Nat) : K.setP n { K.pipe n with data := (K.pipe n).data.drop ([] : List UInt8).length } = K := by
  unfold KQ.setP
  have : (fun j => if j = n then { K.pipe n with data := (K.pipe n).data.drop ([] : List UInt8).length } else K.pipe j) = K.pipe := by
    funext j
    by_cases e : j = n
    · rw [if_pos e, e]; rfl
    · rw [if_neg e]
  rw [this]
theorem drop_take (d : List UInt8) (n : Nat) : d.drop (d.take n).length = d.drop n := by
  rw [List.length_take]
  by_cases h : n ≤ d.length
  · rw [Nat.min_eq_left h]
  · rw [Nat.min_eq_right (by omega), List.drop_length, List.drop_of_length_le (by omega)]
theorem ask_ne {L : KLay} {a b : Nat} {t : Nat × Nat} (ha : L.o a = none) (e : L.o b = some t) : b ≠ a := fun e2 => by rw [e2, ha] at e; cases e
set_option maxRecDepth 100000 in
set_option maxHeartbeats 1000000 in
theorem aread_pip (w : World) (k : Nat) (K : KQ) (L : KLay) (h : KF w k K L) (N : Nat) (hok : KOk K N) (_hN : N ≤ 1000000) (i : Nat) (h1 : 1 ≤ i) (h2 : i ≤ K.qn) (a : Nat) (c : SysQ) (hc : -9223372036854775808 ≤ c.b ∧ c.b ≤ 9223372036854775807) (ha : AskAt w a k (L.qb i) c noResV) (hao : L.o a = none) (j : Nat) (hf : fdQ K i c.a = some j) (hr : (K.desc j).reads = true) (hb : 0 ≤ c.b) (hk : (K.desc j).kind = 3) : Calls Tryz.prog 22 #[ptrAt a] w (KaskPost w k K L i a c (readQ K i c.a c.b)) := by
  obtain ⟨j1, j2⟩ := fdQ_ok hok.fds h1 h2 hf
  have hdo := hok.desc j j1 j2
  have c3 : w.cell? ⟨a, 3, none⟩ = some (.int .i64 c.a) := by rw [blk_cell ha]; rfl
  have c4 : w.cell? ⟨a, 4, none⟩ = some (.int .i64 c.b) := by rw [blk_cell ha]; rfl
  have hds := hide (adesc_any w k K L h i h1 h2 a c noResV ha c.a)
  rw [hf] at hds
  have A1 := ask_err ha 0
  have F1 := h.ask hao 17 (.int .i64 0)
  have hfr1 := fr_ask (L := L) w a 17 (.int .i64 0)
  obtain ⟨w1, hw1⟩ : ∃ w1, w1 = w.setCell ⟨a, 17, none⟩ (.int .i64 0) := ⟨_, rfl⟩
  have hds' : Calls Tryz.prog 43 #[ptrAt a, .int .i64 c.a] w fun e w' => e = .returned (.pointer (some ⟨L.db j, 0, none⟩)) ∧ w' = w1 := by rw [hw1]; exact hds.out
  have hds := hide hds'
  rw [← hw1] at A1 F1 hfr1
  have hD1 := F1.hd j j1 j2
  have hrd := hide (dreads_any w1 (L.db j) L j (K.desc j) hD1 hdo.kind hdo.flg)
  have a4 : w1.cell? ⟨a, 4, none⟩ = some (.int .i64 c.b) := by rw [blk_cell A1]; rfl
  have a0 : w1.cell? ⟨a, 0, none⟩ = some (.pointer (some ⟨k, 0, none⟩)) := by rw [blk_cell A1]; rfl
  have a17 : w1.cell? ⟨a, 17, none⟩ = some (.int .i64 0) := by rw [blk_cell A1]; rfl
  have z17 : w1.frozen? ⟨a, 17, none⟩ = false := blk_frozen A1 _
  have d0 : w1.cell? ⟨L.db j, 0, none⟩ = some (.int .i64 (K.desc j).kind) := by rw [blk_cell hD1]; rfl
  clear hw1 hds'
  rw [hr] at hrd
  have hb' : ¬ c.b < 0 := by omega
  obtain ⟨p1, p2⟩ := hdo.pip (.inl hk)
  obtain ⟨fm, cs, hP⟩ := F1.hp _ p1 p2
  have hread := pread_any (L.pb (K.desc j).n) (L.lb (K.desc j).n) 64 _ _ _ w1 ⟨fm, cs, hP⟩ c.b hc.2
  unfold ReadPost at hread
  have hpa : L.pb (K.desc j).n ≠ a := ask_ne hao (h.op _ p1 p2).1
  have d5 : w1.cell? ⟨L.db j, 5, none⟩ = some (.pointer (some ⟨L.pb (K.desc j).n, 0, none⟩)) := by
    rw [blk_cell hD1]
    show some (pipeV L (K.desc j)) = _
    unfold pipeV
    rw [if_pos (.inl hk)]
    rfl
  rw [hk] at d0
  by_cases hw : 0 < c.b ∧ (K.pipe (K.desc j).n).data = [] ∧ 0 < (K.pipe (K.desc j).n).x
  · have hq : readQ K i c.a c.b = (true, noRes, K) := by
      unfold readQ
      rw [hf]
      simp only
      rw [if_neg (by rw [hr]; simp), if_neg hb', if_neg (by rw [hk]; decide), if_neg (by rw [hk]; decide), if_neg (by rw [hk]; decide), if_pos hw]
    rw [hq]
    have hre : rdE (K.pipe (K.desc j).n).data (K.pipe (K.desc j).n).x c.b = 11 := by unfold rdE; rw [if_neg hb', if_pos hw]
    have hrs : rdS (K.pipe (K.desc j).n).data (K.pipe (K.desc j).n).x c.b = [] := by unfold rdS; rw [if_neg hb', if_pos hw]
    rw [hre, hrs] at hread
    have hread := hide hread
    obtain ⟨rs, hrse⟩ : ∃ rs : ByteArray, rs = ⟨(([] : List UInt8)).toArray⟩ := ⟨_, rfl⟩
    rw [← hrse] at hread
    have Hpost := hide (show ∀ w2, Fr (fun q => q = L.pb (K.desc j).n) w1 w2 → PipeAt w2 (L.pb (K.desc j).n) (L.lb (K.desc j).n) 64 ((K.pipe (K.desc j).n).data.drop (([] : List UInt8)).length) (K.pipe (K.desc j).n).r (K.pipe (K.desc j).n).x →
        (AskAt w2 a k (L.qb i) c { noResV with err := 0 } ∧ KaskPost w k K L i a c (true, noRes, K) (.returned (.bool true)) ((w2.setCell ⟨a, 10, none⟩ (.string rs)).setCell ⟨a, 17, none⟩ (.int .i64 11))) from fun w2 hf hA => by
      obtain ⟨fm2, cs2, hA⟩ := hA
      have A2 : AskAt w2 a k (L.qb i) c { noResV with err := 0 } := hf.get A1 (Ne.symm hpa)
      have F2 := F1.pipeU p1 p2 (p := { K.pipe (K.desc j).n with data := (K.pipe (K.desc j).n).data.drop (([] : List UInt8)).length }) (hf.mono fun b _ e => .inl e) hA rfl
      have F4 := (F2.ask hao 10 (.string rs)).ask hao 17 (.int .i64 11)
      refine ⟨A2, rfl, L, ?_, ⟨rfl, Nat.le_refl _, Nat.le_refl _, Nat.le_refl _, fun _ _ _ => rfl, fun _ _ _ => rfl, fun _ _ _ => rfl, fun _ _ _ => rfl, fun _ _ e => e⟩, ((hfr1.trans (hf.mono fun b _ e => .inl (by rw [e, (h.op _ p1 p2).1]; simp))).trans (fr_ask (L := L) w2 a 10 _)).trans (fr_ask (L := L) _ a 17 _), fun _ e => .inl e, _, ask_err (ask_s A2 rs) 11, ?_⟩
      · rw [show K = K.setP (K.desc j).n { K.pipe (K.desc j).n with data := (K.pipe (K.desc j).n).data.drop ([] : List UInt8).length } from (setP_same K _).symm]; exact F4
      · exact fun e => (by cases e))
    clear h ha hq A1 F1 hfr1 hD1 hdo hok hf hP p1 p2 hre hrs hw hrse
    unfold ptrAt at *
    go_enter Tryz.func22, Tryz.ntmps22
    go_wp2_with fail
    refine hds.out.mono ?_
    rintro e w2 ⟨rfl, rfl⟩
    go_wp2_with fail
    refine hrd.out.mono ?_
    rintro e w2 ⟨rfl, rfl⟩
    go_wp2_with fail
    refine hread.out.mono ?_
    rintro e w3 ⟨rfl, hA, hf3⟩
    obtain ⟨A3, hp⟩ := Hpost.out w3 hf3 hA
    have t10 : w3.cell? ⟨a, 10, none⟩ = some (.string noBy) := by rw [blk_cell A3]; rfl
    have z10 : w3.frozen? ⟨a, 10, none⟩ = false := blk_frozen A3 _
    have t17 : (w3.setCell ⟨a, 10, none⟩ (.string rs)).cell? ⟨a, 17, none⟩ = some (.int .i64 0) := by rw [blk_cell (ask_s A3 rs)]; rfl
    have z17 : (w3.setCell ⟨a, 10, none⟩ (.string rs)).frozen? ⟨a, 17, none⟩ = false := blk_frozen (ask_s A3 rs) _
    have e17 : ((w3.setCell ⟨a, 10, none⟩ (.string rs)).setCell ⟨a, 17, none⟩ (.int .i64 11)).cell? ⟨a, 17, none⟩ = some (.int .i64 11) := by rw [blk_cell (ask_err (ask_s A3 rs) 11)]; rfl
    have hfin := hide hp
    clear hA hf3 A3 hp Hpost a17
    go_wp2_with fail
    go_ret
    exact hfin.out
  · have hq : readQ K i c.a c.b = (false, { noRes with s := ⟨((K.pipe (K.desc j).n).data.take c.b.toNat).toArray⟩ }, K.setP (K.desc j).n (takeP (K.pipe (K.desc j).n) c.b.toNat)) := by
      unfold readQ
      rw [hf]
      simp only
      rw [if_neg (by rw [hr]; simp), if_neg hb', if_neg (by rw [hk]; decide), if_neg (by rw [hk]; decide), if_neg (by rw [hk]; decide), if_neg hw]
    rw [hq]
    have hre : rdE (K.pipe (K.desc j).n).data (K.pipe (K.desc j).n).x c.b = 0 := by unfold rdE; rw [if_neg hb', if_neg hw]
    have hrs : rdS (K.pipe (K.desc j).n).data (K.pipe (K.desc j).n).x c.b = (K.pipe (K.desc j).n).data.take c.b.toNat := by unfold rdS; rw [if_neg hb', if_neg hw]
    rw [hre, hrs] at hread
    have hread := hide hread
    obtain ⟨rs, hrse⟩ : ∃ rs : ByteArray, rs = ⟨((K.pipe (K.desc j).n).data.take c.b.toNat).toArray⟩ := ⟨_, rfl⟩
    rw [← hrse] at hread
    have Hpost := hide (show ∀ w2, Fr (fun q => q = L.pb (K.desc j).n) w1 w2 → PipeAt w2 (L.pb (K.desc j).n) (L.lb (K.desc j).n) 64 ((K.pipe (K.desc j).n).data.drop ((K.pipe (K.desc j).n).data.take c.b.toNat).length) (K.pipe (K.desc j).n).r (K.pipe (K.desc j).n).x →
        (AskAt w2 a k (L.qb i) c { noResV with err := 0 } ∧ KaskPost w k K L i a c (false, { noRes with s := ⟨((K.pipe (K.desc j).n).data.take c.b.toNat).toArray⟩ }, K.setP (K.desc j).n (takeP (K.pipe (K.desc j).n) c.b.toNat)) (.returned (.bool false)) ((w2.setCell ⟨a, 10, none⟩ (.string rs)).setCell ⟨a, 17, none⟩ (.int .i64 0))) from fun w2 hf hA => by
      obtain ⟨fm2, cs2, hA⟩ := hA
      have A2 : AskAt w2 a k (L.qb i) c { noResV with err := 0 } := hf.get A1 (Ne.symm hpa)
      have F2 := F1.pipeU p1 p2 (p := { K.pipe (K.desc j).n with data := (K.pipe (K.desc j).n).data.drop ((K.pipe (K.desc j).n).data.take c.b.toNat).length }) (hf.mono fun b _ e => .inl e) hA rfl
      have F4 := (F2.ask hao 10 (.string rs)).ask hao 17 (.int .i64 0)
      refine ⟨A2, rfl, L, ?_, ⟨rfl, Nat.le_refl _, Nat.le_refl _, Nat.le_refl _, fun _ _ _ => rfl, fun _ _ _ => rfl, fun _ _ _ => rfl, fun _ _ _ => rfl, fun _ _ e => e⟩, ((hfr1.trans (hf.mono fun b _ e => .inl (by rw [e, (h.op _ p1 p2).1]; simp))).trans (fr_ask (L := L) w2 a 10 _)).trans (fr_ask (L := L) _ a 17 _), fun _ e => .inl e, _, ask_err (ask_s A2 rs) 0, ?_⟩
      · rw [drop_take] at F4; exact F4
      · exact fun _ => by rw [hrse]; rfl)
    clear h ha hq A1 F1 hfr1 hD1 hdo hok hf hP p1 p2 hre hrs hw hrse
    unfold ptrAt at *
    go_enter Tryz.func22, Tryz.ntmps22
    go_wp2_with fail
    refine hds.out.mono ?_
    rintro e w2 ⟨rfl, rfl⟩
    go_wp2_with fail
    refine hrd.out.mono ?_
    rintro e w2 ⟨rfl, rfl⟩
    go_wp2_with fail
    refine hread.out.mono ?_
    rintro e w3 ⟨rfl, hA, hf3⟩
    obtain ⟨A3, hp⟩ := Hpost.out w3 hf3 hA
    have t10 : w3.cell? ⟨a, 10, none⟩ = some (.string noBy) := by rw [blk_cell A3]; rfl
    have z10 : w3.frozen? ⟨a, 10, none⟩ = false := blk_frozen A3 _
    have t17 : (w3.setCell ⟨a, 10, none⟩ (.string rs)).cell? ⟨a, 17, none⟩ = some (.int .i64 0) := by rw [blk_cell (ask_s A3 rs)]; rfl
    have z17 : (w3.setCell ⟨a, 10, none⟩ (.string rs)).frozen? ⟨a, 17, none⟩ = false := blk_frozen (ask_s A3 rs) _
    have e17 : ((w3.setCell ⟨a, 10, none⟩ (.string rs)).setCell ⟨a, 17, none⟩ (.int .i64 0)).cell? ⟨a, 17, none⟩ = some (.int .i64 0) := by rw [blk_cell (ask_err (ask_s A3 rs) 0)]; rfl
    have hfin := hide hp
    clear hA hf3 A3 hp Hpost a17
    go_wp2_with fail
    go_ret
    exact hfin.out
end Go.Proofs.YtffekmjoenppaaaGreatDoor
