/- pattern.Wild, glob.Wild: is there something that isn't itself. Conditions: the contracts' own premises. -/
import Derived.Test.YtlhmmiolnbgloaaGreatDoorRangeFunc
import Derived.Test.YtlhmmiolnbgloaaGreatDoorGlobP
import Derived.Test.YtlhmmiolnbgloaaGreatDoorShelf
import Derived.Shelf.Abstract
import Derived.Test.YtlhmmiolnbgloaaGreatDoorFilesAsk
import Derived.Test.YtlhmmiolnbgloaaGreatDoorFilesInvB
namespace Go.Proofs.YtlhmmiolnbgloaaGreatDoor
open Go.RowKit Go.Shelf

def encCh (c : Ch) : List Value := [.int .u8 c.b.toNat, .bool c.q]
def wildC (c : Ch) : Bool := !c.q && (c.b == starB || c.b == qmB || c.b == opB)
instance : Inhabited Ch := ⟨⟨0, false⟩⟩
theorem idx_wild (b : UInt8) : (0 ≤ Lib.indexByte [42, 63, 91] b) ↔ (b == starB || b == qmB || b == opB) = true := by
  have e1 : (starB == b) = (b == starB) := BEq.comm
  have e2 : (qmB == b) = (b == qmB) := BEq.comm
  have e3 : (opB == b) = (b == opB) := BEq.comm
  rw [← e1, ← e2, ← e3]
  show (0 ≤ Lib.indexByte [starB, qmB, opB] b) ↔ _
  unfold Lib.indexByte Lib.indexByte Lib.indexByte Lib.indexByte
  cases (starB == b) <;> cases (qmB == b) <;> cases (opB == b) <;> decide
set_option maxRecDepth 100000 in
set_option maxHeartbeats 1000000 in
theorem wild1_any (w : World) (c : Ch) : Calls Tryz.prog 37 #[.agg #[.int .u8 c.b.toNat, .bool c.q]] w (BPost w (wildC c)) := by
  obtain ⟨w1, hw1⟩ : ∃ w1, w1 = w.alloc (.cells #[.int .u8 c.b.toNat, .bool c.q] 35 (0, 0)) := ⟨_, rfl⟩
  have hf1 : Fr (fun _ => False) w w1 := by rw [hw1]; exact (Fr.refl _ _).alloc _
  have hib := Any.strings_IndexByte Tryz.laysIdxByte ⟨#[42, 63, 91]⟩ c.b.toNat w1
  have hcb : ((c.b.toNat : Nat) : Int).toNat.toUInt8 = c.b := by rw [Int.toNat_natCast]; exact UInt8.ofNat_toNat
  rw [hcb] at hib
  have hix := idx_wild c.b
  have hix : (0 ≤ Lib.indexByte (ByteArray.mk #[42, 63, 91]).data.toList c.b) ↔ (c.b == starB || c.b == qmB || c.b == opB) = true := hix
  generalize Lib.indexByte (ByteArray.mk #[42, 63, 91]).data.toList c.b = i at hib hix
  have hib := hide hib
  cases hq : c.q with
  | true =>
    have hfin := hide (show BPost w (wildC c) (.returned (.bool false)) w1 from ⟨by unfold wildC; rw [hq]; rfl, hf1⟩)
    rw [hq] at hw1
    clear hix hq hib hf1
    subst hw1
    go_enter Tryz.func37, Tryz.ntmps37
    go_wp2_with fail
    go_ret
    exact hfin.out
  | false =>
    have hfin := hide (show ∀ b : Bool, (b = true ↔ 0 ≤ i) → BPost w (wildC c) (.returned (.bool b)) w1 from fun b h => ⟨by
      have : b = wildC c := by
        rw [Bool.eq_iff_iff, h, hix]
        unfold wildC
        rw [hq]
        simp
      rw [this], hf1⟩)
    rw [hq] at hw1
    clear hix hq hf1 hcb
    subst hw1
    go_enter Tryz.func37, Tryz.ntmps37
    go_wp2_with fail
    refine hib.out.mono ?_
    rintro e w2 ⟨rfl, rfl⟩
    clear hib
    have hf2 := hide (hfin.out (decide (0 ≤ i)) (by rw [decide_eq_true_eq]))
    clear hfin
    go_wp2_with fail
    go_ret
    exact hf2.out
theorem ch_row {w : World} {g o : Nat} {p : List Ch} (h : ∀ j (h : j < p.length), w.cell? ⟨g, o + j * 2, none⟩ = some (.int .u8 p[j].b.toNat) ∧ w.cell? ⟨g, o + j * 2 + 1, none⟩ = some (.bool p[j].q)) :
    ∀ j, j < p.length → ∀ i v, (encCh p[j]!)[i]? = some v → w.cell? ⟨g, o + j * 2 + i, none⟩ = some v := fun j hj i v hv => by
  rw [getElem!_pos p j hj] at hv
  match i, hv with
  | 0, hv => cases hv; exact (h j hj).1
  | 1, hv => cases hv; exact (h j hj).2
set_option maxRecDepth 100000 in
set_option maxHeartbeats 1000000 in
theorem idxf_empty (a : Option Addr) (c : Nat) (fv : Value) (w : World) : Calls Tryz.prog 40 #[.slice a 0 c, fv] w fun e w' => e = .returned (.int .i64 (-1)) ∧ w' = w := by
  go_enter Tryz.func40, Tryz.ntmps40
  go_wp2
  go_loopg [5, 8] 0 (fun _ _ s8 wr => s8 = .int .i64 0 ∧ wr = w)
  case atStart => exact ⟨rfl, rfl⟩
  case round =>
    obtain ⟨rfl, rfl⟩ := hrel
    go_wp2
    go_ret
    exact ⟨rfl, rfl⟩
set_option maxRecDepth 100000 in
set_option maxHeartbeats 1000000 in
theorem contf_empty (a : Option Addr) (c : Nat) (fv : Value) (w : World) : Calls Tryz.prog 36 #[.slice a 0 c, fv] w fun e w' => e = .returned (.bool false) ∧ w' = w := by
  go_enter Tryz.func36, Tryz.ntmps36
  go_wp2_with fail
  refine (idxf_empty a c fv _).mono ?_
  rintro e w' ⟨rfl, rfl⟩
  go_wp2_with fail
  go_ret
  exact ⟨rfl, rfl⟩
theorem pred_below {w : World} {g : Nat} {p : Ch → Bool} (h : ∀ (W : World) (c : Ch), Calls Tryz.prog g #[.agg #[.int .u8 c.b.toNat, .bool c.q]] W (BPost W (p c))) : PredBelow Tryz.prog g #[] (fun x => .agg (encCh x).toArray) p w := fun W x hb =>
  (h W x).mono fun e w' hp => ⟨hp.1, hb.trans ((hp.2.below fun _ _ e => e).mono hb.size)⟩
theorem wild_any (w : World) (T : Nat → Prop) (v : Value) (p : List Ch) (h : ChV w T v p) : Calls Tryz.prog 25 #[v] w (BPost w (wildL p)) := by
  have hc : Calls Tryz.prog 36 #[v, .func (.func 37) #[] #[]] w (BPost w (wildL p)) := by
    obtain ⟨a, c, rfl, hn, hc, hr⟩ := h
    rcases hr with rfl | ⟨g, o, rfl, _, hg, C⟩
    · refine (contf_empty a c _ w).mono ?_
      rintro e w' ⟨rfl, rfl⟩
      exact ⟨rfl, Fr.refl _ _⟩
    · refine (AnyQ.slices_ContainsFunc Tryz.laysContF 2 Tryz.isAgg35 Tryz.sizeOf35 encCh (fun _ => rfl) wildC 37 #[] (enters_of Tryz.func37 (by kernel_rfl) rfl) g o p.length c p w (pred_below wild1_any) (Nat.le_refl _) (by omega) hg (ch_row C)).mono ?_
      rintro e w' ⟨rfl, hb⟩
      rw [List.take_length]
      exact ⟨rfl, Fr.of_below hb _⟩
  obtain ⟨a, c, rfl⟩ := h.form
  go_enter Tryz.func25, Tryz.ntmps25
  go_wp2_with fail
  refine hc.mono ?_
  rintro e w2 ⟨rfl, hf⟩
  go_wp2_with fail
  go_ret
  exact ⟨rfl, hf⟩
theorem gwild_any (w : World) (T : Nat → Prop) (v : Value) (p : List Ch) (h : ChV w T v p) : Calls Tryz.prog 13 #[v] w (BPost w (wildL p)) := by
  have hc := hide (wild_any w T v p h)
  obtain ⟨a, c, rfl⟩ := h.form
  clear h
  go_enter Tryz.func13, Tryz.ntmps13
  go_wp2_with fail
  refine hc.out.mono ?_
  rintro e w2 ⟨rfl, hf⟩
  go_wp2_with fail
  go_ret
  exact ⟨rfl, hf⟩
/-- The first slash. -/
def slC (c : Ch) : Bool := c.b == slashB
set_option maxRecDepth 100000 in
set_option maxHeartbeats 1000000 in
theorem sl1_any (w : World) (c : Ch) : Calls Tryz.prog 41 #[.agg #[.int .u8 c.b.toNat, .bool c.q]] w (BPost w (slC c)) := by
  have hfin := hide (show ∀ b : Bool, (b = true ↔ (c.b.toNat : Int) = 47) → BPost w (slC c) (.returned (.bool b)) (w.alloc (.cells #[.int .u8 c.b.toNat, .bool c.q] 35 (0, 0))) from fun b h => ⟨by
    have : b = slC c := by
      rw [Bool.eq_iff_iff, h]
      unfold slC
      rw [beq_iff_eq]
      exact ⟨fun e => UInt8.toNat_inj.1 (by rw [show slashB.toNat = 47 from rfl]; omega), fun e => by rw [e]; rfl⟩
    rw [this], (Fr.refl _ _).alloc _⟩)
  generalize c.b.toNat = x at *
  go_enter Tryz.func41, Tryz.ntmps41
  go_wp2_with fail
  go_ret
  exact hfin.out _ (by simp)
theorem idx_from : ∀ (p : List Ch) (i : Nat) (x : Ch), -1 ≤ Lib.idxByFrom (fun _ y => slC y) x p i ∧ Lib.idxByFrom (fun _ y => slC y) x p i ≤ ((i + p.length : Nat) : Int) ∧ (if Lib.idxByFrom (fun _ y => slC y) x p i < 0 then ((i + p.length : Nat) : Int) else Lib.idxByFrom (fun _ y => slC y) x p i) = ((i + cutP p : Nat) : Int)
  | [], i, x => by
    unfold Lib.idxByFrom
    refine ⟨by omega, by omega, ?_⟩
    rw [if_pos (by decide)]
    rfl
  | c :: p, i, x => by
    obtain ⟨h1, h2, h3⟩ := idx_from p (i + 1) x
    have hcut : cutP (c :: p) = if slC c = true then 0 else cutP p + 1 := by
      unfold cutP
      rw [List.findIdx_cons]
      show (bif slC c then 0 else _) = _
      cases slC c <;> rfl
    unfold Lib.idxByFrom
    rw [hcut]
    cases hs : slC c with
    | true =>
      simp only [if_true]
      refine ⟨by omega, by omega, ?_⟩
      rw [if_neg (by omega)]
      rfl
    | false =>
      simp only [Bool.false_eq_true, if_false]
      rw [List.length_cons]
      refine ⟨h1, by omega, ?_⟩
      rw [show i + (p.length + 1) = i + 1 + p.length by omega, show i + (cutP p + 1) = i + 1 + cutP p by omega]
      exact h3
theorem idx_cut (p : List Ch) : -1 ≤ Lib.idxBy (fun _ y => slC y) p default ∧ Lib.idxBy (fun _ y => slC y) p default ≤ p.length ∧ (if Lib.idxBy (fun _ y => slC y) p default < 0 then (p.length : Int) else Lib.idxBy (fun _ y => slC y) p default) = (cutP p : Nat) := by
  have := idx_from p 0 default
  rw [Nat.zero_add, Nat.zero_add] at this
  exact this
def IdxPost (w : World) (p : List Ch) (e : Ending) (w' : World) : Prop := ∃ i : Int, e = .returned (.int .i64 i) ∧ -1 ≤ i ∧ i ≤ p.length ∧ (if i < 0 then (p.length : Int) else i) = (cutP p : Nat) ∧ Fr (fun _ => False) w w'
theorem slash_any (w : World) (T : Nat → Prop) (v : Value) (p : List Ch) (h : ChV w T v p) : Calls Tryz.prog 40 #[v, .func (.func 41) #[] #[]] w (IdxPost w p) := by
  obtain ⟨a, c, rfl, hn, hc, hr⟩ := h
  rcases hr with rfl | ⟨g, o, rfl, _, hg, C⟩
  · refine (idxf_empty a c _ w).mono ?_
    rintro e w' ⟨rfl, rfl⟩
    exact ⟨-1, rfl, by omega, by simp, by decide, Fr.refl _ _⟩
  · refine (AnyQ.slices_IndexFunc Tryz.laysIdxF 2 Tryz.isAgg35 Tryz.sizeOf35 encCh (fun _ => rfl) slC 41 #[] (enters_of Tryz.func41 (by kernel_rfl) rfl) g o p.length c p w (pred_below sl1_any) (Nat.le_refl _) (by omega) hg (ch_row C)).mono ?_
    rintro e w' ⟨rfl, hb⟩
    rw [List.take_length]
    obtain ⟨h1, h2, h3⟩ := idx_cut p
    exact ⟨_, rfl, h1, h2, h3, Fr.of_below hb _⟩
end Go.Proofs.YtlhmmiolnbgloaaGreatDoor

/- The tree of files as plain data: what lies below a directory; a name is moved. No program in sight; no condition. -/
namespace Go.Proofs.YtlhmmiolnbgloaaGreatDoor
open Go.RowKit

/-- Is k this directory, or above it? -/
def Under (σ : FSt) (k b : Nat) : Prop := ∃ m, Dep σ k k b m
theorem Dep.zero {σ : FSt} {fl e i k : Nat} (h : Dep σ fl e i k) (hk : k = 0) : i = e := by
  cases h with
  | base => rfl
  | up => cases hk
theorem Dep.det {σ : FSt} : ∀ {k i : Nat}, Dep σ 0 1 i k → ∀ {l : Nat}, Dep σ 0 1 i l → k = l
  | _, _, .base _, _, .base _ => rfl
  | _, _, .base _, _, .up h1 _ _ _ _ _ => absurd rfl h1
  | _, _, .up h1 _ _ _ _ _, _, .base _ => absurd rfl h1
  | _, _, .up _ _ h3 _ _ h6, _, .up _ _ g3 _ _ g6 => by
    rw [h3] at g3
    cases g3
    rw [Dep.det h6 g6]
theorem Under.self (σ : FSt) (k : Nat) : Under σ k k := ⟨0, .base (.inr rfl)⟩
theorem Under.root {σ : FSt} {k : Nat} (hk : k ≠ 1) : ¬ Under σ k 1 := by
  rintro ⟨m, hm⟩
  cases hm with
  | base => exact hk rfl
  | up h1 => exact h1 rfl
theorem Under.step {σ : FSt} {k i : Nat} {n : Nd} (hn : σ.nd i = some n) (hd : n.d = true) (hl : n.links ≠ 0) (h1 : i ≠ 1) (hk : i ≠ k) : Under σ k i ↔ Under σ k n.par := by
  constructor
  · rintro ⟨m, hm⟩
    cases hm with
    | base => exact absurd rfl hk
    | up _ _ h3 _ _ h6 =>
      rw [hn] at h3
      cases h3
      exact ⟨_, h6⟩
  · rintro ⟨m, hm⟩
    exact ⟨m + 1, .up h1 hk hn hd hl hm⟩
/-- One step up. -/
theorem Dep.go_up {σ : FSt} {i m : Nat} {n : Nd} (h : Dep σ 0 1 i m) (hn : σ.nd i = some n) (h1 : i ≠ 1) : ∃ k, m = k + 1 ∧ Dep σ 0 1 n.par k := by
  cases h with
  | base => exact absurd rfl h1
  | up _ _ h3 _ _ h6 =>
    rw [hn] at h3
    cases h3
    exact ⟨_, rfl, h6⟩
theorem Dep.par_ne {σ : FSt} {i m : Nat} {n : Nd} (h : Dep σ 0 1 i m) (hn : σ.nd i = some n) (h1 : i ≠ 1) : n.par ≠ i := by
  obtain ⟨k, rfl, h2⟩ := h.go_up hn h1
  intro e
  rw [e] at h2
  have := h.det h2
  omega
theorem nodup_le : ∀ (n : Nat) (l : List Nat), l.Nodup → (∀ x ∈ l, x < n) → l.length ≤ n
  | 0, [], _, _ => Nat.le_refl _
  | 0, x :: _, _, h => absurd (h x (List.mem_cons_self)) (Nat.not_lt_zero x)
  | n + 1, l, h, hl => by
    have h1 := nodup_le n (l.erase n) (h.erase n) fun x hx => by
      have h2 := (h.mem_erase_iff).1 hx
      have := hl x h2.2
      have := h2.1
      omega
    rw [List.length_erase] at h1
    split at h1 <;> omega
theorem Dep.chain {σ : FSt} : ∀ {m i : Nat}, Dep σ 0 1 i m → (σ.nd 1).isSome = true → ∃ l : List Nat, l.length = m + 1 ∧ l.Nodup ∧ ∀ x ∈ l, (σ.nd x).isSome = true ∧ ∃ k ≤ m, Dep σ 0 1 x k
  | 0, i, h, h1 => ⟨[i], rfl, List.nodup_cons.2 ⟨by simp, List.nodup_nil⟩, fun x hx => by
      rw [List.mem_singleton] at hx
      rw [hx]
      exact ⟨by rw [h.zero rfl]; exact h1, 0, Nat.le_refl _, h⟩⟩
  | m + 1, i, h, h1 => by
    have hh := h
    cases h with
    | up a1 a2 a3 a4 a5 a6 =>
      obtain ⟨l, b1, b2, b3⟩ := Dep.chain a6 h1
      refine ⟨i :: l, by rw [List.length_cons, b1], List.nodup_cons.2 ⟨fun hm => ?_, b2⟩, fun x hx => ?_⟩
      · obtain ⟨_, k, hk, hd⟩ := b3 i hm
        have := hh.det hd
        omega
      · rcases List.mem_cons.1 hx with rfl | hx
        · exact ⟨by rw [a3]; rfl, m + 1, Nat.le_refl _, hh⟩
        · obtain ⟨c1, k, hk, hd⟩ := b3 x hx
          exact ⟨c1, k, by omega, hd⟩
/-- No way up is longer than there are inodes. -/
theorem Dep.short {σ : FSt} {i m : Nat} (h : Dep σ 0 1 i m) (hL : Live σ) : m ≤ 100 := by
  obtain ⟨r, hr, _⟩ := hL.root
  obtain ⟨l, h1, h2, h3⟩ := h.chain (by rw [hr]; rfl)
  have h4 := nodup_le (σ.length + 1) l h2 fun x hx => by
    obtain ⟨a, b⟩ := FSt.nd_lt (h3 x hx).1
    omega
  have := hL.len
  omega
/-- A floating inode's own parent doesn't matter. -/
theorem Inv.par {σ : FSt} {k : Nat} (h : Inv σ k) {nk : Nd} (hk : σ.nd k = some nk) (b : Nat) : Inv (σ.put k (some { nk with par := b })) k := by
  have hnd := put_nd hk (some { nk with par := b })
  have hr : ∀ j, refs (σ.put k (some { nk with par := b })) j = refs σ j := fun j => by
    have := refs_put hk (some { nk with par := b }) j
    have e : refN j (some { nk with par := b }) = entN j nk.ents := rfl
    omega
  have cs : ∀ j m, (σ.put k (some { nk with par := b })).nd j = some m → ∃ m0, σ.nd j = some m0 ∧ m.d = m0.d ∧ m.links = m0.links ∧ m.ents = m0.ents ∧ m.holds = m0.holds ∧ (j ≠ k → m.par = m0.par) := fun j m hj => by
    rw [hnd] at hj
    by_cases e : j = k
    · rw [if_pos e] at hj; cases hj; exact ⟨nk, by rw [e]; exact hk, rfl, rfl, rfl, rfl, fun h => absurd e h⟩
    · rw [if_neg e] at hj; exact ⟨m, hj, rfl, rfl, rfl, rfl, fun _ => rfl⟩
  have cf : ∀ j m0, σ.nd j = some m0 → ∃ m, (σ.put k (some { nk with par := b })).nd j = some m ∧ m.d = m0.d ∧ m.links = m0.links ∧ m.ents = m0.ents ∧ (j ≠ k → m.par = m0.par) := fun j m0 hj => by
    by_cases e : j = k
    · rw [e, hk] at hj; cases hj; exact ⟨{ nk with par := b }, by rw [hnd, if_pos e], rfl, rfl, rfl, fun h => absurd e h⟩
    · exact ⟨m0, by rw [hnd, if_neg e]; exact hj, rfl, rfl, rfl, fun _ => rfl⟩
  refine ⟨fun j m hj h1 => ?_, by rw [hr]; exact h.root, fun j m hj h1 => ?_, fun j m hj h1 h2 => ?_, fun j m hj h1 h2 h3 h4 => ?_, fun j m hj h1 h2 => ?_, fun j m hj => ?_, fun j m hj h1 => ?_, fun j m hj => ?_, h.flat, fun m hj => ?_⟩
  · obtain ⟨m0, a1, a2, a3, a4, a5, a6⟩ := cs j m hj
    rw [a3, hr]; exact h.cnt j m0 a1 h1
  · obtain ⟨m0, a1, a2, a3, a4, a5, a6⟩ := cs j m hj
    rw [a3]; exact h.one j m0 a1 (a2 ▸ h1)
  · obtain ⟨m0, a1, a2, a3, a4, a5, a6⟩ := cs j m hj
    rw [a4]; exact h.dead j m0 a1 (a2 ▸ h1) (a3 ▸ h2)
  · obtain ⟨m0, a1, a2, a3, a4, a5, a6⟩ := cs j m hj
    obtain ⟨q, nm, b1, b2, b3⟩ := h.up j m0 a1 (a2 ▸ h1) (a3 ▸ h2) h3 h4
    obtain ⟨q', c1, c2, c3, c4, c5⟩ := cf _ q b1
    exact ⟨q', nm, by rw [a6 h4]; exact c1, c2.trans b2, by rw [c4]; exact b3⟩
  · obtain ⟨m0, a1, a2, a3, a4, a5, a6⟩ := cs j m hj
    obtain ⟨e, d, hd⟩ := h.deep j m0 a1 (a2 ▸ h1) (a3 ▸ h2)
    exact ⟨e, d, hd.same hd.end_ok fun i0 n0 b1 b2 b3 b4 b5 => ⟨b2, by
      obtain ⟨q', c1, c2, c3, c4, c5⟩ := cf _ n0 b3
      exact ⟨q', c1, c2.trans b4, by rw [c3]; exact b5, c5 b2⟩⟩⟩
  · obtain ⟨m0, a1, a2, a3, a4, a5, a6⟩ := cs j m hj
    rw [a4]; exact h.srt j m0 a1
  · obtain ⟨m0, a1, a2, a3, a4, a5, a6⟩ := cs j m hj
    rw [a4]; exact h.file j m0 a1 (a2 ▸ h1)
  · obtain ⟨m0, a1, a2, a3, a4, a5, a6⟩ := cs j m hj
    rw [a3, a5]; exact h.alive j m0 a1
  · rw [hnd, if_neg (fun e => h.flat e.symm)] at hj
    exact h.rootp m hj
def parS (σ : FSt) (k b : Nat) : FSt := if dirS σ k then relS σ k (fun n => { n with par := b }) else σ
/-- What goneS leaves of an inode. -/
theorem goneS_some {σ : FSt} {b o : Nat} {m : Nd} {y : List UInt8} (hb : σ.nd b = some m) (hy : kget y m.ents = some o) : goneS σ b y = letS (relS (cutS σ b y) o less) o := by
  unfold goneS
  rw [lookS_some hb, hy]
theorem goneS_nd {σ : FSt} {b o : Nat} {m no : Nd} {y : List UInt8} (hb : σ.nd b = some m) (hy : kget y m.ents = some o) (ho : σ.nd o = some no) (hob : o ≠ b) (j : Nat) :
    (goneS σ b y).nd j = if j = o then (if no.links - 1 = 0 ∧ no.holds = 0 then none else some (less no)) else if j = b then some { m with ents := kdel y m.ents } else σ.nd j := by
  have h1 : (cutS σ b y).nd o = some no := (cutS_nd hb hob).trans ho
  have h2 : ((cutS σ b y).put o (some (less no))).nd o = some (less no) := by rw [put_nd h1, if_pos rfl]
  rw [goneS_some hb hy, relS_some h1]
  unfold letS
  rw [h2]
  simp only
  by_cases hz : (less no).links = 0 ∧ (less no).holds = 0
  · rw [if_pos hz, put_nd h2, put_nd h1]
    rw [if_pos (show no.links - 1 = 0 ∧ no.holds = 0 from hz)]
    by_cases e : j = o
    · rw [if_pos e, if_pos e]
    · rw [if_neg e, if_neg e, if_neg e]
      unfold cutS
      rw [entS_some hb, put_nd hb]
  · rw [if_neg hz, put_nd h1]
    rw [if_neg (show ¬ (no.links - 1 = 0 ∧ no.holds = 0) from hz)]
    by_cases e : j = o
    · rw [if_pos e, if_pos e]
    · rw [if_neg e, if_neg e]
      unfold cutS
      rw [entS_some hb, put_nd hb]
theorem Inv.gone {σ : FSt} (h : Inv σ 0) (hL : Live σ) {b o : Nat} {m no : Nd} {y : List UInt8} (hb : σ.nd b = some m) (hd : m.d = true) (hy : kget y m.ents = some o) (ho : σ.nd o = some no) (he : no.d = true → no.ents = []) : Inv (goneS σ b y) 0 := by
  have hob : o ≠ b := fun e => by
    rw [e, hb] at ho
    cases ho
    exact kget_nil_none hy (he hd)
  have h1 : (cutS σ b y).nd o = some no := (cutS_nd hb hob).trans ho
  rw [goneS_some hb hy, relS_some h1]
  exact ((h.cut hb hy).fall (hL.cut hb y) h1 he).2.2
/-- What was moved: the entry away, the entry there, the parent. -/
def carryS (σ : FSt) (a : Nat) (x : List UInt8) (b : Nat) (y : List UInt8) (k : Nat) : FSt := parS (linkS (cutS σ a x) b y k) k b
theorem Inv.carry {σ : FSt} (h : Inv σ 0) (hL : Live σ) {a b k : Nat} {n m nk : Nd} {x y : List UInt8} (ha : σ.nd a = some n) (hx : kget x n.ents = some k) (hk : σ.nd k = some nk) (hb : σ.nd b = some m) (hbd : m.d = true) (hbl : m.links ≠ 0)
    (hy : kget y m.ents = none) (hyl : y.length ≤ 32) (hu : nk.d = true → ¬ Under σ k b) : Inv (carryS σ a x b y k) 0 ∧ Live (carryS σ a x b y k) ∧ Live (linkS (cutS σ a x) b y k) := by
  have hI1 := h.cut ha hx
  have hL1 := hL.cut ha x
  have e1 : cutS σ a x = σ.put a (some { n with ents := kdel x n.ents }) := entS_some ha _
  have hnd1 : ∀ j, (cutS σ a x).nd j = if j = a then some { n with ents := kdel x n.ents } else σ.nd j := fun j => by rw [e1, put_nd ha]
  have cs : ∀ j q, (cutS σ a x).nd j = some q → ∃ q0, σ.nd j = some q0 ∧ q.d = q0.d ∧ q.links = q0.links ∧ q.par = q0.par ∧ q.holds = q0.holds := fun j q hj => by
    rw [hnd1] at hj
    by_cases e : j = a
    · rw [if_pos e] at hj; cases hj; exact ⟨n, by rw [e]; exact ha, rfl, rfl, rfl, rfl⟩
    · rw [if_neg e] at hj; exact ⟨q, hj, rfl, rfl, rfl, rfl⟩
  have cf : ∀ j q0, σ.nd j = some q0 → ∃ q, (cutS σ a x).nd j = some q ∧ q.d = q0.d ∧ q.links = q0.links ∧ q.par = q0.par := fun j q0 hj => by
    by_cases e : j = a
    · rw [e, ha] at hj; cases hj; exact ⟨{ n with ents := kdel x n.ents }, by rw [hnd1, if_pos e], rfl, rfl, rfl⟩
    · exact ⟨q0, by rw [hnd1, if_neg e]; exact hj, rfl, rfl, rfl⟩
  obtain ⟨nk1, hk1, kd, kl, kp⟩ := cf k nk hk
  obtain ⟨m1, hb1, md, ml, mp⟩ := cf b m hb
  have hy1 : kget y m1.ents = none := by
    rw [hnd1] at hb1
    by_cases e : b = a
    · rw [if_pos e] at hb1
      cases hb1
      rw [e, ha] at hb
      cases hb
      by_cases e2 : y = x
      · rw [e2]; exact kget_kdel_same _ _
      · rw [kget_kdel_other e2]; exact hy
    · rw [if_neg e, hb] at hb1; cases hb1; exact hy
  have hL2 : Live (linkS (cutS σ a x) b y k) := hL1.link hb1 hyl (by rw [hk1]; rfl)
  have hls : linkS (cutS σ a x) b y k = (cutS σ a x).put b (some { m1 with ents := kput y k m1.ents }) := entS_some hb1 _
  cases hnd : nk.d with
  | false =>
    have hbk : k ≠ b := fun e => by rw [e, hb] at hk; cases hk; rw [hnd] at hbd; cases hbd
    have e2 : carryS σ a x b y k = linkS (cutS σ a x) b y k := by
      unfold carryS parS
      rw [if_neg]
      unfold dirS
      rw [hls, put_nd hb1, if_neg hbk, hk1]
      simp only
      rw [kd, hnd]
      decide
    rw [e2]
    refine ⟨hI1.link hk1 hb1 (md.trans hbd) (by rw [ml]; exact hbl) hy1 (fun e => ?_), hL2, hL2⟩
    rw [kd, hnd] at e
    cases e
  | true =>
    have hu := hu hnd
    have hbk : k ≠ b := fun e => hu (e ▸ Under.self σ k)
    have hk2 : (linkS (cutS σ a x) b y k).nd k = some nk1 := by rw [hls, put_nd hb1, if_neg hbk]; exact hk1
    have e2 : carryS σ a x b y k = linkS ((cutS σ a x).put k (some { nk1 with par := b })) b y k := by
      unfold carryS parS
      rw [if_pos (by unfold dirS; rw [hk2]; simp only; rw [kd, hnd]), relS_some hk2, hls]
      have hb2 : ((cutS σ a x).put k (some { nk1 with par := b })).nd b = some m1 := by rw [put_nd hk1, if_neg (fun e => hbk e.symm)]; exact hb1
      unfold linkS
      rw [entS_some hb2]
      obtain ⟨k0, _⟩ := FSt.nd_lt (show ((cutS σ a x).nd k).isSome = true by rw [hk1]; rfl)
      obtain ⟨b0, _⟩ := FSt.nd_lt (show ((cutS σ a x).nd b).isSome = true by rw [hb1]; rfl)
      unfold FSt.put
      rw [List.set_comm _ _ (by omega)]
    have hb2 : ((cutS σ a x).put k (some { nk1 with par := b })).nd b = some m1 := by rw [put_nd hk1, if_neg (fun e => hbk e.symm)]; exact hb1
    have hk3 : ((cutS σ a x).put k (some { nk1 with par := b })).nd k = some { nk1 with par := b } := by rw [put_nd hk1, if_pos rfl]
    have hup : ∃ j, Dep ((cutS σ a x).put k (some { nk1 with par := b })) k 1 b j := by
      obtain ⟨j, hj⟩ := h.to_root hb hbd hbl
      obtain ⟨e, j', hj'⟩ := Dep.split (τ := (cutS σ a x).put k (some { nk1 with par := b })) (k := k) (fun i ni b1 b2 b3 b4 => by
        obtain ⟨q, c1, c2, c3, c4⟩ := cf i ni b1
        exact ⟨q, by rw [put_nd hk1, if_neg b4]; exact c1, c2.trans b2, by rw [c3]; exact b3, c4⟩) hj
      rcases hj'.end_ok with rfl | rfl
      · exact ⟨j', hj'⟩
      · refine absurd ⟨j', hj'.same (.inr rfl) (fun i ni b1 b2 b3 b4 b5 => ⟨b2, ?_⟩)⟩ hu
        rw [put_nd hk1, if_neg b2] at b3
        obtain ⟨q, c1, c2, c3, c4, _⟩ := cs i ni b3
        exact ⟨q, c1, c2 ▸ b4, c3 ▸ b5, c4.symm⟩
    refine ⟨e2 ▸ (hI1.par hk1 b).link hk3 hb2 (md.trans hbd) (by rw [ml]; exact hbl) hy1 (fun _ => ⟨rfl, hup⟩), ?_, hL2⟩
    rw [e2]
    refine Live.link ?_ hb2 hyl (by rw [hk3]; rfl)
    refine hL1.put hk1 rfl (fun e => absurd e hI1.flat) (hL1.ents k nk1 hk1) (fun _ _ => ?_) ?_ (hL1.names k nk1 hk1)
    · show ((cutS σ a x).nd b).isSome = true
      rw [hb1]; rfl
    · rw [same_byts hk1 (n' := { nk1 with par := b }) rfl]; exact hL1.byts
/-- What Rename answers, and leaves. -/
def linkN (σ : FSt) (i : Nat) : Nat := match σ.nd i with | none => 0 | some n => n.links
open Classical in
noncomputable def underB (σ : FSt) (k b : Nat) : Bool := decide (Under σ k b)
theorem underB_true {σ : FSt} {k b : Nat} (h : Under σ k b) : underB σ k b = true := by unfold underB; simpa using h
theorem underB_false {σ : FSt} {k b : Nat} (h : ¬ Under σ k b) : underB σ k b = false := by unfold underB; simpa using h
theorem underB_iff {σ : FSt} {k b : Nat} : underB σ k b = true ↔ Under σ k b := by unfold underB; simp
noncomputable def overE (σ : FSt) (b : Nat) (y : List UInt8) (k : Nat) : Int :=
  match lookS σ b y with
  | none => if dirS σ k = true ∧ underB σ k b = true then 22 else 0
  | some o => if o = k then 0 else if dirS σ k ≠ dirS σ o then (if dirS σ k = true then 20 else 21) else if dirS σ k = true ∧ underB σ k b = true then 22 else if sizeD σ o ≠ 0 then 39 else 0
noncomputable def toE (σ : FSt) (dir : Int) (t : List UInt8) (a k : Nat) : Int :=
  if (aheadE σ dir t).1 ≠ 0 then (aheadE σ dir t).1
  else if slashS t = true ∧ dirS σ k = false then 20
  else if linkN σ (aheadE σ dir t).2.1 = 0 then 2
  else if mayS σ a 2 = false ∨ mayS σ (aheadE σ dir t).2.1 2 = false then 13
  else overE σ (aheadE σ dir t).2.1 (aheadE σ dir t).2.2 k
noncomputable def renE (σ : FSt) (dir : Int) (s t : List UInt8) : Int :=
  if (aheadE σ dir s).1 ≠ 0 then (aheadE σ dir s).1
  else match lookS σ (aheadE σ dir s).2.1 (aheadE σ dir s).2.2 with
    | none => 2
    | some k => if slashS s = true ∧ dirS σ k = false then 20 else toE σ dir t (aheadE σ dir s).2.1 k
def moveS (σ : FSt) (a : Nat) (x : List UInt8) (b : Nat) (y : List UInt8) : FSt :=
  match lookS σ a x with
  | none => σ
  | some k => match lookS σ b y with
    | none => carryS σ a x b y k
    | some o => if o = k then σ else carryS (goneS σ b y) a x b y k
noncomputable def renR (σ : FSt) (dir : Int) (s t : List UInt8) : Int × FSt := if renE σ dir s t ≠ 0 then (renE σ dir s t, σ) else (0, moveS σ (aheadE σ dir s).2.1 (aheadE σ dir s).2.2 (aheadE σ dir t).2.1 (aheadE σ dir t).2.2)
/-- Behind what was taken away the way up is what it was. -/
theorem Under.gone {σ : FSt} {b o : Nat} {m no : Nd} {y : List UInt8} (hb : σ.nd b = some m) (hy : kget y m.ents = some o) (ho : σ.nd o = some no) (hob : o ≠ b) {k j : Nat} (h : Under (goneS σ b y) k j) : Under σ k j := by
  obtain ⟨d, hd⟩ := h
  refine ⟨d, hd.same (.inr rfl) fun i n b1 b2 b3 b4 b5 => ⟨b2, ?_⟩⟩
  rw [goneS_nd hb hy ho hob] at b3
  split at b3
  · rename_i e
    split at b3
    · cases b3
    · cases b3
      exact ⟨no, by rw [e]; exact ho, b4, fun e2 => b5 (show no.links - 1 = 0 by omega), rfl⟩
  · split at b3
    · rename_i e
      cases b3
      exact ⟨m, by rw [e]; exact hb, b4, b5, rfl⟩
    · exact ⟨n, b3, b4, b5, rfl⟩
end Go.Proofs.YtlhmmiolnbgloaaGreatDoor

/- files.FS.Link. Conditions: the contract's own premises. -/
namespace Go.Proofs.YtlhmmiolnbgloaaGreatDoor
open Go.RowKit

def linkE (σ : FSt) (dir : Int) (s t : List UInt8) : Int :=
  if (walkE σ dir s).1 ≠ 0 then (walkE σ dir s).1
  else if dirS σ (walkE σ dir s).2 = true then 21
  else if (aheadE σ dir t).1 ≠ 0 then (aheadE σ dir t).1
  else if slashS t = true then 21
  else openS σ (aheadE σ dir t).2.1 (aheadE σ dir t).2.2
def linkT (σ : FSt) (dir : Int) (s t : List UInt8) : FSt := linkS (relS σ (walkE σ dir s).2 more) (aheadE σ dir t).2.1 (aheadE σ dir t).2.2 (walkE σ dir s).2
def linkR (σ : FSt) (dir : Int) (s t : List UInt8) : Int × FSt := if linkE σ dir s t ≠ 0 then (linkE σ dir s t, σ) else (0, linkT σ dir s t)
theorem Live.moreL {σ : FSt} (h : Live σ) {k : Nat} {nk : Nd} (hk : σ.nd k = some nk) (hd : nk.d = false) : Live (σ.put k (some (more nk))) := by
  refine h.put hk rfl (fun e => ?_) (h.ents k nk hk) (fun e => ?_) ?_ (h.names k nk hk)
  · obtain ⟨r, h1, h2, _⟩ := h.root
    rw [e, h1] at hk
    cases hk
    rw [hd] at h2
    cases h2
  · have : nk.d = true := e
    rw [hd] at this
    cases this
  · rw [same_byts hk (n' := more nk) rfl]; exact h.byts
end Go.Proofs.YtlhmmiolnbgloaaGreatDoor
