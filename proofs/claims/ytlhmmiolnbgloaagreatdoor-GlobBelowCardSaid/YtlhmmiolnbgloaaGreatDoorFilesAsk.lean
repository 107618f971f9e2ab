/- files.FS.Chmod, Hold, Drop, Stat, Count, May. Conditions: the contracts' own premises. -/
import Derived.Test.YtlhmmiolnbgloaaGreatDoorFilesInvB
import Derived.Test.YtlhmmiolnbgloaaGreatDoorFilesS
namespace Go.Proofs.YtlhmmiolnbgloaaGreatDoor
open Go.RowKit

/-- An inode's counts or mode changed. -/
theorem FilesAt.statD {w : World} {f : Nat} {σ : FSt} {S : Nat → Prop} {p : Nat → Nat} (h : FilesAt w f σ S p) {i : Nat} {n : Nd} (hn : σ.nd i = some n) : ∃ dvi evi pvi,
    w.heap[p i]? = some (.cells #[.int .i64 i, .int .i64 (if n.d then 2 else 1), .int .i64 n.mode, .int .i64 n.links, .int .i64 n.holds, dvi, evi, pvi] 65 (0, 0)) ∧
    ∀ (w' : World) (n' : Nd), n'.d = n.d → n'.data = n.data → n'.ents = n.ents → n'.par = n.par → n'.mode < 512 → (n.d = true → 0 < n'.links → 0 < n.links) → Live (σ.put i (some n')) → Fr (fun k => k = p i) w w' →
      w'.heap[p i]? = some (.cells #[.int .i64 i, .int .i64 (if n.d then 2 else 1), .int .i64 n'.mode, .int .i64 n'.links, .int .i64 n'.holds, dvi, evi, pvi] 65 (0, 0)) → FilesAt w' f (σ.put i (some n')) S p ∧ Fr S w w' := by
  obtain ⟨dv, ev, pv, lv, hF⟩ := h
  have hN := hF.nd i n hn
  refine ⟨dv i, ev i, pv i, hN.hb, fun w' n' h1 h2 h3 h4 h5 h6 h7 hf hb => ⟨⟨_, _, _, _, hF.changed hf hn (fun k e => .inr (.inl e)) ?_ ⟨by rw [h1]; exact hb, ?_, fun hd => ?_, fun hd => ?_, fun hd hl => ?_, hN.ptr, h5⟩ (fun g e => .inl e) (fun m e => e) h7⟩, hf.mono (fun k _ e => e ▸ hF.ownn i (by rw [hn]; rfl))⟩⟩
  · rw [same_byts hn h2]
    exact hf.get hF.hb (fun e => cells_ne hF.hb hN.hb (by decide) e)
  · rw [h2]
    refine hN.data.frame hf (fun g e e2 => ?_)
    obtain ⟨c, hc⟩ := hN.data.blk e
    exact cells_ne hc (e2 ▸ hN.hb) (by decide) rfl
  · obtain ⟨a1, m, a2, a3⟩ := hN.dir (h1 ▸ hd)
    refine ⟨by rw [h2]; exact a1, m, a2, ?_⟩
    rw [h3]
    refine a3.frame hf (fun e => ?_)
    obtain ⟨es, clock, hm, _⟩ := a3.own
    rw [e, hN.hb] at hm; cases hm
  · obtain ⟨a1, a2⟩ := hN.file (h1 ▸ hd)
    exact ⟨a1, by rw [h3]; exact a2⟩
  · rw [h4]; exact hN.par (h1 ▸ hd) (h6 (h1 ▸ hd) hl)
theorem FilesAt.stat {w : World} {f : Nat} {σ : FSt} {S : Nat → Prop} {p : Nat → Nat} (h : FilesAt w f σ S p) {i : Nat} {n : Nd} (hn : σ.nd i = some n) : ∃ dvi evi pvi,
    w.heap[p i]? = some (.cells #[.int .i64 i, .int .i64 (if n.d then 2 else 1), .int .i64 n.mode, .int .i64 n.links, .int .i64 n.holds, dvi, evi, pvi] 65 (0, 0)) ∧
    ∀ (w' : World) (n' : Nd), n'.d = n.d → n'.data = n.data → n'.ents = n.ents → n'.par = n.par → n'.mode < 512 → (0 < n'.links → 0 < n.links) → Live (σ.put i (some n')) → Fr (fun k => k = p i) w w' →
      w'.heap[p i]? = some (.cells #[.int .i64 i, .int .i64 (if n.d then 2 else 1), .int .i64 n'.mode, .int .i64 n'.links, .int .i64 n'.holds, dvi, evi, pvi] 65 (0, 0)) → FilesAt w' f (σ.put i (some n')) S p ∧ Fr S w w' := by
  obtain ⟨a, b, c, h1, h2⟩ := h.statD hn
  exact ⟨a, b, c, h1, fun w' n' x1 x2 x3 x4 x5 x6 x7 x8 x9 => h2 w' n' x1 x2 x3 x4 x5 (fun _ => x6) x7 x8 x9⟩
theorem ndI_some {σ : FSt} {i : Int} {n : Nd} (h : σ.ndI i = some n) : ∃ k : Nat, i = k ∧ σ.nd k = some n := by
  unfold FSt.ndI at h
  split at h
  · exact ⟨i.toNat, by omega, h⟩
  · cases h
theorem ptrI_none {σ : FSt} {p : Nat → Nat} {i : Int} (h : σ.ndI i = none) : ptrI σ p i = .pointer none := by unfold ptrI; rw [h]
theorem ptrI_nat {σ : FSt} {p : Nat → Nat} {k : Nat} {n : Nd} (h : σ.nd k = some n) : ptrI σ p (k : Int) = .pointer (some ⟨p k, 0, none⟩) := by unfold ptrI; rw [ndI_nat h]; simp
def chmodR (σ : FSt) (i m : Int) : Int × FSt := match σ.ndI i with | none => (9, σ) | some n => (0, σ.put i.toNat (some { n with mode := modeN m }))
def holdR (σ : FSt) (i : Int) : Int × FSt := match σ.ndI i with | none => (9, σ) | some n => (0, σ.put i.toNat (some { n with holds := n.holds + 1 }))
theorem Live.meta {σ : FSt} (h : Live σ) {i : Nat} {n n' : Nd} (hn : σ.nd i = some n) (hd : n'.d = n.d) (hl : n'.links = n.links) (he : n'.ents = n.ents) (hp : n'.par = n.par) (hdt : n'.data = n.data) : Live (σ.put i (some n')) :=
  h.rel hn hd (fun e => by obtain ⟨r, h1, _, h2⟩ := h.root; rw [e, h1] at hn; cases hn; rw [hl, h2]) he hp (fun e => by rw [← hl]; exact e) hdt
/-- Are these bits there? -/
def mayR (σ : FSt) (i k : Int) : Bool := match σ.ndI i with | none => false | some n => if 1 ≤ k ∧ k ≤ 7 then mayN n.mode k.toNat else false
set_option maxRecDepth 100000 in
theorem May_any (w : World) (f : Nat) (σ : FSt) (S : Nat → Prop) (p : Nat → Nat) (h : FilesAt w f σ S p) (i k : Int) (hi : -9223372036854775808 ≤ i ∧ i ≤ 9223372036854775807) (hk : -9223372036854775808 ≤ k ∧ k ≤ 9223372036854775807) :
    Calls Tryz.prog 61 #[.pointer (some ⟨f, 0, none⟩), .int .i64 i, .int .i64 k] w fun e w' => e = .returned (.bool (mayR σ i k)) ∧ w' = w := by
  have hget := hide (fget_any w f σ S p h i hi)
  cases hn : σ.ndI i with
  | none =>
    rw [show mayR σ i k = false by unfold mayR; rw [hn]]
    rw [ptrI_none hn] at hget
    clear hn
    go_enter Tryz.func61, Tryz.ntmps61
    go_wp2_with fail
    refine hget.out.mono ?_
    rintro e w1 ⟨rfl, rfl⟩
    clear hget
    go_wp2_with fail
    go_ret
    exact ⟨rfl, rfl⟩
  | some n =>
    obtain ⟨j, rfl, hj⟩ := ndI_some hn
    have hdef : mayR σ j k = if 1 ≤ k ∧ k ≤ 7 then mayN n.mode k.toNat else false := by unfold mayR; rw [hn]
    rw [ptrI_nat hj] at hget
    obtain ⟨_, _, _, hN⟩ := h.node hj
    by_cases h1 : 1 ≤ k
    · by_cases h7 : k ≤ 7
      · rw [hdef, if_pos ⟨h1, h7⟩]
        obtain ⟨q, rfl⟩ : ∃ q : Nat, k = q := ⟨k.toNat, by omega⟩
        have hmay := hide (may_any w p (p j) j n _ _ _ hN q (by omega))
        simp only [Int.toNat_natCast]
        clear hdef hn hN
        generalize mayN n.mode q = b at *
        go_enter Tryz.func61, Tryz.ntmps61
        go_wp2_with fail
        refine hget.out.mono ?_
        rintro e w1 ⟨rfl, rfl⟩
        clear hget
        go_wp2_with fail
        refine hmay.out.mono ?_
        rintro e w1 ⟨rfl, rfl⟩
        clear hmay
        cases b
        all_goals
          go_wp2_with fail
          go_ret
          exact ⟨rfl, rfl⟩
      · rw [hdef, if_neg (fun e => h7 e.2)]
        clear hdef hn hN
        go_enter Tryz.func61, Tryz.ntmps61
        go_wp2_with fail
        refine hget.out.mono ?_
        rintro e w1 ⟨rfl, rfl⟩
        clear hget
        go_wp2_with fail
        go_ret
        exact ⟨rfl, rfl⟩
    · rw [hdef, if_neg (fun e => h1 e.1)]
      clear hdef hn hN
      go_enter Tryz.func61, Tryz.ntmps61
      go_wp2_with fail
      refine hget.out.mono ?_
      rintro e w1 ⟨rfl, rfl⟩
      clear hget
      go_wp2_with fail
      go_ret
      exact ⟨rfl, rfl⟩
def dropR (σ : FSt) (i : Int) : Int × FSt := match σ.ndI i with | none => (9, σ) | some n => if n.holds = 0 then (22, σ) else (0, letS (σ.put i.toNat (some { n with holds := n.holds - 1 })) i.toNat)
end Go.Proofs.YtlhmmiolnbgloaaGreatDoor

/- files.FS.gone, Unlink, Rmdir. Conditions: the contracts' own premises. -/
namespace Go.Proofs.YtlhmmiolnbgloaaGreatDoor
open Go.RowKit

def goneS (σ : FSt) (a : Nat) (nm : List UInt8) : FSt := match lookS σ a nm with | none => σ | some k => letS (relS (cutS σ a nm) k less) k
theorem lookS_some {σ : FSt} {a : Nat} {n : Nd} (h : σ.nd a = some n) (nm : List UInt8) : lookS σ a nm = kget nm n.ents := by unfold lookS; rw [h]
theorem cutS_nd {σ : FSt} {a k : Nat} {n : Nd} {nm : List UInt8} (ha : σ.nd a = some n) (hne : k ≠ a) : (cutS σ a nm).nd k = σ.nd k := by
  unfold cutS
  rw [entS_some ha, put_nd ha, if_neg hne]
theorem CapB.cut {σ : FSt} (h : CapB σ) {a : Nat} {n : Nd} (ha : σ.nd a = some n) (nm : List UInt8) : CapB (cutS σ a nm) := fun j m hj => by
  unfold cutS at hj
  rw [entS_some ha, put_nd ha] at hj
  by_cases e : j = a
  · rw [if_pos e] at hj
    cases hj
    have := h a n ha
    exact ⟨this.1, this.2.1, Nat.le_trans (List.length_filter_le _ _) this.2.2⟩
  · rw [if_neg e] at hj; exact h j m hj
theorem CapB.put {σ : FSt} (h : CapB σ) {a : Nat} {n n' : Nd} (ha : σ.nd a = some n) (h1 : n'.links ≤ n.links) (h2 : n'.holds ≤ n.holds) (h3 : n'.ents.length ≤ n.ents.length) : CapB (σ.put a (some n')) := fun j m hj => by
  rw [put_nd ha] at hj
  by_cases e : j = a
  · rw [if_pos e] at hj
    cases hj
    have := h a n ha
    omega
  · rw [if_neg e] at hj; exact h j m hj
def dirS (σ : FSt) (i : Nat) : Bool := match σ.nd i with | none => false | some n => n.d
def mayS (σ : FSt) (i k : Nat) : Bool := match σ.nd i with | none => false | some n => mayN n.mode k
def unlinkE (σ : FSt) (dir : Int) (s : List UInt8) : Int :=
  if (aheadE σ dir s).1 ≠ 0 then (aheadE σ dir s).1
  else match lookS σ (aheadE σ dir s).2.1 (aheadE σ dir s).2.2 with
    | none => 2
    | some k => if slashS s = true ∧ dirS σ k = false then 20 else if dirS σ k = true then 21 else if mayS σ (aheadE σ dir s).2.1 2 = false then 13 else 0
def sizeD (σ : FSt) (i : Nat) : Nat := match σ.nd i with | none => 0 | some n => n.ents.length
def unlinkR (σ : FSt) (dir : Int) (s : List UInt8) : Int × FSt := if unlinkE σ dir s ≠ 0 then (unlinkE σ dir s, σ) else (0, goneS σ (aheadE σ dir s).2.1 (aheadE σ dir s).2.2)
def rmdirE (σ : FSt) (dir : Int) (s : List UInt8) : Int :=
  if (aheadE σ dir s).1 ≠ 0 then (aheadE σ dir s).1
  else match lookS σ (aheadE σ dir s).2.1 (aheadE σ dir s).2.2 with
    | none => 2
    | some k => if dirS σ k = false then 20 else if sizeD σ k ≠ 0 then 39 else if mayS σ (aheadE σ dir s).2.1 2 = false then 13 else 0
def rmdirR (σ : FSt) (dir : Int) (s : List UInt8) : Int × FSt := if rmdirE σ dir s ≠ 0 then (rmdirE σ dir s, σ) else (0, goneS σ (aheadE σ dir s).2.1 (aheadE σ dir s).2.2)
end Go.Proofs.YtlhmmiolnbgloaaGreatDoor

/- Every method of files.FS at no tree (nil): EBADF, nothing. No condition. -/
namespace Go.Proofs.YtlhmmiolnbgloaaGreatDoor
open Go.RowKit

set_option maxRecDepth 100000 in
theorem fget_nil (w : World) (i : Int) : Calls Tryz.prog 21 #[.pointer none, .int .i64 i] w fun e w' => e = .returned (.pointer none) ∧ w = w' := by
  go_enter Tryz.func21, Tryz.ntmps21
  go_wp2
  go_ret
  exact ⟨rfl, rfl⟩
set_option maxRecDepth 100000 in
theorem start_nil (w : World) (dir : Int) (s : ByteArray) : Calls Tryz.prog 45 #[.pointer none, .int .i64 dir, .string s] w fun e w' => e = .returned (.tuple #[.agg #[.pointer none, .slice none 0 0, .bool false], .int .i64 9]) ∧ Fr (fun _ => False) w w' := by
  go_enter Tryz.func45, Tryz.ntmps45
  go_wp2_with fail
  refine (fget_nil _ _).mono ?_
  rintro e w1 ⟨rfl, rfl⟩
  go_wp2_with fail
  go_returns
  exact ⟨rfl, by first | exact Fr.refl _ _ | exact (Fr.refl _ _).alloc _⟩
set_option maxRecDepth 100000 in
theorem fwalk_nil (w : World) (dir : Int) (s : ByteArray) : Calls Tryz.prog 28 #[.pointer none, .int .i64 dir, .string s] w fun e w' => e = .returned (.tuple #[.pointer none, .int .i64 9]) ∧ Fr (fun _ => False) w w' := by
  go_enter Tryz.func28, Tryz.ntmps28
  go_wp2_with fail
  refine (start_nil _ _ _).mono ?_
  rintro e w1 ⟨rfl, hf1⟩
  go_wp2_with fail
  go_returns
  exact ⟨rfl, by first | exact hf1 | exact ((Fr.refl (fun _ => False) w).alloc _).trans hf1 | exact hf1.alloc _ | exact (((Fr.refl (fun _ => False) w).alloc _).trans hf1).alloc _⟩
set_option maxRecDepth 100000 in
theorem Walk_nil (w : World) (dir : Int) (s : ByteArray) : Calls Tryz.prog 11 #[.pointer none, .int .i64 dir, .string s] w fun e w' => e = .returned (.tuple #[.int .i64 0, .int .i64 9]) ∧ Fr (fun _ => False) w w' := by
  go_enter Tryz.func11, Tryz.ntmps11
  go_wp2_with fail
  refine (fwalk_nil _ _ _).mono ?_
  rintro e w1 ⟨rfl, hf1⟩
  go_wp2_with fail
  go_returns
  exact ⟨rfl, by first | exact hf1 | exact ((Fr.refl (fun _ => False) w).alloc _).trans hf1 | exact hf1.alloc _ | exact (((Fr.refl (fun _ => False) w).alloc _).trans hf1).alloc _⟩
set_option maxRecDepth 100000 in
theorem Stat_nil (w : World) (i : Int) : Calls Tryz.prog 12 #[.pointer none, .int .i64 i] w fun e w' => e = .returned (.tuple #[.agg #[.int .i64 0, .int .i64 0, .int .i64 0, .int .i64 0, .int .i64 0], .int .i64 9]) ∧ Fr (fun _ => False) w w' := by
  go_enter Tryz.func12, Tryz.ntmps12
  go_wp2_with fail
  refine (fget_nil _ _).mono ?_
  rintro e w1 ⟨rfl, rfl⟩
  go_wp2_with fail
  go_returns
  exact ⟨rfl, by first | exact Fr.refl _ _ | exact (Fr.refl _ _).alloc _⟩
set_option maxRecDepth 100000 in
theorem List_nil (w : World) (i : Int) : Calls Tryz.prog 7 #[.pointer none, .int .i64 i] w fun e w' => e = .returned (.tuple #[.slice none 0 0, .int .i64 9]) ∧ w = w' := by
  go_enter Tryz.func7, Tryz.ntmps7
  go_wp2_with fail
  refine (fget_nil _ _).mono ?_
  rintro e w1 ⟨rfl, rfl⟩
  go_wp2_with fail
  go_returns
  exact ⟨rfl, rfl⟩
set_option maxRecDepth 100000 in
theorem May_nil (w : World) (i n : Int) : Calls Tryz.prog 61 #[.pointer none, .int .i64 i, .int .i64 n] w fun e w' => e = .returned (.bool false) ∧ w = w' := by
  go_enter Tryz.func61, Tryz.ntmps61
  go_wp2_with fail
  refine (fget_nil _ _).mono ?_
  rintro e w1 ⟨rfl, rfl⟩
  go_wp2_with fail
  go_ret
  exact ⟨rfl, rfl⟩
def placeNil : Value := .agg #[.pointer none, .string ⟨#[]⟩, .bool false]
set_option maxRecDepth 100000 in
theorem ahead_nil (w : World) (dir : Int) (s : ByteArray) : Calls Tryz.prog 48 #[.pointer none, .int .i64 dir, .string s] w fun e w' => e = .returned (.tuple #[placeNil, .int .i64 9]) ∧ Fr (fun _ => False) w w' := by
  go_enter Tryz.func48, Tryz.ntmps48
  go_wp2_with fail
  refine (start_nil _ _ _).mono ?_
  rintro e w1 ⟨rfl, hf1⟩
  have hf0 : Fr (fun _ => False) w (w.alloc (.cells #[.pointer none, .string ⟨#[]⟩, .bool false] 103 (0, 0))) := (Fr.refl _ _).alloc _
  have hb1 := hf1.get (blk_new w (.cells #[.pointer none, .string ⟨#[]⟩, .bool false] 103 (0, 0))) (fun e => e)
  have hb2 := blk_alloc hb1 (.cells #[.pointer none, .slice none 0 0, .bool false] 96 (0, 0))
  have zz := blk_frozen hb2
  obtain ⟨c0, c1, c2, c90, c91, c92, hfs⟩ := cells3 hb2 (.pointer none) (.string ⟨#[]⟩) (.bool false)
  have hres : Fr (fun _ => False) w _ := ((hf0.trans hf1).alloc (.cells #[.pointer none, .slice none 0 0, .bool false] 96 (0, 0))).trans' hfs (fun i hi e => by omega)
  have hres := hide hres
  go_wp2_with fail
  refine bodyPost_ret (by simp [results, Tryz.results48, go_sem, c90, c91, c92]; try rfl) rfl ?_
  exact ⟨rfl, hres.out⟩

set_option maxRecDepth 100000 in
theorem add_nil (w : World) (dir : Int) (s : ByteArray) (nv : Value) : Calls Tryz.prog 30 #[.pointer none, .int .i64 dir, .string s, nv] w fun e w' => e = .returned (.int .i64 9) ∧ Fr (fun _ => False) w w' := by
  have hmm := @run_makeMap Tryz.prog
  go_enter Tryz.func30, Tryz.ntmps30
  go_wp2_with fail
  refine (ahead_nil _ _ _).mono ?_
  rintro e w1 ⟨rfl, hf1⟩
  unfold placeNil
  go_wp2_with fail
  go_ret
  exact ⟨rfl, by first | exact hf1 | exact hf1.alloc _ | exact ((Fr.refl (fun _ => False) w).alloc _).trans hf1 | exact (((Fr.refl (fun _ => False) w).alloc _).alloc _).trans hf1⟩
set_option maxRecDepth 100000 in
theorem Create_nil (w : World) (dir : Int) (s : ByteArray) (m : Int) : Calls Tryz.prog 16 #[.pointer none, .int .i64 dir, .string s, .int .i64 m] w fun e w' => e = .returned (.tuple #[.int .i64 0, .int .i64 9]) ∧ Fr (fun _ => False) w w' := by
  have hmm := @run_makeMap Tryz.prog
  go_enter Tryz.func16, Tryz.ntmps16
  go_wp2_with fail
  refine (add_nil _ _ _ _).mono ?_
  rintro e w1 ⟨rfl, hf1⟩
  skip
  go_wp2_with fail
  go_returns
  exact ⟨rfl, by first | exact hf1 | exact hf1.alloc _ | exact ((Fr.refl (fun _ => False) w).alloc _).trans hf1 | exact (((Fr.refl (fun _ => False) w).alloc _).alloc _).trans hf1⟩
set_option maxRecDepth 100000 in
theorem Mkdir_nil (w : World) (dir : Int) (s : ByteArray) (m : Int) : Calls Tryz.prog 15 #[.pointer none, .int .i64 dir, .string s, .int .i64 m] w fun e w' => e = .returned (.int .i64 9) ∧ Fr (fun _ => False) w w' := by
  have hmm := @run_makeMap Tryz.prog
  go_enter Tryz.func15, Tryz.ntmps15
  go_wp2_with fail
  refine (add_nil _ _ _ _).mono ?_
  rintro e w1 ⟨rfl, hf1⟩
  skip
  go_wp2_with fail
  go_ret
  exact ⟨rfl, by first | exact hf1 | exact hf1.alloc _ | exact ((Fr.refl (fun _ => False) w).alloc _).trans hf1 | exact (((Fr.refl (fun _ => False) w).alloc _).alloc _).trans hf1⟩
end Go.Proofs.YtlhmmiolnbgloaaGreatDoor

/- shyardlaw08.ask, joined: over whatever the methods do. Conditions: the contracts' own premises. -/
namespace Go.Proofs.YtlhmmiolnbgloaaGreatDoor
open Go.RowKit

/-- A call of the law's. -/
structure CallQ where
  what : Int
  n : Int
  m : Int
  k : Int
  path : ByteArray
  other : ByteArray
structure CallOk (c : CallQ) : Prop where
  w : -9223372036854775808 ≤ c.what ∧ c.what ≤ 9223372036854775807
  n : -9223372036854775808 ≤ c.n ∧ c.n ≤ 9223372036854775807
  m : -9223372036854775808 ≤ c.m ∧ c.m ≤ 9223372036854775807
  k : -9223372036854775808 ≤ c.k ∧ c.k ≤ 9223372036854775807
  path : c.path.size ≤ 140737488355328
  other : c.other.size ≤ 140737488355328
def callV (c : CallQ) : Value := .agg #[.int .i64 c.what, .int .i64 c.n, .int .i64 c.m, .int .i64 c.k, .string c.path, .string c.other]
structure StQ where
  ino : Int
  kind : Int
  mode : Int
  links : Int
  size : Int
def noSt : StQ := ⟨0, 0, 0, 0, 0⟩
/-- An answer. -/
structure AnsQ where
  n : Int
  s : ByteArray
  st : StQ
  list : ByteArray
  e : Int
def noBA : ByteArray := ⟨#[]⟩
def errA (e : Int) : AnsQ := ⟨0, noBA, noSt, noBA, e⟩
def stV (t : StQ) : Value := .agg #[.int .i64 t.ino, .int .i64 t.kind, .int .i64 t.mode, .int .i64 t.links, .int .i64 t.size]
def ansV (a : AnsQ) : Value := .agg #[.int .i64 a.n, .string a.s, .int .i64 a.st.ino, .int .i64 a.st.kind, .int .i64 a.st.mode, .int .i64 a.st.links, .int .i64 a.st.size, .string a.list, .int .i64 a.e]
/-- What joined makes of names. -/
def joinB : List ByteArray → ByteArray
  | [] => noBA
  | x :: r => x ++ ⟨#[47]⟩ ++ joinB r
def joinL (l : List ByteArray) : List UInt8 := (l.map fun x => x.data.toList ++ [47]).flatten

theorem joinL_succ (l : List ByteArray) (k : Nat) (hk : k < l.length) : joinL (l.take (k + 1)) = joinL (l.take k) ++ (l[k].data.toList ++ [47]) := by
  unfold joinL
  rw [List.take_succ_eq_append_getElem hk, List.map_append, List.flatten_append]
  simp
theorem joinL_len (l : List ByteArray) (h : ∀ x ∈ l, x.size ≤ 1000000) : (joinL l).length ≤ l.length * 1000001 := by
  induction l with
  | nil => exact Nat.le_refl _
  | cons x l ih =>
    have h1 := ih fun y hy => h y (by simp [hy])
    have h2 := h x (by simp)
    unfold joinL at h1 ⊢
    simp only [List.map_cons, List.flatten_cons, List.length_append, List.length_cons, List.length_nil, ba_len]
    omega
theorem cells9 {W : World} {b T : Nat} {x0 x1 x2 x3 x4 x5 x6 x7 x8 : Value} (h : W.heap[b]? = some (.cells #[x0, x1, x2, x3, x4, x5, x6, x7, x8] T (0, 0))) :
    W.cell? ⟨b, 0, none⟩ = some x0 ∧ W.cell? ⟨b, 1, none⟩ = some x1 ∧ W.cell? ⟨b, 2, none⟩ = some x2 ∧ W.cell? ⟨b, 3, none⟩ = some x3 ∧ W.cell? ⟨b, 4, none⟩ = some x4 ∧ W.cell? ⟨b, 5, none⟩ = some x5 ∧ W.cell? ⟨b, 6, none⟩ = some x6 ∧ W.cell? ⟨b, 7, none⟩ = some x7 ∧ W.cell? ⟨b, 8, none⟩ = some x8 := by
  refine ⟨?_, ?_, ?_, ?_, ?_, ?_, ?_, ?_, ?_⟩ <;> (rw [blk_cell h]; rfl)
def Mine (w : World) (k : Nat) : Prop := w.heap.size ≤ k ∧ k < w.heap.size + 1 + 1 + 1
/-- What the method leaves alone, and what stands behind it. -/
def AskR (w w0 : World) (R : AnsQ → World → Prop) (a : AnsQ) (w1 : World) : Prop := Fr (fun k => ¬ Mine w k) w0 w1 ∧ ∀ w2, Fr (Mine w) w1 w2 → R a w2
def AskPost (R : AnsQ → World → Prop) (e : Ending) (w' : World) : Prop := ∃ a, e = .returned (ansV a) ∧ R a w'
theorem cells9w {X : World} {b T : Nat} {x0 x1 x2 x3 x4 x5 x6 x7 x8 : Value} (h0 : X.heap[b]? = some (.cells #[x0, x1, x2, x3, x4, x5, x6, x7, x8] T (0, 0))) (z0 z1 z2 z3 z4 z5 z6 z7 z8 : Value) :
    (X.setCell ⟨b, 0, none⟩ z0).cell? ⟨b, 0, none⟩ = some z0 ∧ ((X.setCell ⟨b, 0, none⟩ z0).setCell ⟨b, 1, none⟩ z1).cell? ⟨b, 1, none⟩ = some z1 ∧ (((X.setCell ⟨b, 0, none⟩ z0).setCell ⟨b, 1, none⟩ z1).setCell ⟨b, 2, none⟩ z2).cell? ⟨b, 2, none⟩ = some z2 ∧ ((((X.setCell ⟨b, 0, none⟩ z0).setCell ⟨b, 1, none⟩ z1).setCell ⟨b, 2, none⟩ z2).setCell ⟨b, 3, none⟩ z3).cell? ⟨b, 3, none⟩ = some z3 ∧ (((((X.setCell ⟨b, 0, none⟩ z0).setCell ⟨b, 1, none⟩ z1).setCell ⟨b, 2, none⟩ z2).setCell ⟨b, 3, none⟩ z3).setCell ⟨b, 4, none⟩ z4).cell? ⟨b, 4, none⟩ = some z4 ∧ ((((((X.setCell ⟨b, 0, none⟩ z0).setCell ⟨b, 1, none⟩ z1).setCell ⟨b, 2, none⟩ z2).setCell ⟨b, 3, none⟩ z3).setCell ⟨b, 4, none⟩ z4).setCell ⟨b, 5, none⟩ z5).cell? ⟨b, 5, none⟩ = some z5 ∧ (((((((X.setCell ⟨b, 0, none⟩ z0).setCell ⟨b, 1, none⟩ z1).setCell ⟨b, 2, none⟩ z2).setCell ⟨b, 3, none⟩ z3).setCell ⟨b, 4, none⟩ z4).setCell ⟨b, 5, none⟩ z5).setCell ⟨b, 6, none⟩ z6).cell? ⟨b, 6, none⟩ = some z6 ∧ ((((((((X.setCell ⟨b, 0, none⟩ z0).setCell ⟨b, 1, none⟩ z1).setCell ⟨b, 2, none⟩ z2).setCell ⟨b, 3, none⟩ z3).setCell ⟨b, 4, none⟩ z4).setCell ⟨b, 5, none⟩ z5).setCell ⟨b, 6, none⟩ z6).setCell ⟨b, 7, none⟩ z7).cell? ⟨b, 7, none⟩ = some z7 ∧ (((((((((X.setCell ⟨b, 0, none⟩ z0).setCell ⟨b, 1, none⟩ z1).setCell ⟨b, 2, none⟩ z2).setCell ⟨b, 3, none⟩ z3).setCell ⟨b, 4, none⟩ z4).setCell ⟨b, 5, none⟩ z5).setCell ⟨b, 6, none⟩ z6).setCell ⟨b, 7, none⟩ z7).setCell ⟨b, 8, none⟩ z8).cell? ⟨b, 8, none⟩ = some z8 := by
  have h1 := blk_set h0 0 z0
  have h2 := blk_set h1 1 z1
  have h3 := blk_set h2 2 z2
  have h4 := blk_set h3 3 z3
  have h5 := blk_set h4 4 z4
  have h6 := blk_set h5 5 z5
  have h7 := blk_set h6 6 z6
  have h8 := blk_set h7 7 z7
  have h9 := blk_set h8 8 z8
  exact ⟨by rw [blk_cell h1]; simp, by rw [blk_cell h2]; simp, by rw [blk_cell h3]; simp, by rw [blk_cell h4]; simp, by rw [blk_cell h5]; simp, by rw [blk_cell h6]; simp, by rw [blk_cell h7]; simp, by rw [blk_cell h8]; simp, by rw [blk_cell h9]; simp⟩
end Go.Proofs.YtlhmmiolnbgloaaGreatDoor
