/- files.FS.Chmod, Hold, Drop, Stat, Count, May. Conditions: the contracts' own premises. -/
import Derived.Test.YtffekmjoenppaaaGreatDoorFilesInvB
import Derived.Test.YtffekmjoenppaaaGreatDoorFilesR
namespace Go.Proofs.YtffekmjoenppaaaGreatDoor
open Go.RowKit

/-- An inode's counts or mode changed. -/
theorem FilesAt.statD {w : World} {f : Nat} {σ : FSt} {S : Nat → Prop} {p : Nat → Nat} (h : FilesAt w f σ S p) {i : Nat} {n : Nd} (hn : σ.nd i = some n) : ∃ dvi evi pvi,
    w.heap[p i]? = some (.cells #[.int .i64 i, .int .i64 (if n.d then 2 else 1), .int .i64 n.mode, .int .i64 n.links, .int .i64 n.holds, dvi, evi, pvi] 90 (0, 0)) ∧
    ∀ (w' : World) (n' : Nd), n'.d = n.d → n'.data = n.data → n'.ents = n.ents → n'.par = n.par → n'.mode < 512 → (n.d = true → 0 < n'.links → 0 < n.links) → Live (σ.put i (some n')) → Fr (fun k => k = p i) w w' →
      w'.heap[p i]? = some (.cells #[.int .i64 i, .int .i64 (if n.d then 2 else 1), .int .i64 n'.mode, .int .i64 n'.links, .int .i64 n'.holds, dvi, evi, pvi] 90 (0, 0)) → FilesAt w' f (σ.put i (some n')) S p ∧ Fr S w w' := by
  obtain ⟨dv, ev, pv, lv, hF⟩ := h
  have hN := hF.nd i n hn
  refine ⟨dv i, ev i, pv i, hN.hb, fun w' n' h1 h2 h3 h4 h5 h6 h7 hf hb => ⟨⟨_, _, _, _, hF.changed hf hn (fun k e => .inr (.inl e)) ?_ ⟨by rw [h1]; exact hb, ?_, fun hd => ?_, fun hd => ?_, fun hd hl => ?_, hN.ptr, h5⟩ (fun g e => .inl e) (fun m e => e) h7⟩, hf.mono (fun k _ e => e ▸ hF.ownn i (by rw [hn]; rfl))⟩⟩
  · rw [same_byts hn h2]
    exact hf.get hF.hb (fun e => cells_ne hF.hb hN.hb (by decide) e)
  · rw [h2]
    refine hN.data.frame hf (fun g e e2 => ?_)
    obtain ⟨c, hc⟩ := hN.data.blk e
    exact cells_ne hc (e2 ▸ hN.hb) (by decide) rfl
  · obtain ⟨a1, m, a2, a3⟩ := hN.dir (h1 ▸ hd)
    refine ⟨by rw [h2]; exact a1, m, a2, ?_⟩
    rw [h3]
    refine a3.frame hf (fun e => ?_)
    obtain ⟨es, clock, hm, _⟩ := a3.own
    rw [e, hN.hb] at hm; cases hm
  · obtain ⟨a1, a2⟩ := hN.file (h1 ▸ hd)
    exact ⟨a1, by rw [h3]; exact a2⟩
  · rw [h4]; exact hN.par (h1 ▸ hd) (h6 (h1 ▸ hd) hl)
theorem FilesAt.stat {w : World} {f : Nat} {σ : FSt} {S : Nat → Prop} {p : Nat → Nat} (h : FilesAt w f σ S p) {i : Nat} {n : Nd} (hn : σ.nd i = some n) : ∃ dvi evi pvi,
    w.heap[p i]? = some (.cells #[.int .i64 i, .int .i64 (if n.d then 2 else 1), .int .i64 n.mode, .int .i64 n.links, .int .i64 n.holds, dvi, evi, pvi] 90 (0, 0)) ∧
    ∀ (w' : World) (n' : Nd), n'.d = n.d → n'.data = n.data → n'.ents = n.ents → n'.par = n.par → n'.mode < 512 → (0 < n'.links → 0 < n.links) → Live (σ.put i (some n')) → Fr (fun k => k = p i) w w' →
      w'.heap[p i]? = some (.cells #[.int .i64 i, .int .i64 (if n.d then 2 else 1), .int .i64 n'.mode, .int .i64 n'.links, .int .i64 n'.holds, dvi, evi, pvi] 90 (0, 0)) → FilesAt w' f (σ.put i (some n')) S p ∧ Fr S w w' := by
  obtain ⟨a, b, c, h1, h2⟩ := h.statD hn
  exact ⟨a, b, c, h1, fun w' n' x1 x2 x3 x4 x5 x6 x7 x8 x9 => h2 w' n' x1 x2 x3 x4 x5 (fun _ => x6) x7 x8 x9⟩
theorem ndI_some {σ : FSt} {i : Int} {n : Nd} (h : σ.ndI i = some n) : ∃ k : Nat, i = k ∧ σ.nd k = some n := by
  unfold FSt.ndI at h
  split at h
  · exact ⟨i.toNat, by omega, h⟩
  · cases h
theorem ptrI_none {σ : FSt} {p : Nat → Nat} {i : Int} (h : σ.ndI i = none) : ptrI σ p i = .pointer none := by unfold ptrI; rw [h]
theorem ptrI_nat {σ : FSt} {p : Nat → Nat} {k : Nat} {n : Nd} (h : σ.nd k = some n) : ptrI σ p (k : Int) = .pointer (some ⟨p k, 0, none⟩) := by unfold ptrI; rw [ndI_nat h]; simp
def chmodR (σ : FSt) (i m : Int) : Int × FSt := match σ.ndI i with | none => (9, σ) | some n => (0, σ.put i.toNat (some { n with mode := modeN m }))
def holdR (σ : FSt) (i : Int) : Int × FSt := match σ.ndI i with | none => (9, σ) | some n => (0, σ.put i.toNat (some { n with holds := n.holds + 1 }))
theorem Live.meta {σ : FSt} (h : Live σ) {i : Nat} {n n' : Nd} (hn : σ.nd i = some n) (hd : n'.d = n.d) (hl : n'.links = n.links) (he : n'.ents = n.ents) (hp : n'.par = n.par) (hdt : n'.data = n.data) : Live (σ.put i (some n')) :=
  h.rel hn hd (fun e => by obtain ⟨r, h1, _, h2⟩ := h.root; rw [e, h1] at hn; cases hn; rw [hl, h2]) he hp (fun e => by rw [← hl]; exact e) hdt
set_option maxRecDepth 100000 in
set_option maxHeartbeats 1000000 in
theorem Chmod_any (w : World) (f : Nat) (σ : FSt) (S : Nat → Prop) (p : Nat → Nat) (h : FilesAt w f σ S p) (i m : Int) (hi : -9223372036854775808 ≤ i ∧ i ≤ 9223372036854775807) (hm : -9223372036854775808 ≤ m ∧ m ≤ 9223372036854775807) :
    Calls Tryz.prog 67 #[.pointer (some ⟨f, 0, none⟩), .int .i64 i, .int .i64 m] w (MutPost f (chmodR σ i m).2 S p (.int .i64 (chmodR σ i m).1) w) := by
  have hget := hide (fget_any w f σ S p h i hi)
  cases hn : σ.ndI i with
  | none =>
    rw [show chmodR σ i m = (9, σ) by unfold chmodR; rw [hn]]
    rw [ptrI_none hn] at hget
    have hres := hide (MutPost.still (v := .int .i64 9) h (Fr.refl _ w))
    clear hn
    go_enter Tryz.func67, Tryz.ntmps67
    go_wp2_with fail
    refine hget.out.mono ?_
    rintro e w1 ⟨rfl, rfl⟩
    clear hget
    go_wp2_with fail
    go_ret
    exact hres.out
  | some n =>
    obtain ⟨k, rfl, hk⟩ := ndI_some hn
    rw [show chmodR σ k m = (0, σ.put k (some { n with mode := modeN m })) by unfold chmodR; rw [hn]; simp]
    rw [ptrI_nat hk] at hget
    obtain ⟨dvi, evi, pvi, hb, hnew⟩ := h.stat hk
    have c2 : w.cell? ⟨p k, 2, none⟩ = some (.int .i64 n.mode) := by rw [blk_cell hb]; rfl
    have z2 := blk_frozen hb 2
    have hmode := modeN_eq m
    have hfin := hnew (w.setCell ⟨p k, 2, none⟩ (.int .i64 (modeN m))) { n with mode := modeN m } rfl rfl rfl rfl (modeN_lt m) id (h.live.meta hk rfl rfl rfl rfl rfl) (frSet _ _ _ _) (by rw [blk_set hb]; rfl)
    have hres := hide (show MutPost f (σ.put k (some { n with mode := modeN m })) S p (.int .i64 0) w (.returned (.int .i64 0)) (w.setCell ⟨p k, 2, none⟩ (.int .i64 (modeN m))) from ⟨rfl, hfin.1, hfin.2⟩)
    clear hn hk hnew hfin hb
    go_enter Tryz.func67, Tryz.ntmps67
    go_wp2_with fail
    refine hget.out.mono ?_
    rintro e w1 ⟨rfl, rfl⟩
    clear hget
    go_wp2_with fail
    go_ret
    exact hres.out
set_option maxRecDepth 100000 in
set_option maxHeartbeats 1000000 in
theorem Hold_any (w : World) (f : Nat) (σ : FSt) (S : Nat → Prop) (p : Nat → Nat) (h : FilesAt w f σ S p) (hcap : CapB σ) (i : Int) (hi : -9223372036854775808 ≤ i ∧ i ≤ 9223372036854775807) :
    Calls Tryz.prog 12 #[.pointer (some ⟨f, 0, none⟩), .int .i64 i] w (MutPost f (holdR σ i).2 S p (.int .i64 (holdR σ i).1) w) := by
  have hget := hide (fget_any w f σ S p h i hi)
  cases hn : σ.ndI i with
  | none =>
    rw [show holdR σ i = (9, σ) by unfold holdR; rw [hn]]
    rw [ptrI_none hn] at hget
    have hres := hide (MutPost.still (v := .int .i64 9) h (Fr.refl _ w))
    clear hn
    go_enter Tryz.func12, Tryz.ntmps12
    go_wp2_with fail
    refine hget.out.mono ?_
    rintro e w1 ⟨rfl, rfl⟩
    clear hget
    go_wp2_with fail
    go_ret
    exact hres.out
  | some n =>
    obtain ⟨k, rfl, hk⟩ := ndI_some hn
    rw [show holdR σ k = (0, σ.put k (some { n with holds := n.holds + 1 })) by unfold holdR; rw [hn]; simp]
    rw [ptrI_nat hk] at hget
    obtain ⟨dvi, evi, pvi, hb, hnew⟩ := h.stat hk
    have hcp := (hcap k n hk).2.1
    obtain ⟨_, _, _, hN⟩ := h.node hk
    have hmd := hN.md
    have c2 : w.cell? ⟨p k, 4, none⟩ = some (.int .i64 n.holds) := by rw [blk_cell hb]; rfl
    have z2 := blk_frozen hb 4
    have hfin := hnew (w.setCell ⟨p k, 4, none⟩ (.int .i64 ((n.holds : Int) + 1))) { n with holds := n.holds + 1 } rfl rfl rfl rfl hmd id (h.live.meta hk rfl rfl rfl rfl rfl) (frSet _ _ _ _) (by rw [blk_set hb]; rfl)
    have hres := hide (show MutPost f (σ.put k (some { n with holds := n.holds + 1 })) S p (.int .i64 0) w (.returned (.int .i64 0)) (w.setCell ⟨p k, 4, none⟩ (.int .i64 ((n.holds : Int) + 1))) from ⟨rfl, hfin.1, hfin.2⟩)
    clear hn hk hnew hfin hb hN
    go_enter Tryz.func12, Tryz.ntmps12
    go_wp2_with fail
    refine hget.out.mono ?_
    rintro e w1 ⟨rfl, rfl⟩
    clear hget
    go_wp2_with fail
    go_ret
    exact hres.out
/-- Are these bits there? -/
def mayR (σ : FSt) (i k : Int) : Bool := match σ.ndI i with | none => false | some n => if 1 ≤ k ∧ k ≤ 7 then mayN n.mode k.toNat else false
set_option maxRecDepth 100000 in
theorem May_any (w : World) (f : Nat) (σ : FSt) (S : Nat → Prop) (p : Nat → Nat) (h : FilesAt w f σ S p) (i k : Int) (hi : -9223372036854775808 ≤ i ∧ i ≤ 9223372036854775807) (hk : -9223372036854775808 ≤ k ∧ k ≤ 9223372036854775807) :
    Calls Tryz.prog 64 #[.pointer (some ⟨f, 0, none⟩), .int .i64 i, .int .i64 k] w fun e w' => e = .returned (.bool (mayR σ i k)) ∧ w' = w := by
  have hget := hide (fget_any w f σ S p h i hi)
  cases hn : σ.ndI i with
  | none =>
    rw [show mayR σ i k = false by unfold mayR; rw [hn]]
    rw [ptrI_none hn] at hget
    clear hn
    go_enter Tryz.func64, Tryz.ntmps64
    go_wp2_with fail
    refine hget.out.mono ?_
    rintro e w1 ⟨rfl, rfl⟩
    clear hget
    go_wp2_with fail
    go_ret
    exact ⟨rfl, rfl⟩
  | some n =>
    obtain ⟨j, rfl, hj⟩ := ndI_some hn
    have hdef : mayR σ j k = if 1 ≤ k ∧ k ≤ 7 then mayN n.mode k.toNat else false := by unfold mayR; rw [hn]
    rw [ptrI_nat hj] at hget
    obtain ⟨_, _, _, hN⟩ := h.node hj
    by_cases h1 : 1 ≤ k
    · by_cases h7 : k ≤ 7
      · rw [hdef, if_pos ⟨h1, h7⟩]
        obtain ⟨q, rfl⟩ : ∃ q : Nat, k = q := ⟨k.toNat, by omega⟩
        have hmay := hide (may_any w p (p j) j n _ _ _ hN q (by omega))
        simp only [Int.toNat_natCast]
        clear hdef hn hN
        generalize mayN n.mode q = b at *
        go_enter Tryz.func64, Tryz.ntmps64
        go_wp2_with fail
        refine hget.out.mono ?_
        rintro e w1 ⟨rfl, rfl⟩
        clear hget
        go_wp2_with fail
        refine hmay.out.mono ?_
        rintro e w1 ⟨rfl, rfl⟩
        clear hmay
        cases b
        all_goals
          go_wp2_with fail
          go_ret
          exact ⟨rfl, rfl⟩
      · rw [hdef, if_neg (fun e => h7 e.2)]
        clear hdef hn hN
        go_enter Tryz.func64, Tryz.ntmps64
        go_wp2_with fail
        refine hget.out.mono ?_
        rintro e w1 ⟨rfl, rfl⟩
        clear hget
        go_wp2_with fail
        go_ret
        exact ⟨rfl, rfl⟩
    · rw [hdef, if_neg (fun e => h1 e.1)]
      clear hdef hn hN
      go_enter Tryz.func64, Tryz.ntmps64
      go_wp2_with fail
      refine hget.out.mono ?_
      rintro e w1 ⟨rfl, rfl⟩
      clear hget
      go_wp2_with fail
      go_ret
      exact ⟨rfl, rfl⟩
def dropR (σ : FSt) (i : Int) : Int × FSt := match σ.ndI i with | none => (9, σ) | some n => if n.holds = 0 then (22, σ) else (0, letS (σ.put i.toNat (some { n with holds := n.holds - 1 })) i.toNat)
set_option maxRecDepth 100000 in
set_option maxHeartbeats 1000000 in
theorem Drop_any (w : World) (f : Nat) (σ : FSt) (S : Nat → Prop) (p : Nat → Nat) (h : FilesAt w f σ S p) (hcap : CapB σ) (i : Int) (hi : -9223372036854775808 ≤ i ∧ i ≤ 9223372036854775807)
    (hfree : ∀ (k : Nat) n, i = k → σ.nd k = some n → n.holds ≠ 0 → n.links = 0 → n.holds - 1 = 0 → Live ((σ.put k (some { n with holds := n.holds - 1 })).put k none)) :
    Calls Tryz.prog 65 #[.pointer (some ⟨f, 0, none⟩), .int .i64 i] w (MutPost f (dropR σ i).2 S p (.int .i64 (dropR σ i).1) w) := by
  have hget := hide (fget_any w f σ S p h i hi)
  cases hn : σ.ndI i with
  | none =>
    rw [show dropR σ i = (9, σ) by unfold dropR; rw [hn]]
    rw [ptrI_none hn] at hget
    have hres := hide (MutPost.still (v := .int .i64 9) h (Fr.refl _ w))
    clear hn hfree
    go_enter Tryz.func65, Tryz.ntmps65
    go_wp2_with fail
    refine hget.out.mono ?_
    rintro e w1 ⟨rfl, rfl⟩
    clear hget
    go_wp2_with fail
    go_ret
    exact hres.out
  | some n =>
    obtain ⟨k, rfl, hk⟩ := ndI_some hn
    have hdef : dropR σ k = if n.holds = 0 then (22, σ) else (0, letS (σ.put k (some { n with holds := n.holds - 1 })) k) := by unfold dropR; rw [hn]; simp
    rw [hdef]
    rw [ptrI_nat hk] at hget
    obtain ⟨dvi, evi, pvi, hb, hnew⟩ := h.stat hk
    have hcp := (hcap k n hk).2.1
    have hfree := hfree k n rfl hk
    obtain ⟨_, _, _, hN⟩ := h.node hk
    have hmd := hN.md
    have c2 : w.cell? ⟨p k, 4, none⟩ = some (.int .i64 n.holds) := by rw [blk_cell hb]; rfl
    have z2 := blk_frozen hb 4
    by_cases h0 : n.holds = 0
    · rw [if_pos h0]
      rw [h0] at c2
      have hres := hide (MutPost.still (v := .int .i64 22) h (Fr.refl _ w))
      clear hn hk hnew hb hN hfree h0 hdef
      go_enter Tryz.func65, Tryz.ntmps65
      go_wp2_with fail
      refine hget.out.mono ?_
      rintro e w1 ⟨rfl, rfl⟩
      clear hget
      go_wp2_with fail
      go_ret
      exact hres.out
    · rw [if_neg h0]
      have hfin := hnew (w.setCell ⟨p k, 4, none⟩ (.int .i64 ((n.holds : Int) - 1))) { n with holds := n.holds - 1 } rfl rfl rfl rfl hmd id (h.live.meta hk rfl rfl rfl rfl rfl) (frSet _ _ _ _) (by rw [blk_set hb]; simp; omega)
      have hcap2 : CapB (σ.put k (some { n with holds := n.holds - 1 })) := fun j m hj => by
        rw [put_nd hk] at hj
        by_cases e : j = k
        · rw [if_pos e] at hj; cases hj; have := hcap k n hk; exact ⟨this.1, by show n.holds - 1 ≤ _; omega, this.2.2⟩
        · rw [if_neg e] at hj; exact hcap j m hj
      have hlet := hide (let_any _ f _ S p hfin.1 hcap2 k { n with holds := n.holds - 1 } (by rw [put_nd hk, if_pos rfl]) (fun e1 e2 => hfree h0 e1 e2))
      have hfr := hide hfin.2
      have h0I : ((n.holds : Int) == 0) = false := by rw [beq_eq_false_iff_ne]; omega
      clear hn hk hnew hfin hb hN hfree h0 hdef hcap2 hcap
      go_enter Tryz.func65, Tryz.ntmps65
      go_wp2_with fail
      refine hget.out.mono ?_
      rintro e w1 ⟨rfl, rfl⟩
      clear hget
      go_wp2_with fail
      refine hlet.out.mono ?_
      rintro e w2 ⟨rfl, hA, hf2⟩
      have hres := hide (show MutPost f _ S p (.int .i64 0) w (.returned (.int .i64 0)) w2 from ⟨rfl, hA, hfr.out.trans hf2⟩)
      clear hlet hA hf2
      go_wp2_with fail
      go_ret
      exact hres.out
end Go.Proofs.YtffekmjoenppaaaGreatDoor

/- files.FS.gone, Unlink, Rmdir. Conditions: the contracts' own premises. -/
namespace Go.Proofs.YtffekmjoenppaaaGreatDoor
open Go.RowKit

def goneS (σ : FSt) (a : Nat) (nm : List UInt8) : FSt := match lookS σ a nm with | none => σ | some k => letS (relS (cutS σ a nm) k less) k
theorem lookS_some {σ : FSt} {a : Nat} {n : Nd} (h : σ.nd a = some n) (nm : List UInt8) : lookS σ a nm = kget nm n.ents := by unfold lookS; rw [h]
theorem cutS_nd {σ : FSt} {a k : Nat} {n : Nd} {nm : List UInt8} (ha : σ.nd a = some n) (hne : k ≠ a) : (cutS σ a nm).nd k = σ.nd k := by
  unfold cutS
  rw [entS_some ha, put_nd ha, if_neg hne]
theorem CapB.cut {σ : FSt} (h : CapB σ) {a : Nat} {n : Nd} (ha : σ.nd a = some n) (nm : List UInt8) : CapB (cutS σ a nm) := fun j m hj => by
  unfold cutS at hj
  rw [entS_some ha, put_nd ha] at hj
  by_cases e : j = a
  · rw [if_pos e] at hj
    cases hj
    have := h a n ha
    exact ⟨this.1, this.2.1, Nat.le_trans (List.length_filter_le _ _) this.2.2⟩
  · rw [if_neg e] at hj; exact h j m hj
theorem CapB.put {σ : FSt} (h : CapB σ) {a : Nat} {n n' : Nd} (ha : σ.nd a = some n) (h1 : n'.links ≤ n.links) (h2 : n'.holds ≤ n.holds) (h3 : n'.ents.length ≤ n.ents.length) : CapB (σ.put a (some n')) := fun j m hj => by
  rw [put_nd ha] at hj
  by_cases e : j = a
  · rw [if_pos e] at hj
    cases hj
    have := h a n ha
    omega
  · rw [if_neg e] at hj; exact h j m hj
set_option maxRecDepth 100000 in
set_option maxHeartbeats 2000000 in
theorem gone_any (w : World) (f : Nat) (σ : FSt) (S : Nat → Prop) (p : Nat → Nat) (h : FilesAt w f σ S p) (hI : Inv σ 0) (hcap : CapB σ) (a k : Nat) (n nk : Nd) (nm : ByteArray) (sl : Bool) (ha : σ.nd a = some n) (hd : n.d = true) (hk : kget nm.data.toList n.ents = some k) (hnk : σ.nd k = some nk)
    (he : nk.d = true → nk.ents = []) (hnm : nm.size ≤ 32) : Calls Tryz.prog 72 #[.pointer (some ⟨f, 0, none⟩), placeV p a nm sl] w (UnitPost f (goneS σ a nm.data.toList) S p w) := by
  have hka : k ≠ a := fun e => by
    rw [e, ha] at hnk
    cases hnk
    exact kget_nil_none hk (he hd)
  have hI1 := hI.cut ha hk
  have hk1 : (cutS σ a nm.data.toList).nd k = some nk := (cutS_nd ha hka).trans hnk
  have hlive := h.live
  have hL1 := hlive.cut ha nm.data.toList
  obtain ⟨hL2, hL3, _⟩ := hI1.fall hL1 hk1 he
  have hgone : goneS σ a nm.data.toList = letS ((cutS σ a nm.data.toList).put k (some (less nk))) k := by
    unfold goneS
    rw [lookS_some ha, hk]
    simp only
    rw [relS_some hk1]
  rw [hgone]
  have hcap1 := hcap.cut ha nm.data.toList
  have hcap2 : CapB ((cutS σ a nm.data.toList).put k (some (less nk))) := hcap1.put hk1 (Nat.sub_le _ _) (Nat.le_refl _) (Nat.le_refl _)
  obtain ⟨wb, hwb⟩ : ∃ wb, wb = w.alloc (.cells #[.pointer (some ⟨p a, 0, none⟩), .string nm, .bool sl] 145 (0, 0)) := ⟨_, rfl⟩
  have hfb : Fr (fun _ => False) w wb := by rw [hwb]; exact (Fr.refl _ _).alloc _
  have hbb : wb.heap[w.heap.size]? = some (.cells #[.pointer (some ⟨p a, 0, none⟩), .string nm, .bool sl] 145 (0, 0)) := by rw [hwb]; exact blk_new _ _
  obtain ⟨dva, eva, pva, hNa⟩ := (h.frame hfb (fun _ _ _ e => e)).node ha
  have hnode := hide (placeNode_any wb p a n dva eva pva hNa hd nm hnm sl)
  rw [hk] at hnode
  have hfin := hide (show ∀ w1, Fr (fun _ => False) wb w1 → ∃ ma w2, w1.drew.cell? ⟨p a, 6, none⟩ = some (.map (some ma)) ∧ (∀ ty, (Builtin.delete_ #[87, 9] ty #[.map (some ma), .string nm]).run Tryz.prog w1.drew = .ok (.tuple #[]) w2) ∧
      w2.cell? ⟨p k, 3, none⟩ = some (.int .i64 nk.links) ∧ w2.frozen? ⟨p k, 3, none⟩ = false ∧
      Calls Tryz.prog 95 #[.pointer (some ⟨f, 0, none⟩), .pointer (some ⟨p k, 0, none⟩)] (w2.setCell ⟨p k, 3, none⟩ (.int .i64 ((nk.links : Int) - 1))) (fun e w' => e = .returned (.tuple #[]) ∧ UnitPost f (letS ((cutS σ a nm.data.toList).put k (some (less nk))) k) S p w (.returned (.tuple #[])) w') from by
    intro w1 hf1
    have hfw : Fr (fun _ => False) w w1.drew := (hfb.trans hf1).drew
    obtain ⟨dv, ev, pv, lv, hF⟩ := h.frame hfw (fun _ _ _ e => e)
    have hN := hF.nd a n ha
    obtain ⟨-, ma, hma, hsm⟩ := hN.dir hd
    obtain ⟨w2, hdel, hsm2, hf2⟩ := hsm.delete (t := 87) Tryz.underlying9 Tryz.underlying87 nm (by unfold maxLen; omega) 0
    rw [kdel_kmap] at hsm2
    have hA2 : FilesAt w2 f (cutS σ a nm.data.toList) S p := hF.ented ha hd hma (kdel nm.data.toList) hf2 hsm2 hL1
    obtain ⟨dvi, evi, pvi, hb, hnew⟩ := FilesAt.stat hA2 hk1
    obtain ⟨_, _, _, hNk⟩ := hA2.node hk1
    have hpos : 0 < nk.links := by have := hI1.cnt k nk hk1 hI1.flat; rw [if_pos rfl] at this; omega
    have hst := hnew (w2.setCell ⟨p k, 3, none⟩ (.int .i64 ((nk.links : Int) - 1))) (less nk) rfl rfl rfl rfl hNk.md (fun _ => hpos) hL2 (frSet _ _ _ _) (by
      rw [blk_set hb]
      have e : (((less nk).links : Nat) : Int) = (nk.links : Int) - 1 := by show ((nk.links - 1 : Nat) : Int) = _; omega
      rw [e]; rfl)
    have hlet := let_any _ f _ S p hst.1 hcap2 k (less nk) (by rw [put_nd hk1, if_pos rfl]) hL3
    refine ⟨ma, w2, by rw [blk_cell hN.hb, hma]; rfl, fun ty => hdel, by rw [blk_cell hb]; rfl, blk_frozen hb 3, hlet.mono ?_⟩
    rintro e w4 ⟨rfl, hA4, hf4⟩
    refine ⟨rfl, rfl, hA4, ?_⟩
    have hSma : S ma := hF.owne a ma (by rw [ha]; rfl) hma
    exact (((hfw.mono (fun _ _ e => e.elim)).trans (hf2.mono (fun b _ e => e ▸ hSma))).trans hst.2).trans hf4)
  have hcp := (hcap k nk hnk).1
  clear hL3 hL2 hL1 hI1 hcap1 hcap2 hgone hlive hNa hI hcap h
  unfold placeV
  unfold placeV at hnode
  go_enter Tryz.func72, Tryz.ntmps72
  go_wp2_with fail
  rw [← hwb]
  refine hnode.out.mono ?_
  rintro e w1 ⟨rfl, hf1⟩
  clear hnode hwb
  obtain ⟨ma, w2, c6, hdel, c3, z3, hlet⟩ := hfin.out w1 hf1
  have hb1 := hf1.get hbb (fun e => e)
  have c0 : w1.drew.cell? ⟨w.heap.size, 0, none⟩ = some (.pointer (some ⟨p a, 0, none⟩)) := by rw [blk_cell (blk_drew hb1)]; rfl
  have c1 : w1.drew.cell? ⟨w.heap.size, 1, none⟩ = some (.string nm) := by rw [blk_cell (blk_drew hb1)]; rfl
  have Hlet := hide hlet
  clear hlet hfin hf1 hfb hbb hb1
  unfold nodePtr
  simp only
  go_wp2_with fail
  refine region_tail 7 (by kernel_rfl) (by kernel_rfl) ?_
  simp only [List.take_succ_cons, List.take_zero, List.drop_succ_cons, List.drop_zero]
  repeat go_big_quiet_step (fail)
  refine wpQuiet_nil ?_
  go_wp2_with fail
  refine Hlet.out.mono ?_
  rintro e w4 ⟨rfl, hu⟩
  have Hu := hide hu
  clear hu Hlet
  go_wp2_with fail
  go_returns
  exact Hu.out
def dirS (σ : FSt) (i : Nat) : Bool := match σ.nd i with | none => false | some n => n.d
def mayS (σ : FSt) (i k : Nat) : Bool := match σ.nd i with | none => false | some n => mayN n.mode k
def unlinkE (σ : FSt) (dir : Int) (s : List UInt8) : Int :=
  if (aheadE σ dir s).1 ≠ 0 then (aheadE σ dir s).1
  else match lookS σ (aheadE σ dir s).2.1 (aheadE σ dir s).2.2 with
    | none => 2
    | some k => if slashS s = true ∧ dirS σ k = false then 20 else if dirS σ k = true then 21 else if mayS σ (aheadE σ dir s).2.1 2 = false then 13 else 0
def sizeD (σ : FSt) (i : Nat) : Nat := match σ.nd i with | none => 0 | some n => n.ents.length
def unlinkR (σ : FSt) (dir : Int) (s : List UInt8) : Int × FSt := if unlinkE σ dir s ≠ 0 then (unlinkE σ dir s, σ) else (0, goneS σ (aheadE σ dir s).2.1 (aheadE σ dir s).2.2)
def rmdirE (σ : FSt) (dir : Int) (s : List UInt8) : Int :=
  if (aheadE σ dir s).1 ≠ 0 then (aheadE σ dir s).1
  else match lookS σ (aheadE σ dir s).2.1 (aheadE σ dir s).2.2 with
    | none => 2
    | some k => if dirS σ k = false then 20 else if sizeD σ k ≠ 0 then 39 else if mayS σ (aheadE σ dir s).2.1 2 = false then 13 else 0
def rmdirR (σ : FSt) (dir : Int) (s : List UInt8) : Int × FSt := if rmdirE σ dir s ≠ 0 then (rmdirE σ dir s, σ) else (0, goneS σ (aheadE σ dir s).2.1 (aheadE σ dir s).2.2)
set_option maxRecDepth 100000 in
set_option maxHeartbeats 4000000 in
theorem Unlink_any (w : World) (f : Nat) (σ : FSt) (S : Nat → Prop) (p : Nat → Nat) (h : FilesAt w f σ S p) (hml : Ml w) (hI : Inv σ 0) (hcap : CapB σ) (dir : Int) (hdr : -9223372036854775808 ≤ dir ∧ dir ≤ 9223372036854775807) (s : ByteArray) (hs : s.size ≤ 9223372036854775807) :
    Calls Tryz.prog 30 #[.pointer (some ⟨f, 0, none⟩), .int .i64 dir, .string s] w (MutPost f (unlinkR σ dir s.data.toList).2 S p (.int .i64 (unlinkR σ dir s.data.toList).1) w) := by
  have hah := ahead_any w f σ S p h hml dir hdr s hs
  have hdef : unlinkE σ dir s.data.toList = if (aheadE σ dir s.data.toList).1 ≠ 0 then (aheadE σ dir s.data.toList).1
    else match lookS σ (aheadE σ dir s.data.toList).2.1 (aheadE σ dir s.data.toList).2.2 with
      | none => 2
      | some k => if slashS s.data.toList = true ∧ dirS σ k = false then 20 else if dirS σ k = true then 21 else if mayS σ (aheadE σ dir s.data.toList).2.1 2 = false then 13 else 0 := rfl
  have herr := hide (show ∀ (E : Int) w', unlinkE σ dir s.data.toList = E → E ≠ 0 → Fr (fun _ => False) w w' → MutPost f (unlinkR σ dir s.data.toList).2 S p (.int .i64 (unlinkR σ dir s.data.toList).1) w (.returned (.int .i64 E)) w' from fun E w' h1 h2 h3 => by
    have e : unlinkR σ dir s.data.toList = (E, σ) := by unfold unlinkR; rw [h1, if_pos h2]
    rw [e]
    exact MutPost.still h h3)
  have hok9 := hide (show ∀ w', unlinkE σ dir s.data.toList = 0 → FilesAt w' f (goneS σ (aheadE σ dir s.data.toList).2.1 (aheadE σ dir s.data.toList).2.2) S p → Fr S w w' → MutPost f (unlinkR σ dir s.data.toList).2 S p (.int .i64 (unlinkR σ dir s.data.toList).1) w (.returned (.int .i64 0)) w' from fun w' h1 h2 h3 => by
    have e : unlinkR σ dir s.data.toList = (0, goneS σ (aheadE σ dir s.data.toList).2.1 (aheadE σ dir s.data.toList).2.2) := by unfold unlinkR; rw [if_neg (by simp [h1])]
    rw [e]
    exact ⟨rfl, h2, h3⟩)
  unfold AheadPost at hah
  obtain ⟨E, a, nl, hq⟩ : ∃ E a nl, aheadE σ dir s.data.toList = (E, a, nl) := ⟨_, _, _, rfl⟩
  rw [hq] at hah hdef hok9
  simp only at hah hdef hok9
  have Hdef := hide hdef
  have Hah := hide hah
  clear hdef hah hq
  go_enter Tryz.func30, Tryz.ntmps30
  go_wp2_with fail
  refine Hah.out.mono ?_
  rintro e w1 ⟨dv, nm, sl, rfl, hf1, hok, hno⟩
  clear Hah
  by_cases hE : E = 0
  · subst hE
    obtain ⟨rfl, hnm, hnm2, hsl, n, hna, hnd⟩ := hok rfl
    clear hok hno
    subst hnm
    have hlook := lookS_some hna nm.data.toList
    have hdef2 := Hdef.out
    rw [if_neg (by simp), hlook, ← hsl] at hdef2
    clear Hdef hlook hsl
    obtain ⟨w2, hw2⟩ : ∃ w2, w2 = w1.alloc (.cells #[.pointer (some ⟨p a, 0, none⟩), .string nm, .bool sl] 145 (0, 0)) := ⟨_, rfl⟩
    have hf2 : Fr (fun _ => False) w w2 := by rw [hw2]; exact hf1.alloc _
    have hbp : w2.heap[w1.heap.size]? = some (.cells #[.pointer (some ⟨p a, 0, none⟩), .string nm, .bool sl] 145 (0, 0)) := by rw [hw2]; exact blk_new _ _
    have hA2 := h.frame hf2 (fun _ _ _ e => e)
    obtain ⟨dva, eva, pva, hNa⟩ := hA2.node hna
    have hnode := hide (placeNode_any w2 p a n dva eva pva hNa hnd nm hnm2 sl)
    have c0p : w2.cell? ⟨w1.heap.size, 0, none⟩ = some (.pointer (some ⟨p a, 0, none⟩)) := by rw [blk_cell hbp]; rfl
    have c1p : w2.cell? ⟨w1.heap.size, 1, none⟩ = some (.string nm) := by rw [blk_cell hbp]; rfl
    have c2p : w2.cell? ⟨w1.heap.size, 2, none⟩ = some (.bool sl) := by rw [blk_cell hbp]; rfl
    have hlive := h.live
    cases hk : kget nm.data.toList n.ents with
    | none =>
      rw [hk] at hnode hdef2
      simp only [nodePtr] at hnode hdef2
      have hres := hide (fun w3 (h3 : Fr (fun _ => False) w2 w3) => herr.out 2 w3 hdef2 (by decide) (hf2.trans h3))
      clear hdef2 hok9 hk hNa hA2
      subst hw2
      go_wp2_with fail
      refine hnode.out.mono ?_
      rintro e w3 ⟨rfl, hf3⟩
      have hr := hide (hres.out w3 hf3)
      clear hnode hres
      go_wp2_with fail
      go_ret
      exact hr.out
    | some k =>
      rw [hk] at hnode hdef2
      simp only [nodePtr] at hnode hdef2
      obtain ⟨nk, hnk⟩ := Option.isSome_iff_exists.1 (hlive.ents a n hna _ (kget_mem hk))
      have hdk : dirS σ k = nk.d := by unfold dirS; rw [hnk]
      have hma : mayS σ a 2 = mayN n.mode 2 := by unfold mayS; rw [hna]
      rw [hdk, hma] at hdef2
      have hB := hide (show ∀ w3, Fr (fun _ => False) w2 w3 → FilesAt w3 f σ S p ∧ w3.heap[w1.heap.size]? = some (.cells #[.pointer (some ⟨p a, 0, none⟩), .string nm, .bool sl] 145 (0, 0)) ∧ Fr (fun _ => False) w w3 ∧ ∃ dk ek pk da ea pa, NodeF w3 p (p k) k nk dk ek pk ∧ NodeF w3 p (p a) a n da ea pa from fun w3 h3 => by
        have hA3 := hA2.frame h3 (fun _ _ _ e => e)
        obtain ⟨dk, ek, pk, hNk⟩ := hA3.node hnk
        obtain ⟨da, ea, pa, hNa3⟩ := hA3.node hna
        exact ⟨hA3, h3.get hbp (fun e => e), hf2.trans h3, dk, ek, pk, da, ea, pa, hNk, hNa3⟩)
      have Hdef2 := hide hdef2
      clear hdef2 hNa hA2 hdk hma
      have step : ∀ (P : Prop), P → P := fun _ h => h
      clear step
      subst hw2
      go_wp2_with fail
      refine hnode.out.mono ?_
      rintro e w3 ⟨rfl, hf3⟩
      clear hnode c0p c1p c2p
      obtain ⟨hA3, hb3, hf03, dk, ek, pk, da, ea, pa, hNk, hNa3⟩ := hB.out w3 hf3
      have hdir := hide (dir_any w3 p (p k) k nk dk ek pk hNk)
      have hmay := hide (may_any w3 p (p a) a n da ea pa hNa3 2 (by decide))
      have c0 : w3.cell? ⟨w1.heap.size, 0, none⟩ = some (.pointer (some ⟨p a, 0, none⟩)) := by rw [blk_cell hb3]; rfl
      have c1 : w3.cell? ⟨w1.heap.size, 1, none⟩ = some (.string nm) := by rw [blk_cell hb3]; rfl
      have c2 : w3.cell? ⟨w1.heap.size, 2, none⟩ = some (.bool sl) := by rw [blk_cell hb3]; rfl
      have hgone := hide (fun (hfree : nk.d = true → nk.ents = []) => gone_any w3 f σ S p hA3 hI hcap a k n nk nm sl hna hnd hk hnk hfree hnm2)
      have herr2 := hide (fun E h1 h2 => herr.out E w3 h1 h2 hf03)
      clear hB hf3 herr hb3 hNk hNa3
      cases hdd : nk.d with
      | false =>
        rw [hdd] at hdir Hdef2
        cases sl with
        | true =>
          have hres := hide (herr2.out 20 (by rw [Hdef2.out]; simp) (by decide))
          clear Hdef2 herr2 hgone hmay hok9 hdd
          go_wp2_with fail
          refine hdir.out.mono ?_
          rintro e w4 ⟨rfl, rfl⟩
          go_wp2_with fail
          go_ret
          exact hres.out
        | false =>
          have hdef3 := Hdef2.out
          simp only [Bool.false_eq_true, false_and, if_false] at hdef3
          have hg := hide (hgone.out (fun e => by rw [hdd] at e; cases e))
          have Hdef3 := hide hdef3
          clear Hdef2 hdef3 hgone hdd
          cases hmm : mayN n.mode 2 with
          | false =>
            rw [hmm] at hmay Hdef3
            have hres := hide (herr2.out 13 (by rw [Hdef3.out]; simp) (by decide))
            clear Hdef3 herr2 hg hok9 hmm
            go_wp2_with fail
            refine hdir.out.mono ?_
            rintro e w4 ⟨rfl, rfl⟩
            go_wp2_with fail
            refine hmay.out.mono ?_
            rintro e w5 ⟨rfl, rfl⟩
            go_wp2_with fail
            go_ret
            exact hres.out
          | true =>
            rw [hmm] at hmay Hdef3
            have hres := hide (fun w' => hok9.out w' (by rw [Hdef3.out]; simp))
            have hfr := hide (hf03.mono (S' := S) (fun _ _ e => e.elim))
            clear Hdef3 herr2 hok9 hmm
            unfold placeV at hg
            go_wp2_with fail
            refine hdir.out.mono ?_
            rintro e w4 ⟨rfl, rfl⟩
            go_wp2_with fail
            refine hmay.out.mono ?_
            rintro e w5 ⟨rfl, rfl⟩
            go_wp2_with fail
            refine hg.out.mono ?_
            rintro e w6 ⟨rfl, hA6, hf6⟩
            have hr := hide (hres.out w6 hA6 (hfr.out.trans hf6))
            clear hres hg hA6
            go_wp2_with fail
            go_ret
            exact hr.out
      | true =>
        rw [hdd] at hdir Hdef2
        have hres := hide (herr2.out 21 (by rw [Hdef2.out]; simp) (by decide))
        clear Hdef2 herr2 hgone hmay hok9 hdd
        cases sl
        · go_wp2_with fail
          refine hdir.out.mono ?_
          rintro e w4 ⟨rfl, rfl⟩
          go_wp2_with fail
          go_ret
          exact hres.out
        · go_wp2_with fail
          refine hdir.out.mono ?_
          rintro e w4 ⟨rfl, rfl⟩
          go_wp2_with fail
          refine hdir.out.mono ?_
          rintro e w4 ⟨rfl, rfl⟩
          go_wp2_with fail
          go_ret
          exact hres.out
  · obtain ⟨rfl, rfl, rfl⟩ := hno hE
    have hres := hide (herr.out E (w1.alloc (.cells #[.pointer none, .string ⟨#[]⟩, .bool false] 145 (0, 0))) (by rw [Hdef.out, if_pos hE]) hE (hf1.alloc _))
    clear hok hno Hdef
    go_wp2_with fail
    go_ret
    exact hres.out
set_option maxRecDepth 100000 in
set_option maxHeartbeats 4000000 in
theorem Rmdir_any (w : World) (f : Nat) (σ : FSt) (S : Nat → Prop) (p : Nat → Nat) (h : FilesAt w f σ S p) (hml : Ml w) (hI : Inv σ 0) (hcap : CapB σ) (dir : Int) (hdr : -9223372036854775808 ≤ dir ∧ dir ≤ 9223372036854775807) (s : ByteArray) (hs : s.size ≤ 9223372036854775807) :
    Calls Tryz.prog 32 #[.pointer (some ⟨f, 0, none⟩), .int .i64 dir, .string s] w (MutPost f (rmdirR σ dir s.data.toList).2 S p (.int .i64 (rmdirR σ dir s.data.toList).1) w) := by
  have hah := ahead_any w f σ S p h hml dir hdr s hs
  have hdef : rmdirE σ dir s.data.toList = if (aheadE σ dir s.data.toList).1 ≠ 0 then (aheadE σ dir s.data.toList).1
    else match lookS σ (aheadE σ dir s.data.toList).2.1 (aheadE σ dir s.data.toList).2.2 with
      | none => 2
      | some k => if dirS σ k = false then 20 else if sizeD σ k ≠ 0 then 39 else if mayS σ (aheadE σ dir s.data.toList).2.1 2 = false then 13 else 0 := rfl
  have herr := hide (show ∀ (E : Int) w', rmdirE σ dir s.data.toList = E → E ≠ 0 → Fr (fun _ => False) w w' → MutPost f (rmdirR σ dir s.data.toList).2 S p (.int .i64 (rmdirR σ dir s.data.toList).1) w (.returned (.int .i64 E)) w' from fun E w' h1 h2 h3 => by
    have e : rmdirR σ dir s.data.toList = (E, σ) := by unfold rmdirR; rw [h1, if_pos h2]
    rw [e]
    exact MutPost.still h h3)
  have hok9 := hide (show ∀ w', rmdirE σ dir s.data.toList = 0 → FilesAt w' f (goneS σ (aheadE σ dir s.data.toList).2.1 (aheadE σ dir s.data.toList).2.2) S p → Fr S w w' → MutPost f (rmdirR σ dir s.data.toList).2 S p (.int .i64 (rmdirR σ dir s.data.toList).1) w (.returned (.int .i64 0)) w' from fun w' h1 h2 h3 => by
    have e : rmdirR σ dir s.data.toList = (0, goneS σ (aheadE σ dir s.data.toList).2.1 (aheadE σ dir s.data.toList).2.2) := by unfold rmdirR; rw [if_neg (by simp [h1])]
    rw [e]
    exact ⟨rfl, h2, h3⟩)
  unfold AheadPost at hah
  obtain ⟨E, a, nl, hq⟩ : ∃ E a nl, aheadE σ dir s.data.toList = (E, a, nl) := ⟨_, _, _, rfl⟩
  rw [hq] at hah hdef hok9
  simp only at hah hdef hok9
  have Hdef := hide hdef
  have Hah := hide hah
  clear hdef hah hq
  go_enter Tryz.func32, Tryz.ntmps32
  go_wp2_with fail
  refine Hah.out.mono ?_
  rintro e w1 ⟨dv, nm, sl, rfl, hf1, hok, hno⟩
  clear Hah
  by_cases hE : E = 0
  · subst hE
    obtain ⟨rfl, hnm, hnm2, hsl, n, hna, hnd⟩ := hok rfl
    clear hok hno
    subst hnm
    have hlook := lookS_some hna nm.data.toList
    have hdef2 := Hdef.out
    rw [if_neg (by simp), hlook] at hdef2
    clear Hdef hlook hsl
    obtain ⟨w2, hw2⟩ : ∃ w2, w2 = w1.alloc (.cells #[.pointer (some ⟨p a, 0, none⟩), .string nm, .bool sl] 145 (0, 0)) := ⟨_, rfl⟩
    have hf2 : Fr (fun _ => False) w w2 := by rw [hw2]; exact hf1.alloc _
    have hbp : w2.heap[w1.heap.size]? = some (.cells #[.pointer (some ⟨p a, 0, none⟩), .string nm, .bool sl] 145 (0, 0)) := by rw [hw2]; exact blk_new _ _
    have hA2 := h.frame hf2 (fun _ _ _ e => e)
    obtain ⟨dva, eva, pva, hNa⟩ := hA2.node hna
    have hnode := hide (placeNode_any w2 p a n dva eva pva hNa hnd nm hnm2 sl)
    have c0p : w2.cell? ⟨w1.heap.size, 0, none⟩ = some (.pointer (some ⟨p a, 0, none⟩)) := by rw [blk_cell hbp]; rfl
    have c1p : w2.cell? ⟨w1.heap.size, 1, none⟩ = some (.string nm) := by rw [blk_cell hbp]; rfl
    have c2p : w2.cell? ⟨w1.heap.size, 2, none⟩ = some (.bool sl) := by rw [blk_cell hbp]; rfl
    have hlive := h.live
    cases hk : kget nm.data.toList n.ents with
    | none =>
      rw [hk] at hnode hdef2
      simp only [nodePtr] at hnode hdef2
      have hres := hide (fun w3 (h3 : Fr (fun _ => False) w2 w3) => herr.out 2 w3 hdef2 (by decide) (hf2.trans h3))
      clear hdef2 hok9 hk hNa hA2
      subst hw2
      go_wp2_with fail
      refine hnode.out.mono ?_
      rintro e w3 ⟨rfl, hf3⟩
      have hr := hide (hres.out w3 hf3)
      clear hnode hres
      go_wp2_with fail
      go_ret
      exact hr.out
    | some k =>
      rw [hk] at hnode hdef2
      simp only [nodePtr] at hnode hdef2
      obtain ⟨nk, hnk⟩ := Option.isSome_iff_exists.1 (hlive.ents a n hna _ (kget_mem hk))
      have hdk : dirS σ k = nk.d := by unfold dirS; rw [hnk]
      have hma : mayS σ a 2 = mayN n.mode 2 := by unfold mayS; rw [hna]
      have hsz : sizeD σ k = nk.ents.length := by unfold sizeD; rw [hnk]
      rw [hdk, hma, hsz] at hdef2
      clear hsz
      have hB := hide (show ∀ w3, Fr (fun _ => False) w2 w3 → FilesAt w3 f σ S p ∧ w3.heap[w1.heap.size]? = some (.cells #[.pointer (some ⟨p a, 0, none⟩), .string nm, .bool sl] 145 (0, 0)) ∧ Fr (fun _ => False) w w3 ∧ ∃ dk ek pk da ea pa, NodeF w3 p (p k) k nk dk ek pk ∧ NodeF w3 p (p a) a n da ea pa from fun w3 h3 => by
        have hA3 := hA2.frame h3 (fun _ _ _ e => e)
        obtain ⟨dk, ek, pk, hNk⟩ := hA3.node hnk
        obtain ⟨da, ea, pa, hNa3⟩ := hA3.node hna
        exact ⟨hA3, h3.get hbp (fun e => e), hf2.trans h3, dk, ek, pk, da, ea, pa, hNk, hNa3⟩)
      have Hdef2 := hide hdef2
      clear hdef2 hNa hA2 hdk hma
      have step : ∀ (P : Prop), P → P := fun _ h => h
      clear step
      subst hw2
      go_wp2_with fail
      refine hnode.out.mono ?_
      rintro e w3 ⟨rfl, hf3⟩
      clear hnode c0p c1p c2p
      obtain ⟨hA3, hb3, hf03, dk, ek, pk, da, ea, pa, hNk, hNa3⟩ := hB.out w3 hf3
      have hdir := hide (dir_any w3 p (p k) k nk dk ek pk hNk)
      have hmay := hide (may_any w3 p (p a) a n da ea pa hNa3 2 (by decide))
      have c0 : w3.cell? ⟨w1.heap.size, 0, none⟩ = some (.pointer (some ⟨p a, 0, none⟩)) := by rw [blk_cell hb3]; rfl
      have c1 : w3.cell? ⟨w1.heap.size, 1, none⟩ = some (.string nm) := by rw [blk_cell hb3]; rfl
      have c2 : w3.cell? ⟨w1.heap.size, 2, none⟩ = some (.bool sl) := by rw [blk_cell hb3]; rfl
      have hgone := hide (fun (hfree : nk.d = true → nk.ents = []) => gone_any w3 f σ S p hA3 hI hcap a k n nk nm sl hna hnd hk hnk hfree hnm2)
      have herr2 := hide (fun E h1 h2 => herr.out E w3 h1 h2 hf03)
      have hlen := hide (show nk.d = true → ∃ mk, w3.cell? ⟨p k, 6, none⟩ = some (.map (some mk)) ∧ ∀ ty, (Builtin.len_ #[87] ty #[.map (some mk)]).run Tryz.prog w3 = .ok (.int .i64 nk.ents.length) w3 from fun hd => by
        obtain ⟨-, mk, hmk, hsm⟩ := hNk.dir hd
        refine ⟨mk, by rw [blk_cell hNk.hb, hmk]; rfl, fun ty => ?_⟩
        rw [hsm.len (t := 87) Tryz.underlying87 ty, kmap_length])
      clear hB hf3 herr hb3 hNk hNa3
      cases hdd : nk.d with
      | false =>
        rw [hdd] at hdir Hdef2
        have hres := hide (herr2.out 20 (by rw [Hdef2.out]; simp) (by decide))
        clear Hdef2 herr2 hgone hmay hok9 hdd hlen
        go_wp2_with fail
        refine hdir.out.mono ?_
        rintro e w4 ⟨rfl, rfl⟩
        go_wp2_with fail
        go_ret
        exact hres.out
      | true =>
        rw [hdd] at hdir Hdef2
        obtain ⟨mk, c6, hl6⟩ := hlen.out hdd
        by_cases h0 : nk.ents.length = 0
        · have hdef3 := Hdef2.out
          simp only [Bool.true_eq_false, if_false, h0, ne_eq, not_true_eq_false] at hdef3
          have hg := hide (hgone.out (fun _ => List.eq_nil_of_length_eq_zero h0))
          have Hdef3 := hide hdef3
          rw [h0] at hl6
          clear Hdef2 hdef3 hgone hdd hlen h0
          cases hmm : mayN n.mode 2 with
          | false =>
            rw [hmm] at hmay Hdef3
            have hres := hide (herr2.out 13 (by rw [Hdef3.out]; simp) (by decide))
            clear Hdef3 herr2 hg hok9 hmm
            go_wp2_with fail
            refine hdir.out.mono ?_
            rintro e w4 ⟨rfl, rfl⟩
            go_wp2_with fail
            refine hmay.out.mono ?_
            rintro e w5 ⟨rfl, rfl⟩
            go_wp2_with fail
            go_ret
            exact hres.out
          | true =>
            rw [hmm] at hmay Hdef3
            have hres := hide (fun w' => hok9.out w' (by rw [Hdef3.out]; simp))
            have hfr := hide (hf03.mono (S' := S) (fun _ _ e => e.elim))
            clear Hdef3 herr2 hok9 hmm
            unfold placeV at hg
            go_wp2_with fail
            refine hdir.out.mono ?_
            rintro e w4 ⟨rfl, rfl⟩
            go_wp2_with fail
            refine hmay.out.mono ?_
            rintro e w5 ⟨rfl, rfl⟩
            go_wp2_with fail
            refine hg.out.mono ?_
            rintro e w6 ⟨rfl, hA6, hf6⟩
            have hr := hide (hres.out w6 hA6 (hfr.out.trans hf6))
            clear hres hg hA6
            go_wp2_with fail
            go_ret
            exact hr.out
        · have hres := hide (herr2.out 39 (by rw [Hdef2.out]; simp [h0]) (by decide))
          have h0I : (0 : Int) < (nk.ents.length : Int) := by omega
          clear Hdef2 herr2 hgone hmay hok9 hdd hlen h0
          go_wp2_with fail
          refine hdir.out.mono ?_
          rintro e w4 ⟨rfl, rfl⟩
          go_wp2_with fail
          go_ret
          exact hres.out
  · obtain ⟨rfl, rfl, rfl⟩ := hno hE
    have hres := hide (herr.out E (w1.alloc (.cells #[.pointer none, .string ⟨#[]⟩, .bool false] 145 (0, 0))) (by rw [Hdef.out, if_pos hE]) hE (hf1.alloc _))
    clear hok hno Hdef
    go_wp2_with fail
    go_ret
    exact hres.out
end Go.Proofs.YtffekmjoenppaaaGreatDoor

/- Every method of files.FS at no tree (nil): EBADF, nothing. No condition. -/
namespace Go.Proofs.YtffekmjoenppaaaGreatDoor
open Go.RowKit

set_option maxRecDepth 100000 in
theorem fget_nil (w : World) (i : Int) : Calls Tryz.prog 19 #[.pointer none, .int .i64 i] w fun e w' => e = .returned (.pointer none) ∧ w = w' := by
  go_enter Tryz.func19, Tryz.ntmps19
  go_wp2
  go_ret
  exact ⟨rfl, rfl⟩
set_option maxRecDepth 100000 in
theorem start_nil (w : World) (dir : Int) (s : ByteArray) : Calls Tryz.prog 98 #[.pointer none, .int .i64 dir, .string s] w fun e w' => e = .returned (.tuple #[.agg #[.pointer none, .slice none 0 0, .bool false], .int .i64 9]) ∧ Fr (fun _ => False) w w' := by
  go_enter Tryz.func98, Tryz.ntmps98
  go_wp2_with fail
  refine (fget_nil _ _).mono ?_
  rintro e w1 ⟨rfl, rfl⟩
  go_wp2_with fail
  go_returns
  exact ⟨rfl, by first | exact Fr.refl _ _ | exact (Fr.refl _ _).alloc _⟩
set_option maxRecDepth 100000 in
theorem fwalk_nil (w : World) (dir : Int) (s : ByteArray) : Calls Tryz.prog 75 #[.pointer none, .int .i64 dir, .string s] w fun e w' => e = .returned (.tuple #[.pointer none, .int .i64 9]) ∧ Fr (fun _ => False) w w' := by
  go_enter Tryz.func75, Tryz.ntmps75
  go_wp2_with fail
  refine (start_nil _ _ _).mono ?_
  rintro e w1 ⟨rfl, hf1⟩
  go_wp2_with fail
  go_returns
  exact ⟨rfl, by first | exact hf1 | exact ((Fr.refl (fun _ => False) w).alloc _).trans hf1 | exact hf1.alloc _ | exact (((Fr.refl (fun _ => False) w).alloc _).trans hf1).alloc _⟩
set_option maxRecDepth 100000 in
theorem Walk_nil (w : World) (dir : Int) (s : ByteArray) : Calls Tryz.prog 54 #[.pointer none, .int .i64 dir, .string s] w fun e w' => e = .returned (.tuple #[.int .i64 0, .int .i64 9]) ∧ Fr (fun _ => False) w w' := by
  go_enter Tryz.func54, Tryz.ntmps54
  go_wp2_with fail
  refine (fwalk_nil _ _ _).mono ?_
  rintro e w1 ⟨rfl, hf1⟩
  go_wp2_with fail
  go_returns
  exact ⟨rfl, by first | exact hf1 | exact ((Fr.refl (fun _ => False) w).alloc _).trans hf1 | exact hf1.alloc _ | exact (((Fr.refl (fun _ => False) w).alloc _).trans hf1).alloc _⟩
set_option maxRecDepth 100000 in
theorem file_nil (w : World) (i : Int) : Calls Tryz.prog 85 #[.pointer none, .int .i64 i] w fun e w' => e = .returned (.tuple #[.pointer none, .int .i64 9]) ∧ w = w' := by
  go_enter Tryz.func85, Tryz.ntmps85
  go_wp2_with fail
  refine (fget_nil _ _).mono ?_
  rintro e w1 ⟨rfl, rfl⟩
  go_wp2_with fail
  go_returns
  exact ⟨rfl, rfl⟩
set_option maxRecDepth 100000 in
theorem Read_nil (w : World) (i a n : Int) : Calls Tryz.prog 45 #[.pointer none, .int .i64 i, .int .i64 a, .int .i64 n] w fun e w' => e = .returned (.tuple #[.string ⟨#[]⟩, .int .i64 9]) ∧ w = w' := by
  go_enter Tryz.func45, Tryz.ntmps45
  go_wp2_with fail
  refine (file_nil _ _).mono ?_
  rintro e w1 ⟨rfl, rfl⟩
  go_wp2_with fail
  go_returns
  exact ⟨rfl, rfl⟩
set_option maxRecDepth 100000 in
theorem Write_nil (w : World) (i a : Int) (s : ByteArray) : Calls Tryz.prog 49 #[.pointer none, .int .i64 i, .int .i64 a, .string s] w fun e w' => e = .returned (.tuple #[.int .i64 0, .int .i64 9]) ∧ w = w' := by
  go_enter Tryz.func49, Tryz.ntmps49
  go_wp2_with fail
  refine (file_nil _ _).mono ?_
  rintro e w1 ⟨rfl, rfl⟩
  go_wp2_with fail
  go_returns
  exact ⟨rfl, rfl⟩
set_option maxRecDepth 100000 in
theorem Truncate_nil (w : World) (i n : Int) : Calls Tryz.prog 57 #[.pointer none, .int .i64 i, .int .i64 n] w fun e w' => e = .returned (.int .i64 9) ∧ w = w' := by
  go_enter Tryz.func57, Tryz.ntmps57
  go_wp2_with fail
  refine (file_nil _ _).mono ?_
  rintro e w1 ⟨rfl, rfl⟩
  go_wp2_with fail
  go_ret
  exact ⟨rfl, rfl⟩
set_option maxRecDepth 100000 in
theorem Chmod_nil (w : World) (i n : Int) : Calls Tryz.prog 67 #[.pointer none, .int .i64 i, .int .i64 n] w fun e w' => e = .returned (.int .i64 9) ∧ w = w' := by
  go_enter Tryz.func67, Tryz.ntmps67
  go_wp2_with fail
  refine (fget_nil _ _).mono ?_
  rintro e w1 ⟨rfl, rfl⟩
  go_wp2_with fail
  go_ret
  exact ⟨rfl, rfl⟩
set_option maxRecDepth 100000 in
theorem Stat_nil (w : World) (i : Int) : Calls Tryz.prog 48 #[.pointer none, .int .i64 i] w fun e w' => e = .returned (.tuple #[.agg #[.int .i64 0, .int .i64 0, .int .i64 0, .int .i64 0, .int .i64 0], .int .i64 9]) ∧ Fr (fun _ => False) w w' := by
  go_enter Tryz.func48, Tryz.ntmps48
  go_wp2_with fail
  refine (fget_nil _ _).mono ?_
  rintro e w1 ⟨rfl, rfl⟩
  go_wp2_with fail
  go_returns
  exact ⟨rfl, by first | exact Fr.refl _ _ | exact (Fr.refl _ _).alloc _⟩
set_option maxRecDepth 100000 in
theorem List_nil (w : World) (i : Int) : Calls Tryz.prog 66 #[.pointer none, .int .i64 i] w fun e w' => e = .returned (.tuple #[.slice none 0 0, .int .i64 9]) ∧ w = w' := by
  go_enter Tryz.func66, Tryz.ntmps66
  go_wp2_with fail
  refine (fget_nil _ _).mono ?_
  rintro e w1 ⟨rfl, rfl⟩
  go_wp2_with fail
  go_returns
  exact ⟨rfl, rfl⟩
set_option maxRecDepth 100000 in
theorem Hold_nil (w : World) (i : Int) : Calls Tryz.prog 12 #[.pointer none, .int .i64 i] w fun e w' => e = .returned (.int .i64 9) ∧ w = w' := by
  go_enter Tryz.func12, Tryz.ntmps12
  go_wp2_with fail
  refine (fget_nil _ _).mono ?_
  rintro e w1 ⟨rfl, rfl⟩
  go_wp2_with fail
  go_ret
  exact ⟨rfl, rfl⟩
set_option maxRecDepth 100000 in
theorem Drop_nil (w : World) (i : Int) : Calls Tryz.prog 65 #[.pointer none, .int .i64 i] w fun e w' => e = .returned (.int .i64 9) ∧ w = w' := by
  go_enter Tryz.func65, Tryz.ntmps65
  go_wp2_with fail
  refine (fget_nil _ _).mono ?_
  rintro e w1 ⟨rfl, rfl⟩
  go_wp2_with fail
  go_ret
  exact ⟨rfl, rfl⟩
set_option maxRecDepth 100000 in
theorem Path_nil (w : World) (i : Int) : Calls Tryz.prog 80 #[.pointer none, .int .i64 i] w fun e w' => e = .returned (.tuple #[.string ⟨#[]⟩, .int .i64 9]) ∧ w = w' := by
  go_enter Tryz.func80, Tryz.ntmps80
  go_wp2_with fail
  refine (fget_nil _ _).mono ?_
  rintro e w1 ⟨rfl, rfl⟩
  go_wp2_with fail
  go_returns
  exact ⟨rfl, rfl⟩
set_option maxRecDepth 100000 in
theorem May_nil (w : World) (i n : Int) : Calls Tryz.prog 64 #[.pointer none, .int .i64 i, .int .i64 n] w fun e w' => e = .returned (.bool false) ∧ w = w' := by
  go_enter Tryz.func64, Tryz.ntmps64
  go_wp2_with fail
  refine (fget_nil _ _).mono ?_
  rintro e w1 ⟨rfl, rfl⟩
  go_wp2_with fail
  go_ret
  exact ⟨rfl, rfl⟩
def placeNil : Value := .agg #[.pointer none, .string ⟨#[]⟩, .bool false]
set_option maxRecDepth 100000 in
theorem ahead_nil (w : World) (dir : Int) (s : ByteArray) : Calls Tryz.prog 68 #[.pointer none, .int .i64 dir, .string s] w fun e w' => e = .returned (.tuple #[placeNil, .int .i64 9]) ∧ Fr (fun _ => False) w w' := by
  go_enter Tryz.func68, Tryz.ntmps68
  go_wp2_with fail
  refine (start_nil _ _ _).mono ?_
  rintro e w1 ⟨rfl, hf1⟩
  have hf0 : Fr (fun _ => False) w (w.alloc (.cells #[.pointer none, .string ⟨#[]⟩, .bool false] 145 (0, 0))) := (Fr.refl _ _).alloc _
  have hb1 := hf1.get (blk_new w (.cells #[.pointer none, .string ⟨#[]⟩, .bool false] 145 (0, 0))) (fun e => e)
  have hb2 := blk_alloc hb1 (.cells #[.pointer none, .slice none 0 0, .bool false] 190 (0, 0))
  have zz := blk_frozen hb2
  obtain ⟨c0, c1, c2, c90, c91, c92, hfs⟩ := cells3 hb2 (.pointer none) (.string ⟨#[]⟩) (.bool false)
  have hres : Fr (fun _ => False) w _ := ((hf0.trans hf1).alloc (.cells #[.pointer none, .slice none 0 0, .bool false] 190 (0, 0))).trans' hfs (fun i hi e => by omega)
  have hres := hide hres
  go_wp2_with fail
  refine bodyPost_ret (by simp [results, Tryz.results68, go_sem, c90, c91, c92]; try rfl) rfl ?_
  exact ⟨rfl, hres.out⟩

set_option maxRecDepth 100000 in
theorem add_nil (w : World) (dir : Int) (s : ByteArray) (nv : Value) : Calls Tryz.prog 73 #[.pointer none, .int .i64 dir, .string s, nv] w fun e w' => e = .returned (.int .i64 9) ∧ Fr (fun _ => False) w w' := by
  have hmm := @run_makeMap Tryz.prog
  go_enter Tryz.func73, Tryz.ntmps73
  go_wp2_with fail
  refine (ahead_nil _ _ _).mono ?_
  rintro e w1 ⟨rfl, hf1⟩
  unfold placeNil
  go_wp2_with fail
  go_ret
  exact ⟨rfl, by first | exact hf1 | exact hf1.alloc _ | exact ((Fr.refl (fun _ => False) w).alloc _).trans hf1 | exact (((Fr.refl (fun _ => False) w).alloc _).alloc _).trans hf1⟩
set_option maxRecDepth 100000 in
theorem Create_nil (w : World) (dir : Int) (s : ByteArray) (m : Int) : Calls Tryz.prog 55 #[.pointer none, .int .i64 dir, .string s, .int .i64 m] w fun e w' => e = .returned (.tuple #[.int .i64 0, .int .i64 9]) ∧ Fr (fun _ => False) w w' := by
  have hmm := @run_makeMap Tryz.prog
  go_enter Tryz.func55, Tryz.ntmps55
  go_wp2_with fail
  refine (add_nil _ _ _ _).mono ?_
  rintro e w1 ⟨rfl, hf1⟩
  skip
  go_wp2_with fail
  go_returns
  exact ⟨rfl, by first | exact hf1 | exact hf1.alloc _ | exact ((Fr.refl (fun _ => False) w).alloc _).trans hf1 | exact (((Fr.refl (fun _ => False) w).alloc _).alloc _).trans hf1⟩
set_option maxRecDepth 100000 in
theorem Mkdir_nil (w : World) (dir : Int) (s : ByteArray) (m : Int) : Calls Tryz.prog 31 #[.pointer none, .int .i64 dir, .string s, .int .i64 m] w fun e w' => e = .returned (.int .i64 9) ∧ Fr (fun _ => False) w w' := by
  have hmm := @run_makeMap Tryz.prog
  go_enter Tryz.func31, Tryz.ntmps31
  go_wp2_with fail
  refine (add_nil _ _ _ _).mono ?_
  rintro e w1 ⟨rfl, hf1⟩
  skip
  go_wp2_with fail
  go_ret
  exact ⟨rfl, by first | exact hf1 | exact hf1.alloc _ | exact ((Fr.refl (fun _ => False) w).alloc _).trans hf1 | exact (((Fr.refl (fun _ => False) w).alloc _).alloc _).trans hf1⟩
set_option maxRecDepth 100000 in
theorem Unlink_nil (w : World) (dir : Int) (s : ByteArray) : Calls Tryz.prog 30 #[.pointer none, .int .i64 dir, .string s] w fun e w' => e = .returned (.int .i64 9) ∧ Fr (fun _ => False) w w' := by
  have hmm := @run_makeMap Tryz.prog
  go_enter Tryz.func30, Tryz.ntmps30
  go_wp2_with fail
  refine (ahead_nil _ _ _).mono ?_
  rintro e w1 ⟨rfl, hf1⟩
  unfold placeNil
  go_wp2_with fail
  go_ret
  exact ⟨rfl, by first | exact hf1 | exact hf1.alloc _ | exact ((Fr.refl (fun _ => False) w).alloc _).trans hf1 | exact (((Fr.refl (fun _ => False) w).alloc _).alloc _).trans hf1⟩
set_option maxRecDepth 100000 in
theorem Rmdir_nil (w : World) (dir : Int) (s : ByteArray) : Calls Tryz.prog 32 #[.pointer none, .int .i64 dir, .string s] w fun e w' => e = .returned (.int .i64 9) ∧ Fr (fun _ => False) w w' := by
  have hmm := @run_makeMap Tryz.prog
  go_enter Tryz.func32, Tryz.ntmps32
  go_wp2_with fail
  refine (ahead_nil _ _ _).mono ?_
  rintro e w1 ⟨rfl, hf1⟩
  unfold placeNil
  go_wp2_with fail
  go_ret
  exact ⟨rfl, by first | exact hf1 | exact hf1.alloc _ | exact ((Fr.refl (fun _ => False) w).alloc _).trans hf1 | exact (((Fr.refl (fun _ => False) w).alloc _).alloc _).trans hf1⟩
set_option maxRecDepth 100000 in
theorem Link_nil (w : World) (dir : Int) (s t : ByteArray) : Calls Tryz.prog 34 #[.pointer none, .int .i64 dir, .string s, .string t] w fun e w' => e = .returned (.int .i64 9) ∧ Fr (fun _ => False) w w' := by
  have hmm := @run_makeMap Tryz.prog
  go_enter Tryz.func34, Tryz.ntmps34
  go_wp2_with fail
  refine (fwalk_nil _ _ _).mono ?_
  rintro e w1 ⟨rfl, hf1⟩
  skip
  go_wp2_with fail
  go_ret
  exact ⟨rfl, by first | exact hf1 | exact hf1.alloc _ | exact ((Fr.refl (fun _ => False) w).alloc _).trans hf1 | exact (((Fr.refl (fun _ => False) w).alloc _).alloc _).trans hf1⟩
set_option maxRecDepth 100000 in
theorem Rename_nil (w : World) (dir : Int) (s t : ByteArray) : Calls Tryz.prog 33 #[.pointer none, .int .i64 dir, .string s, .string t] w fun e w' => e = .returned (.int .i64 9) ∧ Fr (fun _ => False) w w' := by
  have hmm := @run_makeMap Tryz.prog
  go_enter Tryz.func33, Tryz.ntmps33
  go_wp2_with fail
  refine (ahead_nil _ _ _).mono ?_
  rintro e w1 ⟨rfl, hf1⟩
  unfold placeNil
  go_wp2_with fail
  go_ret
  exact ⟨rfl, by first | exact hf1 | exact hf1.alloc _ | exact ((Fr.refl (fun _ => False) w).alloc _).trans hf1 | exact (((Fr.refl (fun _ => False) w).alloc _).alloc _).trans hf1⟩
end Go.Proofs.YtffekmjoenppaaaGreatDoor
